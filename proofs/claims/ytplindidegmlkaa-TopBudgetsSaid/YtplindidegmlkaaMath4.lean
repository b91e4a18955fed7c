/- Plain facts on all choices: as masks of bits, and one after the other in ascending order. -/
import Derived.Test.YtplindidegmlkaaMath3
namespace Go.Proofs.Ytplindidegmlkaa

/-- Ascending numbers below m. -/
def Asc (m : Nat) (ch : List Int) : Prop := ch.Pairwise (· < ·) ∧ ∀ x ∈ ch, 0 ≤ x ∧ x < m

theorem gi_mem {ch : List Int} {k : Nat} (h : k < ch.length) : gi ch k ∈ ch := by
  have : gi ch k = ch[k] := by simp [gi, h]
  rw [this]; exact List.getElem_mem h
theorem mem_gi {ch : List Int} {x : Int} (h : x ∈ ch) : ∃ k, k < ch.length ∧ gi ch k = x := by
  obtain ⟨k, hk, e⟩ := List.getElem_of_mem h
  exact ⟨k, hk, by simp [gi, hk, e]⟩

theorem isC_asc {m : Nat} {ch : List Int} : isC m ch = true ↔ Asc m ch := by
  have h1 : isC m ch = true ↔ ∀ k, k < ch.length → badC m ch k = false := by
    unfold isC
    rw [Bool.not_eq_true', scan_none]
  have h2 : ∀ k, badC m ch k = false ↔ (0 ≤ gi ch k ∧ gi ch k < m) ∧ (0 < k → gi ch (k - 1) < gi ch k) := by
    intro k
    unfold badC
    rw [Bool.or_eq_false_iff, Bool.not_eq_false', inB_true, Bool.and_eq_false_iff, decide_eq_false_iff_not, decide_eq_false_iff_not]
    omega
  rw [h1]
  constructor
  · intro h
    have hlt : ∀ d i, i + d + 1 < ch.length → gi ch i < gi ch (i + d + 1) := by
      intro d
      induction d with
      | zero => intro i hi; exact ((h2 _).1 (h (i + 1) hi)).2 (by omega)
      | succ d ih =>
        intro i hi
        have a := ih i (by omega)
        have b := ((h2 _).1 (h (i + (d + 1) + 1) hi)).2 (by omega)
        rw [show i + (d + 1) + 1 - 1 = i + d + 1 by omega] at b
        omega
    refine ⟨?_, fun x hx => ?_⟩
    · rw [List.pairwise_iff_getElem]
      intro i j hi hj hij
      have := hlt (j - i - 1) i (by omega)
      rw [show i + (j - i - 1) + 1 = j by omega] at this
      simpa [gi, hi, hj] using this
    · obtain ⟨k, hk, rfl⟩ := mem_gi hx
      exact ((h2 _).1 (h k hk)).1
  · intro ⟨hp, hr⟩ k hk
    rw [h2]
    refine ⟨hr _ (gi_mem hk), fun h0 => ?_⟩
    rw [List.pairwise_iff_getElem] at hp
    have := hp (k - 1) k (by omega) hk (by omega)
    simpa [gi, hk, show k - 1 < ch.length by omega] using this

theorem Asc.inR {m : Nat} {F : List Fx} {ch : List Int} (h : Asc m ch) (hm : m = F.length) : inR F ch := fun k hk => by
  subst hm; exact h.2 _ (gi_mem hk)
theorem Asc.nil (m : Nat) : Asc m [] := ⟨List.Pairwise.nil, fun x h => by cases h⟩

/-- An ascending list of numbers below m has at most m. -/
theorem Asc.len {m : Nat} {ch : List Int} (h : Asc m ch) : ch.length ≤ m := by
  rcases Nat.eq_zero_or_pos ch.length with h0 | h0
  · omega
  have hp := h.1
  rw [List.pairwise_iff_getElem] at hp
  have hge : ∀ k, (hk : k < ch.length) → (k : Int) ≤ ch[k] := by
    intro k
    induction k with
    | zero => intro hk; exact (h.2 _ (List.getElem_mem hk)).1
    | succ k ih =>
      intro hk
      have a := ih (by omega)
      have b := hp k (k + 1) (by omega) hk (by omega)
      omega
  have a := hge (ch.length - 1) (by omega)
  have b := (h.2 _ (List.getElem_mem (show ch.length - 1 < ch.length by omega))).2
  omega

theorem Asc.pre {m : Nat} {a b : List Int} (h : Asc m (a ++ b)) : Asc m a :=
  ⟨(List.pairwise_append.1 h.1).1, fun x hx => h.2 x (by simp [hx])⟩

/-! ### Two fixes of one item -/
def itm (F : List Fx) (x : Int) : Nat := (fx F x.toNat).i.toNat
theorem ix_itm (F : List Fx) (ch : List Int) (k : Nat) : ix F ch k = itm F (gi ch k) := rfl
def Apart (F : List Fx) (ch : List Int) : Prop := ch.Pairwise (fun x y => itm F x ≠ itm F y)

theorem tw_apart {F : List Fx} {ch : List Int} : twB F ch = false ↔ Apart F ch := by
  unfold twB
  rw [scan_none]
  constructor
  · intro h
    unfold Apart
    rw [List.pairwise_iff_getElem]
    intro i j hi hj hij heq
    have h1 := h j hj
    have h2 : dupB F ch j = true := scan_true.2 ⟨i, hij, by
      have e1 : gi ch i = ch[i] := by simp [gi, hi]
      have e2 : gi ch j = ch[j] := by simp [gi, hj]
      rw [ix_itm, ix_itm, e1, e2, heq]; simp⟩
    rw [h2] at h1; cases h1
  · intro h k hk
    unfold Apart at h
    rw [List.pairwise_iff_getElem] at h
    exact scan_none.2 fun j hj => by
      have h1 := h j k (by omega) hk hj
      have e1 : gi ch j = ch[j]'(by omega) := by simp [gi, show j < ch.length by omega]
      have e2 : gi ch k = ch[k] := by simp [gi, hk]
      rw [ix_itm, ix_itm, e1, e2]
      simpa using h1

/-- A choice. -/
def OkC (F : List Fx) (ch : List Int) : Prop := Asc F.length ch ∧ Apart F ch
theorem chErr_ok {F : List Fx} {ch : List Int} : chErr F ch = 0 ↔ OkC F ch := by
  unfold chErr OkC
  rw [← isC_asc, ← tw_apart]
  cases isC F.length ch <;> cases twB F ch <;> simp
theorem OkC.pre {F : List Fx} {a b : List Int} (h : OkC F (a ++ b)) : OkC F a := ⟨h.1.pre, (List.pairwise_append.1 h.2).1⟩
theorem OkC.nil (F : List Fx) : OkC F [] := ⟨Asc.nil _, List.Pairwise.nil⟩

/-! ### Masks of bits -/
/-- The numbers below m whose bits are set. -/
def chM (bits m : Nat) : List Int := ((List.range m).filter (fun k => bits.testBit k)).map Int.ofNat
theorem chM_zero (bits : Nat) : chM bits 0 = [] := rfl
theorem chM_succ (bits m : Nat) : chM bits (m + 1) = chM bits m ++ (if bits.testBit m = true then [(m : Int)] else []) := by
  unfold chM
  rw [List.range_succ, List.filter_append, List.map_append]
  congr 1
  by_cases h : bits.testBit m = true
  · rw [if_pos h]; simp [h]
  · rw [if_neg h]; simp [h]
theorem chM_asc (bits : Nat) : ∀ m, Asc m (chM bits m)
  | 0 => Asc.nil 0
  | m + 1 => by
    obtain ⟨h1, h2⟩ := chM_asc bits m
    rw [chM_succ]
    split
    · refine ⟨List.pairwise_append.2 ⟨h1, by simp, fun a ha b hb => ?_⟩, fun x hx => ?_⟩
      · simp at hb; subst hb; exact (h2 a ha).2
      · rcases List.mem_append.1 hx with hx | hx
        · have := h2 x hx; omega
        · simp at hx; subst hx; omega
    · rw [List.append_nil]; exact ⟨h1, fun x hx => by have := h2 x hx; omega⟩
theorem chM_congr {a b : Nat} : ∀ {m : Nat}, (∀ k, k < m → a.testBit k = b.testBit k) → chM a m = chM b m
  | 0, _ => rfl
  | m + 1, h => by rw [chM_succ, chM_succ, chM_congr (fun k hk => h k (by omega)), h m (by omega)]
theorem chM_all : ∀ (m : Nat) (ch : List Int), Asc m ch → ∃ bits, bits < 2 ^ m ∧ chM bits m = ch
  | 0, ch, h => by
    have := h.len
    have : ch = [] := List.eq_nil_of_length_eq_zero (by omega)
    subst this
    exact ⟨0, by simp, rfl⟩
  | m + 1, ch, h => by
    have hpow : (2 : Nat) ^ (m + 1) = 2 ^ m + 2 ^ m := by rw [Nat.pow_succ]; omega
    by_cases hm : (m : Int) ∈ ch
    · -- the last one is m
      obtain ⟨a, b, rfl⟩ := List.append_of_mem hm
      obtain ⟨hp, hr⟩ := h
      obtain ⟨p1, p2, p3⟩ := List.pairwise_append.1 hp
      have hb : b = [] := by
        cases b with
        | nil => rfl
        | cons y b =>
          have := (List.pairwise_cons.1 p2).1 y (by simp)
          have := hr y (by simp)
          omega
      subst hb
      obtain ⟨bits, h1, h2⟩ := chM_all m a ⟨p1, fun x hx => ⟨(hr x (by simp [hx])).1, p3 x hx m (by simp)⟩⟩
      refine ⟨2 ^ m + bits, by omega, ?_⟩
      rw [chM_succ, Nat.testBit_two_pow_add_eq, Nat.testBit_lt_two_pow h1, if_pos (by rfl)]
      congr 1
      rw [← h2]
      exact chM_congr fun k hk => Nat.testBit_two_pow_add_gt hk bits
    · obtain ⟨bits, h1, h2⟩ := chM_all m ch ⟨h.1, fun x hx => by
        have := h.2 x hx
        have : x ≠ m := fun e => hm (e ▸ hx)
        omega⟩
      refine ⟨bits, by omega, ?_⟩
      rw [chM_succ, Nat.testBit_lt_two_pow h1, if_neg (by simp), List.append_nil, h2]

/-- The choices among the first k masks. -/
def maskC (F : List Fx) (k : Nat) : List (List Int) := ((List.range k).map (fun b => chM b F.length)).filter (fun ch => !twB F ch)
theorem maskC_succ (F : List Fx) (k : Nat) : maskC F (k + 1) = maskC F k ++ (if twB F (chM k F.length) = true then [] else [chM k F.length]) := by
  unfold maskC
  rw [List.range_succ, List.map_append, List.filter_append]
  congr 1
  cases h : twB F (chM k F.length) <;> simp [h]
theorem mem_mask {F : List Fx} {ch : List Int} : ch ∈ maskC F (2 ^ F.length) ↔ OkC F ch := by
  unfold maskC OkC
  rw [List.mem_filter, ← tw_apart]
  simp only [List.mem_map, List.mem_range, Bool.not_eq_true']
  constructor
  · rintro ⟨⟨b, hb, rfl⟩, h⟩
    exact ⟨chM_asc b _, h⟩
  · rintro ⟨h1, h2⟩
    exact ⟨chM_all _ _ h1, h2⟩

/-! ### One after the other -/
/-- The first number that may come next. -/
def frm (beg : List Int) : Nat := match beg.getLast? with | none => 0 | some x => (x + 1).toNat
theorem frm_nil : frm [] = 0 := rfl
theorem frm_snoc (beg : List Int) (i : Nat) : frm (beg ++ [(i : Int)]) = i + 1 := by simp [frm]
/-- Whether i may come next. -/
def nxB (F : List Fx) (beg : List Int) (i : Nat) : Bool := decide (frm beg ≤ i) && decide (chErr F (beg ++ [(i : Int)]) = 0)
/-- All choices that begin with one. -/
def allC (F : List Fx) : Nat → List Int → List (List Int)
  | 0, beg => [beg]
  | d + 1, beg => beg :: ((List.range F.length).filter (nxB F beg)).flatMap fun i : Nat => allC F d (beg ++ [(i : Int)])
/-- What has been gathered ahead of i. -/
def accC (F : List Fx) (d : Nat) (beg : List Int) (k : Nat) : List (List Int) := beg :: ((List.range k).filter (nxB F beg)).flatMap fun i : Nat => allC F d (beg ++ [(i : Int)])
theorem accC_succ (F : List Fx) (d : Nat) (beg : List Int) (k : Nat) : accC F d beg (k + 1) = accC F d beg k ++ (if nxB F beg k = true then allC F d (beg ++ [(k : Int)]) else []) := by
  unfold accC
  rw [List.range_succ, List.filter_append, List.flatMap_append, List.cons_append]
  congr 2
  by_cases h : nxB F beg k = true
  · rw [if_pos h]; simp [h]
  · rw [if_neg h]; simp [h]
theorem accC_from (F : List Fx) (d : Nat) (beg : List Int) : accC F d beg (frm beg) = [beg] := by
  unfold accC
  have : (List.range (frm beg)).filter (nxB F beg) = [] := by
    rw [List.filter_eq_nil_iff]
    intro i hi
    simp only [List.mem_range] at hi
    simp [nxB]; omega
  rw [this]; rfl
theorem accC_end (F : List Fx) (d : Nat) (beg : List Int) : accC F d beg F.length = allC F (d + 1) beg := rfl
theorem allC_full {F : List Fx} {d : Nat} {beg : List Int} (h : F.length ≤ frm beg) : allC F d beg = [beg] := by
  cases d with
  | zero => rfl
  | succ d =>
    rw [allC]
    have : (List.range F.length).filter (nxB F beg) = [] := by
      rw [List.filter_eq_nil_iff]
      intro i hi
      simp only [List.mem_range] at hi
      simp [nxB]; omega
    rw [this]; rfl

def pow9 : Nat → Nat
  | 0 => 1
  | d + 1 => 9 * pow9 d
theorem pow9_pos : ∀ d, 1 ≤ pow9 d
  | 0 => Nat.le_refl _
  | d + 1 => by have := pow9_pos d; rw [pow9]; omega
theorem flat_len {α : Type} {l : List Nat} {f : Nat → List α} {B : Nat} (h : ∀ i ∈ l, (f i).length ≤ B) : (l.flatMap f).length ≤ l.length * B := by
  induction l with
  | nil => simp
  | cons x l ih =>
    have h1 := h x (by simp)
    have h2 := ih (fun i hi => h i (by simp [hi]))
    rw [List.flatMap_cons, List.length_append, List.length_cons, Nat.succ_mul]
    omega
theorem allC_len {F : List Fx} (hF : F.length ≤ 8) : ∀ (d : Nat) (beg : List Int), (allC F d beg).length ≤ pow9 d
  | 0, beg => by simp [allC, pow9]
  | d + 1, beg => by
    have := flat_len (l := (List.range F.length).filter (nxB F beg)) (f := fun i : Nat => allC F d (beg ++ [(i : Int)])) (B := pow9 d) (fun i _ => allC_len hF d _)
    have hl : ((List.range F.length).filter (nxB F beg)).length ≤ 8 := by
      have := List.length_filter_le (nxB F beg) (List.range F.length)
      rw [List.length_range] at this; omega
    have hp := pow9_pos d
    have := Nat.mul_le_mul_right (pow9 d) hl
    rw [allC, List.length_cons, pow9]; omega
theorem accC_len {F : List Fx} (hF : F.length ≤ 8) (d : Nat) (beg : List Int) {k : Nat} (hk : k ≤ 8) : (accC F d beg k).length ≤ pow9 (d + 1) := by
  have := flat_len (l := (List.range k).filter (nxB F beg)) (f := fun i : Nat => allC F d (beg ++ [(i : Int)])) (B := pow9 d) (fun i _ => allC_len hF d _)
  have hl : ((List.range k).filter (nxB F beg)).length ≤ 8 := by
    have := List.length_filter_le (nxB F beg) (List.range k)
    rw [List.length_range] at this; omega
  have hp := pow9_pos d
  have := Nat.mul_le_mul_right (pow9 d) hl
  unfold accC
  rw [List.length_cons, pow9]; omega
theorem pow9_mono (a : Nat) : ∀ d, pow9 a ≤ pow9 (a + d)
  | 0 => Nat.le_refl _
  | d + 1 => by have := pow9_mono a d; rw [← Nat.add_assoc, pow9]; omega
theorem pow9_8 {d : Nat} (h : d ≤ 9) : pow9 d ≤ 387420489 := by
  have := pow9_mono d (9 - d)
  rw [show d + (9 - d) = 9 by omega] at this
  exact Nat.le_trans this (by decide)

theorem frm_snocI {beg : List Int} {x : Int} (h : 0 ≤ x) : frm (beg ++ [x]) = x.toNat + 1 := by simp [frm]; omega
theorem OkC.next {F : List Fx} {beg : List Int} {x : Int} (h : OkC F (beg ++ [x])) : frm beg ≤ x.toNat ∧ x.toNat < F.length ∧ ((x.toNat : Int) = x) := by
  obtain ⟨⟨hp, hr⟩, _⟩ := h
  have hx := hr x (by simp)
  refine ⟨?_, by omega, by omega⟩
  unfold frm
  cases hl : beg.getLast? with
  | none => simp
  | some y =>
    have hy : y ∈ beg := List.mem_of_getLast? hl
    have := (List.pairwise_append.1 hp).2.2 y hy x (by simp)
    have := hr y (by simp [hy])
    simp only; omega

theorem mem_allC {F : List Fx} : ∀ (d : Nat) (beg ch : List Int), OkC F beg → F.length ≤ frm beg + d → (ch ∈ allC F d beg ↔ OkC F ch ∧ ∃ t, ch = beg ++ t)
  | 0, beg, ch, hb, hd => by
    rw [allC, List.mem_singleton]
    constructor
    · rintro rfl; exact ⟨hb, [], by simp⟩
    · rintro ⟨hc, t, rfl⟩
      cases t with
      | nil => simp
      | cons x t =>
        have := OkC.next (F := F) (beg := beg) (x := x) (OkC.pre (b := t) (by simpa using hc))
        omega
  | d + 1, beg, ch, hb, hd => by
    rw [allC, List.mem_cons, List.mem_flatMap]
    constructor
    · rintro (rfl | ⟨i, hi, hm⟩)
      · exact ⟨hb, [], by simp⟩
      · simp only [List.mem_filter, List.mem_range, nxB, Bool.and_eq_true, decide_eq_true_eq] at hi
        obtain ⟨hi1, hi2, hi3⟩ := hi
        have := (mem_allC d (beg ++ [(i : Int)]) ch (chErr_ok.1 hi3) (by rw [frm_snoc]; omega)).1 hm
        obtain ⟨h1, t, rfl⟩ := this
        exact ⟨h1, (i : Int) :: t, by simp⟩
    · rintro ⟨hc, t, rfl⟩
      cases t with
      | nil => left; simp
      | cons x t =>
        right
        have hbx : OkC F (beg ++ [x]) := OkC.pre (b := t) (by simpa using hc)
        obtain ⟨h1, h2, h3⟩ := OkC.next hbx
        refine ⟨x.toNat, ?_, ?_⟩
        · simp only [List.mem_filter, List.mem_range, nxB, Bool.and_eq_true, decide_eq_true_eq]
          exact ⟨h2, h1, chErr_ok.2 (by rw [h3]; exact hbx)⟩
        · rw [h3]
          exact (mem_allC d (beg ++ [x]) _ hbx (by rw [← h3, frm_snoc]; omega)).2 ⟨hc, t, by simp⟩

theorem pre_allC {F : List Fx} : ∀ (d : Nat) (beg ch : List Int), ch ∈ allC F d beg → ∃ t, ch = beg ++ t
  | 0, beg, ch, h => ⟨[], by simpa [allC] using h⟩
  | d + 1, beg, ch, h => by
    rw [allC, List.mem_cons, List.mem_flatMap] at h
    rcases h with rfl | ⟨i, _, hm⟩
    · exact ⟨[], by simp⟩
    · obtain ⟨t, rfl⟩ := pre_allC d _ _ hm
      exact ⟨(i : Int) :: t, by simp⟩

theorem sorted_flat {f : Nat → List (List Int)} {R : List Int → List Int → Prop} : ∀ (l : List Nat), l.Pairwise (· < ·) → (∀ i ∈ l, (f i).Pairwise R) → (∀ i j, i < j → ∀ a ∈ f i, ∀ b ∈ f j, R a b) → (l.flatMap f).Pairwise R
  | [], _, _, _ => List.Pairwise.nil
  | x :: l, h, h1, h2 => by
    rw [List.flatMap_cons, List.pairwise_append]
    rw [List.pairwise_cons] at h
    refine ⟨h1 x (by simp), sorted_flat l h.2 (fun i hi => h1 i (by simp [hi])) h2, fun a ha b hb => ?_⟩
    obtain ⟨j, hj, hb⟩ := List.mem_flatMap.1 hb
    exact h2 x j (h.1 j hj) a ha b hb

theorem sorted_allC {F : List Fx} : ∀ (d : Nat) (beg : List Int), (allC F d beg).Pairwise (fun a b => cmpL a b ≤ 0)
  | 0, beg => by simp [allC]
  | d + 1, beg => by
    rw [allC, List.pairwise_cons]
    refine ⟨fun b hb => ?_, ?_⟩
    · obtain ⟨i, _, hm⟩ := List.mem_flatMap.1 hb
      obtain ⟨t, rfl⟩ := pre_allC d _ _ hm
      have := cmp_app beg (i : Int) t
      simp at this ⊢
      omega
    · refine sorted_flat _ ?_ (fun i _ => sorted_allC d _) fun i j hij a ha b hb => ?_
      · exact List.Pairwise.filter _ List.pairwise_lt_range
      · obtain ⟨t, rfl⟩ := pre_allC d _ _ ha
        obtain ⟨u, rfl⟩ := pre_allC d _ _ hb
        have := cmp_app2 beg (show (i : Int) < (j : Int) by omega) t u
        simp at this ⊢
        omega

/-- All choices. -/
def everyC (F : List Fx) : List (List Int) := allC F F.length []
theorem mem_every {F : List Fx} {ch : List Int} : ch ∈ everyC F ↔ OkC F ch := by
  unfold everyC
  rw [mem_allC F.length [] ch (OkC.nil F) (by rw [frm_nil]; omega)]
  exact ⟨fun h => h.1, fun h => ⟨h, ch, rfl⟩⟩

/-! ### The first cheapest choice that closes -/
def cdB (L : List It) (F : List Fx) (x y : Int) (ch : List Int) : Bool := clB (wiL L F ch) x y
/-- By masks. -/
def cheM (L : List It) (F : List Fx) (x y : Int) (k : Nat) : Bst := (maskC F k).foldl (stepC (cdB L F x y) (wcL F)) bst0
/-- One after the other. -/
def cheR (L : List It) (F : List Fx) (x y : Int) (k : Nat) : Bst := ((everyC F).take k).foldl (stepR (cdB L F x y) (wcL F)) bst0
def che (L : List It) (F : List Fx) (x y : Int) : Bst := cheM L F x y (2 ^ F.length)

theorem cheM_zero (L : List It) (F : List Fx) (x y : Int) : cheM L F x y 0 = bst0 := rfl
theorem cheM_tw {L : List It} {F : List Fx} {x y : Int} {k : Nat} (h : twB F (chM k F.length) = true) : cheM L F x y (k + 1) = cheM L F x y k := by
  unfold cheM; rw [maskC_succ, if_pos h, List.append_nil]
theorem cheM_step {L : List It} {F : List Fx} {x y : Int} {k : Nat} (h : twB F (chM k F.length) = false) : cheM L F x y (k + 1) = stepC (cdB L F x y) (wcL F) (cheM L F x y k) (chM k F.length) := by
  unfold cheM; rw [maskC_succ, if_neg (by simp [h]), List.foldl_append]; rfl
def evC (F : List Fx) (k : Nat) : List Int := (everyC F).getD k []
theorem cheR_zero (L : List It) (F : List Fx) (x y : Int) : cheR L F x y 0 = bst0 := rfl
theorem cheR_step {L : List It} {F : List Fx} {x y : Int} {k : Nat} (h : k < (everyC F).length) : cheR L F x y (k + 1) = stepR (cdB L F x y) (wcL F) (cheR L F x y k) (evC F k) := by
  unfold cheR evC
  rw [List.take_add_one, List.getElem?_eq_getElem h, List.foldl_append]
  simp [h]

theorem che_best (L : List It) (F : List Fx) (x y : Int) : IsBest (cdB L F x y) (wcL F) (OkC F) (che L F x y) :=
  (foldC_best _ _ (maskC F (2 ^ F.length))).congr fun _ => mem_mask
theorem cheR_end (L : List It) (F : List Fx) (x y : Int) : cheR L F x y (everyC F).length = che L F x y := by
  have h : IsBest (cdB L F x y) (wcL F) (OkC F) (cheR L F x y (everyC F).length) := by
    unfold cheR
    rw [List.take_length]
    exact (foldR_best _ _ (everyC F) (sorted_allC _ _)).congr fun _ => mem_every
  exact h.unique (che_best L F x y)
end Go.Proofs.Ytplindidegmlkaa
