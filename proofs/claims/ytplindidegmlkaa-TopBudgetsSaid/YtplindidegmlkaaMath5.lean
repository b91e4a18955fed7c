/- Plain facts: the smallest total for a cost. -/
import Derived.Test.YtplindidegmlkaaMath4
namespace Go.Proofs.Ytplindidegmlkaa

theorem red_cmp (a b : Int) : redN a 2520 * redD b 2520 < redN b 2520 * redD a 2520 ↔ a < b := by
  rw [red_lt (n := a) (d := 2520) (x := redN b 2520) (y := redD b 2520) (by decide)]
  have h := red_ge (n := b) (d := 2520) (x := a) (y := 2520) (by decide)
  omega
theorem red_sub (a b : Int) : decide (redN a 2520 * redD b 2520 - redN b 2520 * redD a 2520 < 0) = decide (a < b) := by
  rw [decide_eq_decide, ← red_cmp a b]; omega

/-- One choice more. -/
def lowStep (L : List It) (F : List Fx) (cost : Int) (acc : Int) (ch : List Int) : Int := if wcL F ch ≤ cost ∧ parts (wiL L F ch) < acc then parts (wiL L F ch) else acc
def bestM (L : List It) (F : List Fx) (cost : Int) (k : Nat) : Int := (maskC F k).foldl (lowStep L F cost) (parts L)
def bestR (L : List It) (F : List Fx) (cost : Int) (k : Nat) : Int := ((everyC F).take k).foldl (lowStep L F cost) (parts L)
/-- The smallest total for a cost, in parts of the whole. -/
def bestP (L : List It) (F : List Fx) (cost : Int) : Int := bestM L F cost (2 ^ F.length)
theorem bestM_zero (L : List It) (F : List Fx) (cost : Int) : bestM L F cost 0 = parts L := rfl
theorem bestM_tw {L : List It} {F : List Fx} {cost : Int} {k : Nat} (h : twB F (chM k F.length) = true) : bestM L F cost (k + 1) = bestM L F cost k := by
  unfold bestM; rw [maskC_succ, if_pos h, List.append_nil]
theorem bestM_step {L : List It} {F : List Fx} {cost : Int} {k : Nat} (h : twB F (chM k F.length) = false) : bestM L F cost (k + 1) = lowStep L F cost (bestM L F cost k) (chM k F.length) := by
  unfold bestM; rw [maskC_succ, if_neg (by simp [h]), List.foldl_append]; rfl
theorem bestR_zero (L : List It) (F : List Fx) (cost : Int) : bestR L F cost 0 = parts L := rfl
theorem bestR_step {L : List It} {F : List Fx} {cost : Int} {k : Nat} (h : k < (everyC F).length) : bestR L F cost (k + 1) = lowStep L F cost (bestR L F cost k) (evC F k) := by
  unfold bestR evC
  rw [List.take_add_one, List.getElem?_eq_getElem h, List.foldl_append]
  simp [h]

/-- v is the smallest total of the choices of S that cost at most as much, and of the budget itself. -/
structure IsLow (L : List It) (F : List Fx) (cost : Int) (S : List Int → Prop) (v : Int) : Prop where
  le : v ≤ parts L
  all : ∀ c, S c → wcL F c ≤ cost → v ≤ parts (wiL L F c)
  one : v = parts L ∨ ∃ c, S c ∧ wcL F c ≤ cost ∧ v = parts (wiL L F c)
theorem IsLow.unique {L : List It} {F : List Fx} {cost : Int} {S : List Int → Prop} {v v' : Int} (h : IsLow L F cost S v) (h' : IsLow L F cost S v') : v = v' := by
  have a : v ≤ v' := by
    rcases h'.one with e | ⟨c, h1, h2, e⟩
    · rw [e]; exact h.le
    · rw [e]; exact h.all c h1 h2
  have b : v' ≤ v := by
    rcases h.one with e | ⟨c, h1, h2, e⟩
    · rw [e]; exact h'.le
    · rw [e]; exact h'.all c h1 h2
  omega
theorem IsLow.congr {L : List It} {F : List Fx} {cost : Int} {S S' : List Int → Prop} {v : Int} (h : IsLow L F cost S v) (hs : ∀ c, S c ↔ S' c) : IsLow L F cost S' v := by
  have : S = S' := funext fun c => propext (hs c)
  rw [← this]; exact h
theorem low_one {L : List It} {F : List Fx} {cost : Int} {S : List Int → Prop} {v : Int} (h : IsLow L F cost S v) (ch : List Int) : IsLow L F cost (fun c => S c ∨ c = ch) (lowStep L F cost v ch) := by
  unfold lowStep
  by_cases hc : wcL F ch ≤ cost ∧ parts (wiL L F ch) < v
  · rw [if_pos hc]
    refine ⟨by have := h.le; omega, fun c hs hcc => ?_, .inr ⟨ch, .inr rfl, hc.1, rfl⟩⟩
    rcases hs with hs | rfl
    · have := h.all c hs hcc; omega
    · exact Int.le_refl _
  · rw [if_neg hc]
    refine ⟨h.le, fun c hs hcc => ?_, ?_⟩
    · rcases hs with hs | rfl
      · exact h.all c hs hcc
      · omega
    · rcases h.one with e | ⟨c, h1, h2, e⟩
      · exact .inl e
      · exact .inr ⟨c, .inl h1, h2, e⟩
theorem fold_low (L : List It) (F : List Fx) (cost : Int) (cs : List (List Int)) : IsLow L F cost (· ∈ cs) (cs.foldl (lowStep L F cost) (parts L)) := by
  suffices H : ∀ (cs : List (List Int)) (S : List Int → Prop) (v : Int), IsLow L F cost S v → IsLow L F cost (fun c => S c ∨ c ∈ cs) (cs.foldl (lowStep L F cost) v) by
    exact (H cs (fun _ => False) (parts L) ⟨Int.le_refl _, fun _ h => h.elim, .inl rfl⟩).congr fun c => by simp
  intro cs
  induction cs with
  | nil => intro S v h; exact h.congr fun c => by simp
  | cons x cs ih =>
    intro S v h
    exact (ih _ _ (low_one h x)).congr fun c => by simp [or_assoc]
theorem bestP_low (L : List It) (F : List Fx) (cost : Int) : IsLow L F cost (OkC F) (bestP L F cost) := (fold_low L F cost (maskC F (2 ^ F.length))).congr fun _ => mem_mask
theorem bestR_end (L : List It) (F : List Fx) (cost : Int) : bestR L F cost (everyC F).length = bestP L F cost := by
  refine IsLow.unique ?_ (bestP_low L F cost)
  unfold bestR
  rw [List.take_length]
  exact (fold_low L F cost (everyC F)).congr fun _ => mem_every

theorem IsLow.bd {L : List It} {F : List Fx} {cost : Int} {S : List Int → Prop} {v : Int} (h : IsLow L F cost S v) (hv : ValidF L F) (hS : ∀ c, S c → inR F c) : 0 ≤ v ∧ v ≤ 120960 := by
  have hp := parts_bd hv.v
  refine ⟨?_, by have := h.le; omega⟩
  rcases h.one with e | ⟨c, h1, h2, e⟩
  · omega
  · rw [e]; exact (parts_bd (wiK_valid hv (hS c h1) (Nat.le_refl _))).1
theorem bestP_bd {L : List It} {F : List Fx} {cost : Int} (hv : ValidF L F) : 0 ≤ bestP L F cost ∧ bestP L F cost ≤ 120960 := (bestP_low L F cost).bd hv fun _ hc => hc.1.inR rfl
theorem bestM_bd {L : List It} {F : List Fx} {cost : Int} (hv : ValidF L F) (k : Nat) : 0 ≤ bestM L F cost k ∧ bestM L F cost k ≤ 120960 :=
  (fold_low L F cost (maskC F k)).bd hv fun c hc => by
    unfold maskC at hc
    rw [List.mem_filter, List.mem_map] at hc
    obtain ⟨⟨b, _, rfl⟩, _⟩ := hc
    exact (chM_asc b _).inR rfl
theorem bestR_bd {L : List It} {F : List Fx} {cost : Int} (hv : ValidF L F) (k : Nat) : 0 ≤ bestR L F cost k ∧ bestR L F cost k ≤ 120960 :=
  (fold_low L F cost ((everyC F).take k)).bd hv fun _ hc => (mem_every.1 (List.mem_of_mem_take hc)).1.inR rfl
/-- More money never makes it greater. -/
theorem bestP_mono {L : List It} {F : List Fx} {c d : Int} (h : c ≤ d) : bestP L F d ≤ bestP L F c := by
  have hd := bestP_low L F d
  rcases (bestP_low L F c).one with e | ⟨ch, h1, h2, e⟩
  · rw [e]; exact hd.le
  · rw [e]; exact hd.all ch h1 (by omega)

/-- A fraction in lowest terms, of the whole. -/
theorem frac_bd {a : Int} (h0 : 0 ≤ a) (h1 : a ≤ 120960) : 0 ≤ redN a 2520 ∧ redN a 2520 ≤ 120960 ∧ 1 ≤ redD a 2520 ∧ redD a 2520 ≤ 2520 := by
  have h3 := redN_nonneg (n := a) (d := 2520) (by decide) h0
  have h4 := redN_le (n := a) (d := 2520) h0
  have h5 := redD_pos (n := a) (d := 2520) (by decide)
  have h6 := redD_le (n := a) (d := 2520) (by decide)
  omega

/-- The error number of best. -/
def beErr (L : List It) (F : List Fx) (cost : Int) : Int := if vfErr L F ≠ 0 then vfErr L F else if inB cost 0 792 = true then 0 else 1
theorem be_bad {L : List It} {F : List Fx} {c : Int} (h : vfErr L F ≠ 0) : beErr L F c = vfErr L F := if_pos h
theorem be_no {L : List It} {F : List Fx} {c : Int} (h : vfErr L F = 0) (hl : inB c 0 792 = false) : beErr L F c = 1 := by unfold beErr; rw [if_neg (by simp [h]), if_neg (by simp [hl])]
theorem be_ok {L : List It} {F : List Fx} {c : Int} (h : vfErr L F = 0) (hl : inB c 0 792 = true) : beErr L F c = 0 := by unfold beErr; rw [if_neg (by simp [h]), if_pos hl]
theorem beErr_zero {L : List It} {F : List Fx} {c : Int} : beErr L F c = 0 ↔ ValidF L F ∧ 0 ≤ c ∧ c ≤ 792 := by
  rw [← vfErr_zero, ← inB_true]
  by_cases h : vfErr L F = 0
  · cases hl : inB c 0 792
    · rw [be_no h hl]; simp
    · rw [be_ok h hl]; simp [h]
  · rw [be_bad h]; simp [h]
def beN (L : List It) (F : List Fx) (c : Int) : Int := if beErr L F c = 0 then redN (bestP L F c) 2520 else 0
def beD (L : List It) (F : List Fx) (c : Int) : Int := if beErr L F c = 0 then redD (bestP L F c) 2520 else 0
theorem beND_ok {L : List It} {F : List Fx} {c : Int} (h : beErr L F c = 0) : beN L F c = redN (bestP L F c) 2520 ∧ beD L F c = redD (bestP L F c) 2520 := ⟨if_pos h, if_pos h⟩
theorem beND_bad {L : List It} {F : List Fx} {c : Int} (h : beErr L F c ≠ 0) : beN L F c = 0 ∧ beD L F c = 0 := ⟨if_neg h, if_neg h⟩
end Go.Proofs.Ytplindidegmlkaa
