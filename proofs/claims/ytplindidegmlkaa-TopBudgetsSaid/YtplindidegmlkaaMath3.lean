/- Plain facts on choices of fixes: which are choices, the budget with one, their order, the first cheapest one. -/
import Derived.Test.YtplindidegmlkaaF
namespace Go.Proofs.Ytplindidegmlkaa

/-! ### Scans -/
theorem scan_succ {c : Nat → Bool} {n : Nat} : (scanJ c (n + 1) 0).isSome = ((scanJ c n 0).isSome || c n) := by
  cases h : (scanJ c n 0).isSome
  · rw [scan_none] at h
    cases hc : c n
    · exact scan_none.2 fun k hk => by
        rcases Nat.lt_or_ge k n with h' | h'
        · exact h k h'
        · obtain rfl : k = n := by omega
          exact hc
    · cases h2 : (scanJ c (n + 1) 0).isSome
      · rw [scan_none] at h2; rw [h2 n (by omega)] at hc; cases hc
      · rfl
  · cases h2 : (scanJ c (n + 1) 0).isSome
    · rw [scan_none] at h2
      have : (scanJ c n 0).isSome = false := scan_none.2 fun k hk => h2 k (by omega)
      rw [this] at h; cases h
    · rfl
theorem scan_true {c : Nat → Bool} {n : Nat} : (scanJ c n 0).isSome = true ↔ ∃ k, k < n ∧ c k = true := by
  constructor
  · intro h
    apply Classical.byContradiction
    intro hn
    have : (scanJ c n 0).isSome = false := scan_none.2 fun k hk => by
      cases hc : c k
      · rfl
      · exact absurd ⟨k, hk, hc⟩ hn
    rw [this] at h; cases h
  · rintro ⟨k, hk, hc⟩
    cases h : (scanJ c n 0).isSome
    · rw [scan_none] at h; rw [h k hk] at hc; cases hc
    · rfl

/-! ### A choice -/
def fk (F : List Fx) (ch : List Int) (k : Nat) : Fx := fx F (gi ch k).toNat
/-- The item of the k-th fix of a choice. -/
def ix (F : List Fx) (ch : List Int) (k : Nat) : Nat := (fk F ch k).i.toNat
def inR (F : List Fx) (ch : List Int) : Prop := ∀ k, k < ch.length → 0 ≤ gi ch k ∧ gi ch k < F.length
def setR (L : List It) (i : Nat) (n d : Int) : List It := L.set i ⟨(at_ L i).u, n, d⟩
def wiK (L : List It) (F : List Fx) (ch : List Int) : Nat → List It
  | 0 => L
  | k + 1 => setR (wiK L F ch k) (ix F ch k) (fk F ch k).n (fk F ch k).d
def wcK (F : List Fx) (ch : List Int) (k : Nat) : Int := sumP (fun _ => true) (fun i => (fk F ch i).c) k
def usK (n : Nat) (F : List Fx) (ch : List Int) : Nat → List Bool
  | 0 => List.replicate n false
  | k + 1 => (usK n F ch k).set (ix F ch k) true
/-- Whether the item of the k-th fix has one already. -/
def dupB (F : List Fx) (ch : List Int) (k : Nat) : Bool := (scanJ (fun j => decide (ix F ch j = ix F ch k)) k 0).isSome
def twB (F : List Fx) (ch : List Int) : Bool := (scanJ (dupB F ch) ch.length 0).isSome
def badC (m : Nat) (ch : List Int) (i : Nat) : Bool := !inB (gi ch i) 0 ((m : Int) - 1) || (decide (0 < i) && decide (gi ch i ≤ gi ch (i - 1)))
def isC (m : Nat) (ch : List Int) : Bool := !(scanJ (badC m ch) ch.length 0).isSome
def chErr (F : List Fx) (ch : List Int) : Int := if isC F.length ch = true then (if twB F ch = true then 6 else 0) else 1
def wiL (L : List It) (F : List Fx) (ch : List Int) : List It := wiK L F ch ch.length
def wcL (F : List Fx) (ch : List Int) : Int := wcK F ch ch.length

theorem wcK_step (F : List Fx) (ch : List Int) (k : Nat) : wcK F ch (k + 1) = wcK F ch k + (fk F ch k).c := by unfold wcK; rw [sumP]; simp
theorem usK_length (n : Nat) (F : List Fx) (ch : List Int) : ∀ k, (usK n F ch k).length = n
  | 0 => by simp [usK]
  | k + 1 => by rw [usK, List.length_set]; exact usK_length n F ch k
theorem usK_at {n : Nat} {F : List Fx} {ch : List Int} {i : Nat} (hi : i < n) : ∀ k, (usK n F ch k).getD i false = (scanJ (fun j => decide (ix F ch j = i)) k 0).isSome
  | 0 => by simp [usK, scanJ, List.getD_eq_getElem?_getD, hi]
  | k + 1 => by
    rw [scan_succ, ← usK_at hi k, usK, List.getD_eq_getElem?_getD, List.getD_eq_getElem?_getD]
    by_cases h : ix F ch k = i
    · subst h
      rw [List.getElem?_set_self (by rw [usK_length]; exact hi)]
      simp
    · rw [List.getElem?_set_ne h]
      simp [h]
theorem usK_dup {n : Nat} {F : List Fx} {ch : List Int} {k : Nat} (hi : ix F ch k < n) : (usK n F ch k).getD (ix F ch k) false = dupB F ch k := usK_at hi k

theorem tw_yes {F : List Fx} {ch : List Int} {k : Nat} (h : k < ch.length) (hd : dupB F ch k = true) : twB F ch = true := scan_true.2 ⟨k, h, hd⟩

theorem setR_length (L : List It) (i : Nat) (n d : Int) : (setR L i n d).length = L.length := by simp [setR]
theorem setR_at {L : List It} {i : Nat} {n d : Int} (hi : i < L.length) (j : Nat) : at_ (setR L i n d) j = if j = i then ⟨(at_ L i).u, n, d⟩ else at_ L j := by
  unfold at_ setR
  rw [List.getD_eq_getElem?_getD, List.getD_eq_getElem?_getD]
  by_cases h : j = i
  · subst h; rw [List.getElem?_set_self hi, if_pos rfl]; rfl
  · rw [List.getElem?_set_ne (fun h' => h h'.symm), if_neg h, List.getD_eq_getElem?_getD]
theorem wiK_length (L : List It) (F : List Fx) (ch : List Int) : ∀ k, (wiK L F ch k).length = L.length
  | 0 => rfl
  | k + 1 => by rw [wiK, setR_length]; exact wiK_length L F ch k

/-- A fix of a valid list: its item, its rate, its cost. -/
theorem ValidF.bd {L : List It} {F : List Fx} (h : ValidF L F) {ch : List Int} (hc : inR F ch) {k : Nat} (hk : k < ch.length) :
    ((fk F ch k).i = (ix F ch k : Int) ∧ ix F ch k < L.length) ∧ (1 ≤ (fk F ch k).d ∧ (fk F ch k).d ≤ 10 ∧ 0 ≤ (fk F ch k).n ∧ (fk F ch k).n ≤ (fk F ch k).d) ∧ (0 ≤ (fk F ch k).c ∧ (fk F ch k).c ≤ 99) ∧
    (fk F ch k).n * (at_ L (ix F ch k)).d ≤ (at_ L (ix F ch k)).n * (fk F ch k).d := by
  have hr := hc k hk
  have := okF_true.1 (h.ok (gi ch k).toNat (by omega))
  obtain ⟨⟨a1, a2⟩, a3, a4, a5⟩ := this
  exact ⟨⟨(by unfold ix fk; omega), by unfold ix fk; omega⟩, a3, a4, a5⟩

theorem wcK_bd {L : List It} {F : List Fx} (h : ValidF L F) {ch : List Int} (hc : inR F ch) : ∀ k, k ≤ ch.length → 0 ≤ wcK F ch k ∧ wcK F ch k ≤ 99 * k
  | 0, _ => by simp [wcK, sumP]
  | k + 1, hk => by
    have ih := wcK_bd h hc k (by omega)
    have := (h.bd hc (k := k) (by omega)).2.2.1
    rw [wcK_step]; omega

/-- The budget with the first fixes of a choice: it is valid, and no share is greater. -/
theorem wiK_ok {L : List It} {F : List Fx} (h : ValidF L F) {ch : List Int} (hc : inR F ch) : ∀ k, k ≤ ch.length → ∀ i, i < L.length →
    (at_ (wiK L F ch k) i).u = (at_ L i).u ∧ (1 ≤ (at_ (wiK L F ch k) i).d ∧ (at_ (wiK L F ch k) i).d ≤ 10 ∧ 0 ≤ (at_ (wiK L F ch k) i).n ∧ (at_ (wiK L F ch k) i).n ≤ (at_ (wiK L F ch k) i).d) ∧
      partI (at_ (wiK L F ch k) i).n (at_ (wiK L F ch k) i).d ≤ partI (at_ L i).n (at_ L i).d
  | 0, _, i, hi => by
    have := h.v.bd hi
    exact ⟨rfl, by rw [wiK]; omega, Int.le_refl _⟩
  | k + 1, hk, i, hi => by
    have ih := wiK_ok h hc k (by omega) i hi
    obtain ⟨⟨b1, b2⟩, b3, b4, b5⟩ := h.bd hc (k := k) (by omega)
    rw [wiK, setR_at (by rw [wiK_length]; exact b2)]
    by_cases he : i = ix F ch k
    · subst he
      rw [if_pos rfl]
      have hb := h.v.bd hi
      exact ⟨ih.1, b3, (part_le b3.1 b3.2.1 hb.2.2.1 hb.2.2.2.1).2 b5⟩
    · rw [if_neg he]; exact ih

theorem wiK_valid {L : List It} {F : List Fx} (h : ValidF L F) {ch : List Int} (hc : inR F ch) {k : Nat} (hk : k ≤ ch.length) : Valid (wiK L F ch k) :=
  ⟨by rw [wiK_length]; exact h.v.le, fun i hi => by
    rw [wiK_length] at hi
    obtain ⟨a, b, _⟩ := wiK_ok h hc k hk i hi
    have := h.v.bd hi
    rw [okI_iff]; omega⟩
theorem sumP_mono {f g : Nat → Int} : ∀ {n : Nat}, (∀ k, k < n → f k ≤ g k) → sumP (fun _ => true) f n ≤ sumP (fun _ => true) g n
  | 0, _ => Int.le_refl _
  | n + 1, h => by
    have h1 := sumP_mono (n := n) (fun k hk => h k (by omega))
    have h2 := h n (by omega)
    rw [sumP, sumP]; simp; omega
theorem wiK_parts {L : List It} {F : List Fx} (h : ValidF L F) {ch : List Int} (hc : inR F ch) {k : Nat} (hk : k ≤ ch.length) : parts (wiK L F ch k) ≤ parts L := by
  unfold parts paT
  rw [wiK_length]
  refine sumP_mono fun i hi => ?_
  obtain ⟨a, _, b⟩ := wiK_ok h hc k hk i hi
  unfold wI
  rw [a]
  exact Int.mul_le_mul_of_nonneg_left b (by have := h.v.bd hi; omega)

/-! ### The order of lists -/
def cmpL : List Int → List Int → Int
  | [], [] => 0
  | [], _ :: _ => -1
  | _ :: _, [] => 1
  | x :: xs, y :: ys => if x < y then -1 else if y < x then 1 else cmpL xs ys

theorem cmpL_self : ∀ a, cmpL a a = 0
  | [] => rfl
  | x :: xs => by rw [cmpL, if_neg (Int.lt_irrefl x), if_neg (Int.lt_irrefl x)]; exact cmpL_self xs
theorem cmpL_bd : ∀ a b, -1 ≤ cmpL a b ∧ cmpL a b ≤ 1
  | [], [] => by simp [cmpL]
  | [], _ :: _ => by simp [cmpL]
  | _ :: _, [] => by simp [cmpL]
  | x :: xs, y :: ys => by
    rw [cmpL]; split
    · omega
    · split
      · omega
      · exact cmpL_bd xs ys
theorem cmpL_neg : ∀ a b, cmpL b a = - cmpL a b
  | [], [] => rfl
  | [], _ :: _ => rfl
  | _ :: _, [] => rfl
  | x :: xs, y :: ys => by
    rw [cmpL, cmpL]
    by_cases h1 : x < y
    · rw [if_neg (by omega), if_pos h1, if_pos h1]; rfl
    · by_cases h2 : y < x
      · rw [if_pos h2, if_neg h1, if_pos h2]
      · rw [if_neg h2, if_neg h1, if_neg h1, if_neg h2]; exact cmpL_neg xs ys
theorem cmpL_eq : ∀ a b, cmpL a b = 0 → a = b
  | [], [], _ => rfl
  | [], _ :: _, h => by simp [cmpL] at h
  | _ :: _, [], h => by simp [cmpL] at h
  | x :: xs, y :: ys, h => by
    rw [cmpL] at h
    by_cases h1 : x < y
    · rw [if_pos h1] at h; simp at h
    · by_cases h2 : y < x
      · rw [if_neg h1, if_pos h2] at h; simp at h
      · rw [if_neg h1, if_neg h2] at h
        rw [cmpL_eq xs ys h, show x = y by omega]
theorem cmpL_trans : ∀ a b c, cmpL a b ≤ 0 → cmpL b c ≤ 0 → cmpL a c ≤ 0
  | [], _, [], _, _ => by simp [cmpL]
  | [], _, _ :: _, _, _ => by simp [cmpL]
  | _ :: _, [], _, h, _ => by simp [cmpL] at h
  | _ :: _, _ :: _, [], _, h => by simp [cmpL] at h
  | x :: xs, y :: ys, z :: zs, h1, h2 => by
    rw [cmpL] at h1 h2 ⊢
    by_cases a1 : x < y
    · by_cases b1 : y < z
      · rw [if_pos (by omega)]; decide
      · by_cases b2 : z < y
        · rw [if_neg b1, if_pos b2] at h2; simp at h2
        · rw [if_pos (by omega)]; decide
    · by_cases a2 : y < x
      · rw [if_neg a1, if_pos a2] at h1; simp at h1
      · rw [if_neg a1, if_neg a2] at h1
        by_cases b1 : y < z
        · rw [if_pos (by omega)]; decide
        · by_cases b2 : z < y
          · rw [if_neg b1, if_pos b2] at h2; simp at h2
          · rw [if_neg b1, if_neg b2] at h2
            rw [if_neg (by omega), if_neg (by omega)]
            exact cmpL_trans xs ys zs h1 h2

/-- From the i-th number on. -/
theorem cmp_step {xs ys : List Int} {i : Nat} (hx : i < xs.length) (hy : i < ys.length) :
    cmpL (xs.drop i) (ys.drop i) = if gi xs i < gi ys i then -1 else if gi ys i < gi xs i then 1 else cmpL (xs.drop (i + 1)) (ys.drop (i + 1)) := by
  have e1 : xs.drop i = gi xs i :: xs.drop (i + 1) := by rw [List.drop_eq_getElem_cons hx]; simp [gi, hx]
  have e2 : ys.drop i = gi ys i :: ys.drop (i + 1) := by rw [List.drop_eq_getElem_cons hy]; simp [gi, hy]
  rw [e1, e2, cmpL]
theorem cmp_long {xs ys : List Int} {i : Nat} (hx : i < xs.length) (hy : ¬ i < ys.length) : cmpL (xs.drop i) (ys.drop i) = 1 := by
  rw [List.drop_eq_getElem_cons hx, List.drop_eq_nil_of_le (by omega : ys.length ≤ i)]; rfl
theorem cmp_end {xs ys : List Int} {i : Nat} (hx : ¬ i < xs.length) : cmpL (xs.drop i) (ys.drop i) = if i < ys.length then -1 else 0 := by
  rw [List.drop_eq_nil_of_le (by omega : xs.length ≤ i)]
  by_cases h : i < ys.length
  · rw [if_pos h, List.drop_eq_getElem_cons h]; rfl
  · rw [if_neg h, List.drop_eq_nil_of_le (by omega : ys.length ≤ i)]; rfl

/-- One list begins as the other. -/
theorem cmp_app (a : List Int) (x : Int) (t : List Int) : cmpL a (a ++ x :: t) = -1 := by
  induction a with
  | nil => rfl
  | cons y a ih => rw [List.cons_append, cmpL, if_neg (Int.lt_irrefl y), if_neg (Int.lt_irrefl y)]; exact ih
theorem cmp_app2 (a : List Int) {x y : Int} (h : x < y) (t u : List Int) : cmpL (a ++ x :: t) (a ++ y :: u) = -1 := by
  induction a with
  | nil => simp [cmpL, h]
  | cons z a ih => rw [List.cons_append, List.cons_append, cmpL, if_neg (Int.lt_irrefl z), if_neg (Int.lt_irrefl z)]; exact ih

/-! ### The first cheapest one -/
structure Bst where
  best : List Int
  least : Int
  some : Bool
def bst0 : Bst := ⟨[], 0, false⟩
def betterC (cost : List Int → Int) (st : Bst) (ch : List Int) : Bool := !st.some || decide (cost ch < st.least) || (decide (cost ch = st.least) && decide (cmpL ch st.best < 0))
def stepC (cd : List Int → Bool) (cost : List Int → Int) (st : Bst) (ch : List Int) : Bst := if (cd ch && betterC cost st ch) = true then ⟨ch, cost ch, true⟩ else st
def betterR (cost : List Int → Int) (st : Bst) (ch : List Int) : Bool := !st.some || decide (cost ch < st.least)
def stepR (cd : List Int → Bool) (cost : List Int → Int) (st : Bst) (ch : List Int) : Bst := if (cd ch && betterR cost st ch) = true then ⟨ch, cost ch, true⟩ else st

/-- st tells the first cheapest one of S. -/
def IsBest (cd : List Int → Bool) (cost : List Int → Int) (S : List Int → Prop) (st : Bst) : Prop :=
  (st = bst0 ∧ ∀ c, S c → cd c = false) ∨
  (st.some = true ∧ S st.best ∧ cd st.best = true ∧ st.least = cost st.best ∧ ∀ c, S c → cd c = true → cost st.best < cost c ∨ (cost st.best = cost c ∧ cmpL st.best c ≤ 0))

theorem IsBest.unique {cd : List Int → Bool} {cost : List Int → Int} {S : List Int → Prop} {st st' : Bst} (h : IsBest cd cost S st) (h' : IsBest cd cost S st') : st = st' := by
  rcases h with ⟨rfl, h1⟩ | ⟨a1, a2, a3, a4, a5⟩
  · rcases h' with ⟨rfl, _⟩ | ⟨b1, b2, b3, _⟩
    · rfl
    · rw [h1 _ b2] at b3; cases b3
  · rcases h' with ⟨rfl, h1⟩ | ⟨b1, b2, b3, b4, b5⟩
    · rw [h1 _ a2] at a3; cases a3
    · have x1 := a5 _ b2 b3
      have x2 := b5 _ a2 a3
      have hc : cost st.best = cost st'.best := by omega
      have y1 : cmpL st.best st'.best ≤ 0 := by omega
      have y2 : cmpL st'.best st.best ≤ 0 := by omega
      rw [cmpL_neg] at y2
      have := cmpL_eq _ _ (show cmpL st.best st'.best = 0 by omega)
      obtain ⟨p, q, r⟩ := st
      obtain ⟨p', q', r'⟩ := st'
      simp only at *
      subst this
      rw [a1, b1, a4, b4]

theorem IsBest.congr {cd : List Int → Bool} {cost : List Int → Int} {S S' : List Int → Prop} {st : Bst} (h : IsBest cd cost S st) (hs : ∀ c, S c ↔ S' c) : IsBest cd cost S' st := by
  have : S = S' := funext fun c => propext (hs c)
  rw [← this]; exact h

theorem best_stepC {cd : List Int → Bool} {cost : List Int → Int} {S : List Int → Prop} {st : Bst} (h : IsBest cd cost S st) (ch : List Int) : IsBest cd cost (fun c => S c ∨ c = ch) (stepC cd cost st ch) := by
  unfold stepC
  cases hcd : cd ch
  · rw [if_neg (by simp)]
    rcases h with ⟨rfl, h1⟩ | ⟨a1, a2, a3, a4, a5⟩
    · exact .inl ⟨rfl, fun c hc => by rcases hc with hc | rfl; exact h1 c hc; exact hcd⟩
    · exact .inr ⟨a1, .inl a2, a3, a4, fun c hc hcc => by
        rcases hc with hc | rfl
        · exact a5 c hc hcc
        · rw [hcd] at hcc; cases hcc⟩
  · rcases h with ⟨rfl, h1⟩ | ⟨a1, a2, a3, a4, a5⟩
    · rw [if_pos (by simp [betterC, bst0])]
      refine .inr ⟨rfl, .inr rfl, hcd, rfl, fun c hc hcc => ?_⟩
      rcases hc with hc | rfl
      · rw [h1 c hc] at hcc; cases hcc
      · exact .inr ⟨rfl, by rw [cmpL_self]; exact Int.le_refl _⟩
    · cases hb : betterC cost st ch
      · rw [if_neg (by simp)]
        simp only [betterC, a1, Bool.not_true, Bool.false_or, Bool.or_eq_false_iff, decide_eq_false_iff_not, Bool.and_eq_false_iff] at hb
        obtain ⟨q1, q2⟩ := hb
        refine .inr ⟨a1, .inl a2, a3, a4, fun c hc hcc => ?_⟩
        rcases hc with hc | rfl
        · exact a5 c hc hcc
        · rw [cmpL_neg c st.best]
          omega
      · rw [if_pos (by simp)]
        simp only [betterC, a1, Bool.not_true, Bool.false_or, Bool.or_eq_true, decide_eq_true_eq, Bool.and_eq_true] at hb
        refine .inr ⟨rfl, .inr rfl, hcd, rfl, fun c hc hcc => ?_⟩
        rcases hc with hc | rfl
        · have x := a5 c hc hcc
          dsimp only
          rcases hb with hb | ⟨hb, hb'⟩
          · left; omega
          · rcases x with x | ⟨x, x'⟩
            · left; omega
            · right
              exact ⟨by omega, cmpL_trans _ _ _ (by omega) x'⟩
        · exact .inr ⟨rfl, by rw [cmpL_self]; exact Int.le_refl _⟩

theorem best_stepR {cd : List Int → Bool} {cost : List Int → Int} {S : List Int → Prop} {st : Bst} (h : IsBest cd cost S st) (ch : List Int) (hs : ∀ c, S c → cmpL c ch ≤ 0) : IsBest cd cost (fun c => S c ∨ c = ch) (stepR cd cost st ch) := by
  have e : stepR cd cost st ch = stepC cd cost st ch := by
    unfold stepC stepR
    have : betterR cost st ch = betterC cost st ch := by
      unfold betterC betterR
      rcases h with ⟨rfl, h1⟩ | ⟨a1, a2, a3, a4, a5⟩
      · rfl
      · have := hs _ a2
        rw [cmpL_neg ch st.best] at this
        have e2 : decide (cmpL ch st.best < 0) = false := by simp; omega
        rw [e2]; simp
    rw [this]
  rw [e]; exact best_stepC h ch

theorem foldC_best (cd : List Int → Bool) (cost : List Int → Int) (cs : List (List Int)) : IsBest cd cost (· ∈ cs) (cs.foldl (stepC cd cost) bst0) := by
  suffices H : ∀ (cs : List (List Int)) (S : List Int → Prop) (st : Bst), IsBest cd cost S st → IsBest cd cost (fun c => S c ∨ c ∈ cs) (cs.foldl (stepC cd cost) st) by
    exact (H cs (fun _ => False) bst0 (.inl ⟨rfl, fun _ h => h.elim⟩)).congr fun c => by simp
  intro cs
  induction cs with
  | nil => intro S st h; exact h.congr fun c => by simp
  | cons x cs ih =>
    intro S st h
    exact (ih _ _ (best_stepC h x)).congr fun c => by simp [or_assoc]

theorem foldR_best (cd : List Int → Bool) (cost : List Int → Int) (cs : List (List Int)) (hs : cs.Pairwise (fun a b => cmpL a b ≤ 0)) : IsBest cd cost (· ∈ cs) (cs.foldl (stepR cd cost) bst0) := by
  suffices H : ∀ (cs : List (List Int)) (S : List Int → Prop) (st : Bst), cs.Pairwise (fun a b => cmpL a b ≤ 0) → (∀ a, S a → ∀ b ∈ cs, cmpL a b ≤ 0) → IsBest cd cost S st → IsBest cd cost (fun c => S c ∨ c ∈ cs) (cs.foldl (stepR cd cost) st) by
    exact (H cs (fun _ => False) bst0 hs (fun _ h => h.elim) (.inl ⟨rfl, fun _ h => h.elim⟩)).congr fun c => by simp
  intro cs
  induction cs with
  | nil => intro S st _ _ h; exact h.congr fun c => by simp
  | cons x cs ih =>
    intro S st hp hS h
    rw [List.pairwise_cons] at hp
    exact (ih _ _ hp.2 (fun a ha b hb => by
      rcases ha with ha | rfl
      · exact hS a ha b (by simp [hb])
      · exact hp.1 b hb) (best_stepR h x (fun c hc => hS c hc x (by simp)))).congr fun c => by simp [or_assoc]
end Go.Proofs.Ytplindidegmlkaa
