/-
  Plain facts on jobs in time: other times, time turned round, jobs without one; how much waits.
-/
import Derived.Test.YtbmbogaejmgloaaMath3
namespace Go.Proofs.Ytbmbogaejmgloaa

/-- A list of jobs, weighed. -/
def wS (a b : Int) (x : Jb) : Int := if a ≤ x.s ∧ x.e ≤ b then x.d else 0

theorem at_append {L M : List Jb} {i : Nat} (h : i < L.length) : at_ (L ++ M) i = at_ L i := by
  unfold at_; rw [List.getD_eq_getElem?_getD, List.getElem?_append_left h, List.getD_eq_getElem?_getD]

theorem at_snoc {L : List Jb} {x : Jb} : at_ (L ++ [x]) L.length = x := by
  unfold at_; simp [List.getD_eq_getElem?_getD]

theorem dem_snoc (L : List Jb) (x : Jb) (a b : Int) : dem (L ++ [x]) a b = dem L a b + wS a b x := by
  unfold dem demN
  rw [List.length_append, List.length_singleton, sumP]
  congr 1
  · exact sumP_congr fun k hk => by
      unfold inS nd
      rw [at_append hk]; exact ⟨rfl, rfl⟩
  · unfold inS nd wS
    rw [at_snoc]
    simp

theorem dem_nil (a b : Int) : dem [] a b = 0 := rfl

theorem dem_append (M : List Jb) (a b : Int) : ∀ L : List Jb, dem (L ++ M) a b = dem L a b + dem M a b := by
  induction M with
  | nil => intro L; simp [dem_nil]
  | cons x M ih =>
    intro L
    have e1 := ih (L ++ [x])
    have e2 := ih [x]
    have e3 : dem [x] a b = wS a b x := by
      have := dem_snoc [] x a b
      rw [dem_nil, List.nil_append] at this
      omega
    rw [List.append_assoc, List.singleton_append, dem_snoc] at e1
    rw [List.singleton_append] at e2
    omega

theorem at_map {L : List Jb} {f : Jb → Jb} {i : Nat} (h : i < L.length) : at_ (L.map f) i = f (at_ L i) := by
  unfold at_
  simp [List.getD_eq_getElem?_getD, h]

/-! ### Other times -/

def mv (x y : Int) (j : Jb) : Jb := ⟨j.s + x, j.e + y, j.d⟩
def moved (L : List Jb) (x y : Int) : List Jb := L.map (mv x y)

theorem moved_length (L : List Jb) (x y : Int) : (moved L x y).length = L.length := by simp [moved]

theorem moved_dem (L : List Jb) (x y a b : Int) : dem (moved L x y) a b = dem L (a - x) (b - y) := by
  unfold dem demN
  rw [moved_length]
  exact sumP_congr fun k hk => by
    unfold nd moved
    refine ⟨?_, by rw [at_map hk]; rfl⟩
    rw [Bool.eq_iff_iff, inS_true, inS_true, at_map hk]
    simp only [mv]; omega

theorem moved_late {L : List Jb} {x y v : Int} (h : IsLate L v) : IsLate (moved L x y) (v + x - y) := by
  obtain ⟨⟨a, b, h1, h2⟩, h3⟩ := h
  refine ⟨⟨a + x, b + y, ?_, ?_⟩, fun a' b' hd => ?_⟩
  · rw [moved_dem, Int.add_sub_cancel, Int.add_sub_cancel]; exact h1
  · rw [moved_dem, Int.add_sub_cancel, Int.add_sub_cancel]; omega
  · rw [moved_dem] at hd ⊢
    have := h3 _ _ hd; omega

theorem moved_lateJ {L : List Jb} {x y : Int} (hv : Valid L) (hv' : Valid (moved L x y)) (hn : 0 < L.length) : lateJ (moved L x y) = lateJ L + x - y :=
  lateJ_eq hv' (by rw [moved_length]; exact hn) (moved_late (late_is hv hn))

/-- The error number of jobs at other times. -/
def mvErr (L : List Jb) (x y : Int) : Int := if vErr L ≠ 0 then vErr L else if 0 < L.length ∧ inB y (-60) 60 = false then 1 else vErr (moved L x y)
def mvL (L : List Jb) (x y : Int) : List Jb := if mvErr L x y = 0 then moved L x y else []

theorem mvErr_zero {L : List Jb} {x y : Int} (h : mvErr L x y = 0) : Valid L ∧ (0 < L.length → -60 ≤ y ∧ y ≤ 60) ∧ Valid (moved L x y) ∧ mvL L x y = moved L x y := by
  have e : mvL L x y = moved L x y := by unfold mvL; rw [if_pos h]
  unfold mvErr at h
  by_cases h1 : vErr L = 0
  · rw [if_neg (by simp [h1])] at h
    by_cases h2 : 0 < L.length ∧ inB y (-60) 60 = false
    · rw [if_pos h2] at h; simp at h
    · rw [if_neg h2] at h
      refine ⟨vErr_zero.1 h1, fun hn => ?_, vErr_zero.1 h, e⟩
      cases hb : inB y (-60) 60
      · exact absurd ⟨hn, hb⟩ h2
      · exact inB_true.1 hb
  · rw [if_pos h1] at h; exact absurd h h1

/-- The number by which the program moves. -/
def small (y : Int) : Int := max (-120) (min y 120)

theorem small_in {y : Int} (h : -60 ≤ y ∧ y ≤ 60) : small y = y := by unfold small; omega
theorem small_bd (y : Int) : -120 ≤ small y ∧ small y ≤ 120 := by unfold small; omega

theorem vErr_moved {L : List Jb} (hv : Valid L) (x y : Int) : vErr (moved L x y) = 0 ∨ vErr (moved L x y) = 1 := by
  unfold vErr
  rw [moved_length, if_neg (by have := hv.le; omega)]
  split <;> simp

theorem vErr_one {L : List Jb} (h8 : L.length ≤ 8) {i : Nat} (hi : i < L.length) (hb : okJ (at_ L i) = false) : vErr L = 1 := by
  have h0 : vErr L ≠ 0 := fun h => by have := (vErr_zero.1 h).ok i hi; rw [this] at hb; cases hb
  unfold vErr at *
  rw [if_neg (by omega)] at *
  split at h0
  · rename_i h; rw [if_pos h]
  · simp at h0

/-- A job moved too far is none. -/
theorem far_bad {L : List Jb} (hv : Valid L) {x y : Int} (hn : 0 < L.length) (hy : ¬ (-60 ≤ y ∧ y ≤ 60)) : vErr (moved L x (small y)) = 1 := by
  refine vErr_one (by rw [moved_length]; exact hv.le) (i := 0) (by rw [moved_length]; exact hn) ?_
  unfold moved
  rw [at_map hn]
  have := hv.bd hn
  cases hk : okJ (mv x (small y) (at_ L 0)) with
  | false => rfl
  | true =>
    have := okJ_iff.1 hk
    simp only [mv] at this
    unfold small at *
    omega

/-- What the program answers: its own check of the moved jobs. -/
theorem own_moved {L : List Jb} (hv : Valid L) (f : Int → Int) (y : Int) :
    mvErr L (f y) y = vErr (moved L (f (small y)) (small y)) ∧ (vErr (moved L (f (small y)) (small y)) = 0 → mvL L (f y) y = moved L (f (small y)) (small y)) := by
  have h0 := vErr_zero.2 hv
  by_cases hn : 0 < L.length
  · by_cases hy : -60 ≤ y ∧ y ≤ 60
    · rw [small_in hy]
      have e : mvErr L (f y) y = vErr (moved L (f y) y) := by
        unfold mvErr; rw [if_neg (by simp [h0]), if_neg (by rw [inB_true.2 hy]; simp)]
      exact ⟨e, fun h => by unfold mvL; rw [if_pos (e.trans h)]⟩
    · have hb := far_bad hv (x := f (small y)) (y := y) hn hy
      rw [hb]
      have e : mvErr L (f y) y = 1 := by unfold mvErr; rw [if_neg (by simp [h0]), if_pos ⟨hn, inB_false.2 hy⟩]
      exact ⟨e, fun h => by simp at h⟩
  · have hL : L = [] := List.eq_nil_of_length_eq_zero (by omega)
    subst hL
    have e : mvErr [] (f y) y = 0 := by unfold mvErr; rw [if_neg (by simp [h0]), if_neg (by simp)]; rfl
    refine ⟨e, fun _ => ?_⟩
    unfold mvL; rw [if_pos e]; rfl

/-! ### Time turned round -/

def tn (j : Jb) : Jb := ⟨60 - j.e, 60 - j.s, j.d⟩
def turned (L : List Jb) : List Jb := L.map tn
def turnL (L : List Jb) : List Jb := if vErr L = 0 then turned L else []

theorem turned_length (L : List Jb) : (turned L).length = L.length := by simp [turned]

theorem turned_dem (L : List Jb) (a b : Int) : dem (turned L) a b = dem L (60 - b) (60 - a) := by
  unfold dem demN
  rw [turned_length]
  exact sumP_congr fun k hk => by
    unfold nd turned
    refine ⟨?_, by rw [at_map hk]; rfl⟩
    rw [Bool.eq_iff_iff, inS_true, inS_true, at_map hk]
    simp only [tn]; omega

theorem turned_valid {L : List Jb} (hv : Valid L) : Valid (turned L) := by
  refine ⟨by rw [turned_length]; exact hv.le, fun i hi => ?_⟩
  rw [turned_length] at hi
  unfold turned
  rw [at_map hi, okJ_iff]
  have := hv.bd hi
  simp only [tn]; omega

theorem turned_late {L : List Jb} {v : Int} (h : IsLate L v) : IsLate (turned L) v := by
  obtain ⟨⟨a, b, h1, h2⟩, h3⟩ := h
  have e1 : ∀ z : Int, 60 - (60 - z) = z := fun z => by omega
  refine ⟨⟨60 - b, 60 - a, ?_, ?_⟩, fun a' b' hd => ?_⟩
  · rw [turned_dem, e1, e1]; exact h1
  · rw [turned_dem, e1, e1]; omega
  · rw [turned_dem] at hd ⊢
    have := h3 _ _ hd; omega

theorem turned_lateJ {L : List Jb} (hv : Valid L) : lateJ (turned L) = lateJ L := by
  by_cases hn : 0 < L.length
  · exact lateJ_eq (turned_valid hv) (by rw [turned_length]; exact hn) (turned_late (late_is hv hn))
  · rw [lateJ_nil (L := L) (by omega), lateJ_nil (L := turned L) (by rw [turned_length]; omega)]

theorem turned_speed {L : List Jb} (hv : Valid L) : speedJ (turned L) = speedJ L := by
  have e1 : ∀ z : Int, 60 - (60 - z) = z := fun z => by omega
  have h := speed_is hv
  refine ((speed_is (turned_valid hv)).uniq (s' := speedJ L) ⟨?_, fun a b hd => ?_⟩)
  · obtain ⟨p, q, hp, hq, hs, hpq⟩ := h.from_
    refine ⟨p, q, hp, hq, hs, ?_⟩
    rcases hpq with hpq | ⟨a, b, h1, h2⟩
    · exact .inl hpq
    · exact .inr ⟨60 - b, 60 - a, by rw [turned_dem, e1, e1]; exact h1, by omega⟩
  · rw [turned_dem] at hd ⊢
    have := h.ge _ _ hd
    rwa [show 60 - a - (60 - b) = b - a by omega] at this

theorem turned_turned (L : List Jb) : turned (turned L) = L := by
  unfold turned
  rw [List.map_map]
  conv => rhs; rw [← List.map_id L]
  refine List.map_congr_left fun j _ => ?_
  obtain ⟨s, e, d⟩ := j
  simp only [Function.comp, tn, id]
  congr 1 <;> omega

theorem turned_slack {L : List Jb} (hv : Valid L) : slackJ (turned L) = slackJ L ∧ someJ (turned L) = someJ L := by
  unfold slackJ someJ
  rw [vErr_zero.2 hv, vErr_zero.2 (turned_valid hv), turned_lateJ hv, turned_length]
  exact ⟨rfl, rfl⟩

/-! ### Without one -/

def lessJ (L : List Jb) (k : Nat) : List Jb := L.take k ++ L.drop (k + 1)
def lsErr (L : List Jb) (k : Int) : Int := if vErr L ≠ 0 then vErr L else if k < 0 ∨ (L.length : Int) ≤ k then 4 else 0
def lsL (L : List Jb) (k : Int) : List Jb := if lsErr L k = 0 then lessJ L k.toNat else []

theorem lsErr_zero {L : List Jb} {k : Int} : lsErr L k = 0 ↔ Valid L ∧ 0 ≤ k ∧ k < L.length := by
  rw [← vErr_zero]
  unfold lsErr
  by_cases h1 : vErr L = 0
  · by_cases h2 : k < 0 ∨ (L.length : Int) ≤ k
    · simp [h1, h2]; omega
    · simp [h1, h2]; omega
  · simp [h1]

theorem lessJ_length {L : List Jb} {k : Nat} (h : k < L.length) : (lessJ L k).length = L.length - 1 := by
  unfold lessJ; simp; omega

theorem lessJ_at {L : List Jb} {k i : Nat} (h : k < L.length) : at_ (lessJ L k) i = at_ L (if i < k then i else i + 1) := by
  unfold lessJ at_
  by_cases hik : i < k
  · rw [if_pos hik, List.getD_eq_getElem?_getD, List.getElem?_append_left (by simp; omega)]
    simp [List.getD_eq_getElem?_getD, hik]
  · rw [if_neg hik, List.getD_eq_getElem?_getD, List.getElem?_append_right (by simp; omega)]
    simp only [List.getD_eq_getElem?_getD, List.getElem?_drop, List.length_take]
    congr 2
    omega

theorem lessJ_valid {L : List Jb} (hv : Valid L) {k : Nat} (h : k < L.length) : Valid (lessJ L k) := by
  refine ⟨by rw [lessJ_length h]; have := hv.le; omega, fun i hi => ?_⟩
  rw [lessJ_length h] at hi
  rw [lessJ_at h]
  refine hv.ok _ ?_
  split <;> omega

theorem lessJ_dem {L : List Jb} (hv : Valid L) {k : Nat} (h : k < L.length) (a b : Int) : dem (lessJ L k) a b ≤ dem L a b := by
  have e : L = L.take k ++ ([L[k]] ++ L.drop (k + 1)) := by
    rw [List.singleton_append, List.getElem_cons_drop, List.take_append_drop]
  have hw : 0 ≤ dem [L[k]] a b := by
    rw [show [L[k]] = [] ++ [L[k]] from rfl, dem_snoc, dem_nil]
    have := hv.bd h
    have e : at_ L k = L[k] := by unfold at_; rw [List.getD_eq_getElem?_getD, List.getElem?_eq_getElem h]; rfl
    rw [e] at this
    unfold wS; split <;> omega
  unfold lessJ
  conv => rhs; rw [e]
  rw [dem_append, dem_append, dem_append]
  omega

theorem lessJ_late {L : List Jb} (hv : Valid L) {k : Nat} (h : k < L.length) (hn : 0 < (lessJ L k).length) : lateJ (lessJ L k) ≤ lateJ L := by
  obtain ⟨a, b, h1, h2⟩ := (late_is (lessJ_valid hv h) hn).1
  have h3 := lessJ_dem hv h a b
  have := (late_is hv (by omega)).2 a b (by omega)
  omega

/-! ### How much waits -/

def waF (f : Nat → Int) (dn : Int) : Nat → Int
  | 0 => 0
  | t + 1 => max 0 (waF f dn t + f t - dn)

/-- The sum of the last m units up to unit t, and the greatest such sum. -/
def bkS (f : Nat → Int) (dn : Int) (t : Nat) : Nat → Int × Int
  | 0 => (0, 0)
  | m + 1 => let s := bkS f dn t m; (s.1 + (f (t - m) - dn), max s.2 (s.1 + (f (t - m) - dn)))

theorem bkS_step (f : Nat → Int) (dn : Int) (t : Nat) : ∀ m, bkS f dn (t + 1) (m + 1) = (f (t + 1) - dn + (bkS f dn t m).1, max 0 (f (t + 1) - dn + (bkS f dn t m).2))
  | 0 => by simp [bkS]
  | m + 1 => by
    rw [bkS, bkS_step f dn t m]
    simp only [bkS]
    rw [show t + 1 - (m + 1) = t - m by omega]
    refine Prod.ext ?_ ?_ <;> simp only <;> omega

theorem bkS_wa (f : Nat → Int) (dn : Int) : ∀ t, (bkS f dn t (t + 1)).2 = waF f dn (t + 1)
  | 0 => by simp [bkS, waF]
  | t + 1 => by
    rw [bkS_step, waF, ← bkS_wa f dn t]
    simp only
    omega

theorem waF_bd {f : Nat → Int} {dn : Int} (hd : 0 ≤ dn) : ∀ {t : Nat}, (∀ i, i < t → 0 ≤ f i ∧ f i ≤ 60) → 0 ≤ waF f dn t ∧ waF f dn t ≤ 60 * t
  | 0, _ => by simp [waF]
  | t + 1, h => by
    have ih := waF_bd hd (f := f) (t := t) (fun i hi => h i (by omega))
    have := h t (by omega)
    rw [waF]; omega

theorem bkS_bd {f : Nat → Int} {dn : Int} {t : Nat} (hd : 0 ≤ dn ∧ dn ≤ 60) (h : ∀ i, i ≤ t → 0 ≤ f i ∧ f i ≤ 60) : ∀ {m : Nat}, m ≤ t + 1 → -60 * (m : Int) ≤ (bkS f dn t m).1 ∧ (bkS f dn t m).1 ≤ 60 * m ∧ 0 ≤ (bkS f dn t m).2 ∧ (bkS f dn t m).2 ≤ 60 * m
  | 0, _ => by simp [bkS]
  | m + 1, hm => by
    have ih := bkS_bd hd h (m := m) (by omega)
    have := h (t - m) (by omega)
    simp only [bkS]
    omega

def badU (xs : List Int) (i : Nat) : Bool := !inB (gi xs i) 0 60
def bkErr (xs : List Int) (dn : Int) : Int := if 60 < xs.length ∨ inB dn 0 60 = false ∨ (scanJ (badU xs) xs.length 0).isSome = true then 1 else 0
def bkL (xs : List Int) (dn : Int) : List Int := if bkErr xs dn = 0 then (List.range xs.length).map (fun t => waF (gi xs) dn (t + 1)) else []

theorem bkErr_zero {xs : List Int} {dn : Int} : bkErr xs dn = 0 ↔ xs.length ≤ 60 ∧ (0 ≤ dn ∧ dn ≤ 60) ∧ ∀ i, i < xs.length → 0 ≤ gi xs i ∧ gi xs i ≤ 60 := by
  unfold bkErr
  by_cases h : 60 < xs.length ∨ inB dn 0 60 = false ∨ (scanJ (badU xs) xs.length 0).isSome = true
  · rw [if_pos h]
    constructor
    · intro h; simp at h
    · rintro ⟨h1, h2, h3⟩
      rcases h with h | h | h
      · omega
      · rw [inB_true.2 h2] at h; cases h
      · have : (scanJ (badU xs) xs.length 0).isSome = false := scan_none.2 fun k hk => by simp [badU, inB_true.2 (h3 k hk)]
        rw [this] at h; cases h
  · rw [if_neg h]
    simp only [true_iff]
    refine ⟨by omega, ?_, fun i hi => ?_⟩
    · cases hb : inB dn 0 60
      · exact absurd (.inr (.inl hb)) h
      · exact inB_true.1 hb
    · cases hs : (scanJ (badU xs) xs.length 0).isSome
      · have := scan_none.1 hs i hi
        simp [badU] at this
        exact inB_true.1 this
      · exact absurd (.inr (.inr hs)) h

theorem gi_bkL {xs : List Int} {dn : Int} (h : bkErr xs dn = 0) {t : Nat} (ht : t < xs.length) : gi (bkL xs dn) t = waF (gi xs) dn (t + 1) := by
  unfold bkL gi
  rw [if_pos h]
  simp [List.getD_eq_getElem?_getD, ht]

end Go.Proofs.Ytbmbogaejmgloaa
