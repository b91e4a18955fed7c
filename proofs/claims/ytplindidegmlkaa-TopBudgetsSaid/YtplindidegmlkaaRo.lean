/- Room of budget and of its reference. -/
import Derived.Test.YtplindidegmlkaaLawWithout
import Derived.Test.YtplindidegmlkaaSc
namespace Go.Proofs.Ytplindidegmlkaa
open Go.RowKit Go.Sort

def upL (L : List It) (k : Nat) (m : Int) : List It := L.set k ⟨(at_ L k).u + m, (at_ L k).n, (at_ L k).d⟩
theorem upL_length (L : List It) (k : Nat) (m : Int) : (upL L k m).length = L.length := by simp [upL]
theorem upL_at {L : List It} {k : Nat} {m : Int} (hk : k < L.length) (j : Nat) : at_ (upL L k m) j = if j = k then ⟨(at_ L k).u + m, (at_ L k).n, (at_ L k).d⟩ else at_ L j := by
  unfold at_ upL
  rw [List.getD_eq_getElem?_getD, List.getD_eq_getElem?_getD]
  by_cases h : j = k
  · subst h; rw [List.getElem?_set_self hk, if_pos rfl]; rfl
  · rw [List.getElem?_set_ne (fun h' => h h'.symm), if_neg h, List.getD_eq_getElem?_getD]
theorem upL_zero {L : List It} {k : Nat} (hk : k < L.length) : upL L k 0 = L := by
  unfold upL
  apply List.ext_getElem?
  intro j
  by_cases h : k = j
  · subst h
    rw [List.getElem?_set_self hk, Int.add_zero]
    simp [at_, hk]
  · rw [List.getElem?_set_ne h]
theorem parts_up {L : List It} {k : Nat} (hk : k < L.length) (m : Int) : parts (upL L k m) = parts L + m * partI (at_ L k).n (at_ L k).d := by
  have h1 := less_parts (L := upL L k m) (k := k) (by rw [upL_length]; exact hk)
  have h2 := less_parts hk
  have e : lessL (upL L k m) k = lessL L k := by
    unfold lessL upL
    rw [List.take_set_of_le (Nat.le_refl _), List.drop_set_of_lt (by omega)]
  rw [e, upL_at hk, if_pos rfl] at h1
  rw [h1, h2]
  unfold wI
  dsimp only
  rw [Int.add_mul]; omega
theorem upL_vu {L : List It} {k : Nat} (hv : Valid L) (hk : k < L.length) {m : Int} (h0 : 0 ≤ m) (h1 : m ≤ 1000) : VU (upL L k m) :=
  ⟨by rw [upL_length]; exact hv.le, fun i hi => by
    rw [upL_length] at hi
    have b := hv.bd hi
    have bk := hv.bd hk
    rw [upL_at hk]
    split
    · dsimp only; omega
    · omega⟩

/-- No longer closes with m + 1 uses more. -/
def rmB (L : List It) (x y : Int) (k m : Nat) : Bool := !clB (upL L k ((m : Int) + 1)) x y
def roN (L : List It) (x y : Int) (k : Nat) : Int := match scanJ (rmB L x y k) 1000 0 with | some m => (m : Int) | none => 1000
theorem ro_go {L : List It} {x y : Int} {k m : Nat} (hs : scanJ (rmB L x y k) 1000 0 = scanJ (rmB L x y k) (1000 - m) m) (hm : m < 1000) (hb : rmB L x y k m = false) : scanJ (rmB L x y k) 1000 0 = scanJ (rmB L x y k) (1000 - (m + 1)) (m + 1) := by rw [hs, scan_no hm hb]
theorem ro_yes {L : List It} {x y : Int} {k m : Nat} (hs : scanJ (rmB L x y k) 1000 0 = scanJ (rmB L x y k) (1000 - m) m) (hm : m < 1000) (hb : rmB L x y k m = true) : roN L x y k = m := by unfold roN; rw [hs, scan_yes hm hb]
theorem ro_end {L : List It} {x y : Int} {k m : Nat} (hs : scanJ (rmB L x y k) 1000 0 = scanJ (rmB L x y k) (1000 - m) m) (hm : ¬ m < 1000) : roN L x y k = 1000 := by unfold roN; rw [hs, scan_end hm]

theorem ro_of {L : List It} {x y : Int} {k : Nat} {q : Int} (h : ∀ m : Nat, m < 1000 → (rmB L x y k m = false ↔ (m : Int) + 1 ≤ q)) (hq : 0 ≤ q) : roN L x y k = if q < 1000 then q else 1000 := by
  unfold roN
  cases hs : scanJ (rmB L x y k) 1000 0 with
  | none =>
    rw [scanJ_none] at hs
    have := (h 999 (by omega)).1 (hs 999 (by omega) (by omega))
    rw [if_neg (by omega)]
  | some m =>
    obtain ⟨_, h2, h3, h4⟩ := scanJ_some _ _ _ hs
    have h5 : ¬ (m : Int) + 1 ≤ q := fun hh => by rw [(h m (by omega)).2 hh] at h3; cases h3
    have h6 : (m : Int) ≤ q := by
      rcases Nat.eq_zero_or_pos m with h0 | h0
      · omega
      · have := (h (m - 1) (by omega)).1 (h4 (m - 1) (by omega) (by omega))
        omega
    rw [if_pos (by omega)]
    show (m : Int) = q
    omega

theorem room_zero {L : List It} {x y : Int} {k : Nat} (hk : k < L.length) (hn : (at_ L k).n = 0) (hc : clB L x y = true) : roN L x y k = 1000 := by
  have h := ro_of (L := L) (x := x) (y := y) (k := k) (q := 1000) (fun m hm => by
    unfold rmB
    have e : partI (at_ L k).n (at_ L k).d = 0 := by unfold partI; rw [hn]; split <;> simp
    rw [Bool.not_eq_false', clB_true, parts_up hk, e, Int.mul_zero, Int.add_zero]
    have := clB_true.1 hc
    constructor
    · intro _; omega
    · intro _; exact this) (by decide)
  rw [h]; rfl
theorem room_div {L : List It} {x y : Int} {k : Nat} (hv : Valid L) (hk : k < L.length) (hn : 0 < (at_ L k).n) (hl : limB x y = true) (hc : clB L x y = true) :
    (0 ≤ x * toD L L.length - toN L L.length * y) ∧ roN L x y k = if (x * toD L L.length - toN L L.length * y) * (at_ L k).d / (y * toD L L.length * (at_ L k).n) < 1000 then (x * toD L L.length - toN L L.length * y) * (at_ L k).d / (y * toD L L.length * (at_ L k).n) else 1000 := by
  obtain ⟨l1, l2, l3, l4⟩ := limB_true.1 hl
  obtain ⟨t1, t2, t3, t4⟩ := to_bd hv (Nat.le_refl L.length)
  obtain ⟨a1, a2, a3, a4, a5, a6⟩ := hv.bd hk
  have hleft : 0 ≤ x * toD L L.length - toN L L.length * y := by
    have h := clB_total (L := L) (x := x) (y := y)
    rw [hc] at h
    have := of_decide_eq_true h
    omega
  refine ⟨hleft, ro_of (fun m hm => ?_) (Int.ediv_nonneg (Int.mul_nonneg hleft (by omega)) (Int.mul_nonneg (Int.mul_nonneg (by omega) (by omega)) (by omega)))⟩
  have hp := part_mul (n := (at_ L k).n) a3 a4
  have hr : toN L L.length * 2520 = parts L * toD L L.length := red_id (paT L L.length) 2520 (by decide)
  have hD : 0 < y * toD L L.length * (at_ L k).n := Int.mul_pos (Int.mul_pos (by omega) (by omega)) hn
  rw [Int.le_ediv_iff_mul_le hD]
  unfold rmB
  rw [Bool.not_eq_false', clB_true, parts_up hk]
  generalize toN L L.length = N at *
  generalize toD L L.length = D at *
  generalize parts L = P at *
  generalize partI (at_ L k).n (at_ L k).d = p at *
  generalize (at_ L k).n = n at *
  generalize (at_ L k).d = d at *
  generalize (m : Int) + 1 = M at *
  -- both sides, times 2520, against both sides, times D * d
  have e1 : M * (y * D * n) * 2520 = (M * p) * y * (D * d) := by
    have : M * (y * D * n) * 2520 = M * y * D * (n * 2520) := by ac_rfl
    rw [this, ← hp]; ac_rfl
  have e2 : (x * D - N * y) * d * 2520 = (x * 2520 - P * y) * (D * d) := by
    rw [Int.sub_mul, Int.sub_mul, Int.sub_mul]
    have b1 : x * D * d * 2520 = x * 2520 * (D * d) := by ac_rfl
    have b2 : N * y * d * 2520 = N * 2520 * (y * d) := by ac_rfl
    have b3 : P * y * (D * d) = P * D * (y * d) := by ac_rfl
    rw [b1, b2, b3, hr]
  have hDd : 0 < D * d := Int.mul_pos (by omega) (by omega)
  have c1 : M * (y * D * n) ≤ (x * D - N * y) * d ↔ M * (y * D * n) * 2520 ≤ (x * D - N * y) * d * 2520 := by omega
  rw [c1, e1, e2]
  have c2 : (M * p) * y * (D * d) ≤ (x * 2520 - P * y) * (D * d) ↔ (M * p) * y ≤ x * 2520 - P * y :=
    ⟨fun h => Int.le_of_mul_le_mul_right h hDd, fun h => Int.mul_le_mul_of_nonneg_right h (Int.le_of_lt hDd)⟩
  rw [c2, Int.add_mul]
  omega

/-- The error number of room. -/
def roErr (L : List It) (x y k : Int) : Int := if vErr L ≠ 0 then vErr L else if inB k 0 ((L.length : Int) - 1) = false then 4 else if limB x y = false then 1 else if clB L x y = false then 8 else 0
def roV (L : List It) (x y k : Int) : Int := if roErr L x y k = 0 then roN L x y k.toNat else 0
theorem ro_1 {L : List It} {x y k : Int} (h : vErr L ≠ 0) : roErr L x y k = vErr L ∧ roV L x y k = 0 := by
  have e : roErr L x y k = vErr L := if_pos h
  exact ⟨e, if_neg (by rw [e]; exact h)⟩
theorem ro_2 {L : List It} {x y k : Int} (h : vErr L = 0) (h2 : inB k 0 ((L.length : Int) - 1) = false) : roErr L x y k = 4 ∧ roV L x y k = 0 := by
  have e : roErr L x y k = 4 := by unfold roErr; rw [if_neg (by simp [h]), if_pos h2]
  exact ⟨e, if_neg (by rw [e]; decide)⟩
theorem ro_3 {L : List It} {x y k : Int} (h : vErr L = 0) (h2 : inB k 0 ((L.length : Int) - 1) = true) (h3 : limB x y = false) : roErr L x y k = 1 ∧ roV L x y k = 0 := by
  have e : roErr L x y k = 1 := by unfold roErr; rw [if_neg (by simp [h]), if_neg (by simp [h2]), if_pos h3]
  exact ⟨e, if_neg (by rw [e]; decide)⟩
theorem ro_4 {L : List It} {x y k : Int} (h : vErr L = 0) (h2 : inB k 0 ((L.length : Int) - 1) = true) (h3 : limB x y = true) (h4 : clB L x y = false) : roErr L x y k = 8 ∧ roV L x y k = 0 := by
  have e : roErr L x y k = 8 := by unfold roErr; rw [if_neg (by simp [h]), if_neg (by simp [h2]), if_neg (by simp [h3]), if_pos h4]
  exact ⟨e, if_neg (by rw [e]; decide)⟩
theorem ro_0 {L : List It} {x y k : Int} (h : vErr L = 0) (h2 : inB k 0 ((L.length : Int) - 1) = true) (h3 : limB x y = true) (h4 : clB L x y = true) : roErr L x y k = 0 ∧ roV L x y k = roN L x y k.toNat := by
  have e : roErr L x y k = 0 := by unfold roErr; rw [if_neg (by simp [h]), if_neg (by simp [h2]), if_neg (by simp [h3]), if_neg (by simp [h4])]
  exact ⟨e, if_pos e⟩
end Go.Proofs.Ytplindidegmlkaa
