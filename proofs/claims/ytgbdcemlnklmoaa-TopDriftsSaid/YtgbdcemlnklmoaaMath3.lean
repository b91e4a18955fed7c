/-
  Plain facts on tracks: the lowest track, and which lists keep a rate and readings.
-/
import Derived.Test.YtgbdcemlnklmoaaMath2
namespace Go.Proofs.Ytgbdcemlnklmoaa

def gi (xs : List Int) (i : Nat) : Int := xs.getD i 0

def firstT (L : List Rd) : Int := (at_ L 0).t
def trackN (L : List Rd) : Nat := (lastT L - firstT L + 1).toNat
def tAt (L : List Rd) (r : Int) (i : Nat) : Int := max (loB L r (firstT L + i)) (-1000)
def trackL (L : List Rd) (r : Int) : List Int := (List.range (trackN L)).map (tAt L r)

def aOk (L : List Rd) (r : Int) : Bool := decide (rErr L r = 0) && agreeB L r
theorem aOk_true {L : List Rd} {r : Int} : aOk L r = true ↔ rErr L r = 0 ∧ agreeB L r = true := by simp [aOk]

def trackR (L : List Rd) (r : Int) : List Int := if aOk L r then trackL L r else []

/-- The three ways in which a list fails. -/
def badR (xs : List Int) (i : Nat) : Bool := !inB (gi xs i) (-1000) 1000
def badS (xs : List Int) (r : Int) (i : Nat) : Bool := decide (r < far (gi xs (i + 1)) (gi xs i))
def badP (L : List Rd) (xs : List Int) (i : Nat) : Bool := !inB (gi xs ((at_ L i).t - firstT L).toNat) (at_ L i).lo (at_ L i).hi

def ckErr (L : List Rd) (r : Int) (xs : List Int) : Int :=
  if rErr L r ≠ 0 then rErr L r
  else if ¬ (xs.length : Int) = lastT L - firstT L + 1 then 1
  else if (scanJ (badR xs) xs.length 0).isSome then 1
  else if (scanJ (badS xs r) (xs.length - 1) 0).isSome then 8
  else if (scanJ (badP L xs) L.length 0).isSome then 7
  else 0

theorem scan_none {c : Nat → Bool} {n : Nat} : (scanJ c n 0).isSome = false ↔ ∀ k, k < n → c k = false := by
  rw [Option.isSome_eq_false_iff, Option.isNone_iff_eq_none, scanJ_none]
  exact ⟨fun h k hk => h k (Nat.zero_le _) (by omega), fun h k _ hk => h k (by omega)⟩

theorem ckErr_zero {L : List Rd} {r : Int} {xs : List Int} : ckErr L r xs = 0 ↔ rErr L r = 0 ∧ (xs.length : Int) = lastT L - firstT L + 1 ∧
    (∀ k, k < xs.length → inB (gi xs k) (-1000) 1000 = true) ∧ (∀ k, k + 1 < xs.length → far (gi xs (k + 1)) (gi xs k) ≤ r) ∧
    (∀ k, k < L.length → inB (gi xs ((at_ L k).t - firstT L).toNat) (at_ L k).lo (at_ L k).hi = true) := by
  have a1 : (scanJ (badR xs) xs.length 0).isSome = false ↔ ∀ k, k < xs.length → inB (gi xs k) (-1000) 1000 = true := by
    rw [scan_none]; simp [badR]
  have a2 : (scanJ (badS xs r) (xs.length - 1) 0).isSome = false ↔ ∀ k, k + 1 < xs.length → far (gi xs (k + 1)) (gi xs k) ≤ r := by
    rw [scan_none]
    simp only [badS, decide_eq_false_iff_not, Int.not_lt]
    exact ⟨fun h k hk => h k (by omega), fun h k hk => h k (by omega)⟩
  have a3 : (scanJ (badP L xs) L.length 0).isSome = false ↔ ∀ k, k < L.length → inB (gi xs ((at_ L k).t - firstT L).toNat) (at_ L k).lo (at_ L k).hi = true := by
    rw [scan_none]; simp [badP]
  rw [← a1, ← a2, ← a3]
  unfold ckErr
  by_cases h1 : rErr L r = 0
  · by_cases h2 : (xs.length : Int) = lastT L - firstT L + 1
    · cases h3 : (scanJ (badR xs) xs.length 0).isSome
      · cases h4 : (scanJ (badS xs r) (xs.length - 1) 0).isSome
        · cases h5 : (scanJ (badP L xs) L.length 0).isSome
          · simp [h1, h2]
          · simp [h1, h2]
        · simp [h1, h2]
      · simp [h1, h2]
    · simp [h1, h2]
  · simp [h1]

theorem times_bd {L : List Rd} (hv : Valid L) {i : Nat} (hi : i < L.length) : firstT L ≤ (at_ L i).t ∧ (at_ L i).t ≤ lastT L := by
  unfold firstT lastT
  constructor
  · rcases Nat.eq_zero_or_pos i with rfl | h
    · exact Int.le_refl _
    · exact Int.le_of_lt (hv.lt 0 i h hi)
  · rcases Nat.eq_or_lt_of_le (show i ≤ L.length - 1 by omega) with rfl | h
    · exact Int.le_refl _
    · exact Int.le_of_lt (hv.lt i (L.length - 1) h (by omega))

theorem gi_trackL {L : List Rd} {r : Int} {i : Nat} (h : i < trackN L) : gi (trackL L r) i = tAt L r i := by
  simp [gi, trackL, h]

/-- The lowest track keeps the rate and the readings. -/
theorem track_keeps {L : List Rd} {r : Int} (h : aOk L r = true) : ckErr L r (trackL L r) = 0 := by
  obtain ⟨h0, ha⟩ := aOk_true.1 h
  obtain ⟨hv, hr, hr9⟩ := rErr_zero.1 h0
  have hp := hv.pos
  have hl := lastT_bd hv
  have hf : firstT L ≤ lastT L := (times_bd hv (i := 0) (by omega)).2
  have hf0 : 0 ≤ firstT L := by have := (hv.bd (i := 0) (by omega)).1.1; exact this
  have hlen : (trackL L r).length = trackN L := by simp [trackL]
  have hN : (trackN L : Int) = lastT L - firstT L + 1 := by unfold trackN; omega
  rw [ckErr_zero]
  refine ⟨h0, by rw [hlen]; exact hN, fun k hk => ?_, fun k hk => ?_, fun k hk => ?_⟩
  · rw [hlen] at hk
    rw [gi_trackL hk, inB_true]
    have := loP_bd hv hr hr9 (t := firstT L + k) (by omega) (by omega) (L.length - 1) (by omega)
    unfold tAt loB
    omega
  · rw [hlen] at hk
    rw [gi_trackL hk, gi_trackL (by omega)]
    have hn := lo_near (L := L) (r := r) (t := firstT L + k) hr (L.length - 1)
    unfold tAt loB
    rw [show firstT L + ((k + 1 : Nat) : Int) = firstT L + k + 1 by omega]
    unfold far
    split <;> omega
  · obtain ⟨t1, t2⟩ := times_bd hv hk
    rw [gi_trackL (by omega), inB_true]
    have e : firstT L + (((at_ L k).t - firstT L).toNat : Int) = (at_ L k).t := by omega
    unfold tAt
    rw [e]
    have hb := hv.bd hk
    have h1 := loP_ge (L := L) (r := r) (t := (at_ L k).t) (L.length - 1) k (by omega)
    rw [far_self, Int.mul_zero] at h1
    have h2 := hiP_le (L := L) (r := r) (t := (at_ L k).t) (L.length - 1) k (by omega)
    rw [far_self, Int.mul_zero] at h2
    have h3 := lo_le_hi (L := L) (r := r) (t := (at_ L k).t) hv hr ha
    unfold loB hiB at *
    omega

/-- What keeps the rate moves no faster. -/
theorem slow_moves {xs : List Int} {r : Int} (hr : 0 ≤ r) (h : ∀ k, k + 1 < xs.length → far (gi xs (k + 1)) (gi xs k) ≤ r) : ∀ (d i : Nat), i + d < xs.length → gi xs (i + d) - gi xs i ≤ r * d ∧ gi xs i - gi xs (i + d) ≤ r * d
  | 0, i, _ => by simp
  | d + 1, i, hi => by
    obtain ⟨h1, h2⟩ := slow_moves hr h d i (by omega)
    have h3 := h (i + d) (by omega)
    have e : r * ((d + 1 : Nat) : Int) = r * d + r := by rw [show ((d + 1 : Nat) : Int) = (d : Int) + 1 by omega, Int.mul_add, Int.mul_one]
    rw [e]
    rw [show i + (d + 1) = i + d + 1 by omega]
    unfold far at h3
    split at h3 <;> omega

/-- A track that keeps rate and readings is within the bounds of every reading, at each of its times. -/
theorem keeps_within {L : List Rd} {r : Int} {xs : List Int} (h : ckErr L r xs = 0) {i : Nat} (hi : i < xs.length) : loB L r (firstT L + i) ≤ gi xs i ∧ gi xs i ≤ hiB L r (firstT L + i) := by
  obtain ⟨h0, h1, h2, h3, h4⟩ := ckErr_zero.1 h
  obtain ⟨hv, hr, hr9⟩ := rErr_zero.1 h0
  have hp := hv.pos
  have key : ∀ j, j < L.length → (at_ L j).lo - r * far (firstT L + i) (at_ L j).t ≤ gi xs i ∧ gi xs i ≤ (at_ L j).hi + r * far (firstT L + i) (at_ L j).t := by
    intro j hj
    obtain ⟨t1, t2⟩ := times_bd hv hj
    have hb := inB_true.1 (h4 j hj)
    generalize hk : ((at_ L j).t - firstT L).toNat = k at hb
    have hkt : (at_ L j).t = firstT L + k := by omega
    have hkl : k < xs.length := by omega
    rcases Nat.le_total i k with hik | hik
    · obtain ⟨d, rfl⟩ := Nat.exists_eq_add_of_le hik
      obtain ⟨m1, m2⟩ := slow_moves hr h3 d i hkl
      have e : far (firstT L + i) (at_ L j).t = d := by unfold far; rw [hkt]; split <;> omega
      rw [e]
      omega
    · obtain ⟨d, rfl⟩ := Nat.exists_eq_add_of_le hik
      obtain ⟨m1, m2⟩ := slow_moves hr h3 d k hi
      have e : far (firstT L + ((k + d : Nat) : Int)) (at_ L j).t = d := by unfold far; rw [hkt]; split <;> omega
      rw [e]
      omega
  obtain ⟨a, ha, ea⟩ := loP_mem (L := L) (r := r) (t := firstT L + i) (L.length - 1)
  obtain ⟨b, hb, eb⟩ := hiP_mem (L := L) (r := r) (t := firstT L + i) (L.length - 1)
  unfold loB hiB
  rw [ea, eb]
  exact ⟨(key a (by omega)).1, (key b (by omega)).2⟩

/-- Where a track keeps both the readings agree. -/
theorem keeps_agree {L : List Rd} {r : Int} {xs : List Int} (h : ckErr L r xs = 0) : aOk L r = true := by
  obtain ⟨h0, h1, h2, h3, h4⟩ := ckErr_zero.1 h
  obtain ⟨hv, hr, hr9⟩ := rErr_zero.1 h0
  refine aOk_true.2 ⟨h0, (agreeB_true).2 fun a b hab hb => ?_⟩
  have w1 := keeps_within h (i := ((at_ L a).t - firstT L).toNat) (by have := times_bd hv (i := a) (by omega); omega)
  have ea : firstT L + (((at_ L a).t - firstT L).toNat : Int) = (at_ L a).t := by have := times_bd hv (i := a) (by omega); omega
  rw [ea] at w1
  have ra := inB_true.1 (h4 a (by omega))
  have l1 := loP_ge (L := L) (r := r) (t := (at_ L a).t) (L.length - 1) b (by omega)
  have l2 := hiP_le (L := L) (r := r) (t := (at_ L a).t) (L.length - 1) b (by omega)
  unfold loB hiB at w1
  unfold clashAt
  rw [clashB_false]
  omega

end Go.Proofs.Ytgbdcemlnklmoaa
