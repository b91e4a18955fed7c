/-
  More plain facts on readings: the bounds with their errors, until when the width is small, the slowest rate.
-/
import Derived.Test.YtgbdcemlnklmoaaMath
namespace Go.Proofs.Ytgbdcemlnklmoaa

def bOk (L : List Rd) (r t : Int) : Bool := decide (tErr L r t = 0) && agreeB L r
def bLo (L : List Rd) (r t : Int) : Int := if bOk L r t then loB L r t else 0
def bHi (L : List Rd) (r t : Int) : Int := if bOk L r t then hiB L r t else 0

theorem bOk_true {L : List Rd} {r t : Int} : bOk L r t = true ↔ tErr L r t = 0 ∧ agreeB L r = true := by simp [bOk]

theorem bOk_yes {L : List Rd} {r t : Int} (h : tErr L r t = 0) (ha : agreeB L r = true) : bOk L r t = true ∧ bLo L r t = loB L r t ∧ bHi L r t = hiB L r t := by
  have : bOk L r t = true := bOk_true.2 ⟨h, ha⟩
  simp [bLo, bHi, this]
theorem bOk_no {L : List Rd} {r t : Int} (h : ¬ (tErr L r t = 0 ∧ agreeB L r = true)) : bOk L r t = false ∧ bLo L r t = 0 ∧ bHi L r t = 0 := by
  have : bOk L r t = false := by
    rw [← bOk_true] at h; simpa using h
  simp [bLo, bHi, this]

/-- The bounds are in order, whatever comes in. -/
theorem bLo_le_bHi (L : List Rd) (r t : Int) : bLo L r t ≤ bHi L r t := by
  by_cases h : tErr L r t = 0 ∧ agreeB L r = true
  · obtain ⟨_, h1, h2⟩ := bOk_yes h.1 h.2
    rw [h1, h2]
    obtain ⟨⟨hv, hr, _⟩, _⟩ := tErr_zero.1 h.1
    exact lo_le_hi hv hr h.2
  · obtain ⟨_, h1, h2⟩ := bOk_no h
    omega

theorem bLo_bd (L : List Rd) (r t : Int) : -19000 ≤ bLo L r t ∧ bLo L r t ≤ 1000 := by
  by_cases h : tErr L r t = 0 ∧ agreeB L r = true
  · rw [(bOk_yes h.1 h.2).2.1]
    obtain ⟨⟨hv, hr, hr9⟩, h0, h2⟩ := tErr_zero.1 h.1
    exact loP_bd hv hr hr9 h0 h2 _ (by have := hv.pos; omega)
  · rw [(bOk_no h).2.1]; omega
theorem bHi_bd (L : List Rd) (r t : Int) : -1000 ≤ bHi L r t ∧ bHi L r t ≤ 19000 := by
  by_cases h : tErr L r t = 0 ∧ agreeB L r = true
  · rw [(bOk_yes h.1 h.2).2.2]
    obtain ⟨⟨hv, hr, hr9⟩, h0, h2⟩ := tErr_zero.1 h.1
    exact hiP_bd hv hr hr9 h0 h2 _ (by have := hv.pos; omega)
  · rw [(bOk_no h).2.2]; omega

/-- The greatest of m numbers from a on that has a property. -/
def ds (p : Int → Bool) (a : Int) : Nat → Option Int
  | 0 => none
  | m + 1 => if p (a + m) then some (a + m) else ds p a m

theorem ds_yes {p : Int → Bool} {a : Int} {m : Nat} (h : p (a + m) = true) : ds p a (m + 1) = some (a + m) := by simp [ds, h]
theorem ds_no {p : Int → Bool} {a : Int} {m : Nat} (h : p (a + m) = false) : ds p a (m + 1) = ds p a m := by simp [ds, h]
theorem ds_some {p : Int → Bool} {a : Int} : ∀ {m : Nat} {x : Int}, ds p a m = some x → p x = true ∧ a ≤ x ∧ x < a + m
  | 0, x, h => by simp [ds] at h
  | m + 1, x, h => by
    unfold ds at h
    by_cases hp : p (a + m) = true
    · rw [if_pos hp] at h
      cases h
      exact ⟨hp, by omega, by omega⟩
    · rw [if_neg hp] at h
      obtain ⟨h1, h2, h3⟩ := ds_some h
      exact ⟨h1, h2, by omega⟩

def lastT (L : List Rd) : Int := (at_ L (L.length - 1)).t

/-- At this time the bounds are at most a width apart. -/
def wideB (L : List Rd) (r wd t : Int) : Bool := decide (hiB L r t - loB L r t ≤ wd)

def uErr (L : List Rd) (r wd : Int) : Int := if rErr L r ≠ 0 then rErr L r else if inB wd 0 100000 then 0 else 1
def untilO (L : List Rd) (r wd : Int) : Option Int :=
  if uErr L r wd = 0 ∧ agreeB L r = true then ds (wideB L r wd) (lastT L) (2001 - lastT L).toNat else none
def oI (o : Option Int) : Int := o.getD 0

theorem uErr_zero {L : List Rd} {r wd : Int} : uErr L r wd = 0 ↔ (Valid L ∧ 0 ≤ r ∧ r ≤ 9) ∧ 0 ≤ wd ∧ wd ≤ 100000 := by
  unfold uErr
  rw [← rErr_zero, ← inB_true]
  by_cases h : rErr L r = 0
  · by_cases h1 : inB wd 0 100000 = true <;> simp [h, h1]
  · simp [h]

theorem lastT_bd {L : List Rd} (hv : Valid L) : 0 ≤ lastT L ∧ lastT L ≤ 1000 := (hv.bd (i := L.length - 1) (by have := hv.pos; omega)).1

/-- Where there is such a time the width there is small enough. -/
theorem untilO_width {L : List Rd} {r wd x : Int} (h : untilO L r wd = some x) : bOk L r x = true ∧ tErr L r x = 0 ∧ bHi L r x - bLo L r x ≤ wd := by
  unfold untilO at h
  split at h
  · rename_i hc
    obtain ⟨hw, h1, h2⟩ := ds_some h
    obtain ⟨⟨hv, hr, hr9⟩, _⟩ := uErr_zero.1 hc.1
    have hl := lastT_bd hv
    have ht : tErr L r x = 0 := tErr_zero.2 ⟨⟨hv, hr, hr9⟩, by omega, by omega⟩
    obtain ⟨e1, e2, e3⟩ := bOk_yes ht hc.2
    refine ⟨e1, ht, ?_⟩
    rw [e2, e3]
    simpa [wideB] using hw
  · cases h

/-- The smallest rate by which the readings agree. -/
def slowO (L : List Rd) : Option Nat := if vErr L = 0 then scanJ (fun k => agreeB L (k : Int)) 10 0 else none
def oN (o : Option Nat) : Int := ((o.getD 0 : Nat) : Int)

def exR : List Rd := [⟨0, 0, 1⟩, ⟨4, 9, 10⟩]
def exU : List Rd := [⟨3, 0, 2⟩]
theorem exR_slow : slowO exR = some 2 := by decide +kernel
theorem exR_bounds : bLo exR 2 2 = 5 ∧ bHi exR 2 2 = 5 ∧ bOk exR 2 2 = true ∧ tErr exR 2 2 = 0 := by decide +kernel
theorem exR_verr : vErr exR = 0 := by decide +kernel
theorem exU_uerr : uErr exU 1 4 = 0 := by decide +kernel
theorem exU_until : untilO exU 1 4 = some 4 := by decide +kernel

end Go.Proofs.Ytgbdcemlnklmoaa
