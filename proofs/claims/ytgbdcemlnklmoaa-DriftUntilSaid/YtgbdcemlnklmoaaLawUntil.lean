/- DriftUntil: the walk. -/
import Derived.Test.YtgbdcemlnklmoaaP
namespace Go.Proofs.Ytgbdcemlnklmoaa
open Go.RowKit Go.Sort
set_option maxRecDepth 100000 in
set_option maxHeartbeats 1600000 in
theorem until_w (a : Option Addr) (n c : Nat) (L : List Rd) (r t : Int) (w : World) (h : SlO w a n L) (hc : n ≤ c) (hm : c ≤ maxLen) :
    Calls Try.prog 5 #[.slice a n c, .int .i64 r, .int .i64 t] w fun e w' => e = .returned (.bool true) ∧ Below w.heap.size w w' := by
  by_cases hl : longB n = true
  · go_enter Try.func5, Try.ntmps5
    go_wp2_with fail
    refine (Long_c _ _ _ _).mono ?_
    rintro e w1 ⟨rfl, hb1⟩
    have B1 : Below w.heap.size w w1 := hb1
    simp only [hl]
    go_wp2_with fail
    refine (known_c _).mono ?_
    rintro e w2 ⟨rfl, hb2⟩
    have B2 : Below w.heap.size w w2 := btr B1 hb2
    go_wp2_with fail
    go_ret
    exact ⟨rfl, B2⟩
  · replace hl : longB n = false := by simpa using hl
    cases hu : untilO L r t with
    | none =>
      have e1 : oI (untilO L r t) = 0 := by rw [hu]; rfl
      have e2 : (untilO L r t).isSome = false := by rw [hu]; rfl
      clear hu
      go_enter Try.func5, Try.ntmps5
      go_wp2_with fail
      refine (Long_c _ _ _ _).mono ?_
      rintro e w1 ⟨rfl, hb1⟩
      have B1 : Below w.heap.size w w1 := hb1
      simp only [hl]
      go_wp2_with fail
      refine (Until_c _ _ _ _ _ _ _ (h.below B1 (Nat.le_refl _)) hc hm).mono ?_
      rintro e w2 ⟨rfl, hb2⟩
      have B2 : Below w.heap.size w w2 := btr B1 hb2
      simp only [e1, e2]
      go_wp2_with fail
      refine (rUntil_c _ _ _ _ _ _ _ (h.below B2 (Nat.le_refl _))).mono ?_
      rintro e w3 ⟨rfl, hb3⟩
      have B3 : Below w.heap.size w w3 := btr B2 hb3
      simp only [e1, e2]
      go_wp2_with fail
      refine (known_c _).mono ?_
      rintro e w4 ⟨rfl, hb4⟩
      have B4 : Below w.heap.size w w4 := btr B3 hb4
      go_wp2_with fail
      go_ret
      exact ⟨rfl, B4⟩
    | some x =>
      have e1 : oI (untilO L r t) = x := by rw [hu]; rfl
      have e2 : (untilO L r t).isSome = true := by rw [hu]; rfl
      obtain ⟨e3, e4, e5⟩ := untilO_width hu
      have e6 : decide (bHi L r x - bLo L r x ≤ t) = true := decT e5
      clear hu e5
      go_enter Try.func5, Try.ntmps5
      go_wp2_with fail
      refine (Long_c _ _ _ _).mono ?_
      rintro e w1 ⟨rfl, hb1⟩
      have B1 : Below w.heap.size w w1 := hb1
      simp only [hl]
      go_wp2_with fail
      refine (Until_c _ _ _ _ _ _ _ (h.below B1 (Nat.le_refl _)) hc hm).mono ?_
      rintro e w2 ⟨rfl, hb2⟩
      have B2 : Below w.heap.size w w2 := btr B1 hb2
      simp only [e1, e2]
      go_wp2_with fail
      refine (rUntil_c _ _ _ _ _ _ _ (h.below B2 (Nat.le_refl _))).mono ?_
      rintro e w3 ⟨rfl, hb3⟩
      have B3 : Below w.heap.size w w3 := btr B2 hb3
      simp only [e1, e2]
      go_wp2_with fail
      refine (Width_c _ _ _ _ _ _ _ (h.below B3 (Nat.le_refl _)) hc hm).mono ?_
      rintro e w4 ⟨rfl, hb4⟩
      have B4 : Below w.heap.size w w4 := btr B3 hb4
      simp only [e3, e4]
      go_wp2_with fail
      refine (known_c _).mono ?_
      rintro e w5 ⟨rfl, hb5⟩
      have B5 : Below w.heap.size w w5 := btr B4 hb5
      go_wp2_with fail
      go_ret
      exact ⟨rfl, B5⟩
end Go.Proofs.Ytgbdcemlnklmoaa
