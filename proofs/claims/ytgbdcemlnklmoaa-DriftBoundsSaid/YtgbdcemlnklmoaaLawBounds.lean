/- DriftBounds: the walk. -/
import Derived.Test.YtgbdcemlnklmoaaP
namespace Go.Proofs.Ytgbdcemlnklmoaa
open Go.RowKit Go.Sort
set_option maxRecDepth 100000 in
set_option maxHeartbeats 1600000 in
theorem bounds_w (a : Option Addr) (n c : Nat) (L : List Rd) (r t : Int) (w : World) (h : SlO w a n L) (hc : n ≤ c) (hm : c ≤ maxLen) :
    Calls Try.prog 4 #[.slice a n c, .agg #[.int .i64 r, .int .i64 t]] w fun e w' => e = .returned (.bool true) ∧ Below w.heap.size w w' := by
  by_cases hl : longB n = true
  · go_enter Try.func4, Try.ntmps4
    go_wp2_with fail
    refine (Long_c _ _ _ _).mono ?_
    rintro e w1 ⟨rfl, hb1⟩
    have x0 := cellB hb1 (a := ⟨w.heap.size, 0, none⟩) (v := .int .i64 r) (by simp [go_sem])
    have x1 := cellB hb1 (a := ⟨w.heap.size, 1, none⟩) (v := .int .i64 t) (by simp [go_sem])
    have B1 : Below w.heap.size w w1 := btr ((Below.refl _ _).alloc (Nat.le_refl _) _) hb1
    simp only [hl]
    go_wp2_with fail
    refine (known_c _).mono ?_
    rintro e w2 ⟨rfl, hb2⟩
    have B2 : Below w.heap.size w w2 := btr B1 hb2
    have x0 := cellB hb2 x0
    have x1 := cellB hb2 x1
    go_wp2_with fail
    go_ret
    exact ⟨rfl, B2⟩
  · replace hl : longB n = false := by simpa using hl
    have hle : decide (bLo L r t ≤ bHi L r t) = true := decT (bLo_le_bHi L r t)
    have b1 := bLo_bd L r t
    have b2 := bHi_bd L r t
    go_enter Try.func4, Try.ntmps4
    go_wp2_with fail
    refine (Long_c _ _ _ _).mono ?_
    rintro e w1 ⟨rfl, hb1⟩
    have x0 := cellB hb1 (a := ⟨w.heap.size, 0, none⟩) (v := .int .i64 r) (by simp [go_sem])
    have x1 := cellB hb1 (a := ⟨w.heap.size, 1, none⟩) (v := .int .i64 t) (by simp [go_sem])
    have B1 : Below w.heap.size w w1 := btr ((Below.refl _ _).alloc (Nat.le_refl _) _) hb1
    simp only [hl]
    go_wp2_with fail
    refine (Bounds_c _ _ _ _ _ _ _ (h.below B1 (Nat.le_refl _)) hc hm).mono ?_
    rintro e w2 ⟨rfl, hb2⟩
    have B2 : Below w.heap.size w w2 := btr B1 hb2
    have x0 := cellB hb2 x0
    have x1 := cellB hb2 x1
    go_wp2_with fail
    refine (rBounds_c _ _ _ _ _ _ _ (h.below B2 (Nat.le_refl _))).mono ?_
    rintro e w3 ⟨rfl, hb3⟩
    have B3 : Below w.heap.size w w3 := btr B2 hb3
    have x0 := cellB hb3 x0
    have x1 := cellB hb3 x1
    go_wp2_with fail
    refine (Width_c _ _ _ _ _ _ _ (h.below B3 (Nat.le_refl _)) hc hm).mono ?_
    rintro e w4 ⟨rfl, hb4⟩
    have B4 : Below w.heap.size w w4 := btr B3 hb4
    have x0 := cellB hb4 x0
    have x1 := cellB hb4 x1
    go_wp2_with fail
    refine (rWidth_c _ _ _ _ _ _ _ (h.below B4 (Nat.le_refl _))).mono ?_
    rintro e w5 ⟨rfl, hb5⟩
    have B5 : Below w.heap.size w w5 := btr B4 hb5
    have x0 := cellB hb5 x0
    have x1 := cellB hb5 x1
    go_wp2_with fail
    refine (known_c _).mono ?_
    rintro e w6 ⟨rfl, hb6⟩
    have B6 : Below w.heap.size w w6 := btr B5 hb6
    have x0 := cellB hb6 x0
    have x1 := cellB hb6 x1
    go_wp2_with fail
    go_ret
    exact ⟨rfl, B6⟩
end Go.Proofs.Ytgbdcemlnklmoaa
