/- DriftSlowest: the walk. -/
import Derived.Test.YtgbdcemlnklmoaaS2
namespace Go.Proofs.Ytgbdcemlnklmoaa
open Go.RowKit Go.Sort
set_option maxRecDepth 100000 in
set_option maxHeartbeats 1600000 in
theorem slowest_w (a : Option Addr) (n c : Nat) (L : List Rd) (w : World) (h : SlO w a n L) (_hc : n ≤ c) (_hm : c ≤ maxLen) :
    Calls Try.prog 8 #[.slice a n c] w fun e w' => e = .returned (.bool true) ∧ Below w.heap.size w w' := by
  by_cases hl : longB n = true
  · go_enter Try.func8, Try.ntmps8
    go_wp2_with fail
    refine (Long_c _ _ _ _).mono ?_
    rintro e w1 ⟨rfl, hb1⟩
    have B1 : Below w.heap.size w w1 := hb1
    simp only [hl]
    go_wp2_with fail
    refine (known_c _).mono ?_
    rintro e w2 ⟨rfl, hb2⟩
    have B2 : Below w.heap.size w w2 := btr B1 hb2
    go_wp2_with fail
    go_ret
    exact ⟨rfl, B2⟩
  · replace hl : longB n = false := by simpa using hl
    by_cases h0 : vErr L = 0
    · have hv0 : (vErr L != 0) = false := by rw [h0]; rfl
      obtain ⟨n0, n1, d0, d1, _⟩ := st_facts h0
      obtain ⟨u1, u2, u3, u4⟩ := slow_up h0
      have hup : upR L = (stN L + stD L - 1) / stD L := rfl
      have g1 : decide (stD L < 1) = false := decF (by omega)
      have g2 : decide (stN L < 0) = false := decF (by omega)
      have HU : Hid (upR L = (stN L + stD L - 1) / stD L) := rfl
      clear h0
      cases hs : (slowO L).isSome
      · have g3 : decide ((stN L + stD L - 1) / stD L ≤ 9) = false := by rw [← hup, ← u1]; exact hs
        clear u1 u2 hup
        go_enter Try.func8, Try.ntmps8
        go_wp2_with fail
        refine (Long_c _ _ _ _).mono ?_
        rintro e w1 ⟨rfl, hb1⟩
        have B1 : Below w.heap.size w w1 := hb1
        simp only [hl]
        go_wp2_with fail
        refine (Slowest_c _ _ _ _ _ (h.below B1 (Nat.le_refl _))).mono ?_
        rintro e w2 ⟨rfl, hb2⟩
        have B2 : Below w.heap.size w w2 := btr B1 hb2
        simp only [hs]
        go_wp2_with fail
        refine (rSlowest_c _ _ _ _ _ (h.below B2 (Nat.le_refl _))).mono ?_
        rintro e w3 ⟨rfl, hb3⟩
        have B3 : Below w.heap.size w w3 := btr B2 hb3
        simp only [hs]
        go_wp2_with fail
        refine (Steepest_c _ _ _ _ _ (h.below B3 (Nat.le_refl _))).mono ?_
        rintro e w4 ⟨rfl, hb4⟩
        have B4 : Below w.heap.size w w4 := btr B3 hb4
        go_wp2_with fail
        refine (rSteepest_c _ _ _ _ _ (h.below (B4.alloc B4.size _) (Nat.le_refl _))).mono ?_
        rintro e w5 ⟨rfl, hb5⟩
        have B5 : Below w.heap.size w w5 := btr (B4.alloc B4.size _) hb5
        have y0 := cellB hb5 (a := ⟨w4.heap.size, 0, none⟩) (v := .int .i64 (stN L)) (by simp [go_sem])
        have y1 := cellB hb5 (a := ⟨w4.heap.size, 1, none⟩) (v := .int .i64 (stD L)) (by simp [go_sem])
        have hlt4 : w4.heap.size < w5.heap.size := by have := hb5.size; simp at this; omega
        go_wp2_with fail
        refine (known_c _).mono ?_
        rintro e w6 ⟨rfl, hb6⟩
        go_wp2_with fail
        go_ret
        exact ⟨rfl, btr (B5.alloc B5.size _) hb6⟩
      · have g3 : decide ((stN L + stD L - 1) / stD L ≤ 9) = true := by rw [← hup, ← u1]; exact hs
        have g4 : (oN (slowO L) == (stN L + stD L - 1) / stD L) = true := by rw [← hup, u2 hs]; simp
        clear u1 u2 hup
        go_enter Try.func8, Try.ntmps8
        go_wp2_with fail
        refine (Long_c _ _ _ _).mono ?_
        rintro e w1 ⟨rfl, hb1⟩
        have B1 : Below w.heap.size w w1 := hb1
        simp only [hl]
        go_wp2_with fail
        refine (Slowest_c _ _ _ _ _ (h.below B1 (Nat.le_refl _))).mono ?_
        rintro e w2 ⟨rfl, hb2⟩
        have B2 : Below w.heap.size w w2 := btr B1 hb2
        simp only [hs]
        go_wp2_with fail
        refine (rSlowest_c _ _ _ _ _ (h.below B2 (Nat.le_refl _))).mono ?_
        rintro e w3 ⟨rfl, hb3⟩
        have B3 : Below w.heap.size w w3 := btr B2 hb3
        simp only [hs]
        go_wp2_with fail
        refine (Steepest_c _ _ _ _ _ (h.below B3 (Nat.le_refl _))).mono ?_
        rintro e w4 ⟨rfl, hb4⟩
        have B4 : Below w.heap.size w w4 := btr B3 hb4
        go_wp2_with fail
        refine (rSteepest_c _ _ _ _ _ (h.below (B4.alloc B4.size _) (Nat.le_refl _))).mono ?_
        rintro e w5 ⟨rfl, hb5⟩
        have B5 : Below w.heap.size w w5 := btr (B4.alloc B4.size _) hb5
        have y0 := cellB hb5 (a := ⟨w4.heap.size, 0, none⟩) (v := .int .i64 (stN L)) (by simp [go_sem])
        have y1 := cellB hb5 (a := ⟨w4.heap.size, 1, none⟩) (v := .int .i64 (stD L)) (by simp [go_sem])
        have hlt4 : w4.heap.size < w5.heap.size := by have := hb5.size; simp at this; omega
        go_wp2_with fail
        refine (known_c _).mono ?_
        rintro e w6 ⟨rfl, hb6⟩
        go_wp2_with fail
        go_ret
        exact ⟨rfl, btr (B5.alloc B5.size _) hb6⟩
    · have hv0 : (vErr L != 0) = true := by simpa using h0
      clear h0
      go_enter Try.func8, Try.ntmps8
      go_wp2_with fail
      refine (Long_c _ _ _ _).mono ?_
      rintro e w1 ⟨rfl, hb1⟩
      have B1 : Below w.heap.size w w1 := hb1
      simp only [hl]
      go_wp2_with fail
      refine (Slowest_c _ _ _ _ _ (h.below B1 (Nat.le_refl _))).mono ?_
      rintro e w2 ⟨rfl, hb2⟩
      have B2 : Below w.heap.size w w2 := btr B1 hb2
      go_wp2_with fail
      refine (rSlowest_c _ _ _ _ _ (h.below B2 (Nat.le_refl _))).mono ?_
      rintro e w3 ⟨rfl, hb3⟩
      have B3 : Below w.heap.size w w3 := btr B2 hb3
      go_wp2_with fail
      refine (Steepest_c _ _ _ _ _ (h.below B3 (Nat.le_refl _))).mono ?_
      rintro e w4 ⟨rfl, hb4⟩
      have B4 : Below w.heap.size w w4 := btr B3 hb4
      go_wp2_with fail
      refine (rSteepest_c _ _ _ _ _ (h.below (B4.alloc B4.size _) (Nat.le_refl _))).mono ?_
      rintro e w5 ⟨rfl, hb5⟩
      have B5 : Below w.heap.size w w5 := btr (B4.alloc B4.size _) hb5
      have y0 := cellB hb5 (a := ⟨w4.heap.size, 0, none⟩) (v := .int .i64 (stN L)) (by simp [go_sem])
      have y1 := cellB hb5 (a := ⟨w4.heap.size, 1, none⟩) (v := .int .i64 (stD L)) (by simp [go_sem])
      have hlt4 : w4.heap.size < w5.heap.size := by have := hb5.size; simp at this; omega
      go_wp2_with fail
      refine (known_c _).mono ?_
      rintro e w6 ⟨rfl, hb6⟩
      go_wp2_with fail
      go_ret
      exact ⟨rfl, btr (B5.alloc B5.size _) hb6⟩
end Go.Proofs.Ytgbdcemlnklmoaa
