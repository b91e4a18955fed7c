/- DriftNear: the walk. -/
import Derived.Test.YtgbdcemlnklmoaaK
namespace Go.Proofs.Ytgbdcemlnklmoaa
open Go.RowKit Go.Sort

set_option maxRecDepth 100000 in
set_option maxHeartbeats 1600000 in
theorem near_w (a : Option Addr) (n c : Nat) (L : List Rd) (r t : Int) (w : World) (h : SlO w a n L) (hc : n ≤ c) (hm : c ≤ maxLen) :
    Calls Try.prog 3 #[.slice a n c, .agg #[.int .i64 r, .int .i64 t]] w fun e w' => e = .returned (.bool true) ∧ Below w.heap.size w w' := by
  by_cases hl : longB n = true
  · go_enter Try.func3, Try.ntmps3
    go_wp2_with fail
    refine (Long_c _ _ _ _).mono ?_
    rintro e w1 ⟨rfl, hb1⟩
    simp only [hl]
    go_wp2_with fail
    refine (known_c _).mono ?_
    rintro e w2 ⟨rfl, hb2⟩
    go_wp2_with fail
    go_ret
    exact ⟨rfl, btr ((Below.refl _ _).alloc (Nat.le_refl _) _) (btr hb1 hb2)⟩
  replace hl : longB n = false := by simpa using hl
  by_cases hE : tErr L r t = 0 ∧ bOk L r t = true ∧ t < 2000
  · obtain ⟨hE, hO, ht⟩ := hE
    obtain ⟨hE', hA⟩ := bOk_true.1 hO
    obtain ⟨⟨hv, hr, hr9⟩, h0, h2⟩ := tErr_zero.1 hE
    have hE2 : tErr L r (t + 1) = 0 := tErr_zero.2 ⟨⟨hv, hr, hr9⟩, by omega, by omega⟩
    have hO2 : bOk L r (t + 1) = true := bOk_true.2 ⟨hE2, hA⟩
    have n1 := lo_near (L := L) (r := r) (t := t) hr (L.length - 1)
    have n2 := hi_near (L := L) (r := r) (t := t) hr (L.length - 1)
    have e1 := bOk_yes hE hA
    have e2 := bOk_yes hE2 hA
    have b1 := bLo_bd L r t
    have b2 := bHi_bd L r t
    have b3 := bLo_bd L r (t + 1)
    have b4 := bHi_bd L r (t + 1)
    have d1 : decide (bLo L r t - bLo L r (t + 1) ≤ r) = true := decT (by rw [e1.2.1, e2.2.1]; exact n1.1)
    have d2 : decide (bLo L r (t + 1) - bLo L r t ≤ r) = true := decT (by rw [e1.2.1, e2.2.1]; exact n1.2)
    have d3 : decide (bHi L r t - bHi L r (t + 1) ≤ r) = true := decT (by rw [e1.2.2, e2.2.2]; exact n2.1)
    have d4 : decide (bHi L r (t + 1) - bHi L r t ≤ r) = true := decT (by rw [e1.2.2, e2.2.2]; exact n2.2)
    clear n1 n2 e1 e2 hE' hA hv
    have HE := Lib.hid hE
    have HE2 := Lib.hid hE2
    have HO := Lib.hid hO
    have HO2 := Lib.hid hO2
    clear hE hE2 hO hO2
    go_enter Try.func3, Try.ntmps3
    go_wp2_with fail
    refine (Long_c _ _ _ _).mono ?_
    rintro e w1 ⟨rfl, hb1⟩
    have x0 := cellB hb1 (a := ⟨w.heap.size, 0, none⟩) (v := .int .i64 r) (by simp [go_sem])
    have x1 := cellB hb1 (a := ⟨w.heap.size, 1, none⟩) (v := .int .i64 t) (by simp [go_sem])
    have B1 : Below w.heap.size w w1 := btr ((Below.refl _ _).alloc (Nat.le_refl _) _) hb1
    simp only [hl]
    go_wp2_with fail
    refine (Bounds_c _ _ _ _ _ _ _ (h.below B1 (Nat.le_refl _)) hc hm).mono ?_
    rintro e w2 ⟨rfl, hb2⟩
    rw [HE.out, HO.out]
    have x0 := cellB hb2 x0
    have x1 := cellB hb2 x1
    have B2 := btr B1 hb2
    go_wp2_with fail
    refine (Bounds_c _ _ _ _ _ _ _ (h.below B2 (Nat.le_refl _)) hc hm).mono ?_
    rintro e w3 ⟨rfl, hb3⟩
    rw [HE2.out, HO2.out]
    have x0 := cellB hb3 x0
    have x1 := cellB hb3 x1
    have B3 := btr B2 hb3
    go_wp2_with fail
    refine (known_c _).mono ?_
    rintro e w4 ⟨rfl, hb4⟩
    go_wp2_with fail
    go_ret
    exact ⟨rfl, btr B3 hb4⟩
  · have hg : ((tErr L r t != 0) || (!bOk L r t || decide (2000 ≤ t))) = true := by
      by_cases g1 : tErr L r t = 0
      · by_cases g2 : bOk L r t = true
        · have g3 : 2000 ≤ t := by
            apply Int.not_lt.1
            intro g3; exact hE ⟨g1, g2, g3⟩
          simp [g3]
        · simp [g2]
      · simp [g1]
    have hx : tErr L r t ≠ 0 ∨ (tErr L r t = 0 ∧ bOk L r t = false) ∨ (tErr L r t = 0 ∧ bOk L r t = true ∧ 2000 ≤ t) := by
      by_cases g1 : tErr L r t = 0
      · by_cases g2 : bOk L r t = true
        · refine .inr (.inr ⟨g1, g2, ?_⟩)
          apply Int.not_lt.1
          intro g3; exact hE ⟨g1, g2, g3⟩
        · exact .inr (.inl ⟨g1, by simpa using g2⟩)
      · exact .inl g1
    clear hE hg
    rcases hx with g1 | ⟨g1, g2⟩ | ⟨g1, g2, g3⟩
    all_goals
      first
        | (have g0 : (tErr L r t != 0) = true := by simpa using g1)
        | (have g0 : (tErr L r t != 0) = false := by simpa using g1)
      clear g1
      go_enter Try.func3, Try.ntmps3
      go_wp2_with fail
      refine (Long_c _ _ _ _).mono ?_
      rintro e w1 ⟨rfl, hb1⟩
      have x0 := cellB hb1 (a := ⟨w.heap.size, 0, none⟩) (v := .int .i64 r) (by simp [go_sem])
      have x1 := cellB hb1 (a := ⟨w.heap.size, 1, none⟩) (v := .int .i64 t) (by simp [go_sem])
      have B1 : Below w.heap.size w w1 := btr ((Below.refl _ _).alloc (Nat.le_refl _) _) hb1
      simp only [hl]
      go_wp2_with fail
      refine (Bounds_c _ _ _ _ _ _ _ (h.below B1 (Nat.le_refl _)) hc hm).mono ?_
      rintro e w2 ⟨rfl, hb2⟩
      have x1 := cellB hb2 x1
      have B2 := btr B1 hb2
      go_wp2_with fail
      refine (known_c _).mono ?_
      rintro e w4 ⟨rfl, hb4⟩
      go_wp2_with fail
      go_ret
      exact ⟨rfl, btr B2 hb4⟩

end Go.Proofs.Ytgbdcemlnklmoaa
