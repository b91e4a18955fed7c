/- ClockRelaxes: the walk. -/
import Derived.Test.YtbmbogaejmgloaaK
import Derived.Test.YtbmbogaejmgloaaC
import Derived.Test.YtbmbogaejmgloaaG2
namespace Go.Proofs.Ytbmbogaejmgloaa
open Go.RowKit Go.Sort
theorem relax_facts {L : List Jb} {y : Int} (h : mvErr L 0 y = 0) (hn : 0 < L.length) : vErr L = 0 ∧ inB y (-60) 60 = true ∧ vErr (mvL L 0 y) = 0 ∧ laR (mvL L 0 y) = laR L - y ∧ -60 ≤ laR L ∧ laR L ≤ 540 ∧ -60 ≤ y ∧ y ≤ 60 := by
  obtain ⟨hv, hy, hv2, e⟩ := mvErr_zero h
  have hy := hy hn
  have h1 : laR L = lateJ L := if_pos (vErr_zero.2 hv)
  have h2 : laR (moved L 0 y) = lateJ (moved L 0 y) := if_pos (vErr_zero.2 hv2)
  have hb := lateJ_bd hv
  rw [e, h1, h2, moved_lateJ hv hv2 hn]
  exact ⟨vErr_zero.2 hv, inB_true.2 hy, vErr_zero.2 hv2, by omega, hb.1, hb.2, hy.1, hy.2⟩

set_option maxRecDepth 100000 in
set_option maxHeartbeats 3200000 in
theorem relaxes_w (a : Option Addr) (n c : Nat) (L : List Jb) (y : Int) (w : World) (h : SlO w a n L) (hc : n ≤ c) (hm : c ≤ maxLen) :
    Calls Try.prog 8 #[.slice a n c, .int .i64 y] w fun e w' => e = .returned (.bool true) ∧ Below w.heap.size w w' := by
  have _ := hc
  have _ := hm
  have self := fun x : Int => (show (x != x) = false by simp)
  have selfe := fun x : Int => (show (x == x) = true by simp)
  have selfb := fun x : Bool => (show (x != x) = false by simp)
  have selfc := fun x : Bool => (show (x == x) = true by simp)
  cases hl : longB n
  case true =>
    go_enter Try.func8, Try.ntmps8
    go_wp2_with fail
    refine (Long_c _ _ _ _).mono ?_
    rintro e w1 ⟨rfl, hb1⟩
    have B1 : Below w.heap.size w w1 := btr (Below.refl _ _) hb1
    simp only [hl]
    go_wp2_with fail
    refine (known_c _).mono ?_
    rintro e w2 ⟨rfl, hb2⟩
    have B2 : Below w.heap.size w w2 := btr B1 hb2
    go_wp2_with fail
    go_ret
    exact ⟨rfl, B2⟩
  case false =>
    by_cases h0 : mvErr L 0 y = 0
    case neg =>
      have hne : (mvErr L 0 y != 0) = true := by simpa using h0
      clear h0
      go_enter Try.func8, Try.ntmps8
      go_wp2_with fail
      refine (Long_c _ _ _ _).mono ?_
      rintro e w1 ⟨rfl, hb1⟩
      have B1 : Below w.heap.size w w1 := btr (Below.refl _ _) hb1
      simp only [hl]
      go_wp2_with fail
      refine (Relax_c _ _ _ _ _ _ (h.below B1 (Nat.le_refl _))).mono ?_
      rintro e w2 ⟨v2, rfl, hv2, hb2⟩
      have B2 : Below w.heap.size w w2 := btr B1 hb2
      obtain ⟨a2, c2, e2, i2, l2, m2, q2⟩ := hv2
      rw [e2]
      clear e2 q2
      go_wp2_with fail
      refine (rRelax_c _ _ _ _ _ _ (h.below B2 (Nat.le_refl _))).mono ?_
      rintro e w3 ⟨v3, rfl, hv3, hb3⟩
      have B3 : Below w.heap.size w w3 := btr B2 hb3
      replace i2 := i2.below hb3 (Nat.le_refl _)
      obtain ⟨a3, c3, e3, i3, l3, m3, q3⟩ := hv3
      rw [e3]
      clear e3 q3
      go_wp2_with fail
      refine (Same_c _ _ _ _ _ _ _ _ _ i2 i3 (Nat.le_trans l2 (Nat.le_trans m2 (by decide)))).mono ?_
      rintro e w4 ⟨rfl, hb4⟩
      have B4 : Below w.heap.size w w4 := btr B3 hb4
      replace i2 := i2.below hb4 (Nat.le_refl _)
      replace i3 := i3.below hb4 (Nat.le_refl _)
      rw [sameB_self]
      go_wp2_with fail
      refine (known_c _).mono ?_
      rintro e w5 ⟨rfl, hb5⟩
      have B5 : Below w.heap.size w w5 := btr B4 hb5
      replace i2 := i2.below hb5 (Nat.le_refl _)
      replace i3 := i3.below hb5 (Nat.le_refl _)
      go_wp2_with fail
      go_ret
      exact ⟨rfl, B5⟩
    have hne : (mvErr L 0 y != 0) = false := by simp [h0]
    by_cases hn : n = 0
    case pos =>
      have dn : ((n : Int) == 0) = true := by simp [hn]
      clear h0 hn
      go_enter Try.func8, Try.ntmps8
      go_wp2_with fail
      refine (Long_c _ _ _ _).mono ?_
      rintro e w1 ⟨rfl, hb1⟩
      have B1 : Below w.heap.size w w1 := btr (Below.refl _ _) hb1
      simp only [hl]
      go_wp2_with fail
      refine (Relax_c _ _ _ _ _ _ (h.below B1 (Nat.le_refl _))).mono ?_
      rintro e w2 ⟨v2, rfl, hv2, hb2⟩
      have B2 : Below w.heap.size w w2 := btr B1 hb2
      obtain ⟨a2, c2, e2, i2, l2, m2, q2⟩ := hv2
      rw [e2]
      clear e2 q2
      go_wp2_with fail
      refine (rRelax_c _ _ _ _ _ _ (h.below B2 (Nat.le_refl _))).mono ?_
      rintro e w3 ⟨v3, rfl, hv3, hb3⟩
      have B3 : Below w.heap.size w w3 := btr B2 hb3
      replace i2 := i2.below hb3 (Nat.le_refl _)
      obtain ⟨a3, c3, e3, i3, l3, m3, q3⟩ := hv3
      rw [e3]
      clear e3 q3
      go_wp2_with fail
      refine (Same_c _ _ _ _ _ _ _ _ _ i2 i3 (Nat.le_trans l2 (Nat.le_trans m2 (by decide)))).mono ?_
      rintro e w4 ⟨rfl, hb4⟩
      have B4 : Below w.heap.size w w4 := btr B3 hb4
      replace i2 := i2.below hb4 (Nat.le_refl _)
      replace i3 := i3.below hb4 (Nat.le_refl _)
      rw [sameB_self]
      go_wp2_with fail
      refine (known_c _).mono ?_
      rintro e w5 ⟨rfl, hb5⟩
      have B5 : Below w.heap.size w w5 := btr B4 hb5
      replace i2 := i2.below hb5 (Nat.le_refl _)
      replace i3 := i3.below hb5 (Nat.le_refl _)
      go_wp2_with fail
      go_ret
      exact ⟨rfl, B5⟩
    have dn : ((n : Int) == 0) = false := by simp; omega
    obtain ⟨f1, f2, f3, f4, f5, f6, f7, f8⟩ := relax_facts h0 (by have := h.1; omega)
    have F1 := Lib.hid f1
    have F2 := Lib.hid f2
    have F3 := Lib.hid f3
    have F4 := Lib.hid f4
    clear h0 f1 f2 f3 f4
    go_enter Try.func8, Try.ntmps8
    go_wp2_with fail
    refine (Long_c _ _ _ _).mono ?_
    rintro e w1 ⟨rfl, hb1⟩
    have B1 : Below w.heap.size w w1 := btr (Below.refl _ _) hb1
    simp only [hl]
    go_wp2_with fail
    refine (Relax_c _ _ _ _ _ _ (h.below B1 (Nat.le_refl _))).mono ?_
    rintro e w2 ⟨v2, rfl, hv2, hb2⟩
    have B2 : Below w.heap.size w w2 := btr B1 hb2
    obtain ⟨a2, c2, e2, i2, l2, m2, q2⟩ := hv2
    rw [e2]
    clear e2 q2
    go_wp2_with fail
    refine (rRelax_c _ _ _ _ _ _ (h.below B2 (Nat.le_refl _))).mono ?_
    rintro e w3 ⟨v3, rfl, hv3, hb3⟩
    have B3 : Below w.heap.size w w3 := btr B2 hb3
    replace i2 := i2.below hb3 (Nat.le_refl _)
    obtain ⟨a3, c3, e3, i3, l3, m3, q3⟩ := hv3
    rw [e3]
    clear e3 q3
    go_wp2_with fail
    refine (Same_c _ _ _ _ _ _ _ _ _ i2 i3 (Nat.le_trans l2 (Nat.le_trans m2 (by decide)))).mono ?_
    rintro e w4 ⟨rfl, hb4⟩
    have B4 : Below w.heap.size w w4 := btr B3 hb4
    replace i2 := i2.below hb4 (Nat.le_refl _)
    replace i3 := i3.below hb4 (Nat.le_refl _)
    rw [sameB_self]
    go_wp2_with fail
    refine (Late_c _ _ _ _ _ i2).mono ?_
    rintro e w5 ⟨rfl, hb5⟩
    have B5 : Below w.heap.size w w5 := btr B4 hb5
    replace i2 := i2.below hb5 (Nat.le_refl _)
    replace i3 := i3.below hb5 (Nat.le_refl _)
    rw [F3.out, F4.out]
    go_wp2_with fail
    refine (Late_c _ _ _ _ _ (h.below B5 (Nat.le_refl _))).mono ?_
    rintro e w6 ⟨rfl, hb6⟩
    have B6 : Below w.heap.size w w6 := btr B5 hb6
    replace i2 := i2.below hb6 (Nat.le_refl _)
    replace i3 := i3.below hb6 (Nat.le_refl _)
    rw [F1.out]
    go_wp2_with fail
    refine (within_c _ _ _ _).mono ?_
    rintro e wz ⟨rfl, rfl⟩
    rw [F2.out]
    go_wp2_with fail
    refine (known_c _).mono ?_
    rintro e w7 ⟨rfl, hb7⟩
    have B7 : Below w.heap.size w w7 := btr B6 hb7
    replace i2 := i2.below hb7 (Nat.le_refl _)
    replace i3 := i3.below hb7 (Nat.le_refl _)
    go_wp2_with fail
    go_ret
    exact ⟨rfl, B7⟩
end Go.Proofs.Ytbmbogaejmgloaa
