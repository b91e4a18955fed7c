/- DriftChecks: the walk. -/
import Derived.Test.YtgbdcemlnklmoaaE
namespace Go.Proofs.Ytgbdcemlnklmoaa
open Go.RowKit Go.Sort
set_option maxRecDepth 100000 in
set_option maxHeartbeats 3200000 in
theorem checks_w (a : Option Addr) (n c : Nat) (L : List Rd) (r : Int) (i j : Int) (w : World) (h : SlO w a n L) (hc : n ≤ c) (hm : c ≤ maxLen) :
    Calls Try.prog 13 #[.slice a n c, .int .i64 r, .agg #[.int .i64 i, .int .i64 j]] w fun e w' => e = .returned (.bool true) ∧ Below w.heap.size w w' := by
  unfold maxLen at hm
  have hn : n ≤ 9223372036854775807 := by omega
  clear hc hm
  by_cases hl : longB n = true
  · go_enter Try.func13, Try.ntmps13
    go_wp2_with fail
    refine (Long_c _ _ _ _).mono ?_
    rintro e w1 ⟨rfl, hb1⟩
    have x0 := cellB hb1 (a := ⟨w.heap.size, 0, none⟩) (v := .int .i64 i) (by simp [go_sem])
    have x1 := cellB hb1 (a := ⟨w.heap.size, 1, none⟩) (v := .int .i64 j) (by simp [go_sem])
    have B1 : Below w.heap.size w w1 := btr ((Below.refl _ _).alloc (Nat.le_refl _) _) hb1
    simp only [hl]
    go_wp2_with fail
    refine (known_c _).mono ?_
    rintro e w2 ⟨rfl, hb2⟩
    have B2 : Below w.heap.size w w2 := btr B1 hb2
    have x0 := cellB hb2 x0
    have x1 := cellB hb2 x1
    go_wp2_with fail
    go_ret
    exact ⟨rfl, B2⟩
  · replace hl : longB n = false := by simpa using hl
    have HCM := Lib.hid (ccErr_comm L r j i)
    by_cases hk : ccErr L r i j = 0
    · have hne : (ccErr L r i j != 0) = false := by simp [hk]
      obtain ⟨e1, e2⟩ := ccErr_zero hk
      have E1 := Lib.hid e1
      clear hk e1
      go_enter Try.func13, Try.ntmps13
      go_wp2_with fail
      refine (Long_c _ _ _ _).mono ?_
      rintro e w1 ⟨rfl, hb1⟩
      have x0 := cellB hb1 (a := ⟨w.heap.size, 0, none⟩) (v := .int .i64 i) (by simp [go_sem])
      have x1 := cellB hb1 (a := ⟨w.heap.size, 1, none⟩) (v := .int .i64 j) (by simp [go_sem])
      have B1 : Below w.heap.size w w1 := btr ((Below.refl _ _).alloc (Nat.le_refl _) _) hb1
      simp only [hl]
      go_wp2_with fail
      refine (CheckClash_c _ _ _ _ _ _ _ _ (h.below B1 (Nat.le_refl _)) hn).mono ?_
      rintro e w2 ⟨rfl, hb2⟩
      have B2 : Below w.heap.size w w2 := btr B1 hb2
      have x0 := cellB hb2 x0
      have x1 := cellB hb2 x1
      go_wp2_with fail
      refine (rCheckClash_c _ _ _ _ _ _ _ _ (h.below B2 (Nat.le_refl _)) hn).mono ?_
      rintro e w3 ⟨rfl, hb3⟩
      have B3 : Below w.heap.size w w3 := btr B2 hb3
      have x0 := cellB hb3 x0
      have x1 := cellB hb3 x1
      go_wp2_with fail
      refine (Agree_c _ _ _ _ _ _ (h.below B3 (Nat.le_refl _))).mono ?_
      rintro e w4 ⟨rfl, hb4⟩
      have B4 : Below w.heap.size w w4 := btr B3 hb4
      have x0 := cellB hb4 x0
      have x1 := cellB hb4 x1
      rw [E1.out]
      simp only [e2]
      go_wp2_with fail
      refine (CheckClash_c _ _ _ _ _ _ _ _ (h.below B4 (Nat.le_refl _)) hn).mono ?_
      rintro e w5 ⟨rfl, hb5⟩
      have B5 : Below w.heap.size w w5 := btr B4 hb5
      have x0 := cellB hb5 x0
      have x1 := cellB hb5 x1
      rw [HCM.out]
      go_wp2_with fail
      refine (known_c _).mono ?_
      rintro e w6 ⟨rfl, hb6⟩
      have B6 : Below w.heap.size w w6 := btr B5 hb6
      have x0 := cellB hb6 x0
      have x1 := cellB hb6 x1
      go_wp2_with fail
      go_ret
      exact ⟨rfl, B6⟩
    · have hne : (ccErr L r i j != 0) = true := by simp [hk]
      clear hk
      go_enter Try.func13, Try.ntmps13
      go_wp2_with fail
      refine (Long_c _ _ _ _).mono ?_
      rintro e w1 ⟨rfl, hb1⟩
      have x0 := cellB hb1 (a := ⟨w.heap.size, 0, none⟩) (v := .int .i64 i) (by simp [go_sem])
      have x1 := cellB hb1 (a := ⟨w.heap.size, 1, none⟩) (v := .int .i64 j) (by simp [go_sem])
      have B1 : Below w.heap.size w w1 := btr ((Below.refl _ _).alloc (Nat.le_refl _) _) hb1
      simp only [hl]
      go_wp2_with fail
      refine (CheckClash_c _ _ _ _ _ _ _ _ (h.below B1 (Nat.le_refl _)) hn).mono ?_
      rintro e w2 ⟨rfl, hb2⟩
      have B2 : Below w.heap.size w w2 := btr B1 hb2
      have x0 := cellB hb2 x0
      have x1 := cellB hb2 x1
      go_wp2_with fail
      refine (rCheckClash_c _ _ _ _ _ _ _ _ (h.below B2 (Nat.le_refl _)) hn).mono ?_
      rintro e w3 ⟨rfl, hb3⟩
      have B3 : Below w.heap.size w w3 := btr B2 hb3
      have x0 := cellB hb3 x0
      have x1 := cellB hb3 x1
      go_wp2_with fail
      refine (Agree_c _ _ _ _ _ _ (h.below B3 (Nat.le_refl _))).mono ?_
      rintro e w4 ⟨rfl, hb4⟩
      have B4 : Below w.heap.size w w4 := btr B3 hb4
      have x0 := cellB hb4 x0
      have x1 := cellB hb4 x1
      go_wp2_with fail
      refine (CheckClash_c _ _ _ _ _ _ _ _ (h.below B4 (Nat.le_refl _)) hn).mono ?_
      rintro e w5 ⟨rfl, hb5⟩
      have B5 : Below w.heap.size w w5 := btr B4 hb5
      have x0 := cellB hb5 x0
      have x1 := cellB hb5 x1
      rw [HCM.out]
      go_wp2_with fail
      refine (known_c _).mono ?_
      rintro e w6 ⟨rfl, hb6⟩
      have B6 : Below w.heap.size w w6 := btr B5 hb6
      have x0 := cellB hb6 x0
      have x1 := cellB hb6 x1
      go_wp2_with fail
      go_ret
      exact ⟨rfl, B6⟩
end Go.Proofs.Ytgbdcemlnklmoaa
