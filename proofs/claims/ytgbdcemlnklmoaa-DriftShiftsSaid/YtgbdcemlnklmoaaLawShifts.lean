/- DriftShifts: the walk. -/
import Derived.Test.YtgbdcemlnklmoaaH
import Derived.Test.YtgbdcemlnklmoaaP
namespace Go.Proofs.Ytgbdcemlnklmoaa
open Go.RowKit Go.Sort
theorem sh_err {L : List Rd} {b r : Int} (h : shErr L b = 0) : vErr L = 0 ∧ aOk (shR L b) r = aOk L r ∧ rErr (shR L b) r = rErr L r := by
  have h2 := (shErr_zero.1 h).1
  have h3 : shR L b = shiftL L b := if_pos h
  rw [h3]
  exact ⟨vErr_zero.2 h2, shift_agree h⟩
theorem op_err {L : List Rd} {r : Int} (h : vErr L = 0) : aOk (opR L) r = aOk L r ∧ rErr (opR L) r = rErr L r := by
  have h3 : opR L = oppL L := if_pos h
  rw [h3]
  exact opp_agree (vErr_zero.1 h)

set_option maxRecDepth 100000 in
set_option maxHeartbeats 3200000 in
theorem shifts_w (a : Option Addr) (n c : Nat) (L : List Rd) (r b : Int) (w : World) (h : SlO w a n L) (hc : n ≤ c) (hm : c ≤ maxLen) :
    Calls Try.prog 14 #[.slice a n c, .int .i64 r, .int .i64 b] w fun e w' => e = .returned (.bool true) ∧ Below w.heap.size w w' := by
  have _ := hc
  have _ := hm
  have self := fun x : Int => (show (x != x) = false by simp)
  have selfe := fun x : Int => (show (x == x) = true by simp)
  by_cases hl : longB n = true
  · go_enter Try.func14, Try.ntmps14
    go_wp2_with fail
    refine (Long_c _ _ _ _).mono ?_
    rintro e w1 ⟨rfl, hb1⟩
    have B1 : Below w.heap.size w w1 := hb1
    simp only [hl]
    go_wp2_with fail
    refine (known_c _).mono ?_
    rintro e w2 ⟨rfl, hb2⟩
    have B2 : Below w.heap.size w w2 := btr B1 hb2
    go_wp2_with fail
    go_ret
    exact ⟨rfl, B2⟩
  · replace hl : longB n = false := by simpa using hl
    by_cases hk : vErr L = 0
    · have hne : (vErr L != 0) = false := by simp [hk]
      have HO := Lib.hid (op_err (r := r) hk)
      clear hk
      by_cases hs : shErr L b = 0
      · have hse : (shErr L b != 0) = false := by simp [hs]
        have HSH := Lib.hid (sh_err (r := r) hs).2
        clear hs
        go_enter Try.func14, Try.ntmps14
        go_wp2_with fail
        refine (Long_c _ _ _ _).mono ?_
        rintro e w1 ⟨rfl, hb1⟩
        have B1 : Below w.heap.size w w1 := hb1
        simp only [hl]
        go_wp2_with fail
        refine (Shift_c _ _ _ _ _ _ (h.below B1 (Nat.le_refl _))).mono ?_
        rintro e w2 ⟨v2, rfl, hv2, hb2⟩
        have B2 : Below w.heap.size w w2 := btr B1 hb2
        obtain ⟨a2, c2, hvv2, hs2, lc2, lm2, -⟩ := hv2
        rw [hvv2]
        clear hvv2
        go_wp2_with fail
        refine (rShift_c _ _ _ _ _ _ (h.below B2 (Nat.le_refl _))).mono ?_
        rintro e w3 ⟨v3, rfl, hv3, hb3⟩
        have B3 : Below w.heap.size w w3 := btr B2 hb3
        replace hs2 := hs2.below hb3 (Nat.le_refl _)
        obtain ⟨a3, c3, hvv3, hs3, lc3, lm3, -⟩ := hv3
        rw [hvv3]
        clear hvv3
        go_wp2_with fail
        refine (Opposite_c _ _ _ _ _ (h.below B3 (Nat.le_refl _))).mono ?_
        rintro e w4 ⟨v4, rfl, hv4, hb4⟩
        have B4 : Below w.heap.size w w4 := btr B3 hb4
        replace hs2 := hs2.below hb4 (Nat.le_refl _)
        replace hs3 := hs3.below hb4 (Nat.le_refl _)
        obtain ⟨a4, c4, hvv4, hs4, lc4, lm4, -⟩ := hv4
        rw [hvv4]
        clear hvv4
        go_wp2_with fail
        refine (rOpposite_c _ _ _ _ _ (h.below B4 (Nat.le_refl _))).mono ?_
        rintro e w5 ⟨v5, rfl, hv5, hb5⟩
        have B5 : Below w.heap.size w w5 := btr B4 hb5
        replace hs2 := hs2.below hb5 (Nat.le_refl _)
        replace hs3 := hs3.below hb5 (Nat.le_refl _)
        replace hs4 := hs4.below hb5 (Nat.le_refl _)
        obtain ⟨a5, c5, hvv5, hs5, lc5, lm5, -⟩ := hv5
        rw [hvv5]
        clear hvv5
        go_wp2_with fail
        refine (Same_c _ _ _ _ _ _ _ _ _ hs2 hs3 (Nat.le_trans lc2 (Nat.le_trans lm2 (by decide)))).mono ?_
        rintro e w6 ⟨rfl, hb6⟩
        have B6 : Below w.heap.size w w6 := btr B5 hb6
        rw [sameB_self]
        replace hs2 := hs2.below hb6 (Nat.le_refl _)
        replace hs3 := hs3.below hb6 (Nat.le_refl _)
        replace hs4 := hs4.below hb6 (Nat.le_refl _)
        replace hs5 := hs5.below hb6 (Nat.le_refl _)
        go_wp2_with fail
        refine (Same_c _ _ _ _ _ _ _ _ _ hs4 hs5 (Nat.le_trans lc4 (Nat.le_trans lm4 (by decide)))).mono ?_
        rintro e w7 ⟨rfl, hb7⟩
        have B7 : Below w.heap.size w w7 := btr B6 hb7
        rw [sameB_self]
        replace hs2 := hs2.below hb7 (Nat.le_refl _)
        replace hs3 := hs3.below hb7 (Nat.le_refl _)
        replace hs4 := hs4.below hb7 (Nat.le_refl _)
        replace hs5 := hs5.below hb7 (Nat.le_refl _)
        go_wp2_with fail
        refine (Agree_c _ _ _ _ _ _ (h.below B7 (Nat.le_refl _))).mono ?_
        rintro e w8 ⟨rfl, hb8⟩
        have B8 : Below w.heap.size w w8 := btr B7 hb8
        replace hs2 := hs2.below hb8 (Nat.le_refl _)
        replace hs3 := hs3.below hb8 (Nat.le_refl _)
        replace hs4 := hs4.below hb8 (Nat.le_refl _)
        replace hs5 := hs5.below hb8 (Nat.le_refl _)
        go_wp2_with fail
        refine (Agree_c _ _ _ _ _ _ hs2).mono ?_
        rintro e w9 ⟨rfl, hb9⟩
        have B9 : Below w.heap.size w w9 := btr B8 hb9
        rw [HSH.out.1, HSH.out.2]
        replace hs2 := hs2.below hb9 (Nat.le_refl _)
        replace hs3 := hs3.below hb9 (Nat.le_refl _)
        replace hs4 := hs4.below hb9 (Nat.le_refl _)
        replace hs5 := hs5.below hb9 (Nat.le_refl _)
        go_wp2_with fail
        refine (Agree_c _ _ _ _ _ _ hs4).mono ?_
        rintro e w10 ⟨rfl, hb10⟩
        have B10 : Below w.heap.size w w10 := btr B9 hb10
        rw [HO.out.1, HO.out.2]
        have selfb : (aOk L r == aOk L r) = true := by simp
        replace hs2 := hs2.below hb10 (Nat.le_refl _)
        replace hs3 := hs3.below hb10 (Nat.le_refl _)
        replace hs4 := hs4.below hb10 (Nat.le_refl _)
        replace hs5 := hs5.below hb10 (Nat.le_refl _)
        go_wp2_with fail
        refine (known_c _).mono ?_
        rintro e w11 ⟨rfl, hb11⟩
        have B11 : Below w.heap.size w w11 := btr B10 hb11
        go_wp2_with fail
        go_ret
        exact ⟨rfl, B11⟩
      · have hse : (shErr L b != 0) = true := by simp [hs]
        clear hs
        go_enter Try.func14, Try.ntmps14
        go_wp2_with fail
        refine (Long_c _ _ _ _).mono ?_
        rintro e w1 ⟨rfl, hb1⟩
        have B1 : Below w.heap.size w w1 := hb1
        simp only [hl]
        go_wp2_with fail
        refine (Shift_c _ _ _ _ _ _ (h.below B1 (Nat.le_refl _))).mono ?_
        rintro e w2 ⟨v2, rfl, hv2, hb2⟩
        have B2 : Below w.heap.size w w2 := btr B1 hb2
        obtain ⟨a2, c2, hvv2, hs2, lc2, lm2, -⟩ := hv2
        rw [hvv2]
        clear hvv2
        go_wp2_with fail
        refine (rShift_c _ _ _ _ _ _ (h.below B2 (Nat.le_refl _))).mono ?_
        rintro e w3 ⟨v3, rfl, hv3, hb3⟩
        have B3 : Below w.heap.size w w3 := btr B2 hb3
        replace hs2 := hs2.below hb3 (Nat.le_refl _)
        obtain ⟨a3, c3, hvv3, hs3, lc3, lm3, -⟩ := hv3
        rw [hvv3]
        clear hvv3
        go_wp2_with fail
        refine (Opposite_c _ _ _ _ _ (h.below B3 (Nat.le_refl _))).mono ?_
        rintro e w4 ⟨v4, rfl, hv4, hb4⟩
        have B4 : Below w.heap.size w w4 := btr B3 hb4
        replace hs2 := hs2.below hb4 (Nat.le_refl _)
        replace hs3 := hs3.below hb4 (Nat.le_refl _)
        obtain ⟨a4, c4, hvv4, hs4, lc4, lm4, -⟩ := hv4
        rw [hvv4]
        clear hvv4
        go_wp2_with fail
        refine (rOpposite_c _ _ _ _ _ (h.below B4 (Nat.le_refl _))).mono ?_
        rintro e w5 ⟨v5, rfl, hv5, hb5⟩
        have B5 : Below w.heap.size w w5 := btr B4 hb5
        replace hs2 := hs2.below hb5 (Nat.le_refl _)
        replace hs3 := hs3.below hb5 (Nat.le_refl _)
        replace hs4 := hs4.below hb5 (Nat.le_refl _)
        obtain ⟨a5, c5, hvv5, hs5, lc5, lm5, -⟩ := hv5
        rw [hvv5]
        clear hvv5
        go_wp2_with fail
        refine (Same_c _ _ _ _ _ _ _ _ _ hs2 hs3 (Nat.le_trans lc2 (Nat.le_trans lm2 (by decide)))).mono ?_
        rintro e w6 ⟨rfl, hb6⟩
        have B6 : Below w.heap.size w w6 := btr B5 hb6
        rw [sameB_self]
        replace hs2 := hs2.below hb6 (Nat.le_refl _)
        replace hs3 := hs3.below hb6 (Nat.le_refl _)
        replace hs4 := hs4.below hb6 (Nat.le_refl _)
        replace hs5 := hs5.below hb6 (Nat.le_refl _)
        go_wp2_with fail
        refine (Same_c _ _ _ _ _ _ _ _ _ hs4 hs5 (Nat.le_trans lc4 (Nat.le_trans lm4 (by decide)))).mono ?_
        rintro e w7 ⟨rfl, hb7⟩
        have B7 : Below w.heap.size w w7 := btr B6 hb7
        rw [sameB_self]
        replace hs2 := hs2.below hb7 (Nat.le_refl _)
        replace hs3 := hs3.below hb7 (Nat.le_refl _)
        replace hs4 := hs4.below hb7 (Nat.le_refl _)
        replace hs5 := hs5.below hb7 (Nat.le_refl _)
        go_wp2_with fail
        refine (Agree_c _ _ _ _ _ _ (h.below B7 (Nat.le_refl _))).mono ?_
        rintro e w8 ⟨rfl, hb8⟩
        have B8 : Below w.heap.size w w8 := btr B7 hb8
        replace hs2 := hs2.below hb8 (Nat.le_refl _)
        replace hs3 := hs3.below hb8 (Nat.le_refl _)
        replace hs4 := hs4.below hb8 (Nat.le_refl _)
        replace hs5 := hs5.below hb8 (Nat.le_refl _)
        go_wp2_with fail
        refine (Agree_c _ _ _ _ _ _ hs2).mono ?_
        rintro e w9 ⟨rfl, hb9⟩
        have B9 : Below w.heap.size w w9 := btr B8 hb9
        replace hs2 := hs2.below hb9 (Nat.le_refl _)
        replace hs3 := hs3.below hb9 (Nat.le_refl _)
        replace hs4 := hs4.below hb9 (Nat.le_refl _)
        replace hs5 := hs5.below hb9 (Nat.le_refl _)
        go_wp2_with fail
        refine (Agree_c _ _ _ _ _ _ hs4).mono ?_
        rintro e w10 ⟨rfl, hb10⟩
        have B10 : Below w.heap.size w w10 := btr B9 hb10
        rw [HO.out.1, HO.out.2]
        have selfb : (aOk L r == aOk L r) = true := by simp
        replace hs2 := hs2.below hb10 (Nat.le_refl _)
        replace hs3 := hs3.below hb10 (Nat.le_refl _)
        replace hs4 := hs4.below hb10 (Nat.le_refl _)
        replace hs5 := hs5.below hb10 (Nat.le_refl _)
        go_wp2_with fail
        refine (known_c _).mono ?_
        rintro e w11 ⟨rfl, hb11⟩
        have B11 : Below w.heap.size w w11 := btr B10 hb11
        go_wp2_with fail
        go_ret
        exact ⟨rfl, B11⟩
    · have hne : (vErr L != 0) = true := by simp [hk]
      clear hk
      go_enter Try.func14, Try.ntmps14
      go_wp2_with fail
      refine (Long_c _ _ _ _).mono ?_
      rintro e w1 ⟨rfl, hb1⟩
      have B1 : Below w.heap.size w w1 := hb1
      simp only [hl]
      go_wp2_with fail
      refine (Shift_c _ _ _ _ _ _ (h.below B1 (Nat.le_refl _))).mono ?_
      rintro e w2 ⟨v2, rfl, hv2, hb2⟩
      have B2 : Below w.heap.size w w2 := btr B1 hb2
      obtain ⟨a2, c2, hvv2, hs2, lc2, lm2, -⟩ := hv2
      rw [hvv2]
      clear hvv2
      go_wp2_with fail
      refine (rShift_c _ _ _ _ _ _ (h.below B2 (Nat.le_refl _))).mono ?_
      rintro e w3 ⟨v3, rfl, hv3, hb3⟩
      have B3 : Below w.heap.size w w3 := btr B2 hb3
      replace hs2 := hs2.below hb3 (Nat.le_refl _)
      obtain ⟨a3, c3, hvv3, hs3, lc3, lm3, -⟩ := hv3
      rw [hvv3]
      clear hvv3
      go_wp2_with fail
      refine (Opposite_c _ _ _ _ _ (h.below B3 (Nat.le_refl _))).mono ?_
      rintro e w4 ⟨v4, rfl, hv4, hb4⟩
      have B4 : Below w.heap.size w w4 := btr B3 hb4
      replace hs2 := hs2.below hb4 (Nat.le_refl _)
      replace hs3 := hs3.below hb4 (Nat.le_refl _)
      obtain ⟨a4, c4, hvv4, hs4, lc4, lm4, -⟩ := hv4
      rw [hvv4]
      clear hvv4
      go_wp2_with fail
      refine (rOpposite_c _ _ _ _ _ (h.below B4 (Nat.le_refl _))).mono ?_
      rintro e w5 ⟨v5, rfl, hv5, hb5⟩
      have B5 : Below w.heap.size w w5 := btr B4 hb5
      replace hs2 := hs2.below hb5 (Nat.le_refl _)
      replace hs3 := hs3.below hb5 (Nat.le_refl _)
      replace hs4 := hs4.below hb5 (Nat.le_refl _)
      obtain ⟨a5, c5, hvv5, hs5, lc5, lm5, -⟩ := hv5
      rw [hvv5]
      clear hvv5
      go_wp2_with fail
      refine (Same_c _ _ _ _ _ _ _ _ _ hs2 hs3 (Nat.le_trans lc2 (Nat.le_trans lm2 (by decide)))).mono ?_
      rintro e w6 ⟨rfl, hb6⟩
      have B6 : Below w.heap.size w w6 := btr B5 hb6
      rw [sameB_self]
      replace hs2 := hs2.below hb6 (Nat.le_refl _)
      replace hs3 := hs3.below hb6 (Nat.le_refl _)
      replace hs4 := hs4.below hb6 (Nat.le_refl _)
      replace hs5 := hs5.below hb6 (Nat.le_refl _)
      go_wp2_with fail
      refine (Same_c _ _ _ _ _ _ _ _ _ hs4 hs5 (Nat.le_trans lc4 (Nat.le_trans lm4 (by decide)))).mono ?_
      rintro e w7 ⟨rfl, hb7⟩
      have B7 : Below w.heap.size w w7 := btr B6 hb7
      rw [sameB_self]
      replace hs2 := hs2.below hb7 (Nat.le_refl _)
      replace hs3 := hs3.below hb7 (Nat.le_refl _)
      replace hs4 := hs4.below hb7 (Nat.le_refl _)
      replace hs5 := hs5.below hb7 (Nat.le_refl _)
      go_wp2_with fail
      refine (Agree_c _ _ _ _ _ _ (h.below B7 (Nat.le_refl _))).mono ?_
      rintro e w8 ⟨rfl, hb8⟩
      have B8 : Below w.heap.size w w8 := btr B7 hb8
      replace hs2 := hs2.below hb8 (Nat.le_refl _)
      replace hs3 := hs3.below hb8 (Nat.le_refl _)
      replace hs4 := hs4.below hb8 (Nat.le_refl _)
      replace hs5 := hs5.below hb8 (Nat.le_refl _)
      go_wp2_with fail
      refine (Agree_c _ _ _ _ _ _ hs2).mono ?_
      rintro e w9 ⟨rfl, hb9⟩
      have B9 : Below w.heap.size w w9 := btr B8 hb9
      replace hs2 := hs2.below hb9 (Nat.le_refl _)
      replace hs3 := hs3.below hb9 (Nat.le_refl _)
      replace hs4 := hs4.below hb9 (Nat.le_refl _)
      replace hs5 := hs5.below hb9 (Nat.le_refl _)
      go_wp2_with fail
      refine (Agree_c _ _ _ _ _ _ hs4).mono ?_
      rintro e w10 ⟨rfl, hb10⟩
      have B10 : Below w.heap.size w w10 := btr B9 hb10
      replace hs2 := hs2.below hb10 (Nat.le_refl _)
      replace hs3 := hs3.below hb10 (Nat.le_refl _)
      replace hs4 := hs4.below hb10 (Nat.le_refl _)
      replace hs5 := hs5.below hb10 (Nat.le_refl _)
      go_wp2_with fail
      refine (known_c _).mono ?_
      rintro e w11 ⟨rfl, hb11⟩
      have B11 : Below w.heap.size w w11 := btr B10 hb11
      go_wp2_with fail
      go_ret
      exact ⟨rfl, B11⟩
end Go.Proofs.Ytgbdcemlnklmoaa
