/- DriftTight: the walk. -/
import Derived.Test.YtgbdcemlnklmoaaQ
import Derived.Test.YtgbdcemlnklmoaaK
namespace Go.Proofs.Ytgbdcemlnklmoaa
open Go.RowKit Go.Sort
set_option maxRecDepth 100000 in
set_option maxHeartbeats 3200000 in
theorem tight_w (a : Option Addr) (n c : Nat) (L : List Rd) (r : Int) (w : World) (h : SlO w a n L) (hc : n ≤ c) (hm : c ≤ maxLen) :
    Calls Try.prog 9 #[.slice a n c, .int .i64 r] w fun e w' => e = .returned (.bool true) ∧ Below w.heap.size w w' := by
  have self := fun x : Int => (show (x != x) = false by simp)
  have selfb := fun x : Bool => (show (x != x) = false by simp)
  by_cases hl : longB n = true
  · go_enter Try.func9, Try.ntmps9
    go_wp2_with fail
    refine (Long_c _ _ _ _).mono ?_
    rintro e w1 ⟨rfl, hb1⟩
    have B1 : Below w.heap.size w w1 := hb1
    simp only [hl]
    go_wp2_with fail
    refine (known_c _).mono ?_
    rintro e w2 ⟨rfl, hb2⟩
    have B2 : Below w.heap.size w w2 := btr B1 hb2
    go_wp2_with fail
    go_ret
    exact ⟨rfl, B2⟩
  · replace hl : longB n = false := by simpa using hl
    by_cases ha : aOk L r = true
    · obtain ⟨f0, f1, f2, f3⟩ := tg_facts ha
      have F1 := Lib.hid f1
      have F2 := Lib.hid f2
      have F3 := Lib.hid f3
      clear f0 f1 f2 f3
      go_enter Try.func9, Try.ntmps9
      go_wp2_with fail
      refine (Long_c _ _ _ _).mono ?_
      rintro e w1 ⟨rfl, hb1⟩
      have B1 : Below w.heap.size w w1 := hb1
      simp only [hl]
      go_wp2_with fail
      refine (Tight_c _ _ _ _ _ _ (h.below B1 (Nat.le_refl _)) hc hm).mono ?_
      rintro e w2 ⟨v2, rfl, hv2, hb2⟩
      have B2 : Below w.heap.size w w2 := btr B1 hb2
      obtain ⟨a2, c2, hvv2, hs2, lc2, lm2, -⟩ := hv2
      rw [hvv2]
      clear hvv2
      simp only [ha]
      go_wp2_with fail
      refine (rTight_c _ _ _ _ _ _ (h.below B2 (Nat.le_refl _)) hc hm).mono ?_
      rintro e w3 ⟨v3, rfl, hv3, hb3⟩
      have B3 : Below w.heap.size w w3 := btr B2 hb3
      replace hs2 := hs2.below hb3 (Nat.le_refl _)
      obtain ⟨a3, c3, hvv3, hs3, lc3, lm3, -⟩ := hv3
      rw [hvv3]
      clear hvv3
      simp only [ha]
      go_wp2_with fail
      refine (Same_c _ _ _ _ _ _ _ _ _ hs2 hs3 (Nat.le_trans lc2 (Nat.le_trans lm2 (by decide)))).mono ?_
      rintro e w4 ⟨rfl, hb4⟩
      have B4 : Below w.heap.size w w4 := btr B3 hb4
      rw [sameB_self]
      replace hs2 := hs2.below hb4 (Nat.le_refl _)
      replace hs3 := hs3.below hb4 (Nat.le_refl _)
      go_wp2_with fail
      refine (Tight_c _ _ _ _ _ _ hs2 lc2 lm2).mono ?_
      rintro e w5 ⟨v5, rfl, hv5, hb5⟩
      have B5 : Below w.heap.size w w5 := btr B4 hb5
      replace hs2 := hs2.below hb5 (Nat.le_refl _)
      replace hs3 := hs3.below hb5 (Nat.le_refl _)
      obtain ⟨a5, c5, hvv5, hs5, lc5, lm5, -⟩ := hv5
      rw [hvv5]
      clear hvv5
      rw [F1.out, F2.out]
      rw [F3.out] at hs5 lc5 ⊢
      go_wp2_with fail
      refine (Same_c _ _ _ _ _ _ _ _ _ hs5 hs2 (Nat.le_trans lc5 (Nat.le_trans lm5 (by decide)))).mono ?_
      rintro e w6 ⟨rfl, hb6⟩
      have B6 : Below w.heap.size w w6 := btr B5 hb6
      rw [sameB_self]
      replace hs2 := hs2.below hb6 (Nat.le_refl _)
      replace hs3 := hs3.below hb6 (Nat.le_refl _)
      replace hs5 := hs5.below hb6 (Nat.le_refl _)
      go_wp2_with fail
      refine (known_c _).mono ?_
      rintro e w7 ⟨rfl, hb7⟩
      have B7 : Below w.heap.size w w7 := btr B6 hb7
      go_wp2_with fail
      go_ret
      exact ⟨rfl, B7⟩
    · replace ha : aOk L r = false := by simpa using ha
      have hlen : ((((tgR L r).length : Nat) : Int) == 0) = true := by unfold tgR; rw [ha]; rfl
      go_enter Try.func9, Try.ntmps9
      go_wp2_with fail
      refine (Long_c _ _ _ _).mono ?_
      rintro e w1 ⟨rfl, hb1⟩
      have B1 : Below w.heap.size w w1 := hb1
      simp only [hl]
      go_wp2_with fail
      refine (Tight_c _ _ _ _ _ _ (h.below B1 (Nat.le_refl _)) hc hm).mono ?_
      rintro e w2 ⟨v2, rfl, hv2, hb2⟩
      have B2 : Below w.heap.size w w2 := btr B1 hb2
      obtain ⟨a2, c2, hvv2, hs2, lc2, lm2, -⟩ := hv2
      rw [hvv2]
      clear hvv2
      simp only [ha]
      go_wp2_with fail
      refine (rTight_c _ _ _ _ _ _ (h.below B2 (Nat.le_refl _)) hc hm).mono ?_
      rintro e w3 ⟨v3, rfl, hv3, hb3⟩
      have B3 : Below w.heap.size w w3 := btr B2 hb3
      replace hs2 := hs2.below hb3 (Nat.le_refl _)
      obtain ⟨a3, c3, hvv3, hs3, lc3, lm3, -⟩ := hv3
      rw [hvv3]
      clear hvv3
      simp only [ha]
      go_wp2_with fail
      refine (Same_c _ _ _ _ _ _ _ _ _ hs2 hs3 (Nat.le_trans lc2 (Nat.le_trans lm2 (by decide)))).mono ?_
      rintro e w4 ⟨rfl, hb4⟩
      have B4 : Below w.heap.size w w4 := btr B3 hb4
      rw [sameB_self]
      replace hs2 := hs2.below hb4 (Nat.le_refl _)
      replace hs3 := hs3.below hb4 (Nat.le_refl _)
      go_wp2_with fail
      refine (known_c _).mono ?_
      rintro e w5 ⟨rfl, hb5⟩
      have B5 : Below w.heap.size w w5 := btr B4 hb5
      go_wp2_with fail
      go_ret
      exact ⟨rfl, B5⟩
end Go.Proofs.Ytgbdcemlnklmoaa
