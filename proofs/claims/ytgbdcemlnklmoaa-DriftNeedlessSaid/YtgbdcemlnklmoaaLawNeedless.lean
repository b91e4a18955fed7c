/- DriftNeedless: the walk. -/
import Derived.Test.YtgbdcemlnklmoaaNd
import Derived.Test.YtgbdcemlnklmoaaK
namespace Go.Proofs.Ytgbdcemlnklmoaa
open Go.RowKit Go.Sort
set_option maxRecDepth 100000 in
set_option maxHeartbeats 3200000 in
theorem needless_w (a : Option Addr) (n c : Nat) (L : List Rd) (r : Int) (w : World) (h : SlO w a n L) (hc : n ≤ c) (hm : c ≤ maxLen) :
    Calls Try.prog 16 #[.slice a n c, .int .i64 r] w fun e w' => e = .returned (.bool true) ∧ Below w.heap.size w w' := by
  have selfe := fun x : Int => (show (x == x) = true by simp)
  by_cases hl : longB n = true
  · go_enter Try.func16, Try.ntmps16
    go_wp2_with fail
    refine (Long_c _ _ _ _).mono ?_
    rintro e w1 ⟨rfl, hb1⟩
    have B1 : Below w.heap.size w w1 := hb1
    simp only [hl]
    go_wp2_with fail
    refine (known_c _).mono ?_
    rintro e w2 ⟨rfl, hb2⟩
    have B2 : Below w.heap.size w w2 := btr B1 hb2
    go_wp2_with fail
    go_ret
    exact ⟨rfl, B2⟩
  · replace hl : longB n = false := by simpa using hl
    go_enter Try.func16, Try.ntmps16
    go_wp2_with fail
    refine (Long_c _ _ _ _).mono ?_
    rintro e w1 ⟨rfl, hb1⟩
    have B1 : Below w.heap.size w w1 := hb1
    simp only [hl]
    go_wp2_with fail
    refine (Needless_c _ _ _ _ _ _ (h.below B1 (Nat.le_refl _)) hc hm).mono ?_
    rintro e w2 ⟨v2, rfl, hv2, hb2⟩
    have B2 : Below w.heap.size w w2 := btr B1 hb2
    obtain ⟨a2, c2, hvv2, hs2, lc2, lm2, -⟩ := hv2
    rw [hvv2]
    clear hvv2
    go_wp2_with fail
    refine (rNeedless_c _ _ _ _ _ _ (h.below B2 (Nat.le_refl _)) hc hm).mono ?_
    rintro e w3 ⟨v3, rfl, hv3, hb3⟩
    have B3 : Below w.heap.size w w3 := btr B2 hb3
    replace hs2 := hs2.below hb3 (Nat.le_refl _)
    obtain ⟨a3, c3, hvv3, hs3, lc3, lm3, -⟩ := hv3
    rw [hvv3]
    clear hvv3
    go_wp2_with fail
    refine (SameInts_c _ _ _ _ _ _ _ hs2 hs3 (Nat.le_trans lc2 (Nat.le_trans lm2 (by decide)))).mono ?_
    rintro e w4 ⟨rfl, hb4⟩
    have B4 : Below w.heap.size w w4 := btr B3 hb4
    replace hs2 := hs2.below hb4 (Nat.le_refl _)
    replace hs3 := hs3.below hb4 (Nat.le_refl _)
    go_wp2_with fail
    refine (known_c _).mono ?_
    rintro e w5 ⟨rfl, hb5⟩
    have B5 : Below w.heap.size w w5 := btr B4 hb5
    go_wp2_with fail
    go_ret
    exact ⟨rfl, B5⟩
end Go.Proofs.Ytgbdcemlnklmoaa
