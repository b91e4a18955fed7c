/- DriftAgrees: the walk. -/
import Derived.Test.YtgbdcemlnklmoaaP
namespace Go.Proofs.Ytgbdcemlnklmoaa
open Go.RowKit Go.Sort
set_option maxRecDepth 100000 in
set_option maxHeartbeats 1600000 in
theorem agrees_w (a : Option Addr) (n c : Nat) (L : List Rd) (r : Int) (w : World) (h : SlO w a n L) (_hc : n ≤ c) (_hm : c ≤ maxLen) :
    Calls Try.prog 6 #[.slice a n c, .int .i64 r] w fun e w' => e = .returned (.bool true) ∧ Below w.heap.size w w' := by
  by_cases hl : longB n = true
  · go_enter Try.func6, Try.ntmps6
    go_wp2_with fail
    refine (Long_c _ _ _ _).mono ?_
    rintro e w1 ⟨rfl, hb1⟩
    have B1 : Below w.heap.size w w1 := hb1
    simp only [hl]
    go_wp2_with fail
    refine (known_c _).mono ?_
    rintro e w2 ⟨rfl, hb2⟩
    have B2 : Below w.heap.size w w2 := btr B1 hb2
    go_wp2_with fail
    go_ret
    exact ⟨rfl, B2⟩
  · replace hl : longB n = false := by simpa using hl
    have hx : ((rErr L r != 0) = true) ∨ ((rErr L r != 0) = false ∧ ((aOk L r = true ∧ (cO L r).isSome = false) ∨ (aOk L r = false ∧ (cO L r).isSome = true))) := by
      by_cases h0 : rErr L r = 0
      · refine .inr ⟨by simp [h0], ?_⟩
        have := aOk_cO h0
        cases hc : (cO L r).isSome
        · exact .inl ⟨by rw [this, hc]; rfl, rfl⟩
        · exact .inr ⟨by rw [this, hc]; rfl, rfl⟩
      · exact .inl (by simpa using h0)
    rcases hx with hx | ⟨hx, ⟨q1, q2⟩ | ⟨q1, q2⟩⟩
    · go_enter Try.func6, Try.ntmps6
      go_wp2_with fail
      refine (Long_c _ _ _ _).mono ?_
      rintro e w1 ⟨rfl, hb1⟩
      have B1 : Below w.heap.size w w1 := hb1
      simp only [hl]
      go_wp2_with fail
      refine (Agree_c _ _ _ _ _ _ (h.below B1 (Nat.le_refl _))).mono ?_
      rintro e w2 ⟨rfl, hb2⟩
      have B2 : Below w.heap.size w w2 := btr B1 hb2
      go_wp2_with fail
      refine (rAgree_c _ _ _ _ _ _ (h.below B2 (Nat.le_refl _))).mono ?_
      rintro e w3 ⟨rfl, hb3⟩
      have B3 : Below w.heap.size w w3 := btr B2 hb3
      go_wp2_with fail
      refine (Clash_c _ _ _ _ _ _ (h.below B3 (Nat.le_refl _))).mono ?_
      rintro e w4 ⟨rfl, hb4⟩
      have B4 : Below w.heap.size w w4 := btr B3 hb4
      go_wp2_with fail
      refine (rClash_c _ _ _ _ _ _ (h.below B4 (Nat.le_refl _))).mono ?_
      rintro e w5 ⟨rfl, hb5⟩
      have B5 : Below w.heap.size w w5 := btr B4 hb5
      go_wp2_with fail
      refine (validate_c _ _ _ _ _ (h.below B5 (Nat.le_refl _))).mono ?_
      rintro e w6 ⟨rfl, hb6⟩
      have B6 : Below w.heap.size w w6 := btr B5 hb6
      go_wp2_with fail
      refine (rvalidate_c _ _ _ _ _ (h.below B6 (Nat.le_refl _))).mono ?_
      rintro e w7 ⟨rfl, hb7⟩
      have B7 : Below w.heap.size w w7 := btr B6 hb7
      go_wp2_with fail
      refine (known_c _).mono ?_
      rintro e w8 ⟨rfl, hb8⟩
      have B8 : Below w.heap.size w w8 := btr B7 hb8
      go_wp2_with fail
      go_ret
      exact ⟨rfl, B8⟩
    · go_enter Try.func6, Try.ntmps6
      go_wp2_with fail
      refine (Long_c _ _ _ _).mono ?_
      rintro e w1 ⟨rfl, hb1⟩
      have B1 : Below w.heap.size w w1 := hb1
      simp only [hl]
      go_wp2_with fail
      refine (Agree_c _ _ _ _ _ _ (h.below B1 (Nat.le_refl _))).mono ?_
      rintro e w2 ⟨rfl, hb2⟩
      have B2 : Below w.heap.size w w2 := btr B1 hb2
      simp only [q1]
      go_wp2_with fail
      refine (rAgree_c _ _ _ _ _ _ (h.below B2 (Nat.le_refl _))).mono ?_
      rintro e w3 ⟨rfl, hb3⟩
      have B3 : Below w.heap.size w w3 := btr B2 hb3
      simp only [q1]
      go_wp2_with fail
      refine (Clash_c _ _ _ _ _ _ (h.below B3 (Nat.le_refl _))).mono ?_
      rintro e w4 ⟨rfl, hb4⟩
      have B4 : Below w.heap.size w w4 := btr B3 hb4
      simp only [q2]
      go_wp2_with fail
      refine (rClash_c _ _ _ _ _ _ (h.below B4 (Nat.le_refl _))).mono ?_
      rintro e w5 ⟨rfl, hb5⟩
      have B5 : Below w.heap.size w w5 := btr B4 hb5
      simp only [q2]
      go_wp2_with fail
      refine (validate_c _ _ _ _ _ (h.below B5 (Nat.le_refl _))).mono ?_
      rintro e w6 ⟨rfl, hb6⟩
      have B6 : Below w.heap.size w w6 := btr B5 hb6
      go_wp2_with fail
      refine (rvalidate_c _ _ _ _ _ (h.below B6 (Nat.le_refl _))).mono ?_
      rintro e w7 ⟨rfl, hb7⟩
      have B7 : Below w.heap.size w w7 := btr B6 hb7
      go_wp2_with fail
      refine (known_c _).mono ?_
      rintro e w8 ⟨rfl, hb8⟩
      have B8 : Below w.heap.size w w8 := btr B7 hb8
      go_wp2_with fail
      go_ret
      exact ⟨rfl, B8⟩
    · go_enter Try.func6, Try.ntmps6
      go_wp2_with fail
      refine (Long_c _ _ _ _).mono ?_
      rintro e w1 ⟨rfl, hb1⟩
      have B1 : Below w.heap.size w w1 := hb1
      simp only [hl]
      go_wp2_with fail
      refine (Agree_c _ _ _ _ _ _ (h.below B1 (Nat.le_refl _))).mono ?_
      rintro e w2 ⟨rfl, hb2⟩
      have B2 : Below w.heap.size w w2 := btr B1 hb2
      simp only [q1]
      go_wp2_with fail
      refine (rAgree_c _ _ _ _ _ _ (h.below B2 (Nat.le_refl _))).mono ?_
      rintro e w3 ⟨rfl, hb3⟩
      have B3 : Below w.heap.size w w3 := btr B2 hb3
      simp only [q1]
      go_wp2_with fail
      refine (Clash_c _ _ _ _ _ _ (h.below B3 (Nat.le_refl _))).mono ?_
      rintro e w4 ⟨rfl, hb4⟩
      have B4 : Below w.heap.size w w4 := btr B3 hb4
      simp only [q2]
      go_wp2_with fail
      refine (rClash_c _ _ _ _ _ _ (h.below B4 (Nat.le_refl _))).mono ?_
      rintro e w5 ⟨rfl, hb5⟩
      have B5 : Below w.heap.size w w5 := btr B4 hb5
      simp only [q2]
      go_wp2_with fail
      refine (validate_c _ _ _ _ _ (h.below B5 (Nat.le_refl _))).mono ?_
      rintro e w6 ⟨rfl, hb6⟩
      have B6 : Below w.heap.size w w6 := btr B5 hb6
      go_wp2_with fail
      refine (rvalidate_c _ _ _ _ _ (h.below B6 (Nat.le_refl _))).mono ?_
      rintro e w7 ⟨rfl, hb7⟩
      have B7 : Below w.heap.size w w7 := btr B6 hb7
      go_wp2_with fail
      refine (known_c _).mono ?_
      rintro e w8 ⟨rfl, hb8⟩
      have B8 : Below w.heap.size w w8 := btr B7 hb8
      go_wp2_with fail
      go_ret
      exact ⟨rfl, B8⟩
end Go.Proofs.Ytgbdcemlnklmoaa
