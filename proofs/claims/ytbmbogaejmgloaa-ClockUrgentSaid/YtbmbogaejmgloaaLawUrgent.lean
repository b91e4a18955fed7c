/- ClockUrgent: the walk. -/
import Derived.Test.YtbmbogaejmgloaaK
namespace Go.Proofs.Ytbmbogaejmgloaa
open Go.RowKit Go.Sort

set_option maxRecDepth 100000 in
set_option maxHeartbeats 3200000 in
theorem urgents_w (a : Option Addr) (n c : Nat) (L : List Jb) (w : World) (h : SlO w a n L) (hc : n ≤ c) (hm : c ≤ maxLen) :
    Calls Try.prog 4 #[.slice a n c] w fun e w' => e = .returned (.bool true) ∧ Below w.heap.size w w' := by
  have _ := hc
  have _ := hm
  have self := fun x : Int => (show (x != x) = false by simp)
  have selfe := fun x : Int => (show (x == x) = true by simp)
  have selfb := fun x : Bool => (show (x != x) = false by simp)
  have selfc := fun x : Bool => (show (x == x) = true by simp)
  cases hl : longB n
  case true =>
    go_enter Try.func4, Try.ntmps4
    go_wp2_with fail
    refine (Long_c _ _ _ _).mono ?_
    rintro e w1 ⟨rfl, hb1⟩
    have B1 : Below w.heap.size w w1 := btr (Below.refl _ _) hb1
    simp only [hl]
    go_wp2_with fail
    refine (known_c _).mono ?_
    rintro e w2 ⟨rfl, hb2⟩
    have B2 : Below w.heap.size w w2 := btr B1 hb2
    go_wp2_with fail
    go_ret
    exact ⟨rfl, B2⟩
  case false =>
    go_enter Try.func4, Try.ntmps4
    go_wp2_with fail
    refine (Long_c _ _ _ _).mono ?_
    rintro e w1 ⟨rfl, hb1⟩
    have B1 : Below w.heap.size w w1 := btr (Below.refl _ _) hb1
    simp only [hl]
    go_wp2_with fail
    refine (Urgent_c _ _ _ _ _ (h.below B1 (Nat.le_refl _))).mono ?_
    rintro e w2 ⟨v2, rfl, hv2, hb2⟩
    have B2 : Below w.heap.size w w2 := btr B1 hb2
    obtain ⟨a2, c2, e2, i2, l2, m2, q2⟩ := hv2
    rw [e2]
    clear e2 q2
    go_wp2_with fail
    refine (rUrgent_c _ _ _ _ _ (h.below B2 (Nat.le_refl _))).mono ?_
    rintro e w3 ⟨v3, rfl, hv3, hb3⟩
    have B3 : Below w.heap.size w w3 := btr B2 hb3
    replace i2 := i2.below hb3 (Nat.le_refl _)
    obtain ⟨a3, c3, e3, i3, l3, m3, q3⟩ := hv3
    rw [e3]
    clear e3 q3
    go_wp2_with fail
    refine (Ends_c _ _ _ _ _ (h.below B3 (Nat.le_refl _))).mono ?_
    rintro e w4 ⟨v4, rfl, hv4, hb4⟩
    have B4 : Below w.heap.size w w4 := btr B3 hb4
    replace i2 := i2.below hb4 (Nat.le_refl _)
    replace i3 := i3.below hb4 (Nat.le_refl _)
    obtain ⟨a4, c4, e4, i4, l4, m4, q4⟩ := hv4
    rw [e4]
    clear e4 q4
    go_wp2_with fail
    refine (rEnds_c _ _ _ _ _ (h.below B4 (Nat.le_refl _))).mono ?_
    rintro e w5 ⟨v5, rfl, hv5, hb5⟩
    have B5 : Below w.heap.size w w5 := btr B4 hb5
    replace i2 := i2.below hb5 (Nat.le_refl _)
    replace i3 := i3.below hb5 (Nat.le_refl _)
    replace i4 := i4.below hb5 (Nat.le_refl _)
    obtain ⟨a5, c5, e5, i5, l5, m5, q5⟩ := hv5
    rw [e5]
    clear e5 q5
    go_wp2_with fail
    refine (SameInts_c _ _ _ _ _ _ _ _ _ i2 i3 (Nat.le_trans l2 (Nat.le_trans m2 (by decide)))).mono ?_
    rintro e w6 ⟨rfl, hb6⟩
    have B6 : Below w.heap.size w w6 := btr B5 hb6
    replace i2 := i2.below hb6 (Nat.le_refl _)
    replace i3 := i3.below hb6 (Nat.le_refl _)
    replace i4 := i4.below hb6 (Nat.le_refl _)
    replace i5 := i5.below hb6 (Nat.le_refl _)
    rw [sameI_self]
    go_wp2_with fail
    refine (SameInts_c _ _ _ _ _ _ _ _ _ i4 i5 (Nat.le_trans l4 (Nat.le_trans m4 (by decide)))).mono ?_
    rintro e w7 ⟨rfl, hb7⟩
    have B7 : Below w.heap.size w w7 := btr B6 hb7
    replace i2 := i2.below hb7 (Nat.le_refl _)
    replace i3 := i3.below hb7 (Nat.le_refl _)
    replace i4 := i4.below hb7 (Nat.le_refl _)
    replace i5 := i5.below hb7 (Nat.le_refl _)
    rw [sameI_self]
    go_wp2_with fail
    refine (known_c _).mono ?_
    rintro e w8 ⟨rfl, hb8⟩
    have B8 : Below w.heap.size w w8 := btr B7 hb8
    replace i2 := i2.below hb8 (Nat.le_refl _)
    replace i3 := i3.below hb8 (Nat.le_refl _)
    replace i4 := i4.below hb8 (Nat.le_refl _)
    replace i5 := i5.below hb8 (Nat.le_refl _)
    go_wp2_with fail
    go_ret
    exact ⟨rfl, B8⟩
end Go.Proofs.Ytbmbogaejmgloaa
