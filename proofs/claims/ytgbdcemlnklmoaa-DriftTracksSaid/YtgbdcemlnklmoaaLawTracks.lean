/- DriftTracks: the walk. -/
import Derived.Test.YtgbdcemlnklmoaaT
namespace Go.Proofs.Ytgbdcemlnklmoaa
open Go.RowKit Go.Sort
set_option maxRecDepth 100000 in
set_option maxHeartbeats 1600000 in
theorem tracks_w (a : Option Addr) (n c : Nat) (L : List Rd) (r : Int) (w : World) (h : SlO w a n L) (hc : n ≤ c) (hm : c ≤ maxLen) :
    Calls Try.prog 7 #[.slice a n c, .int .i64 r] w fun e w' => e = .returned (.bool true) ∧ Below w.heap.size w w' := by
  by_cases hl : longB n = true
  · go_enter Try.func7, Try.ntmps7
    go_wp2_with fail
    refine (Long_c _ _ _ _).mono ?_
    rintro e w1 ⟨rfl, hb1⟩
    have B1 : Below w.heap.size w w1 := hb1
    simp only [hl]
    go_wp2_with fail
    refine (known_c _).mono ?_
    rintro e w2 ⟨rfl, hb2⟩
    have B2 : Below w.heap.size w w2 := btr B1 hb2
    go_wp2_with fail
    go_ret
    exact ⟨rfl, B2⟩
  · replace hl : longB n = false := by simpa using hl
    have hm' := hm
    unfold maxLen at hm'
    by_cases ha : aOk L r = true
    · have hk : ckErr L r (trackR L r) = 0 := by unfold trackR; rw [if_pos ha]; exact track_keeps ha
      go_enter Try.func7, Try.ntmps7
      go_wp2_with fail
      refine (Long_c _ _ _ _).mono ?_
      rintro e w1 ⟨rfl, hb1⟩
      have B1 : Below w.heap.size w w1 := hb1
      simp only [hl]
      go_wp2_with fail
      refine (Track_c _ _ _ _ _ _ (h.below B1 (Nat.le_refl _)) hc hm).mono ?_
      rintro e w2 ⟨v, rfl, hv, hb2⟩
      have B2 : Below w.heap.size w w2 := btr B1 hb2
      obtain ⟨a2, c2, hvv, hI, hc2, hm2, _⟩ := hv
      rw [hvv]
      clear hvv
      unfold maxLen at hm2
      simp only [ha]
      go_wp2_with fail
      refine (rAgree_c _ _ _ _ _ _ (h.below B2 (Nat.le_refl _))).mono ?_
      rintro e w3 ⟨rfl, hb3⟩
      have B3 : Below w.heap.size w w3 := btr B2 hb3
      simp only [ha]
      go_wp2_with fail
      refine (rCheckTrack_c _ _ _ _ _ _ _ _ _ _ (h.below B3 (Nat.le_refl _)) (hI.below hb3 (Nat.le_refl _)) (by omega)).mono ?_
      rintro e w4 ⟨rfl, hb4⟩
      have B4 : Below w.heap.size w w4 := btr B3 hb4
      go_wp2_with fail
      refine (known_c _).mono ?_
      rintro e w5 ⟨rfl, hb5⟩
      have B5 : Below w.heap.size w w5 := btr B4 hb5
      go_wp2_with fail
      go_ret
      exact ⟨rfl, B5⟩
    · replace ha : aOk L r = false := by simpa using ha
      have hx : trackR L r = [] := by unfold trackR; rw [ha]; rfl
      go_enter Try.func7, Try.ntmps7
      go_wp2_with fail
      refine (Long_c _ _ _ _).mono ?_
      rintro e w1 ⟨rfl, hb1⟩
      have B1 : Below w.heap.size w w1 := hb1
      simp only [hl]
      go_wp2_with fail
      refine (Track_c _ _ _ _ _ _ (h.below B1 (Nat.le_refl _)) hc hm).mono ?_
      rintro e w2 ⟨v, rfl, hv, hb2⟩
      have B2 : Below w.heap.size w w2 := btr B1 hb2
      rw [hx] at hv
      obtain ⟨a2, c2, hvv, hI, hc2, hm2, _⟩ := hv
      rw [hvv]
      clear hvv
      simp only [ha]
      go_wp2_with fail
      refine (rAgree_c _ _ _ _ _ _ (h.below B2 (Nat.le_refl _))).mono ?_
      rintro e w3 ⟨rfl, hb3⟩
      have B3 : Below w.heap.size w w3 := btr B2 hb3
      simp only [ha]
      go_wp2_with fail
      refine (known_c _).mono ?_
      rintro e w4 ⟨rfl, hb4⟩
      have B4 : Below w.heap.size w w4 := btr B3 hb4
      go_wp2_with fail
      go_ret
      exact ⟨rfl, B4⟩
end Go.Proofs.Ytgbdcemlnklmoaa
