/- ClockLates: the walk. -/
import Derived.Test.YtbmbogaejmgloaaK
import Derived.Test.YtbmbogaejmgloaaC
namespace Go.Proofs.Ytbmbogaejmgloaa
open Go.RowKit Go.Sort
theorem lates_facts {L : List Jb} (h : vErr L = 0) : ckB L = decide (laR L ≤ 0) ∧ urR L = tbl (edf L) L ∧ (ckB L = true → ckErr L (tbl (edf L) L) = 0) := by
  have e : laR L = lateJ L := if_pos h
  refine ⟨by unfold ckB; rw [decT h, e]; rfl, if_pos h, fun hk => ?_⟩
  simp only [ckB, Bool.and_eq_true, decide_eq_true_iff] at hk
  exact late_keeps (vErr_zero.1 h) hk.2

set_option maxRecDepth 100000 in
set_option maxHeartbeats 3200000 in
theorem lates_w (a : Option Addr) (n c : Nat) (L : List Jb) (w : World) (h : SlO w a n L) (hc : n ≤ c) (hm : c ≤ maxLen) :
    Calls Try.prog 14 #[.slice a n c] w fun e w' => e = .returned (.bool true) ∧ Below w.heap.size w w' := by
  have _ := hc
  have _ := hm
  have self := fun x : Int => (show (x != x) = false by simp)
  have selfe := fun x : Int => (show (x == x) = true by simp)
  have selfb := fun x : Bool => (show (x != x) = false by simp)
  have selfc := fun x : Bool => (show (x == x) = true by simp)
  cases hl : longB n
  case true =>
    go_enter Try.func14, Try.ntmps14
    go_wp2_with fail
    refine (Long_c _ _ _ _).mono ?_
    rintro e w1 ⟨rfl, hb1⟩
    have B1 : Below w.heap.size w w1 := btr (Below.refl _ _) hb1
    simp only [hl]
    go_wp2_with fail
    refine (known_c _).mono ?_
    rintro e w2 ⟨rfl, hb2⟩
    have B2 : Below w.heap.size w w2 := btr B1 hb2
    go_wp2_with fail
    go_ret
    exact ⟨rfl, B2⟩
  case false =>
    by_cases h0 : vErr L = 0
    case neg =>
      have hne : (vErr L != 0) = true := by simpa using h0
      clear h0
      go_enter Try.func14, Try.ntmps14
      go_wp2_with fail
      refine (Long_c _ _ _ _).mono ?_
      rintro e w1 ⟨rfl, hb1⟩
      have B1 : Below w.heap.size w w1 := btr (Below.refl _ _) hb1
      simp only [hl]
      go_wp2_with fail
      refine (Late_c _ _ _ _ _ (h.below B1 (Nat.le_refl _))).mono ?_
      rintro e w2 ⟨rfl, hb2⟩
      have B2 : Below w.heap.size w w2 := btr B1 hb2
      go_wp2_with fail
      refine (rLate_c _ _ _ _ _ (h.below B2 (Nat.le_refl _))).mono ?_
      rintro e w3 ⟨rfl, hb3⟩
      have B3 : Below w.heap.size w w3 := btr B2 hb3
      go_wp2_with fail
      refine (known_c _).mono ?_
      rintro e w4 ⟨rfl, hb4⟩
      have B4 : Below w.heap.size w w4 := btr B3 hb4
      go_wp2_with fail
      go_ret
      exact ⟨rfl, B4⟩
    have HE := Lib.hid h0
    obtain ⟨f1, f2, f3⟩ := lates_facts h0
    have F1 := Lib.hid f1
    have F2 := Lib.hid f2
    clear h0 f1 f2
    by_cases hla : laR L ≤ 0
    · have dl := decT hla
      have HK : Hid (ckB L = true) := Lib.hid (F1.out.trans dl)
      have F3 := Lib.hid (f3 HK.out)
      clear f3 hla
      go_enter Try.func14, Try.ntmps14
      go_wp2_with fail
      refine (Long_c _ _ _ _).mono ?_
      rintro e w1 ⟨rfl, hb1⟩
      have B1 : Below w.heap.size w w1 := btr (Below.refl _ _) hb1
      simp only [hl]
      go_wp2_with fail
      refine (Late_c _ _ _ _ _ (h.below B1 (Nat.le_refl _))).mono ?_
      rintro e w2 ⟨rfl, hb2⟩
      have B2 : Below w.heap.size w w2 := btr B1 hb2
      rw [HE.out]
      go_wp2_with fail
      refine (rLate_c _ _ _ _ _ (h.below B2 (Nat.le_refl _))).mono ?_
      rintro e w3 ⟨rfl, hb3⟩
      have B3 : Below w.heap.size w w3 := btr B2 hb3
      rw [HE.out]
      go_wp2_with fail
      refine (CanKeep_c _ _ _ _ _ (h.below B3 (Nat.le_refl _))).mono ?_
      rintro e w4 ⟨rfl, hb4⟩
      have B4 : Below w.heap.size w w4 := btr B3 hb4
      rw [HE.out, HK.out]
      go_wp2_with fail
      refine (Urgent_c _ _ _ _ _ (h.below B4 (Nat.le_refl _))).mono ?_
      rintro e w5 ⟨v5, rfl, hv5, hb5⟩
      have B5 : Below w.heap.size w w5 := btr B4 hb5
      obtain ⟨a5, c5, e5, i5, l5, m5, q5⟩ := hv5
      rw [e5]
      clear e5 q5
      rw [HE.out]
      go_wp2_with fail
      refine (CheckTable_c _ _ _ _ _ _ _ _ _ (h.below B5 (Nat.le_refl _)) i5 (Nat.le_trans l5 (Nat.le_trans m5 (by decide)))).mono ?_
      rintro e w6 ⟨rfl, hb6⟩
      have B6 : Below w.heap.size w w6 := btr B5 hb6
      replace i5 := i5.below hb6 (Nat.le_refl _)
      rw [F2.out, F3.out]
      go_wp2_with fail
      refine (known_c _).mono ?_
      rintro e w7 ⟨rfl, hb7⟩
      have B7 : Below w.heap.size w w7 := btr B6 hb7
      replace i5 := i5.below hb7 (Nat.le_refl _)
      go_wp2_with fail
      go_ret
      exact ⟨rfl, B7⟩
    · have dl := decF hla
      have HK : Hid (ckB L = false) := Lib.hid (F1.out.trans dl)
      clear f3 hla
      go_enter Try.func14, Try.ntmps14
      go_wp2_with fail
      refine (Long_c _ _ _ _).mono ?_
      rintro e w1 ⟨rfl, hb1⟩
      have B1 : Below w.heap.size w w1 := btr (Below.refl _ _) hb1
      simp only [hl]
      go_wp2_with fail
      refine (Late_c _ _ _ _ _ (h.below B1 (Nat.le_refl _))).mono ?_
      rintro e w2 ⟨rfl, hb2⟩
      have B2 : Below w.heap.size w w2 := btr B1 hb2
      rw [HE.out]
      go_wp2_with fail
      refine (rLate_c _ _ _ _ _ (h.below B2 (Nat.le_refl _))).mono ?_
      rintro e w3 ⟨rfl, hb3⟩
      have B3 : Below w.heap.size w w3 := btr B2 hb3
      rw [HE.out]
      go_wp2_with fail
      refine (CanKeep_c _ _ _ _ _ (h.below B3 (Nat.le_refl _))).mono ?_
      rintro e w4 ⟨rfl, hb4⟩
      have B4 : Below w.heap.size w w4 := btr B3 hb4
      rw [HE.out, HK.out]
      go_wp2_with fail
      refine (Urgent_c _ _ _ _ _ (h.below B4 (Nat.le_refl _))).mono ?_
      rintro e w5 ⟨v5, rfl, hv5, hb5⟩
      have B5 : Below w.heap.size w w5 := btr B4 hb5
      obtain ⟨a5, c5, e5, i5, l5, m5, q5⟩ := hv5
      rw [e5]
      clear e5 q5
      rw [HE.out]
      go_wp2_with fail
      refine (known_c _).mono ?_
      rintro e w6 ⟨rfl, hb6⟩
      have B6 : Below w.heap.size w w6 := btr B5 hb6
      replace i5 := i5.below hb6 (Nat.le_refl _)
      go_wp2_with fail
      go_ret
      exact ⟨rfl, B6⟩
end Go.Proofs.Ytbmbogaejmgloaa
