/- ClockCrowds: the walk. -/
import Derived.Test.YtbmbogaejmgloaaK
import Derived.Test.YtbmbogaejmgloaaC
namespace Go.Proofs.Ytbmbogaejmgloaa
open Go.RowKit Go.Sort
theorem crowds_facts {L : List Jb} (h : vErr L = 0) : (crO L).isSome = decide (slackJ L < 0) ∧ (crO L).isSome = decide ((speedJ L).2 < (speedJ L).1) ∧ someJ L = decide (0 < L.length) := by
  have hv := vErr_zero.1 h
  have e : slackJ L = - lateJ L := if_pos h
  have hs := (speed_is hv).late hv
  refine ⟨?_, ?_, by unfold someJ; rw [decT h]; rfl⟩
  · rw [crO_late hv, e, Bool.eq_iff_iff, decide_eq_true_iff, decide_eq_true_iff]; omega
  · rw [crO_late hv, Bool.eq_iff_iff, decide_eq_true_iff, decide_eq_true_iff]; exact hs.symm

set_option maxRecDepth 100000 in
set_option maxHeartbeats 3200000 in
theorem crowds_w (a : Option Addr) (n c : Nat) (L : List Jb) (w : World) (h : SlO w a n L) (hc : n ≤ c) (hm : c ≤ maxLen) :
    Calls Try.prog 6 #[.slice a n c] w fun e w' => e = .returned (.bool true) ∧ Below w.heap.size w w' := by
  have _ := hc
  have _ := hm
  have self := fun x : Int => (show (x != x) = false by simp)
  have selfe := fun x : Int => (show (x == x) = true by simp)
  have selfb := fun x : Bool => (show (x != x) = false by simp)
  have selfc := fun x : Bool => (show (x == x) = true by simp)
  cases hl : longB n
  case true =>
    go_enter Try.func6, Try.ntmps6
    go_wp2_with fail
    refine (Long_c _ _ _ _).mono ?_
    rintro e w1 ⟨rfl, hb1⟩
    have B1 : Below w.heap.size w w1 := btr (Below.refl _ _) hb1
    simp only [hl]
    go_wp2_with fail
    refine (known_c _).mono ?_
    rintro e w2 ⟨rfl, hb2⟩
    have B2 : Below w.heap.size w w2 := btr B1 hb2
    go_wp2_with fail
    go_ret
    exact ⟨rfl, B2⟩
  case false =>
    by_cases h0 : vErr L = 0
    case neg =>
      have hne : (vErr L != 0) = true := by simpa using h0
      clear h0
      go_enter Try.func6, Try.ntmps6
      go_wp2_with fail
      refine (Long_c _ _ _ _).mono ?_
      rintro e w1 ⟨rfl, hb1⟩
      have B1 : Below w.heap.size w w1 := btr (Below.refl _ _) hb1
      simp only [hl]
      go_wp2_with fail
      refine (Crowded_c _ _ _ _ _ (h.below B1 (Nat.le_refl _))).mono ?_
      rintro e w2 ⟨rfl, hb2⟩
      have B2 : Below w.heap.size w w2 := btr B1 hb2
      go_wp2_with fail
      refine (rCrowded_c _ _ _ _ _ (h.below B2 (Nat.le_refl _))).mono ?_
      rintro e w3 ⟨rfl, hb3⟩
      have B3 : Below w.heap.size w w3 := btr B2 hb3
      go_wp2_with fail
      refine (Slack_c _ _ _ _ _ (h.below B3 (Nat.le_refl _))).mono ?_
      rintro e w4 ⟨rfl, hb4⟩
      have B4 : Below w.heap.size w w4 := btr B3 hb4
      go_wp2_with fail
      refine (rSlack_c _ _ _ _ _ (h.below B4 (Nat.le_refl _))).mono ?_
      rintro e w5 ⟨rfl, hb5⟩
      have B5 : Below w.heap.size w w5 := btr B4 hb5
      go_wp2_with fail
      refine (Speed_c _ _ _ _ _ (h.below B5 (Nat.le_refl _))).mono ?_
      rintro e w6 ⟨rfl, hb6⟩
      have B6 : Below w.heap.size w w6 := btr B5 hb6
      go_wp2_with fail
      refine (rSpeed_c _ _ _ _ _ (h.below (B6.alloc B6.size _) (Nat.le_refl _))).mono ?_
      rintro e w7 ⟨rfl, hb7⟩
      have ha7 : Below w6.heap.size w6 w7 := btr ((Below.refl _ _).alloc (Nat.le_refl _) _) hb7
      have hs : Cell2 w7 w6.heap.size (speedJ L).1 (speedJ L).2 := Cell2.below (w := w6.alloc (.cells #[.int .i64 (speedJ L).1, .int .i64 (speedJ L).2] 44)) ⟨by simp [go_sem], by simp [go_sem], by simp [go_sem], by simp [go_sem]⟩ hb7
      have B7 : Below w.heap.size w w7 := btr (B6.alloc B6.size _) hb7
      have hs0 := hs.c0
      have hs1 := hs.c1
      have hsl := hs.lt
      go_wp2_with fail
      refine (known_c _).mono ?_
      rintro e w8 ⟨rfl, hb8⟩
      clear hs0 hs1 hsl
      have ha8 : Below w7.heap.size w7 w8 := btr ((Below.refl _ _).alloc (Nat.le_refl _) _) hb8
      have ht : Cell2 w8 w7.heap.size (speedJ L).1 (speedJ L).2 := Cell2.below (w := w7.alloc (.cells #[.int .i64 (speedJ L).1, .int .i64 (speedJ L).2] 44)) ⟨by simp [go_sem], by simp [go_sem], by simp [go_sem], by simp [go_sem]⟩ hb8
      have B8 : Below w.heap.size w w8 := btr (B7.alloc B7.size _) hb8
      replace hs := hs.below ha8
      have hs0 := hs.c0
      have hs1 := hs.c1
      have ht0 := ht.c0
      have ht1 := ht.c1
      go_wp2_with fail
      go_ret
      exact ⟨rfl, B8⟩
    have HE := Lib.hid h0
    obtain ⟨f1, f2, f3⟩ := crowds_facts h0
    rw [← h.1] at f3
    have F1 := Lib.hid f1
    have F2 := Lib.hid f2
    have F3 := Lib.hid f3
    clear h0 f1 f2 f3
    have h3 : ((someJ L == decide ((0 : Int) < n))) = true := by rw [F3.out]; simp
    cases hcr : (crO L).isSome
    · have h1 : decide (slackJ L < 0) = false := F1.out.symm.trans hcr
      have h2 : decide ((speedJ L).2 < (speedJ L).1) = false := F2.out.symm.trans hcr
      go_enter Try.func6, Try.ntmps6
      go_wp2_with fail
      refine (Long_c _ _ _ _).mono ?_
      rintro e w1 ⟨rfl, hb1⟩
      have B1 : Below w.heap.size w w1 := btr (Below.refl _ _) hb1
      simp only [hl]
      go_wp2_with fail
      refine (Crowded_c _ _ _ _ _ (h.below B1 (Nat.le_refl _))).mono ?_
      rintro e w2 ⟨rfl, hb2⟩
      have B2 : Below w.heap.size w w2 := btr B1 hb2
      rw [HE.out]
      go_wp2_with fail
      refine (rCrowded_c _ _ _ _ _ (h.below B2 (Nat.le_refl _))).mono ?_
      rintro e w3 ⟨rfl, hb3⟩
      have B3 : Below w.heap.size w w3 := btr B2 hb3
      rw [HE.out]
      go_wp2_with fail
      refine (Slack_c _ _ _ _ _ (h.below B3 (Nat.le_refl _))).mono ?_
      rintro e w4 ⟨rfl, hb4⟩
      have B4 : Below w.heap.size w w4 := btr B3 hb4
      rw [HE.out]
      go_wp2_with fail
      refine (rSlack_c _ _ _ _ _ (h.below B4 (Nat.le_refl _))).mono ?_
      rintro e w5 ⟨rfl, hb5⟩
      have B5 : Below w.heap.size w w5 := btr B4 hb5
      rw [HE.out]
      go_wp2_with fail
      refine (Speed_c _ _ _ _ _ (h.below B5 (Nat.le_refl _))).mono ?_
      rintro e w6 ⟨rfl, hb6⟩
      have B6 : Below w.heap.size w w6 := btr B5 hb6
      rw [HE.out]
      go_wp2_with fail
      refine (rSpeed_c _ _ _ _ _ (h.below (B6.alloc B6.size _) (Nat.le_refl _))).mono ?_
      rintro e w7 ⟨rfl, hb7⟩
      have ha7 : Below w6.heap.size w6 w7 := btr ((Below.refl _ _).alloc (Nat.le_refl _) _) hb7
      have hs : Cell2 w7 w6.heap.size (speedJ L).1 (speedJ L).2 := Cell2.below (w := w6.alloc (.cells #[.int .i64 (speedJ L).1, .int .i64 (speedJ L).2] 44)) ⟨by simp [go_sem], by simp [go_sem], by simp [go_sem], by simp [go_sem]⟩ hb7
      have B7 : Below w.heap.size w w7 := btr (B6.alloc B6.size _) hb7
      rw [HE.out]
      have hs0 := hs.c0
      have hs1 := hs.c1
      have hsl := hs.lt
      go_wp2_with fail
      refine (known_c _).mono ?_
      rintro e w8 ⟨rfl, hb8⟩
      clear hs0 hs1 hsl
      have ha8 : Below w7.heap.size w7 w8 := btr ((Below.refl _ _).alloc (Nat.le_refl _) _) hb8
      have ht : Cell2 w8 w7.heap.size (speedJ L).1 (speedJ L).2 := Cell2.below (w := w7.alloc (.cells #[.int .i64 (speedJ L).1, .int .i64 (speedJ L).2] 44)) ⟨by simp [go_sem], by simp [go_sem], by simp [go_sem], by simp [go_sem]⟩ hb8
      have B8 : Below w.heap.size w w8 := btr (B7.alloc B7.size _) hb8
      replace hs := hs.below ha8
      have hs0 := hs.c0
      have hs1 := hs.c1
      have ht0 := ht.c0
      have ht1 := ht.c1
      go_wp2_with fail
      go_ret
      exact ⟨rfl, B8⟩
    · have h1 : decide (slackJ L < 0) = true := F1.out.symm.trans hcr
      have h2 : decide ((speedJ L).2 < (speedJ L).1) = true := F2.out.symm.trans hcr
      go_enter Try.func6, Try.ntmps6
      go_wp2_with fail
      refine (Long_c _ _ _ _).mono ?_
      rintro e w1 ⟨rfl, hb1⟩
      have B1 : Below w.heap.size w w1 := btr (Below.refl _ _) hb1
      simp only [hl]
      go_wp2_with fail
      refine (Crowded_c _ _ _ _ _ (h.below B1 (Nat.le_refl _))).mono ?_
      rintro e w2 ⟨rfl, hb2⟩
      have B2 : Below w.heap.size w w2 := btr B1 hb2
      rw [HE.out]
      go_wp2_with fail
      refine (rCrowded_c _ _ _ _ _ (h.below B2 (Nat.le_refl _))).mono ?_
      rintro e w3 ⟨rfl, hb3⟩
      have B3 : Below w.heap.size w w3 := btr B2 hb3
      rw [HE.out]
      go_wp2_with fail
      refine (Slack_c _ _ _ _ _ (h.below B3 (Nat.le_refl _))).mono ?_
      rintro e w4 ⟨rfl, hb4⟩
      have B4 : Below w.heap.size w w4 := btr B3 hb4
      rw [HE.out]
      go_wp2_with fail
      refine (rSlack_c _ _ _ _ _ (h.below B4 (Nat.le_refl _))).mono ?_
      rintro e w5 ⟨rfl, hb5⟩
      have B5 : Below w.heap.size w w5 := btr B4 hb5
      rw [HE.out]
      go_wp2_with fail
      refine (Speed_c _ _ _ _ _ (h.below B5 (Nat.le_refl _))).mono ?_
      rintro e w6 ⟨rfl, hb6⟩
      have B6 : Below w.heap.size w w6 := btr B5 hb6
      rw [HE.out]
      go_wp2_with fail
      refine (rSpeed_c _ _ _ _ _ (h.below (B6.alloc B6.size _) (Nat.le_refl _))).mono ?_
      rintro e w7 ⟨rfl, hb7⟩
      have ha7 : Below w6.heap.size w6 w7 := btr ((Below.refl _ _).alloc (Nat.le_refl _) _) hb7
      have hs : Cell2 w7 w6.heap.size (speedJ L).1 (speedJ L).2 := Cell2.below (w := w6.alloc (.cells #[.int .i64 (speedJ L).1, .int .i64 (speedJ L).2] 44)) ⟨by simp [go_sem], by simp [go_sem], by simp [go_sem], by simp [go_sem]⟩ hb7
      have B7 : Below w.heap.size w w7 := btr (B6.alloc B6.size _) hb7
      rw [HE.out]
      have hs0 := hs.c0
      have hs1 := hs.c1
      have hsl := hs.lt
      go_wp2_with fail
      refine (known_c _).mono ?_
      rintro e w8 ⟨rfl, hb8⟩
      clear hs0 hs1 hsl
      have ha8 : Below w7.heap.size w7 w8 := btr ((Below.refl _ _).alloc (Nat.le_refl _) _) hb8
      have ht : Cell2 w8 w7.heap.size (speedJ L).1 (speedJ L).2 := Cell2.below (w := w7.alloc (.cells #[.int .i64 (speedJ L).1, .int .i64 (speedJ L).2] 44)) ⟨by simp [go_sem], by simp [go_sem], by simp [go_sem], by simp [go_sem]⟩ hb8
      have B8 : Below w.heap.size w w8 := btr (B7.alloc B7.size _) hb8
      replace hs := hs.below ha8
      have hs0 := hs.c0
      have hs1 := hs.c1
      have ht0 := ht.c0
      have ht1 := ht.c1
      go_wp2_with fail
      go_ret
      exact ⟨rfl, B8⟩
end Go.Proofs.Ytbmbogaejmgloaa
