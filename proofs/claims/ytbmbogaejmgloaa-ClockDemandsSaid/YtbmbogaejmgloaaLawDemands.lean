/- ClockDemands: the walk. -/
import Derived.Test.YtbmbogaejmgloaaK
import Derived.Test.YtbmbogaejmgloaaC
namespace Go.Proofs.Ytbmbogaejmgloaa
open Go.RowKit Go.Sort
theorem crowd_facts {L : List Jb} {p q : Int} (h : ccErr L p q = 0) : vErr L = 0 ∧ ckB L = false := by
  have h0 : stErr L p q = 0 := by
    unfold ccErr at h
    by_cases h1 : stErr L p q = 0
    · exact h1
    · rw [if_pos h1] at h; exact absurd h h1
  obtain ⟨hv, p0, q0, pq⟩ := stErr_zero.1 h0
  have hd : q - p < dem L p q := by
    unfold ccErr at h
    rw [if_neg (by simp [h0])] at h
    split at h
    · simp at h
    · omega
  have hl := (late_crowd hv).2 ⟨p, q, p0, pq, q0, hd⟩
  refine ⟨vErr_zero.2 hv, ?_⟩
  unfold ckB
  rw [decF (show ¬ lateJ L ≤ 0 by omega), Bool.and_false]

set_option maxRecDepth 100000 in
set_option maxHeartbeats 3200000 in
theorem demands_w (a : Option Addr) (n c : Nat) (L : List Jb) (x y : Int) (w : World) (h : SlO w a n L) (hc : n ≤ c) (hm : c ≤ maxLen) :
    Calls Try.prog 12 #[.slice a n c, .agg #[.int .i64 x, .int .i64 y]] w fun e w' => e = .returned (.bool true) ∧ Below w.heap.size w w' := by
  have _ := hc
  have _ := hm
  have self := fun x : Int => (show (x != x) = false by simp)
  have selfe := fun x : Int => (show (x == x) = true by simp)
  have selfb := fun x : Bool => (show (x != x) = false by simp)
  have selfc := fun x : Bool => (show (x == x) = true by simp)
  cases hl : longB n
  case true =>
    go_enter Try.func12, Try.ntmps12
    go_wp2_with fail
    refine (Long_c _ _ _ _).mono ?_
    rintro e w1 ⟨rfl, hb1⟩
    have ha1 : Below w.heap.size w w1 := btr ((Below.refl _ _).alloc (Nat.le_refl _) _) hb1
    have hx : Cell2 w1 w.heap.size x y := Cell2.below (w := w.alloc (.cells #[.int .i64 x, .int .i64 y] 60)) ⟨by simp [go_sem], by simp [go_sem], by simp [go_sem], by simp [go_sem]⟩ hb1
    have B1 : Below w.heap.size w w1 := btr ((Below.refl w.heap.size w).alloc (Nat.le_refl _) _) hb1
    simp only [hl]
    have hx0 := hx.c0
    have hx1 := hx.c1
    go_wp2_with fail
    refine (known_c _).mono ?_
    rintro e w2 ⟨rfl, hb2⟩
    clear hx0 hx1
    have B2 : Below w.heap.size w w2 := btr B1 hb2
    replace hx := hx.below hb2
    have hx0 := hx.c0
    have hx1 := hx.c1
    go_wp2_with fail
    go_ret
    exact ⟨rfl, B2⟩
  case false =>
    by_cases h0 : ccErr L x y = 0
    · have hne : (ccErr L x y != 0) = false := by simp [h0]
      obtain ⟨f1, f2⟩ := crowd_facts h0
      have F1 := Lib.hid f1
      have F2 := Lib.hid f2
      clear h0 f1 f2
      go_enter Try.func12, Try.ntmps12
      go_wp2_with fail
      refine (Long_c _ _ _ _).mono ?_
      rintro e w1 ⟨rfl, hb1⟩
      have ha1 : Below w.heap.size w w1 := btr ((Below.refl _ _).alloc (Nat.le_refl _) _) hb1
      have hx : Cell2 w1 w.heap.size x y := Cell2.below (w := w.alloc (.cells #[.int .i64 x, .int .i64 y] 60)) ⟨by simp [go_sem], by simp [go_sem], by simp [go_sem], by simp [go_sem]⟩ hb1
      have B1 : Below w.heap.size w w1 := btr ((Below.refl w.heap.size w).alloc (Nat.le_refl _) _) hb1
      simp only [hl]
      have hx0 := hx.c0
      have hx1 := hx.c1
      go_wp2_with fail
      refine (Demand_c _ _ _ _ _ _ _ (h.below B1 (Nat.le_refl _))).mono ?_
      rintro e w2 ⟨rfl, hb2⟩
      clear hx0 hx1
      have B2 : Below w.heap.size w w2 := btr B1 hb2
      replace hx := hx.below hb2
      have hx0 := hx.c0
      have hx1 := hx.c1
      go_wp2_with fail
      refine (rDemand_c _ _ _ _ _ _ _ (h.below B2 (Nat.le_refl _))).mono ?_
      rintro e w3 ⟨rfl, hb3⟩
      clear hx0 hx1
      have B3 : Below w.heap.size w w3 := btr B2 hb3
      replace hx := hx.below hb3
      have hx0 := hx.c0
      have hx1 := hx.c1
      go_wp2_with fail
      refine (CheckCrowded_c _ _ _ _ _ _ _ (h.below B3 (Nat.le_refl _))).mono ?_
      rintro e w4 ⟨rfl, hb4⟩
      clear hx0 hx1
      have B4 : Below w.heap.size w w4 := btr B3 hb4
      replace hx := hx.below hb4
      have hx0 := hx.c0
      have hx1 := hx.c1
      go_wp2_with fail
      refine (rCheckCrowded_c _ _ _ _ _ _ _ (h.below B4 (Nat.le_refl _))).mono ?_
      rintro e w5 ⟨rfl, hb5⟩
      clear hx0 hx1
      have B5 : Below w.heap.size w w5 := btr B4 hb5
      replace hx := hx.below hb5
      have hx0 := hx.c0
      have hx1 := hx.c1
      go_wp2_with fail
      refine (CanKeep_c _ _ _ _ _ (h.below B5 (Nat.le_refl _))).mono ?_
      rintro e w6 ⟨rfl, hb6⟩
      clear hx0 hx1
      have B6 : Below w.heap.size w w6 := btr B5 hb6
      replace hx := hx.below hb6
      rw [F1.out, F2.out]
      have hx0 := hx.c0
      have hx1 := hx.c1
      go_wp2_with fail
      refine (known_c _).mono ?_
      rintro e w7 ⟨rfl, hb7⟩
      clear hx0 hx1
      have B7 : Below w.heap.size w w7 := btr B6 hb7
      replace hx := hx.below hb7
      have hx0 := hx.c0
      have hx1 := hx.c1
      go_wp2_with fail
      go_ret
      exact ⟨rfl, B7⟩
    · have hne : (ccErr L x y != 0) = true := by simpa using h0
      clear h0
      go_enter Try.func12, Try.ntmps12
      go_wp2_with fail
      refine (Long_c _ _ _ _).mono ?_
      rintro e w1 ⟨rfl, hb1⟩
      have ha1 : Below w.heap.size w w1 := btr ((Below.refl _ _).alloc (Nat.le_refl _) _) hb1
      have hx : Cell2 w1 w.heap.size x y := Cell2.below (w := w.alloc (.cells #[.int .i64 x, .int .i64 y] 60)) ⟨by simp [go_sem], by simp [go_sem], by simp [go_sem], by simp [go_sem]⟩ hb1
      have B1 : Below w.heap.size w w1 := btr ((Below.refl w.heap.size w).alloc (Nat.le_refl _) _) hb1
      simp only [hl]
      have hx0 := hx.c0
      have hx1 := hx.c1
      go_wp2_with fail
      refine (Demand_c _ _ _ _ _ _ _ (h.below B1 (Nat.le_refl _))).mono ?_
      rintro e w2 ⟨rfl, hb2⟩
      clear hx0 hx1
      have B2 : Below w.heap.size w w2 := btr B1 hb2
      replace hx := hx.below hb2
      have hx0 := hx.c0
      have hx1 := hx.c1
      go_wp2_with fail
      refine (rDemand_c _ _ _ _ _ _ _ (h.below B2 (Nat.le_refl _))).mono ?_
      rintro e w3 ⟨rfl, hb3⟩
      clear hx0 hx1
      have B3 : Below w.heap.size w w3 := btr B2 hb3
      replace hx := hx.below hb3
      have hx0 := hx.c0
      have hx1 := hx.c1
      go_wp2_with fail
      refine (CheckCrowded_c _ _ _ _ _ _ _ (h.below B3 (Nat.le_refl _))).mono ?_
      rintro e w4 ⟨rfl, hb4⟩
      clear hx0 hx1
      have B4 : Below w.heap.size w w4 := btr B3 hb4
      replace hx := hx.below hb4
      have hx0 := hx.c0
      have hx1 := hx.c1
      go_wp2_with fail
      refine (rCheckCrowded_c _ _ _ _ _ _ _ (h.below B4 (Nat.le_refl _))).mono ?_
      rintro e w5 ⟨rfl, hb5⟩
      clear hx0 hx1
      have B5 : Below w.heap.size w w5 := btr B4 hb5
      replace hx := hx.below hb5
      have hx0 := hx.c0
      have hx1 := hx.c1
      go_wp2_with fail
      refine (CanKeep_c _ _ _ _ _ (h.below B5 (Nat.le_refl _))).mono ?_
      rintro e w6 ⟨rfl, hb6⟩
      clear hx0 hx1
      have B6 : Below w.heap.size w w6 := btr B5 hb6
      replace hx := hx.below hb6
      have hx0 := hx.c0
      have hx1 := hx.c1
      go_wp2_with fail
      refine (known_c _).mono ?_
      rintro e w7 ⟨rfl, hb7⟩
      clear hx0 hx1
      have B7 : Below w.heap.size w w7 := btr B6 hb7
      replace hx := hx.below hb7
      have hx0 := hx.c0
      have hx1 := hx.c1
      go_wp2_with fail
      go_ret
      exact ⟨rfl, B7⟩
end Go.Proofs.Ytbmbogaejmgloaa
