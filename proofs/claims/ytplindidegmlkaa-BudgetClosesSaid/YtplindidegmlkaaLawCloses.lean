/- BudgetCloses: the walk. -/
import Derived.Test.YtplindidegmlkaaLawChances
namespace Go.Proofs.Ytplindidegmlkaa
open Go.RowKit Go.Sort

theorem cl_chance {L : List It} {x y : Int} (h : closeB L x y = true) (hc : caErr L = 0) : (0 ≤ x ∧ x ≤ 1000000 ∧ 1 ≤ y ∧ y ≤ 1000000) ∧ ¬ (x * chD L < chN L * y) := by
  have h1 : liErr L x y = 0 := by
    apply Classical.byContradiction
    intro hn
    rw [close_bad hn] at h; cases h
  rw [close_ok h1] at h
  obtain ⟨hv, hl⟩ := liErr_zero.1 h1
  obtain ⟨l1, l2, l3, l4⟩ := limB_true.1 hl
  obtain ⟨_, _, _, _, ht⟩ := ch_facts hc
  obtain ⟨_, ⟨c1, c2, c3, c4⟩, _, ⟨t1, t2, t3, t4⟩, _⟩ := ch_facts hc
  have e3 : totN L = toN L L.length := if_pos hv
  have e4 : totD L = toD L L.length := if_pos hv
  have h2 : toN L L.length * y ≤ x * toD L L.length := by
    have := clB_total (L := L) (x := x) (y := y)
    rw [h] at this
    have := of_decide_eq_true this
    omega
  rw [← e3, ← e4] at h2
  refine ⟨by omega, ?_⟩
  have := frac_trans (a := chN L) (b := chD L) (c := totN L) (d := totD L) (e := x) (f := y) (by omega) (by omega) (by omega) (by omega) h2
  omega

set_option maxRecDepth 100000 in
set_option maxHeartbeats 3200000 in
theorem closes_w (a : Option Addr) (n c : Nat) (L : List It) (x y : Int) (w : World) (h : SlO w a n L) (hc : n ≤ c) (hm : c ≤ maxLen) :
    Calls Try.prog 5 #[.slice a n c, .agg #[.int .i64 x, .int .i64 y]] w fun e w' => e = .returned (.bool true) ∧ Below w.heap.size w w' := by
  have _ := hc
  have _ := hm
  have self := fun x : Int => (show (x != x) = false by simp)
  have selfe := fun x : Int => (show (x == x) = true by simp)
  have selfb := fun x : Bool => (show (x != x) = false by simp)
  have selfc := fun x : Bool => (show (x == x) = true by simp)
  cases hl : longB n
  case true =>
    go_enter Try.func5, Try.ntmps5
    go_wp2_with fail
    refine (Long_c _ _ _ _).mono ?_
    rintro e w1 ⟨rfl, hb1⟩
    have ha1 : Below w.heap.size w w1 := btr ((Below.refl _ _).alloc (Nat.le_refl _) _) hb1
    have D0 : Cell2 w1 w.heap.size x y := Cell2.below (w := w.alloc (.cells #[.int .i64 x, .int .i64 y] 25)) ⟨by simp [go_sem], by simp [go_sem], by simp [go_sem], by simp [go_sem]⟩ hb1
    have B1 : Below w.heap.size w w1 := btr ((Below.refl w.heap.size w).alloc (Nat.le_refl _) _) hb1
    simp only [hl]
    have D00 := D0.c0
    have D01 := D0.c1
    go_wp2_with fail
    refine (known_c _).mono ?_
    rintro e w2 ⟨rfl, hb2⟩
    clear D00 D01
    have B2 : Below w.heap.size w w2 := btr B1 hb2
    replace D0 := D0.below hb2
    have D00 := D0.c0
    have D01 := D0.c1
    go_wp2_with fail
    go_ret
    exact ⟨rfl, B2⟩
  case false =>
    cases hb : closeB L x y
    case false =>
      go_enter Try.func5, Try.ntmps5
      go_wp2_with fail
      refine (Long_c _ _ _ _).mono ?_
      rintro e w1 ⟨rfl, hb1⟩
      have ha1 : Below w.heap.size w w1 := btr ((Below.refl _ _).alloc (Nat.le_refl _) _) hb1
      have D0 : Cell2 w1 w.heap.size x y := Cell2.below (w := w.alloc (.cells #[.int .i64 x, .int .i64 y] 25)) ⟨by simp [go_sem], by simp [go_sem], by simp [go_sem], by simp [go_sem]⟩ hb1
      have B1 : Below w.heap.size w w1 := btr ((Below.refl w.heap.size w).alloc (Nat.le_refl _) _) hb1
      simp only [hl]
      have D00 := D0.c0
      have D01 := D0.c1
      go_wp2_with fail
      refine (Closes_c _ _ _ L x y _ (h.below B1 (Nat.le_refl _))).mono ?_
      rintro e w2 ⟨rfl, hb2⟩
      clear D00 D01
      have B2 : Below w.heap.size w w2 := btr B1 hb2
      replace D0 := D0.below hb2
      have D00 := D0.c0
      have D01 := D0.c1
      go_wp2_with fail
      refine (rCloses_c _ _ _ L x y _ (h.below B2 (Nat.le_refl _))).mono ?_
      rintro e w3 ⟨rfl, hb3⟩
      clear D00 D01
      have B3 : Below w.heap.size w w3 := btr B2 hb3
      replace D0 := D0.below hb3
      rw [hb]
      clear hb
      have D00 := D0.c0
      have D01 := D0.c1
      go_wp2_with fail
      refine (Chance_c _ _ _ L _ (h.below B3 (Nat.le_refl _))).mono ?_
      rintro e w4 ⟨rfl, hb4⟩
      clear D00 D01
      have B4 : Below w.heap.size w w4 := btr B3 hb4
      replace D0 := D0.below hb4
      have D00 := D0.c0
      have D01 := D0.c1
      have D0l := D0.lt
      go_wp2_with fail
      refine (known_c _).mono ?_
      rintro e w5 ⟨rfl, hb5⟩
      clear D00 D01 D0l
      have ha5 : Below w4.heap.size w4 w5 := btr ((Below.refl _ _).alloc (Nat.le_refl _) _) hb5
      have D4 : Cell2 w5 w4.heap.size (chN L) (chD L) := Cell2.below (w := w4.alloc (.cells #[.int .i64 (chN L), .int .i64 (chD L)] 25)) ⟨by simp [go_sem], by simp [go_sem], by simp [go_sem], by simp [go_sem]⟩ hb5
      have B5 : Below w.heap.size w w5 := btr (B4.alloc B4.size _) hb5
      replace D0 := D0.below ha5
      have D00 := D0.c0
      have D01 := D0.c1
      have D40 := D4.c0
      have D41 := D4.c1
      go_wp2_with fail
      go_ret
      exact ⟨rfl, B5⟩
    case true =>
      by_cases h0 : caErr L = 0
      · have hz : (caErr L != 0) = false := by simp [h0]
        obtain ⟨⟨g1, g2, g3, g4⟩, hlt⟩ := cl_chance hb h0
        obtain ⟨-, ⟨f1, f2, f3, f4⟩, f5, -, -⟩ := ch_facts h0
        have HLT := Lib.hid (decF hlt)
        have HE := Lib.hid h0
        clear h0 hlt
        go_enter Try.func5, Try.ntmps5
        go_wp2_with fail
        refine (Long_c _ _ _ _).mono ?_
        rintro e w1 ⟨rfl, hb1⟩
        have ha1 : Below w.heap.size w w1 := btr ((Below.refl _ _).alloc (Nat.le_refl _) _) hb1
        have D0 : Cell2 w1 w.heap.size x y := Cell2.below (w := w.alloc (.cells #[.int .i64 x, .int .i64 y] 25)) ⟨by simp [go_sem], by simp [go_sem], by simp [go_sem], by simp [go_sem]⟩ hb1
        have B1 : Below w.heap.size w w1 := btr ((Below.refl w.heap.size w).alloc (Nat.le_refl _) _) hb1
        simp only [hl]
        have D00 := D0.c0
        have D01 := D0.c1
        go_wp2_with fail
        refine (Closes_c _ _ _ L x y _ (h.below B1 (Nat.le_refl _))).mono ?_
        rintro e w2 ⟨rfl, hb2⟩
        clear D00 D01
        have B2 : Below w.heap.size w w2 := btr B1 hb2
        replace D0 := D0.below hb2
        have D00 := D0.c0
        have D01 := D0.c1
        go_wp2_with fail
        refine (rCloses_c _ _ _ L x y _ (h.below B2 (Nat.le_refl _))).mono ?_
        rintro e w3 ⟨rfl, hb3⟩
        clear D00 D01
        have B3 : Below w.heap.size w w3 := btr B2 hb3
        replace D0 := D0.below hb3
        rw [hb]
        clear hb
        have D00 := D0.c0
        have D01 := D0.c1
        go_wp2_with fail
        refine (Chance_c _ _ _ L _ (h.below B3 (Nat.le_refl _))).mono ?_
        rintro e w4 ⟨rfl, hb4⟩
        clear D00 D01
        have B4 : Below w.heap.size w w4 := btr B3 hb4
        replace D0 := D0.below hb4
        have D00 := D0.c0
        have D01 := D0.c1
        have D0l := D0.lt
        go_wp2_with fail
        refine (fair_c (chN L) (chD L) _ ⟨f1, f2, f3, f4⟩).mono ?_
        rintro e w5 ⟨rfl, hb5⟩
        clear D00 D01 D0l
        have ha5 : Below w4.heap.size w4 w5 := btr ((Below.refl _ _).alloc (Nat.le_refl _) _) hb5
        have D4 : Cell2 w5 w4.heap.size (chN L) (chD L) := Cell2.below (w := w4.alloc (.cells #[.int .i64 (chN L), .int .i64 (chD L)] 25)) ⟨by simp [go_sem], by simp [go_sem], by simp [go_sem], by simp [go_sem]⟩ hb5
        have B5 : Below w.heap.size w w5 := btr (B4.alloc B4.size _) hb5
        replace D0 := D0.below ha5
        have D00 := D0.c0
        have D01 := D0.c1
        have D40 := D4.c0
        have D41 := D4.c1
        go_wp2_with fail
        refine (fair_c x y _ ⟨g1, by omega, g3, by omega⟩).mono ?_
        rintro e w6 ⟨rfl, hb6⟩
        clear D00 D01 D40 D41
        have B6 : Below w.heap.size w w6 := btr B5 hb6
        replace D0 := D0.below hb6
        replace D4 := D4.below hb6
        have D00 := D0.c0
        have D01 := D0.c1
        have D40 := D4.c0
        have D41 := D4.c1
        go_wp2_with fail
        refine (Calls.val (less_c x y (chN L) (chD L) _ ⟨g1, by omega, by omega, by omega⟩ ⟨f1, by omega, by omega, by omega⟩) (vb HLT.out)).mono ?_
        rintro e w7 ⟨rfl, hb7⟩
        clear D00 D01 D40 D41
        have B7 : Below w.heap.size w w7 := btr B6 hb7
        replace D0 := D0.below hb7
        replace D4 := D4.below hb7
        have D00 := D0.c0
        have D01 := D0.c1
        have D40 := D4.c0
        have D41 := D4.c1
        go_wp2_with fail
        refine (known_c _).mono ?_
        rintro e w8 ⟨rfl, hb8⟩
        clear D00 D01 D40 D41
        have B8 : Below w.heap.size w w8 := btr B7 hb8
        replace D0 := D0.below hb8
        replace D4 := D4.below hb8
        have D00 := D0.c0
        have D01 := D0.c1
        have D40 := D4.c0
        have D41 := D4.c1
        go_wp2_with fail
        go_ret
        exact ⟨rfl, B8⟩
      · have hz : (caErr L != 0) = true := by simp [h0]
        clear h0
        go_enter Try.func5, Try.ntmps5
        go_wp2_with fail
        refine (Long_c _ _ _ _).mono ?_
        rintro e w1 ⟨rfl, hb1⟩
        have ha1 : Below w.heap.size w w1 := btr ((Below.refl _ _).alloc (Nat.le_refl _) _) hb1
        have D0 : Cell2 w1 w.heap.size x y := Cell2.below (w := w.alloc (.cells #[.int .i64 x, .int .i64 y] 25)) ⟨by simp [go_sem], by simp [go_sem], by simp [go_sem], by simp [go_sem]⟩ hb1
        have B1 : Below w.heap.size w w1 := btr ((Below.refl w.heap.size w).alloc (Nat.le_refl _) _) hb1
        simp only [hl]
        have D00 := D0.c0
        have D01 := D0.c1
        go_wp2_with fail
        refine (Closes_c _ _ _ L x y _ (h.below B1 (Nat.le_refl _))).mono ?_
        rintro e w2 ⟨rfl, hb2⟩
        clear D00 D01
        have B2 : Below w.heap.size w w2 := btr B1 hb2
        replace D0 := D0.below hb2
        have D00 := D0.c0
        have D01 := D0.c1
        go_wp2_with fail
        refine (rCloses_c _ _ _ L x y _ (h.below B2 (Nat.le_refl _))).mono ?_
        rintro e w3 ⟨rfl, hb3⟩
        clear D00 D01
        have B3 : Below w.heap.size w w3 := btr B2 hb3
        replace D0 := D0.below hb3
        rw [hb]
        clear hb
        have D00 := D0.c0
        have D01 := D0.c1
        go_wp2_with fail
        refine (Chance_c _ _ _ L _ (h.below B3 (Nat.le_refl _))).mono ?_
        rintro e w4 ⟨rfl, hb4⟩
        clear D00 D01
        have B4 : Below w.heap.size w w4 := btr B3 hb4
        replace D0 := D0.below hb4
        have D00 := D0.c0
        have D01 := D0.c1
        have D0l := D0.lt
        go_wp2_with fail
        refine (known_c _).mono ?_
        rintro e w5 ⟨rfl, hb5⟩
        clear D00 D01 D0l
        have ha5 : Below w4.heap.size w4 w5 := btr ((Below.refl _ _).alloc (Nat.le_refl _) _) hb5
        have D4 : Cell2 w5 w4.heap.size (chN L) (chD L) := Cell2.below (w := w4.alloc (.cells #[.int .i64 (chN L), .int .i64 (chD L)] 25)) ⟨by simp [go_sem], by simp [go_sem], by simp [go_sem], by simp [go_sem]⟩ hb5
        have B5 : Below w.heap.size w w5 := btr (B4.alloc B4.size _) hb5
        replace D0 := D0.below ha5
        have D00 := D0.c0
        have D01 := D0.c1
        have D40 := D4.c0
        have D41 := D4.c1
        go_wp2_with fail
        go_ret
        exact ⟨rfl, B5⟩
end Go.Proofs.Ytplindidegmlkaa
