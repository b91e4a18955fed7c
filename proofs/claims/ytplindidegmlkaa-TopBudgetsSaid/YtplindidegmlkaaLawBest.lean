/- BudgetBest: the walk. -/
import Derived.Test.YtplindidegmlkaaJ
import Derived.Test.YtplindidegmlkaaK
namespace Go.Proofs.Ytplindidegmlkaa
open Go.RowKit Go.Sort

theorem be_facts {L : List It} {F : List Fx} {c : Int} (h : beErr L F c = 0) : 0 ≤ beN L F c ∧ beN L F c ≤ 134217728 ∧ 1 ≤ beD L F c ∧ beD L F c ≤ 134217728 := by
  obtain ⟨hv, _, _⟩ := beErr_zero.1 h
  obtain ⟨e1, e2⟩ := beND_ok h
  obtain ⟨p1, p2⟩ := bestP_bd (cost := c) hv
  obtain ⟨f1, f2, f3, f4⟩ := frac_bd p1 p2
  rw [e1, e2]; omega
theorem be_next {L : List It} {F : List Fx} {c : Int} (h : beErr L F c = 0) (hc : c < 792) : beErr L F (c + 1) = 0 ∧ ¬ (beN L F c * beD L F (c + 1) < beN L F (c + 1) * beD L F c) := by
  obtain ⟨hv, h0, h1⟩ := beErr_zero.1 h
  have h2 : beErr L F (c + 1) = 0 := beErr_zero.2 ⟨hv, by omega, by omega⟩
  obtain ⟨e1, e2⟩ := beND_ok h
  obtain ⟨e3, e4⟩ := beND_ok h2
  refine ⟨h2, ?_⟩
  rw [e1, e2, e3, e4, red_cmp]
  have := bestP_mono (L := L) (F := F) (c := c) (d := c + 1) (by omega)
  omega

set_option maxRecDepth 100000 in
set_option maxHeartbeats 3200000 in
theorem best_w (a : Option Addr) (n c : Nat) (L : List It) (fa : Option Addr) (m fc : Nat) (F : List Fx) (cost : Int) (w : World) (h : SlO w a n L) (hc : n ≤ c) (hm : c ≤ maxLen) (hf : FlO w fa m F) (hc2 : m ≤ fc) (hm2 : fc ≤ maxLen) :
    Calls Try.prog 8 #[.slice a n c, .slice fa m fc, .int .i64 cost] w fun e w' => e = .returned (.bool true) ∧ Below w.heap.size w w' := by
  have _ := hc
  have _ := hm
  have _ := hc2
  have _ := hm2
  have self := fun x : Int => (show (x != x) = false by simp)
  have selfe := fun x : Int => (show (x == x) = true by simp)
  have selfb := fun x : Bool => (show (x != x) = false by simp)
  have selfc := fun x : Bool => (show (x == x) = true by simp)
  have hmm : m ≤ 9223372036854775807 := by unfold maxLen at hm2; omega
  cases hl : longB n
  case true =>
    go_enter Try.func8, Try.ntmps8
    go_wp2_with fail
    refine (Long_c _ _ _ _).mono ?_
    rintro e w1 ⟨rfl, hb1⟩
    have B1 : Below w.heap.size w w1 := btr (Below.refl _ _) hb1
    simp only [hl]
    go_wp2_with fail
    refine (known_c _).mono ?_
    rintro e w2 ⟨rfl, hb2⟩
    have B2 : Below w.heap.size w w2 := btr B1 hb2
    go_wp2_with fail
    go_ret
    exact ⟨rfl, B2⟩
  case false =>
    by_cases h50 : 50 < m
    · have h50' : (50 : Int) < m := by omega
      go_enter Try.func8, Try.ntmps8
      go_wp2_with fail
      refine (Long_c _ _ _ _).mono ?_
      rintro e w1 ⟨rfl, hb1⟩
      have B1 : Below w.heap.size w w1 := btr (Below.refl _ _) hb1
      simp only [hl]
      go_wp2_with fail
      refine (known_c _).mono ?_
      rintro e w2 ⟨rfl, hb2⟩
      have B2 : Below w.heap.size w w2 := btr B1 hb2
      go_wp2_with fail
      go_ret
      exact ⟨rfl, B2⟩
    · have h50' : ¬ (50 : Int) < m := by omega
      by_cases h0 : beErr L F cost = 0
      · have hz : (beErr L F cost != 0) = false := by simp [h0]
        by_cases h7 : cost < 792
        · have h7' : decide (792 ≤ cost) = false := decF (by omega)
          obtain ⟨hb2, hle⟩ := be_next h0 h7
          obtain ⟨f1, f2, f3, f4⟩ := be_facts h0
          obtain ⟨g1, g2, g3, g4⟩ := be_facts hb2
          have hcb := beErr_zero.1 h0
          have hc0 : 0 ≤ cost := hcb.2.1
          have HB2 := Lib.hid hb2
          have HLE := Lib.hid (decF hle)
          clear hb2 hle h0 hcb
          go_enter Try.func8, Try.ntmps8
          go_wp2_with fail
          refine (Long_c _ _ _ _).mono ?_
          rintro e w1 ⟨rfl, hb1⟩
          have B1 : Below w.heap.size w w1 := btr (Below.refl _ _) hb1
          simp only [hl]
          go_wp2_with fail
          refine (Best_c _ _ _ L _ _ _ F cost _ (h.below B1 (Nat.le_refl _)) (hf.below B1 (Nat.le_refl _)) hmm).mono ?_
          rintro e w2 ⟨rfl, hb2⟩
          have B2 : Below w.heap.size w w2 := btr B1 hb2
          go_wp2_with fail
          refine (rBest_c _ _ _ L _ _ _ F cost _ (h.below (B2.alloc B2.size _) (Nat.le_refl _)) (hf.below (B2.alloc B2.size _) (Nat.le_refl _)) hmm).mono ?_
          rintro e w3 ⟨rfl, hb3⟩
          have ha3 : Below w2.heap.size w2 w3 := btr ((Below.refl _ _).alloc (Nat.le_refl _) _) hb3
          have D2 : Cell2 w3 w2.heap.size (beN L F cost) (beD L F cost) := Cell2.below (w := w2.alloc (.cells #[.int .i64 (beN L F cost), .int .i64 (beD L F cost)] 25)) ⟨by simp [go_sem], by simp [go_sem], by simp [go_sem], by simp [go_sem]⟩ hb3
          have B3 : Below w.heap.size w w3 := btr (B2.alloc B2.size _) hb3
          have D20 := D2.c0
          have D21 := D2.c1
          have D2l := D2.lt
          go_wp2_with fail
          refine (Best_c _ _ _ L _ _ _ F (cost + 1) _ (h.below (B3.alloc B3.size _) (Nat.le_refl _)) (hf.below (B3.alloc B3.size _) (Nat.le_refl _)) hmm).mono ?_
          rintro e w4 ⟨rfl, hb4⟩
          clear D20 D21 D2l
          have ha4 : Below w3.heap.size w3 w4 := btr ((Below.refl _ _).alloc (Nat.le_refl _) _) hb4
          have D3 : Cell2 w4 w3.heap.size (beN L F cost) (beD L F cost) := Cell2.below (w := w3.alloc (.cells #[.int .i64 (beN L F cost), .int .i64 (beD L F cost)] 25)) ⟨by simp [go_sem], by simp [go_sem], by simp [go_sem], by simp [go_sem]⟩ hb4
          have B4 : Below w.heap.size w w4 := btr (B3.alloc B3.size _) hb4
          replace D2 := D2.below ha4
          rw [HB2.out]
          have D20 := D2.c0
          have D21 := D2.c1
          have D2l := D2.lt
          have D30 := D3.c0
          have D31 := D3.c1
          have D3l := D3.lt
          go_wp2_with fail
          refine (fair_c _ _ _ ⟨f1, f2, f3, f4⟩).mono ?_
          rintro e w5 ⟨rfl, hb5⟩
          clear D20 D21 D2l D30 D31 D3l
          have ha5 : Below w4.heap.size w4 w5 := btr ((Below.refl _ _).alloc (Nat.le_refl _) _) hb5
          have D4 : Cell2 w5 w4.heap.size (beN L F (cost + 1)) (beD L F (cost + 1)) := Cell2.below (w := w4.alloc (.cells #[.int .i64 (beN L F (cost + 1)), .int .i64 (beD L F (cost + 1))] 25)) ⟨by simp [go_sem], by simp [go_sem], by simp [go_sem], by simp [go_sem]⟩ hb5
          have B5 : Below w.heap.size w w5 := btr (B4.alloc B4.size _) hb5
          replace D2 := D2.below ha5
          replace D3 := D3.below ha5
          have D20 := D2.c0
          have D21 := D2.c1
          have D30 := D3.c0
          have D31 := D3.c1
          have D40 := D4.c0
          have D41 := D4.c1
          go_wp2_with fail
          refine (fair_c _ _ _ ⟨g1, g2, g3, g4⟩).mono ?_
          rintro e w6 ⟨rfl, hb6⟩
          clear D20 D21 D30 D31 D40 D41
          have B6 : Below w.heap.size w w6 := btr B5 hb6
          replace D2 := D2.below hb6
          replace D3 := D3.below hb6
          replace D4 := D4.below hb6
          have D20 := D2.c0
          have D21 := D2.c1
          have D30 := D3.c0
          have D31 := D3.c1
          have D40 := D4.c0
          have D41 := D4.c1
          go_wp2_with fail
          refine (Calls.val (less_c (beN L F cost) (beD L F cost) (beN L F (cost + 1)) (beD L F (cost + 1)) _ ⟨f1, by omega, by omega, by omega⟩ ⟨g1, by omega, by omega, by omega⟩) (vb HLE.out)).mono ?_
          rintro e w7 ⟨rfl, hb7⟩
          clear D20 D21 D30 D31 D40 D41
          have B7 : Below w.heap.size w w7 := btr B6 hb7
          replace D2 := D2.below hb7
          replace D3 := D3.below hb7
          replace D4 := D4.below hb7
          have D20 := D2.c0
          have D21 := D2.c1
          have D30 := D3.c0
          have D31 := D3.c1
          have D40 := D4.c0
          have D41 := D4.c1
          go_wp2_with fail
          refine (known_c _).mono ?_
          rintro e w8 ⟨rfl, hb8⟩
          clear D20 D21 D30 D31 D40 D41
          have B8 : Below w.heap.size w w8 := btr B7 hb8
          replace D2 := D2.below hb8
          replace D3 := D3.below hb8
          replace D4 := D4.below hb8
          have D20 := D2.c0
          have D21 := D2.c1
          have D30 := D3.c0
          have D31 := D3.c1
          have D40 := D4.c0
          have D41 := D4.c1
          go_wp2_with fail
          go_ret
          exact ⟨rfl, B8⟩
        · have h7' : decide (792 ≤ cost) = true := decT (by omega)
          clear h0
          go_enter Try.func8, Try.ntmps8
          go_wp2_with fail
          refine (Long_c _ _ _ _).mono ?_
          rintro e w1 ⟨rfl, hb1⟩
          have B1 : Below w.heap.size w w1 := btr (Below.refl _ _) hb1
          simp only [hl]
          go_wp2_with fail
          refine (Best_c _ _ _ L _ _ _ F cost _ (h.below B1 (Nat.le_refl _)) (hf.below B1 (Nat.le_refl _)) hmm).mono ?_
          rintro e w2 ⟨rfl, hb2⟩
          have B2 : Below w.heap.size w w2 := btr B1 hb2
          go_wp2_with fail
          refine (rBest_c _ _ _ L _ _ _ F cost _ (h.below (B2.alloc B2.size _) (Nat.le_refl _)) (hf.below (B2.alloc B2.size _) (Nat.le_refl _)) hmm).mono ?_
          rintro e w3 ⟨rfl, hb3⟩
          have ha3 : Below w2.heap.size w2 w3 := btr ((Below.refl _ _).alloc (Nat.le_refl _) _) hb3
          have D2 : Cell2 w3 w2.heap.size (beN L F cost) (beD L F cost) := Cell2.below (w := w2.alloc (.cells #[.int .i64 (beN L F cost), .int .i64 (beD L F cost)] 25)) ⟨by simp [go_sem], by simp [go_sem], by simp [go_sem], by simp [go_sem]⟩ hb3
          have B3 : Below w.heap.size w w3 := btr (B2.alloc B2.size _) hb3
          have D20 := D2.c0
          have D21 := D2.c1
          have D2l := D2.lt
          go_wp2_with fail
          refine (known_c _).mono ?_
          rintro e w4 ⟨rfl, hb4⟩
          clear D20 D21 D2l
          have ha4 : Below w3.heap.size w3 w4 := btr ((Below.refl _ _).alloc (Nat.le_refl _) _) hb4
          have D3 : Cell2 w4 w3.heap.size (beN L F cost) (beD L F cost) := Cell2.below (w := w3.alloc (.cells #[.int .i64 (beN L F cost), .int .i64 (beD L F cost)] 25)) ⟨by simp [go_sem], by simp [go_sem], by simp [go_sem], by simp [go_sem]⟩ hb4
          have B4 : Below w.heap.size w w4 := btr (B3.alloc B3.size _) hb4
          replace D2 := D2.below ha4
          have D20 := D2.c0
          have D21 := D2.c1
          have D30 := D3.c0
          have D31 := D3.c1
          go_wp2_with fail
          go_ret
          exact ⟨rfl, B4⟩
      · have hz : (beErr L F cost != 0) = true := by simp [h0]
        clear h0
        go_enter Try.func8, Try.ntmps8
        go_wp2_with fail
        refine (Long_c _ _ _ _).mono ?_
        rintro e w1 ⟨rfl, hb1⟩
        have B1 : Below w.heap.size w w1 := btr (Below.refl _ _) hb1
        simp only [hl]
        go_wp2_with fail
        refine (Best_c _ _ _ L _ _ _ F cost _ (h.below B1 (Nat.le_refl _)) (hf.below B1 (Nat.le_refl _)) hmm).mono ?_
        rintro e w2 ⟨rfl, hb2⟩
        have B2 : Below w.heap.size w w2 := btr B1 hb2
        go_wp2_with fail
        refine (rBest_c _ _ _ L _ _ _ F cost _ (h.below (B2.alloc B2.size _) (Nat.le_refl _)) (hf.below (B2.alloc B2.size _) (Nat.le_refl _)) hmm).mono ?_
        rintro e w3 ⟨rfl, hb3⟩
        have ha3 : Below w2.heap.size w2 w3 := btr ((Below.refl _ _).alloc (Nat.le_refl _) _) hb3
        have D2 : Cell2 w3 w2.heap.size (beN L F cost) (beD L F cost) := Cell2.below (w := w2.alloc (.cells #[.int .i64 (beN L F cost), .int .i64 (beD L F cost)] 25)) ⟨by simp [go_sem], by simp [go_sem], by simp [go_sem], by simp [go_sem]⟩ hb3
        have B3 : Below w.heap.size w w3 := btr (B2.alloc B2.size _) hb3
        have D20 := D2.c0
        have D21 := D2.c1
        have D2l := D2.lt
        go_wp2_with fail
        refine (known_c _).mono ?_
        rintro e w4 ⟨rfl, hb4⟩
        clear D20 D21 D2l
        have ha4 : Below w3.heap.size w3 w4 := btr ((Below.refl _ _).alloc (Nat.le_refl _) _) hb4
        have D3 : Cell2 w4 w3.heap.size (beN L F cost) (beD L F cost) := Cell2.below (w := w3.alloc (.cells #[.int .i64 (beN L F cost), .int .i64 (beD L F cost)] 25)) ⟨by simp [go_sem], by simp [go_sem], by simp [go_sem], by simp [go_sem]⟩ hb4
        have B4 : Below w.heap.size w w4 := btr (B3.alloc B3.size _) hb4
        replace D2 := D2.below ha4
        have D20 := D2.c0
        have D21 := D2.c1
        have D30 := D3.c0
        have D31 := D3.c1
        go_wp2_with fail
        go_ret
        exact ⟨rfl, B4⟩
end Go.Proofs.Ytplindidegmlkaa
