/- BudgetChances: the walk. -/
import Derived.Test.YtplindidegmlkaaK
namespace Go.Proofs.Ytplindidegmlkaa
open Go.RowKit Go.Sort

theorem ch_facts {L : List It} (h : caErr L = 0) : vErr L = 0 ∧ (0 ≤ chN L ∧ chN L ≤ 134217728 ∧ 1 ≤ chD L ∧ chD L ≤ 134217728) ∧ chN L ≤ chD L ∧ (0 ≤ totN L ∧ totN L ≤ 120960 ∧ 1 ≤ totD L ∧ totD L ≤ 2520) ∧ ¬ (totN L * chD L < chN L * totD L) := by
  obtain ⟨h0, h1, h2, h3, h4, h5⟩ := ca_facts h
  have e1 : chN L = caN L := if_pos h
  have e2 : chD L = caD L := if_pos h
  have e3 : totN L = toN L L.length := if_pos h0
  have e4 : totD L = toD L L.length := if_pos h0
  have := to_bd (vErr_zero.1 h0) (Nat.le_refl L.length)
  rw [e1, e2, e3, e4]
  omega

set_option maxRecDepth 100000 in
set_option maxHeartbeats 3200000 in
theorem chances_w (a : Option Addr) (n c : Nat) (L : List It) (w : World) (h : SlO w a n L) (hc : n ≤ c) (hm : c ≤ maxLen) :
    Calls Try.prog 4 #[.slice a n c] w fun e w' => e = .returned (.bool true) ∧ Below w.heap.size w w' := by
  have _ := hc
  have _ := hm
  have self := fun x : Int => (show (x != x) = false by simp)
  have selfe := fun x : Int => (show (x == x) = true by simp)
  have selfb := fun x : Bool => (show (x != x) = false by simp)
  have selfc := fun x : Bool => (show (x == x) = true by simp)
  cases hl : longB n
  case true =>
    go_enter Try.func4, Try.ntmps4
    go_wp2_with fail
    refine (Long_c _ _ _ _).mono ?_
    rintro e w1 ⟨rfl, hb1⟩
    have B1 : Below w.heap.size w w1 := btr (Below.refl _ _) hb1
    simp only [hl]
    go_wp2_with fail
    refine (known_c _).mono ?_
    rintro e w2 ⟨rfl, hb2⟩
    have B2 : Below w.heap.size w w2 := btr B1 hb2
    go_wp2_with fail
    go_ret
    exact ⟨rfl, B2⟩
  case false =>
    by_cases h0 : caErr L = 0
    · have hz : (caErr L != 0) = false := by simp [h0]
      have HE := Lib.hid h0
      obtain ⟨hv, ⟨f1, f2, f3, f4⟩, f5, ⟨g1, g2, g3, g4⟩, hlt⟩ := ch_facts h0
      have HV := Lib.hid hv
      have HLT := Lib.hid (decF hlt)
      have hle : decide (chN L ≤ chD L) = true := decT f5
      clear h0 hv hlt
      go_enter Try.func4, Try.ntmps4
      go_wp2_with fail
      refine (Long_c _ _ _ _).mono ?_
      rintro e w1 ⟨rfl, hb1⟩
      have B1 : Below w.heap.size w w1 := btr (Below.refl _ _) hb1
      simp only [hl]
      go_wp2_with fail
      refine (Chance_c _ _ _ L _ (h.below B1 (Nat.le_refl _))).mono ?_
      rintro e w2 ⟨rfl, hb2⟩
      have B2 : Below w.heap.size w w2 := btr B1 hb2
      go_wp2_with fail
      refine (rChance_c _ _ _ L _ (h.below (B2.alloc B2.size _) (Nat.le_refl _))).mono ?_
      rintro e w3 ⟨rfl, hb3⟩
      have ha3 : Below w2.heap.size w2 w3 := btr ((Below.refl _ _).alloc (Nat.le_refl _) _) hb3
      have D2 : Cell2 w3 w2.heap.size (chN L) (chD L) := Cell2.below (w := w2.alloc (.cells #[.int .i64 (chN L), .int .i64 (chD L)] 25)) ⟨by simp [go_sem], by simp [go_sem], by simp [go_sem], by simp [go_sem]⟩ hb3
      have B3 : Below w.heap.size w w3 := btr (B2.alloc B2.size _) hb3
      have D20 := D2.c0
      have D21 := D2.c1
      have D2l := D2.lt
      go_wp2_with fail
      refine (Total_c _ _ _ L _ (h.below (B3.alloc B3.size _) (Nat.le_refl _))).mono ?_
      rintro e w4 ⟨rfl, hb4⟩
      clear D20 D21 D2l
      have ha4 : Below w3.heap.size w3 w4 := btr ((Below.refl _ _).alloc (Nat.le_refl _) _) hb4
      have D3 : Cell2 w4 w3.heap.size (chN L) (chD L) := Cell2.below (w := w3.alloc (.cells #[.int .i64 (chN L), .int .i64 (chD L)] 25)) ⟨by simp [go_sem], by simp [go_sem], by simp [go_sem], by simp [go_sem]⟩ hb4
      have B4 : Below w.heap.size w w4 := btr (B3.alloc B3.size _) hb4
      replace D2 := D2.below ha4
      rw [HV.out]
      have D20 := D2.c0
      have D21 := D2.c1
      have D2l := D2.lt
      have D30 := D3.c0
      have D31 := D3.c1
      have D3l := D3.lt
      go_wp2_with fail
      refine (fair_c (chN L) (chD L) _ ⟨f1, f2, f3, f4⟩).mono ?_
      rintro e w5 ⟨rfl, hb5⟩
      clear D20 D21 D2l D30 D31 D3l
      have ha5 : Below w4.heap.size w4 w5 := btr ((Below.refl _ _).alloc (Nat.le_refl _) _) hb5
      have D4 : Cell2 w5 w4.heap.size (totN L) (totD L) := Cell2.below (w := w4.alloc (.cells #[.int .i64 (totN L), .int .i64 (totD L)] 25)) ⟨by simp [go_sem], by simp [go_sem], by simp [go_sem], by simp [go_sem]⟩ hb5
      have B5 : Below w.heap.size w w5 := btr (B4.alloc B4.size _) hb5
      replace D2 := D2.below ha5
      replace D3 := D3.below ha5
      have D20 := D2.c0
      have D21 := D2.c1
      have D30 := D3.c0
      have D31 := D3.c1
      have D40 := D4.c0
      have D41 := D4.c1
      go_wp2_with fail
      refine (fair_c (totN L) (totD L) _ ⟨g1, by omega, g3, by omega⟩).mono ?_
      rintro e w6 ⟨rfl, hb6⟩
      clear D20 D21 D30 D31 D40 D41
      have B6 : Below w.heap.size w w6 := btr B5 hb6
      replace D2 := D2.below hb6
      replace D3 := D3.below hb6
      replace D4 := D4.below hb6
      have D20 := D2.c0
      have D21 := D2.c1
      have D30 := D3.c0
      have D31 := D3.c1
      have D40 := D4.c0
      have D41 := D4.c1
      go_wp2_with fail
      refine (Calls.val (less_c (totN L) (totD L) (chN L) (chD L) _ ⟨g1, by omega, by omega, by omega⟩ ⟨f1, by omega, by omega, by omega⟩) (vb HLT.out)).mono ?_
      rintro e w7 ⟨rfl, hb7⟩
      clear D20 D21 D30 D31 D40 D41
      have B7 : Below w.heap.size w w7 := btr B6 hb7
      replace D2 := D2.below hb7
      replace D3 := D3.below hb7
      replace D4 := D4.below hb7
      have D20 := D2.c0
      have D21 := D2.c1
      have D30 := D3.c0
      have D31 := D3.c1
      have D40 := D4.c0
      have D41 := D4.c1
      go_wp2_with fail
      refine (known_c _).mono ?_
      rintro e w8 ⟨rfl, hb8⟩
      clear D20 D21 D30 D31 D40 D41
      have B8 : Below w.heap.size w w8 := btr B7 hb8
      replace D2 := D2.below hb8
      replace D3 := D3.below hb8
      replace D4 := D4.below hb8
      have D20 := D2.c0
      have D21 := D2.c1
      have D30 := D3.c0
      have D31 := D3.c1
      have D40 := D4.c0
      have D41 := D4.c1
      go_wp2_with fail
      go_ret
      exact ⟨rfl, B8⟩
    · have hz : (caErr L != 0) = true := by simp [h0]
      clear h0
      go_enter Try.func4, Try.ntmps4
      go_wp2_with fail
      refine (Long_c _ _ _ _).mono ?_
      rintro e w1 ⟨rfl, hb1⟩
      have B1 : Below w.heap.size w w1 := btr (Below.refl _ _) hb1
      simp only [hl]
      go_wp2_with fail
      refine (Chance_c _ _ _ L _ (h.below B1 (Nat.le_refl _))).mono ?_
      rintro e w2 ⟨rfl, hb2⟩
      have B2 : Below w.heap.size w w2 := btr B1 hb2
      go_wp2_with fail
      refine (rChance_c _ _ _ L _ (h.below (B2.alloc B2.size _) (Nat.le_refl _))).mono ?_
      rintro e w3 ⟨rfl, hb3⟩
      have ha3 : Below w2.heap.size w2 w3 := btr ((Below.refl _ _).alloc (Nat.le_refl _) _) hb3
      have D2 : Cell2 w3 w2.heap.size (chN L) (chD L) := Cell2.below (w := w2.alloc (.cells #[.int .i64 (chN L), .int .i64 (chD L)] 25)) ⟨by simp [go_sem], by simp [go_sem], by simp [go_sem], by simp [go_sem]⟩ hb3
      have B3 : Below w.heap.size w w3 := btr (B2.alloc B2.size _) hb3
      have D20 := D2.c0
      have D21 := D2.c1
      have D2l := D2.lt
      go_wp2_with fail
      refine (known_c _).mono ?_
      rintro e w4 ⟨rfl, hb4⟩
      clear D20 D21 D2l
      have ha4 : Below w3.heap.size w3 w4 := btr ((Below.refl _ _).alloc (Nat.le_refl _) _) hb4
      have D3 : Cell2 w4 w3.heap.size (chN L) (chD L) := Cell2.below (w := w3.alloc (.cells #[.int .i64 (chN L), .int .i64 (chD L)] 25)) ⟨by simp [go_sem], by simp [go_sem], by simp [go_sem], by simp [go_sem]⟩ hb4
      have B4 : Below w.heap.size w w4 := btr (B3.alloc B3.size _) hb4
      replace D2 := D2.below ha4
      have D20 := D2.c0
      have D21 := D2.c1
      have D30 := D3.c0
      have D31 := D3.c1
      go_wp2_with fail
      go_ret
      exact ⟨rfl, B4⟩
end Go.Proofs.Ytplindidegmlkaa
