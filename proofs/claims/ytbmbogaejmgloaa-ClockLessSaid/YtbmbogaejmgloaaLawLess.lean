/- ClockLess: the walk. -/
import Derived.Test.YtbmbogaejmgloaaH
namespace Go.Proofs.Ytbmbogaejmgloaa
open Go.RowKit Go.Sort
theorem less_facts {L : List Jb} {k : Int} (h : lsErr L k = 0) (x y : Int) (hn : 0 < (lsL L k).length) : vErr L = 0 ∧ vErr (lsL L k) = 0 ∧ laR (lsL L k) ≤ laR L ∧ stErr (lsL L k) x y = stErr L x y ∧ dmR (lsL L k) x y ≤ dmR L x y := by
  obtain ⟨hv, h1, h2⟩ := lsErr_zero.1 h
  have e : lsL L k = lessJ L k.toNat := if_pos h
  rw [e] at hn ⊢
  have hk : k.toNat < L.length := by omega
  have hv2 := lessJ_valid hv hk
  have z1 := vErr_zero.2 hv
  have z2 := vErr_zero.2 hv2
  have es : stErr (lessJ L k.toNat) x y = stErr L x y := by unfold stErr; rw [z1, z2]
  refine ⟨z1, z2, ?_, es, ?_⟩
  · unfold laR; rw [if_pos z1, if_pos z2]; exact lessJ_late hv hk hn
  · unfold dmR; rw [es]
    split
    · exact lessJ_dem hv hk x y
    · exact Int.le_refl _

set_option maxRecDepth 100000 in
set_option maxHeartbeats 3200000 in
theorem less_w (a : Option Addr) (n c : Nat) (L : List Jb) (k x y : Int) (w : World) (h : SlO w a n L) (hc : n ≤ c) (hm : c ≤ maxLen) :
    Calls Try.prog 15 #[.slice a n c, .int .i64 k, .agg #[.int .i64 x, .int .i64 y]] w fun e w' => e = .returned (.bool true) ∧ Below w.heap.size w w' := by
  have _ := hc
  have _ := hm
  have self := fun x : Int => (show (x != x) = false by simp)
  have selfe := fun x : Int => (show (x == x) = true by simp)
  have selfb := fun x : Bool => (show (x != x) = false by simp)
  have selfc := fun x : Bool => (show (x == x) = true by simp)
  cases hl : longB n
  case true =>
    go_enter Try.func15, Try.ntmps15
    go_wp2_with fail
    refine (Long_c _ _ _ _).mono ?_
    rintro e w1 ⟨rfl, hb1⟩
    have ha1 : Below w.heap.size w w1 := btr ((Below.refl _ _).alloc (Nat.le_refl _) _) hb1
    have hx : Cell2 w1 w.heap.size x y := Cell2.below (w := w.alloc (.cells #[.int .i64 x, .int .i64 y] 60)) ⟨by simp [go_sem], by simp [go_sem], by simp [go_sem], by simp [go_sem]⟩ hb1
    have B1 : Below w.heap.size w w1 := btr ((Below.refl w.heap.size w).alloc (Nat.le_refl _) _) hb1
    simp only [hl]
    have hx0 := hx.c0
    have hx1 := hx.c1
    go_wp2_with fail
    refine (known_c _).mono ?_
    rintro e w2 ⟨rfl, hb2⟩
    clear hx0 hx1
    have B2 : Below w.heap.size w w2 := btr B1 hb2
    replace hx := hx.below hb2
    have hx0 := hx.c0
    have hx1 := hx.c1
    go_wp2_with fail
    go_ret
    exact ⟨rfl, B2⟩
  case false =>
    by_cases h0 : lsErr L k = 0
    case neg =>
      have hne : (lsErr L k != 0) = true := by simpa using h0
      clear h0
      go_enter Try.func15, Try.ntmps15
      go_wp2_with fail
      refine (Long_c _ _ _ _).mono ?_
      rintro e w1 ⟨rfl, hb1⟩
      have ha1 : Below w.heap.size w w1 := btr ((Below.refl _ _).alloc (Nat.le_refl _) _) hb1
      have hx : Cell2 w1 w.heap.size x y := Cell2.below (w := w.alloc (.cells #[.int .i64 x, .int .i64 y] 60)) ⟨by simp [go_sem], by simp [go_sem], by simp [go_sem], by simp [go_sem]⟩ hb1
      have B1 : Below w.heap.size w w1 := btr ((Below.refl w.heap.size w).alloc (Nat.le_refl _) _) hb1
      simp only [hl]
      have hx0 := hx.c0
      have hx1 := hx.c1
      go_wp2_with fail
      refine (Without_c _ _ _ _ _ _ (h.below B1 (Nat.le_refl _)) hc hm).mono ?_
      rintro e w2 ⟨v2, rfl, hv2, hb2⟩
      clear hx0 hx1
      have B2 : Below w.heap.size w w2 := btr B1 hb2
      replace hx := hx.below hb2
      obtain ⟨a2, c2, e2, i2, l2, m2, q2⟩ := hv2
      rw [e2]
      clear e2 q2
      have hx0 := hx.c0
      have hx1 := hx.c1
      go_wp2_with fail
      refine (rWithout_c _ _ _ _ _ _ (h.below B2 (Nat.le_refl _)) hc hm).mono ?_
      rintro e w3 ⟨v3, rfl, hv3, hb3⟩
      clear hx0 hx1
      have B3 : Below w.heap.size w w3 := btr B2 hb3
      replace i2 := i2.below hb3 (Nat.le_refl _)
      replace hx := hx.below hb3
      obtain ⟨a3, c3, e3, i3, l3, m3, q3⟩ := hv3
      rw [e3]
      clear e3 q3
      have hx0 := hx.c0
      have hx1 := hx.c1
      go_wp2_with fail
      refine (Same_c _ _ _ _ _ _ _ _ _ i2 i3 (Nat.le_trans l2 (Nat.le_trans m2 (by decide)))).mono ?_
      rintro e w4 ⟨rfl, hb4⟩
      clear hx0 hx1
      have B4 : Below w.heap.size w w4 := btr B3 hb4
      replace i2 := i2.below hb4 (Nat.le_refl _)
      replace i3 := i3.below hb4 (Nat.le_refl _)
      replace hx := hx.below hb4
      rw [sameB_self]
      have hx0 := hx.c0
      have hx1 := hx.c1
      go_wp2_with fail
      refine (known_c _).mono ?_
      rintro e w5 ⟨rfl, hb5⟩
      clear hx0 hx1
      have B5 : Below w.heap.size w w5 := btr B4 hb5
      replace i2 := i2.below hb5 (Nat.le_refl _)
      replace i3 := i3.below hb5 (Nat.le_refl _)
      replace hx := hx.below hb5
      have hx0 := hx.c0
      have hx1 := hx.c1
      go_wp2_with fail
      go_ret
      exact ⟨rfl, B5⟩
    have hne : (lsErr L k != 0) = false := by simp [h0]
    by_cases hn : (lsL L k).length = 0
    case pos =>
      have dn : (((lsL L k).length : Int) == 0) = true := by simp [hn]
      clear h0 hn
      go_enter Try.func15, Try.ntmps15
      go_wp2_with fail
      refine (Long_c _ _ _ _).mono ?_
      rintro e w1 ⟨rfl, hb1⟩
      have ha1 : Below w.heap.size w w1 := btr ((Below.refl _ _).alloc (Nat.le_refl _) _) hb1
      have hx : Cell2 w1 w.heap.size x y := Cell2.below (w := w.alloc (.cells #[.int .i64 x, .int .i64 y] 60)) ⟨by simp [go_sem], by simp [go_sem], by simp [go_sem], by simp [go_sem]⟩ hb1
      have B1 : Below w.heap.size w w1 := btr ((Below.refl w.heap.size w).alloc (Nat.le_refl _) _) hb1
      simp only [hl]
      have hx0 := hx.c0
      have hx1 := hx.c1
      go_wp2_with fail
      refine (Without_c _ _ _ _ _ _ (h.below B1 (Nat.le_refl _)) hc hm).mono ?_
      rintro e w2 ⟨v2, rfl, hv2, hb2⟩
      clear hx0 hx1
      have B2 : Below w.heap.size w w2 := btr B1 hb2
      replace hx := hx.below hb2
      obtain ⟨a2, c2, e2, i2, l2, m2, q2⟩ := hv2
      rw [e2]
      clear e2 q2
      have hx0 := hx.c0
      have hx1 := hx.c1
      go_wp2_with fail
      refine (rWithout_c _ _ _ _ _ _ (h.below B2 (Nat.le_refl _)) hc hm).mono ?_
      rintro e w3 ⟨v3, rfl, hv3, hb3⟩
      clear hx0 hx1
      have B3 : Below w.heap.size w w3 := btr B2 hb3
      replace i2 := i2.below hb3 (Nat.le_refl _)
      replace hx := hx.below hb3
      obtain ⟨a3, c3, e3, i3, l3, m3, q3⟩ := hv3
      rw [e3]
      clear e3 q3
      have hx0 := hx.c0
      have hx1 := hx.c1
      go_wp2_with fail
      refine (Same_c _ _ _ _ _ _ _ _ _ i2 i3 (Nat.le_trans l2 (Nat.le_trans m2 (by decide)))).mono ?_
      rintro e w4 ⟨rfl, hb4⟩
      clear hx0 hx1
      have B4 : Below w.heap.size w w4 := btr B3 hb4
      replace i2 := i2.below hb4 (Nat.le_refl _)
      replace i3 := i3.below hb4 (Nat.le_refl _)
      replace hx := hx.below hb4
      rw [sameB_self]
      have hx0 := hx.c0
      have hx1 := hx.c1
      go_wp2_with fail
      refine (known_c _).mono ?_
      rintro e w5 ⟨rfl, hb5⟩
      clear hx0 hx1
      have B5 : Below w.heap.size w w5 := btr B4 hb5
      replace i2 := i2.below hb5 (Nat.le_refl _)
      replace i3 := i3.below hb5 (Nat.le_refl _)
      replace hx := hx.below hb5
      have hx0 := hx.c0
      have hx1 := hx.c1
      go_wp2_with fail
      go_ret
      exact ⟨rfl, B5⟩
    have dn : (((lsL L k).length : Int) == 0) = false := by rw [beq_eq_false_iff_ne]; omega
    obtain ⟨f1, f2, f3, f4, f5⟩ := less_facts h0 x y (by omega)
    have F1 := Lib.hid f1
    have F2 := Lib.hid f2
    have F4 := Lib.hid f4
    have d3 := decT f3
    have d5 := decT f5
    clear h0 f1 f2 f3 f4 f5 hn
    go_enter Try.func15, Try.ntmps15
    go_wp2_with fail
    refine (Long_c _ _ _ _).mono ?_
    rintro e w1 ⟨rfl, hb1⟩
    have ha1 : Below w.heap.size w w1 := btr ((Below.refl _ _).alloc (Nat.le_refl _) _) hb1
    have hx : Cell2 w1 w.heap.size x y := Cell2.below (w := w.alloc (.cells #[.int .i64 x, .int .i64 y] 60)) ⟨by simp [go_sem], by simp [go_sem], by simp [go_sem], by simp [go_sem]⟩ hb1
    have B1 : Below w.heap.size w w1 := btr ((Below.refl w.heap.size w).alloc (Nat.le_refl _) _) hb1
    simp only [hl]
    have hx0 := hx.c0
    have hx1 := hx.c1
    go_wp2_with fail
    refine (Without_c _ _ _ _ _ _ (h.below B1 (Nat.le_refl _)) hc hm).mono ?_
    rintro e w2 ⟨v2, rfl, hv2, hb2⟩
    clear hx0 hx1
    have B2 : Below w.heap.size w w2 := btr B1 hb2
    replace hx := hx.below hb2
    obtain ⟨a2, c2, e2, i2, l2, m2, q2⟩ := hv2
    rw [e2]
    clear e2 q2
    have hx0 := hx.c0
    have hx1 := hx.c1
    go_wp2_with fail
    refine (rWithout_c _ _ _ _ _ _ (h.below B2 (Nat.le_refl _)) hc hm).mono ?_
    rintro e w3 ⟨v3, rfl, hv3, hb3⟩
    clear hx0 hx1
    have B3 : Below w.heap.size w w3 := btr B2 hb3
    replace i2 := i2.below hb3 (Nat.le_refl _)
    replace hx := hx.below hb3
    obtain ⟨a3, c3, e3, i3, l3, m3, q3⟩ := hv3
    rw [e3]
    clear e3 q3
    have hx0 := hx.c0
    have hx1 := hx.c1
    go_wp2_with fail
    refine (Same_c _ _ _ _ _ _ _ _ _ i2 i3 (Nat.le_trans l2 (Nat.le_trans m2 (by decide)))).mono ?_
    rintro e w4 ⟨rfl, hb4⟩
    clear hx0 hx1
    have B4 : Below w.heap.size w w4 := btr B3 hb4
    replace i2 := i2.below hb4 (Nat.le_refl _)
    replace i3 := i3.below hb4 (Nat.le_refl _)
    replace hx := hx.below hb4
    rw [sameB_self]
    have hx0 := hx.c0
    have hx1 := hx.c1
    go_wp2_with fail
    refine (Late_c _ _ _ _ _ i2).mono ?_
    rintro e w5 ⟨rfl, hb5⟩
    clear hx0 hx1
    have B5 : Below w.heap.size w w5 := btr B4 hb5
    replace i2 := i2.below hb5 (Nat.le_refl _)
    replace i3 := i3.below hb5 (Nat.le_refl _)
    replace hx := hx.below hb5
    rw [F2.out]
    have hx0 := hx.c0
    have hx1 := hx.c1
    go_wp2_with fail
    refine (Late_c _ _ _ _ _ (h.below B5 (Nat.le_refl _))).mono ?_
    rintro e w6 ⟨rfl, hb6⟩
    clear hx0 hx1
    have B6 : Below w.heap.size w w6 := btr B5 hb6
    replace i2 := i2.below hb6 (Nat.le_refl _)
    replace i3 := i3.below hb6 (Nat.le_refl _)
    replace hx := hx.below hb6
    rw [F1.out]
    have hx0 := hx.c0
    have hx1 := hx.c1
    go_wp2_with fail
    refine (Demand_c _ _ _ _ _ _ _ i2).mono ?_
    rintro e w7 ⟨rfl, hb7⟩
    clear hx0 hx1
    have B7 : Below w.heap.size w w7 := btr B6 hb7
    replace i2 := i2.below hb7 (Nat.le_refl _)
    replace i3 := i3.below hb7 (Nat.le_refl _)
    replace hx := hx.below hb7
    rw [F4.out]
    have hx0 := hx.c0
    have hx1 := hx.c1
    go_wp2_with fail
    refine (Demand_c _ _ _ _ _ _ _ (h.below B7 (Nat.le_refl _))).mono ?_
    rintro e w8 ⟨rfl, hb8⟩
    clear hx0 hx1
    have B8 : Below w.heap.size w w8 := btr B7 hb8
    replace i2 := i2.below hb8 (Nat.le_refl _)
    replace i3 := i3.below hb8 (Nat.le_refl _)
    replace hx := hx.below hb8
    have hx0 := hx.c0
    have hx1 := hx.c1
    go_wp2_with fail
    refine (known_c _).mono ?_
    rintro e w9 ⟨rfl, hb9⟩
    clear hx0 hx1
    have B9 : Below w.heap.size w w9 := btr B8 hb9
    replace i2 := i2.below hb9 (Nat.le_refl _)
    replace i3 := i3.below hb9 (Nat.le_refl _)
    replace hx := hx.below hb9
    have hx0 := hx.c0
    have hx1 := hx.c1
    go_wp2_with fail
    go_ret
    exact ⟨rfl, B9⟩
end Go.Proofs.Ytbmbogaejmgloaa
