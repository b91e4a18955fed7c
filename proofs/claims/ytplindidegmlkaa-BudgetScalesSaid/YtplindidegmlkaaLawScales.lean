/- BudgetScales: the walk. -/
import Derived.Test.YtplindidegmlkaaSc
import Derived.Test.YtplindidegmlkaaQ
import Derived.Test.YtplindidegmlkaaK
namespace Go.Proofs.Ytplindidegmlkaa
open Go.RowKit Go.Sort

theorem at_map {L : List It} {f : It → It} {k : Nat} (h : k < L.length) : at_ (L.map f) k = f (at_ L k) := by
  simp [at_, h]
theorem paT_map {L : List It} {y : Int} : ∀ k : Nat, k ≤ L.length → paT (L.map (scF y)) k = paT L k * y
  | 0, _ => by simp [paT, sumP]
  | k + 1, h => by
    rw [paT_step, paT_step, paT_map k (by omega), at_map (by omega), Int.add_mul]
    congr 1
    unfold wI scF
    dsimp only
    rw [Int.mul_assoc, Int.mul_comm y, ← Int.mul_assoc]
theorem sc_facts {L : List It} {y : Int} (h : scErr L y = 0) (h0 : L.length ≠ 0) : (1 ≤ y ∧ y ≤ 8) ∧ vErr L = 0 ∧ vErr (scL L y) = 0 ∧ (0 ≤ totN L ∧ totN L ≤ 120960 ∧ 1 ≤ totD L ∧ totD L ≤ 2520) ∧ totN (scL L y) = redN (totN L * y) (totD L) ∧ totD (scL L y) = redD (totN L * y) (totD L) := by
  obtain ⟨hv, hk⟩ := scErr_zero.1 h
  have hy := (hk 0 (by omega)).1
  have e : scL L y = L.map (scF y) := if_pos h
  have hL : vErr L = 0 := vErr_zero.2 hv
  have hM : Valid (L.map (scF y)) := ⟨by rw [List.length_map]; exact hv.le, fun i hi => by
    rw [List.length_map] at hi
    rw [at_map hi, okI_iff]
    have b := hv.bd hi
    have c := (hk i hi).2
    have m := Int.mul_le_mul (a := 1) (b := 1) (c := (at_ L i).u) (d := y) b.1 hy.1 (by decide) (by omega)
    unfold scF
    dsimp only
    omega⟩
  have e3 : totN L = toN L L.length := if_pos hL
  have e4 : totD L = toD L L.length := if_pos hL
  have e5 : totN (scL L y) = toN (scL L y) (scL L y).length := by unfold totN; rw [if_pos (by rw [e]; exact vErr_zero.2 hM)]
  have e6 : totD (scL L y) = toD (scL L y) (scL L y).length := by unfold totD; rw [if_pos (by rw [e]; exact vErr_zero.2 hM)]
  have b1 := to_bd hv (Nat.le_refl L.length)
  refine ⟨hy, hL, by rw [e]; exact vErr_zero.2 hM, by omega, ?_⟩
  rw [e3, e4, e5, e6, e, List.length_map]
  have hp := paT_map (L := L) (y := y) L.length (Nat.le_refl _)
  have hr := red_id (paT L L.length) 2520 (by decide)
  have hd := redD_pos (n := paT L L.length) (d := 2520) (by decide)
  unfold toN toD
  rw [hp]
  refine red_eq (by decide) hd ?_
  rw [Int.mul_right_comm, ← hr, Int.mul_right_comm]
theorem sc_len {L : List It} {y : Int} : (scL L y).length ≤ L.length := by
  by_cases h : scErr L y = 0
  · have e : scL L y = L.map (scF y) := if_pos h
    rw [e, List.length_map]; exact Nat.le_refl _
  · have e : scL L y = [] := if_neg h
    rw [e]; simp
theorem vagg {a b c d : Int} (h1 : a = c) (h2 : b = d) : Value.agg #[.int .i64 a, .int .i64 b] = .agg #[.int .i64 c, .int .i64 d] := by rw [h1, h2]

set_option maxRecDepth 100000 in
set_option maxHeartbeats 3200000 in
theorem scales_w (a : Option Addr) (n c : Nat) (L : List It) (y : Int) (w : World) (h : SlO w a n L) (hc : n ≤ c) (hm : c ≤ maxLen) :
    Calls Try.prog 7 #[.slice a n c, .int .i64 y] w fun e w' => e = .returned (.bool true) ∧ Below w.heap.size w w' := by
  have _ := hc
  have _ := hm
  have self := fun x : Int => (show (x != x) = false by simp)
  have selfe := fun x : Int => (show (x == x) = true by simp)
  have selfb := fun x : Bool => (show (x != x) = false by simp)
  have selfc := fun x : Bool => (show (x == x) = true by simp)
  have HLn := Lib.hid h.1
  cases hl : longB n
  case true =>
    go_enter Try.func7, Try.ntmps7
    go_wp2_with fail
    refine (Long_c _ _ _ _).mono ?_
    rintro e w1 ⟨rfl, hb1⟩
    have B1 : Below w.heap.size w w1 := btr (Below.refl _ _) hb1
    simp only [hl]
    go_wp2_with fail
    refine (known_c _).mono ?_
    rintro e w2 ⟨rfl, hb2⟩
    have B2 : Below w.heap.size w w2 := btr B1 hb2
    go_wp2_with fail
    go_ret
    exact ⟨rfl, B2⟩
  case false =>
    have hL50 := longB_false hl
    have hsl : (scL L y).length ≤ n := by have := sc_len (L := L) (y := y); have := HLn.out; omega
    by_cases h0 : scErr L y = 0
    · have hz : (scErr L y != 0) = false := by simp [h0]
      by_cases hn0 : n = 0
      · have hn1 : ((n : Int) == 0) = true := by simp; omega
        have hn2 : (n == 0) = true := by simp; omega
        clear h0 hn0
        go_enter Try.func7, Try.ntmps7
        go_wp2_with fail
        refine (Long_c _ _ _ _).mono ?_
        rintro e w1 ⟨rfl, hb1⟩
        have B1 : Below w.heap.size w w1 := btr (Below.refl _ _) hb1
        simp only [hl]
        go_wp2_with fail
        refine (Scale_c _ _ _ L y _ (h.below B1 (Nat.le_refl _))).mono ?_
        rintro e w2 ⟨v2, rfl, hv2, hb2⟩
        have B2 : Below w.heap.size w w2 := btr B1 hb2
        obtain ⟨a2, c2, e2, i2, -, -, -⟩ := ownsRow_it hv2
        subst e2
        have o2 := hv2
        clear hv2
        go_wp2_with fail
        refine (rScale_c _ _ _ L y _ (h.below B2 (Nat.le_refl _))).mono ?_
        rintro e w3 ⟨v3, rfl, hv3, hb3⟩
        have B3 : Below w.heap.size w w3 := btr B2 hb3
        replace i2 := i2.below hb3 (Nat.le_refl _)
        replace o2 := ownsRow_below o2 hb3
        obtain ⟨a3, c3, e3, i3, -, -, -⟩ := ownsRow_it hv3
        subst e3
        have o3 := hv3
        clear hv3
        go_wp2_with fail
        refine (Same_c _ _ _ _ _ (scL L y) _ i2 i3 (by omega)).mono ?_
        rintro e w4 ⟨rfl, hb4⟩
        have B4 : Below w.heap.size w w4 := btr B3 hb4
        replace i2 := i2.below hb4 (Nat.le_refl _)
        replace i3 := i3.below hb4 (Nat.le_refl _)
        replace o2 := ownsRow_below o2 hb4
        replace o3 := ownsRow_below o3 hb4
        clear i3 o3 o2
        go_wp2_with fail
        refine (Total_c _ _ _ L _ (h.below B4 (Nat.le_refl _))).mono ?_
        rintro e w5 ⟨rfl, hb5⟩
        have B5 : Below w.heap.size w w5 := btr B4 hb5
        replace i2 := i2.below hb5 (Nat.le_refl _)
        go_wp2_with fail
        refine (Total_c _ _ _ (scL L y) _ (i2.below ((Below.refl _ _).alloc (Nat.le_refl _) _) (Nat.le_refl _))).mono ?_
        rintro e w6 ⟨rfl, hb6⟩
        have ha6 : Below w5.heap.size w5 w6 := btr ((Below.refl _ _).alloc (Nat.le_refl _) _) hb6
        have D7 : Cell2 w6 w5.heap.size (totN L) (totD L) := Cell2.below (w := w5.alloc (.cells #[.int .i64 (totN L), .int .i64 (totD L)] 25)) ⟨by simp [go_sem], by simp [go_sem], by simp [go_sem], by simp [go_sem]⟩ hb6
        have B6 : Below w.heap.size w w6 := btr (B5.alloc B5.size _) hb6
        replace i2 := i2.below ha6 (Nat.le_refl _)
        have D70 := D7.c0
        have D71 := D7.c1
        have D7l := D7.lt
        go_wp2_with fail
        refine (known_c _).mono ?_
        rintro e w7 ⟨rfl, hb7⟩
        clear D70 D71 D7l
        have ha7 : Below w6.heap.size w6 w7 := btr ((Below.refl _ _).alloc (Nat.le_refl _) _) hb7
        have D8 : Cell2 w7 w6.heap.size (totN (scL L y)) (totD (scL L y)) := Cell2.below (w := w6.alloc (.cells #[.int .i64 (totN (scL L y)), .int .i64 (totD (scL L y))] 25)) ⟨by simp [go_sem], by simp [go_sem], by simp [go_sem], by simp [go_sem]⟩ hb7
        have B7 : Below w.heap.size w w7 := btr (B6.alloc B6.size _) hb7
        replace i2 := i2.below ha7 (Nat.le_refl _)
        replace D7 := D7.below ha7
        have D70 := D7.c0
        have D71 := D7.c1
        have D80 := D8.c0
        have D81 := D8.c1
        go_wp2_with fail
        go_ret
        exact ⟨rfl, B7⟩
      · have hn1 : ((n : Int) == 0) = false := by simp; omega
        have hn2 : (n == 0) = false := by simp; omega
        obtain ⟨⟨y1, y2⟩, hv1, hv2, ⟨g1, g2, g3, g4⟩, q1, q2⟩ := sc_facts h0 (by have := HLn.out; omega)
        have HV1 := Lib.hid hv1
        have HV2 := Lib.hid hv2
        have Q1 := Lib.hid q1
        have Q2 := Lib.hid q2
        clear h0 hn0 hv1 hv2 q1 q2
        obtain ⟨m1, m2⟩ := mul_bd (a := totN L) (b := y) (A := 120960) (B := 8) g1 g2 (by omega) y2
        go_enter Try.func7, Try.ntmps7
        go_wp2_with fail
        refine (Long_c _ _ _ _).mono ?_
        rintro e w1 ⟨rfl, hb1⟩
        have B1 : Below w.heap.size w w1 := btr (Below.refl _ _) hb1
        simp only [hl]
        go_wp2_with fail
        refine (Scale_c _ _ _ L y _ (h.below B1 (Nat.le_refl _))).mono ?_
        rintro e w2 ⟨v2, rfl, hv2, hb2⟩
        have B2 : Below w.heap.size w w2 := btr B1 hb2
        obtain ⟨a2, c2, e2, i2, -, -, -⟩ := ownsRow_it hv2
        subst e2
        have o2 := hv2
        clear hv2
        go_wp2_with fail
        refine (rScale_c _ _ _ L y _ (h.below B2 (Nat.le_refl _))).mono ?_
        rintro e w3 ⟨v3, rfl, hv3, hb3⟩
        have B3 : Below w.heap.size w w3 := btr B2 hb3
        replace i2 := i2.below hb3 (Nat.le_refl _)
        replace o2 := ownsRow_below o2 hb3
        obtain ⟨a3, c3, e3, i3, -, -, -⟩ := ownsRow_it hv3
        subst e3
        have o3 := hv3
        clear hv3
        go_wp2_with fail
        refine (Same_c _ _ _ _ _ (scL L y) _ i2 i3 (by omega)).mono ?_
        rintro e w4 ⟨rfl, hb4⟩
        have B4 : Below w.heap.size w w4 := btr B3 hb4
        replace i2 := i2.below hb4 (Nat.le_refl _)
        replace i3 := i3.below hb4 (Nat.le_refl _)
        replace o2 := ownsRow_below o2 hb4
        replace o3 := ownsRow_below o3 hb4
        clear i3 o3 o2
        go_wp2_with fail
        refine (Total_c _ _ _ L _ (h.below B4 (Nat.le_refl _))).mono ?_
        rintro e w5 ⟨rfl, hb5⟩
        have B5 : Below w.heap.size w w5 := btr B4 hb5
        replace i2 := i2.below hb5 (Nat.le_refl _)
        rw [HV1.out]
        go_wp2_with fail
        refine (Total_c _ _ _ (scL L y) _ (i2.below ((Below.refl _ _).alloc (Nat.le_refl _) _) (Nat.le_refl _))).mono ?_
        rintro e w6 ⟨rfl, hb6⟩
        have ha6 : Below w5.heap.size w5 w6 := btr ((Below.refl _ _).alloc (Nat.le_refl _) _) hb6
        have D7 : Cell2 w6 w5.heap.size (totN L) (totD L) := Cell2.below (w := w5.alloc (.cells #[.int .i64 (totN L), .int .i64 (totD L)] 25)) ⟨by simp [go_sem], by simp [go_sem], by simp [go_sem], by simp [go_sem]⟩ hb6
        have B6 : Below w.heap.size w w6 := btr (B5.alloc B5.size _) hb6
        replace i2 := i2.below ha6 (Nat.le_refl _)
        rw [HV2.out]
        have hal : Below w6.heap.size w6 (w6.alloc (.cells #[.int .i64 (totN (scL L y)), .int .i64 (totD (scL L y))] 25)) := (Below.refl _ _).alloc (Nat.le_refl _) _
        replace i2 := i2.below hal (Nat.le_refl _)
        replace D7 := D7.below hal
        have D8 : Cell2 (w6.alloc (.cells #[.int .i64 (totN (scL L y)), .int .i64 (totD (scL L y))] 25)) w6.heap.size (totN (scL L y)) (totD (scL L y)) := ⟨by simp [go_sem], by simp [go_sem], by simp [go_sem], by simp [go_sem]⟩
        have BF : Below w.heap.size w (w6.alloc (.cells #[.int .i64 (totN (scL L y)), .int .i64 (totD (scL L y))] 25)) := (B6.alloc B6.size _)
        have k0 := cell_regrown D7.c0
        have k1 := cell_regrown D7.c1
        have k2 := cell_regrown D8.c0
        have k3 := cell_regrown D8.c1
        have cA := fun d os => Calls.regrown_of (fair_c (totN L) (totD L) (grow (redrawn (w6.alloc (.cells #[.int .i64 (totN (scL L y)), .int .i64 (totD (scL L y))] 25)) d) os) ⟨g1, by omega, g3, by omega⟩)
        have cB := fun d os => Calls.regrown_of (Calls.val (Ratio_c (totN L * y) (totD L) (grow (redrawn (w6.alloc (.cells #[.int .i64 (totN (scL L y)), .int .i64 (totD (scL L y))] 25)) d) os) m1 (by omega) (by omega) (by omega)) (vagg Q1.out.symm Q2.out.symm))
        have cC := fun d os => Calls.regrown_of (known_c (grow (redrawn (w6.alloc (.cells #[.int .i64 (totN (scL L y)), .int .i64 (totD (scL L y))] 25)) d) os))
        have hsy : IntKind.i64.wrap (totN L * y) = totN L * y := IntWalk.i64_in _ (by omega)
        have y1' : decide (1 ≤ y) = true := decT y1
        have y2' : decide (y ≤ 8) = true := decT y2
        have HBF := Lib.hid BF
        clear D7 D8 BF i2
        go_wp2_with fail
        refine wp_region_B (by kernel_rfl) (by kernel_rfl) ?_
        repeat (go_big_quiet_step (first | with_reducible exact cA _ _ | with_reducible exact cB _ _ | with_reducible exact cC _ _))
        refine wpQuiet_nil ?_
        intro w9 hb9
        go_wp2_with fail
        go_ret
        exact ⟨rfl, btr HBF.out hb9⟩
    · have hz : (scErr L y != 0) = true := by simp [h0]
      clear h0
      go_enter Try.func7, Try.ntmps7
      go_wp2_with fail
      refine (Long_c _ _ _ _).mono ?_
      rintro e w1 ⟨rfl, hb1⟩
      have B1 : Below w.heap.size w w1 := btr (Below.refl _ _) hb1
      simp only [hl]
      go_wp2_with fail
      refine (Scale_c _ _ _ L y _ (h.below B1 (Nat.le_refl _))).mono ?_
      rintro e w2 ⟨v2, rfl, hv2, hb2⟩
      have B2 : Below w.heap.size w w2 := btr B1 hb2
      obtain ⟨a2, c2, e2, i2, -, -, -⟩ := ownsRow_it hv2
      subst e2
      have o2 := hv2
      clear hv2
      go_wp2_with fail
      refine (rScale_c _ _ _ L y _ (h.below B2 (Nat.le_refl _))).mono ?_
      rintro e w3 ⟨v3, rfl, hv3, hb3⟩
      have B3 : Below w.heap.size w w3 := btr B2 hb3
      replace i2 := i2.below hb3 (Nat.le_refl _)
      replace o2 := ownsRow_below o2 hb3
      obtain ⟨a3, c3, e3, i3, -, -, -⟩ := ownsRow_it hv3
      subst e3
      have o3 := hv3
      clear hv3
      go_wp2_with fail
      refine (Same_c _ _ _ _ _ (scL L y) _ i2 i3 (by omega)).mono ?_
      rintro e w4 ⟨rfl, hb4⟩
      have B4 : Below w.heap.size w w4 := btr B3 hb4
      replace i2 := i2.below hb4 (Nat.le_refl _)
      replace i3 := i3.below hb4 (Nat.le_refl _)
      replace o2 := ownsRow_below o2 hb4
      replace o3 := ownsRow_below o3 hb4
      clear i3 o3 o2
      go_wp2_with fail
      refine (Total_c _ _ _ L _ (h.below B4 (Nat.le_refl _))).mono ?_
      rintro e w5 ⟨rfl, hb5⟩
      have B5 : Below w.heap.size w w5 := btr B4 hb5
      replace i2 := i2.below hb5 (Nat.le_refl _)
      go_wp2_with fail
      refine (Total_c _ _ _ (scL L y) _ (i2.below ((Below.refl _ _).alloc (Nat.le_refl _) _) (Nat.le_refl _))).mono ?_
      rintro e w6 ⟨rfl, hb6⟩
      have ha6 : Below w5.heap.size w5 w6 := btr ((Below.refl _ _).alloc (Nat.le_refl _) _) hb6
      have D7 : Cell2 w6 w5.heap.size (totN L) (totD L) := Cell2.below (w := w5.alloc (.cells #[.int .i64 (totN L), .int .i64 (totD L)] 25)) ⟨by simp [go_sem], by simp [go_sem], by simp [go_sem], by simp [go_sem]⟩ hb6
      have B6 : Below w.heap.size w w6 := btr (B5.alloc B5.size _) hb6
      replace i2 := i2.below ha6 (Nat.le_refl _)
      have D70 := D7.c0
      have D71 := D7.c1
      have D7l := D7.lt
      go_wp2_with fail
      refine (known_c _).mono ?_
      rintro e w7 ⟨rfl, hb7⟩
      clear D70 D71 D7l
      have ha7 : Below w6.heap.size w6 w7 := btr ((Below.refl _ _).alloc (Nat.le_refl _) _) hb7
      have D8 : Cell2 w7 w6.heap.size (totN (scL L y)) (totD (scL L y)) := Cell2.below (w := w6.alloc (.cells #[.int .i64 (totN (scL L y)), .int .i64 (totD (scL L y))] 25)) ⟨by simp [go_sem], by simp [go_sem], by simp [go_sem], by simp [go_sem]⟩ hb7
      have B7 : Below w.heap.size w w7 := btr (B6.alloc B6.size _) hb7
      replace i2 := i2.below ha7 (Nat.le_refl _)
      replace D7 := D7.below ha7
      have D70 := D7.c0
      have D71 := D7.c1
      have D80 := D8.c0
      have D81 := D8.c1
      go_wp2_with fail
      go_ret
      exact ⟨rfl, B7⟩
end Go.Proofs.Ytplindidegmlkaa
