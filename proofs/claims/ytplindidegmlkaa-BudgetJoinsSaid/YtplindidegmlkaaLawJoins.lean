/- BudgetJoins: the walk. -/
import Derived.Test.YtplindidegmlkaaJn
import Derived.Test.YtplindidegmlkaaLawWithout
namespace Go.Proofs.Ytplindidegmlkaa
open Go.RowKit Go.Sort

theorem jo_valid {L M : List It} (h : joErr L M = 0) : Valid (L ++ M) := by
  obtain ⟨h1, h2, h3⟩ := joErr_zero.1 h
  refine ⟨by rw [List.length_append]; exact h3, fun i hi => ?_⟩
  rw [List.length_append] at hi
  by_cases hl : i < L.length
  · have e : at_ (L ++ M) i = at_ L i := by
      unfold at_
      rw [List.getD_eq_getElem?_getD, List.getD_eq_getElem?_getD, List.getElem?_append_left hl]
    rw [e]; exact h1.ok i hl
  · have e : at_ (L ++ M) i = at_ M (i - L.length) := by
      unfold at_
      rw [List.getD_eq_getElem?_getD, List.getD_eq_getElem?_getD, List.getElem?_append_right (by omega)]
    rw [e]; exact h2.ok _ (by omega)
theorem jo_facts {L M : List It} (h : joErr L M = 0) : vErr L = 0 ∧ vErr M = 0 ∧ vErr (joL L M) = 0 ∧ (0 ≤ totN L ∧ totN L ≤ 120960 ∧ 1 ≤ totD L ∧ totD L ≤ 2520) ∧ (0 ≤ totN M ∧ totN M ≤ 120960 ∧ 1 ≤ totD M ∧ totD M ≤ 2520) ∧
    redN (totN L * totD M + totN M * totD L) (totD L * totD M) = totN (joL L M) ∧ redD (totN L * totD M + totN M * totD L) (totD L * totD M) = totD (joL L M) := by
  obtain ⟨h1, h2, h3⟩ := joErr_zero.1 h
  have e : joL L M = L ++ M := if_pos h
  have hL := vErr_zero.2 h1
  have hM := vErr_zero.2 h2
  have hJ := vErr_zero.2 (jo_valid h)
  have e3 : totN L = toN L L.length := if_pos hL
  have e4 : totD L = toD L L.length := if_pos hL
  have e5 : totN M = toN M M.length := if_pos hM
  have e6 : totD M = toD M M.length := if_pos hM
  have e7 : totN (L ++ M) = toN (L ++ M) (L ++ M).length := if_pos hJ
  have e8 : totD (L ++ M) = toD (L ++ M) (L ++ M).length := if_pos hJ
  have b1 := to_bd h1 (Nat.le_refl _)
  have b2 := to_bd h2 (Nat.le_refl _)
  have hp : paT (L ++ M) (L ++ M).length = paT L L.length + paT M M.length := parts_app L M
  rw [e]
  refine ⟨hL, hM, hJ, by omega, by omega, ?_⟩
  rw [e3, e4, e5, e6, e7, e8]
  unfold toN toD
  rw [hp]
  exact red_plus_whole
theorem jo_len {L M : List It} : (joL L M).length ≤ 6 := by
  by_cases h : joErr L M = 0
  · have e : joL L M = L ++ M := if_pos h
    rw [e]; exact (jo_valid h).le
  · have e : joL L M = [] := if_neg h
    rw [e]; simp

set_option maxRecDepth 100000 in
set_option maxHeartbeats 3200000 in
theorem joins_w (a : Option Addr) (n c : Nat) (L : List It) (a2 : Option Addr) (n2 c2 : Nat) (M : List It) (w : World) (h : SlO w a n L) (hc : n ≤ c) (hm : c ≤ maxLen) (h2 : SlO w a2 n2 M) (hc2 : n2 ≤ c2) (hm2 : c2 ≤ maxLen) :
    Calls Try.prog 16 #[.slice a n c, .slice a2 n2 c2] w fun e w' => e = .returned (.bool true) ∧ Below w.heap.size w w' := by
  have _ := hc
  have _ := hm
  have _ := hc2
  have _ := hm2
  have self := fun x : Int => (show (x != x) = false by simp)
  have selfe := fun x : Int => (show (x == x) = true by simp)
  have selfb := fun x : Bool => (show (x != x) = false by simp)
  have selfc := fun x : Bool => (show (x == x) = true by simp)
  have hjl := jo_len (L := L) (M := M)
  cases hl : longB n
  case true =>
    go_enter Try.func16, Try.ntmps16
    go_wp2_with fail
    refine (Long_c _ _ _ _).mono ?_
    rintro e w1 ⟨rfl, hb1⟩
    have B1 : Below w.heap.size w w1 := btr (Below.refl _ _) hb1
    simp only [hl]
    go_wp2_with fail
    refine (known_c _).mono ?_
    rintro e w2 ⟨rfl, hb2⟩
    have B2 : Below w.heap.size w w2 := btr B1 hb2
    go_wp2_with fail
    go_ret
    exact ⟨rfl, B2⟩
  case false =>
    cases hl2 : longB n2
    case true =>
      go_enter Try.func16, Try.ntmps16
      go_wp2_with fail
      refine (Long_c _ _ _ _).mono ?_
      rintro e w1 ⟨rfl, hb1⟩
      have B1 : Below w.heap.size w w1 := btr (Below.refl _ _) hb1
      simp only [hl]
      go_wp2_with fail
      refine (Long_c _ _ _ _).mono ?_
      rintro e w2 ⟨rfl, hb2⟩
      have B2 : Below w.heap.size w w2 := btr B1 hb2
      simp only [hl2]
      go_wp2_with fail
      refine (known_c _).mono ?_
      rintro e w3 ⟨rfl, hb3⟩
      have B3 : Below w.heap.size w w3 := btr B2 hb3
      go_wp2_with fail
      go_ret
      exact ⟨rfl, B3⟩
    case false =>
      by_cases h0 : joErr L M = 0
      · have hz : (joErr L M != 0) = false := by simp [h0]
        obtain ⟨hv1, hv2, hv3, ⟨f1, f2, f3, f4⟩, ⟨g1, g2, g3, g4⟩, q1, q2⟩ := jo_facts h0
        have HV1 := Lib.hid hv1
        have HV2 := Lib.hid hv2
        have HV3 := Lib.hid hv3
        have Q1 := Lib.hid q1
        have Q2 := Lib.hid q2
        clear h0 hv1 hv2 hv3 q1 q2
        generalize hN : totN L = N at *
        generalize hD : totD L = D at *
        generalize hN2 : totN M = N2 at *
        generalize hD2 : totD M = D2 at *
        have HN := Lib.hid hN
        have HD := Lib.hid hD
        have HN2 := Lib.hid hN2
        have HD2 := Lib.hid hD2
        clear hN hD hN2 hD2
        obtain ⟨m1, m2⟩ := mul_bd (a := N) (b := D2) (A := 120960) (B := 2520) f1 f2 (by omega) g4
        obtain ⟨m3, m4⟩ := mul_bd (a := N2) (b := D) (A := 120960) (B := 2520) g1 g2 (by omega) f4
        obtain ⟨m5, m6⟩ := mul_bd (a := D) (b := D2) (A := 2520) (B := 2520) (by omega) f4 (by omega) g4
        have m7 : 0 < D * D2 := Int.mul_pos (by omega) (by omega)
        go_enter Try.func16, Try.ntmps16
        go_wp2_with fail
        refine (Long_c _ _ _ _).mono ?_
        rintro e w1 ⟨rfl, hb1⟩
        have B1 : Below w.heap.size w w1 := btr (Below.refl _ _) hb1
        simp only [hl]
        go_wp2_with fail
        refine (Long_c _ _ _ _).mono ?_
        rintro e w2 ⟨rfl, hb2⟩
        have B2 : Below w.heap.size w w2 := btr B1 hb2
        simp only [hl2]
        go_wp2_with fail
        refine (Join_c _ _ _ L _ _ _ M _ (h.below B2 (Nat.le_refl _)) (h2.below B2 (Nat.le_refl _))).mono ?_
        rintro e w3 ⟨v3, rfl, hv3, hb3⟩
        have B3 : Below w.heap.size w w3 := btr B2 hb3
        obtain ⟨a3, c3, e3, i3, l3, m3, q3⟩ := hv3
        rw [e3]
        clear e3 q3
        go_wp2_with fail
        refine (rJoin_c _ _ _ L _ _ _ M _ (h.below B3 (Nat.le_refl _)) (h2.below B3 (Nat.le_refl _))).mono ?_
        rintro e w4 ⟨v4, rfl, hv4, hb4⟩
        have B4 : Below w.heap.size w w4 := btr B3 hb4
        replace i3 := i3.below hb4 (Nat.le_refl _)
        obtain ⟨a4, c4, e4, i4, l4, m4, q4⟩ := hv4
        rw [e4]
        clear e4 q4
        go_wp2_with fail
        refine (Same_c _ _ _ _ _ (joL L M) _ i3 i4 (by omega)).mono ?_
        rintro e w5 ⟨rfl, hb5⟩
        have B5 : Below w.heap.size w w5 := btr B4 hb5
        replace i3 := i3.below hb5 (Nat.le_refl _)
        replace i4 := i4.below hb5 (Nat.le_refl _)
        clear i4
        go_wp2_with fail
        refine (Total_c _ _ _ L _ (h.below B5 (Nat.le_refl _))).mono ?_
        rintro e w6 ⟨rfl, hb6⟩
        have B6 : Below w.heap.size w w6 := btr B5 hb6
        replace i3 := i3.below hb6 (Nat.le_refl _)
        rw [HV1.out, HN.out, HD.out]
        go_wp2_with fail
        refine (Total_c _ _ _ M _ (h2.below (B6.alloc B6.size _) (Nat.le_refl _))).mono ?_
        rintro e w7 ⟨rfl, hb7⟩
        have ha7 : Below w6.heap.size w6 w7 := btr ((Below.refl _ _).alloc (Nat.le_refl _) _) hb7
        have D6 : Cell2 w7 w6.heap.size N D := Cell2.below (w := w6.alloc (.cells #[.int .i64 N, .int .i64 D] 25)) ⟨by simp [go_sem], by simp [go_sem], by simp [go_sem], by simp [go_sem]⟩ hb7
        have B7 : Below w.heap.size w w7 := btr (B6.alloc B6.size _) hb7
        replace i3 := i3.below ha7 (Nat.le_refl _)
        rw [HV2.out, HN2.out, HD2.out]
        have D60 := D6.c0
        have D61 := D6.c1
        have D6l := D6.lt
        go_wp2_with fail
        refine (Total_c _ _ _ (joL L M) _ (i3.below ((Below.refl _ _).alloc (Nat.le_refl _) _) (Nat.le_refl _))).mono ?_
        rintro e w8 ⟨rfl, hb8⟩
        clear D60 D61 D6l
        have ha8 : Below w7.heap.size w7 w8 := btr ((Below.refl _ _).alloc (Nat.le_refl _) _) hb8
        have D7 : Cell2 w8 w7.heap.size N2 D2 := Cell2.below (w := w7.alloc (.cells #[.int .i64 N2, .int .i64 D2] 25)) ⟨by simp [go_sem], by simp [go_sem], by simp [go_sem], by simp [go_sem]⟩ hb8
        have B8 : Below w.heap.size w w8 := btr (B7.alloc B7.size _) hb8
        replace i3 := i3.below ha8 (Nat.le_refl _)
        replace D6 := D6.below ha8
        rw [HV3.out]
        have hal : Below w8.heap.size w8 (w8.alloc (.cells #[.int .i64 (totN (joL L M)), .int .i64 (totD (joL L M))] 25)) := (Below.refl _ _).alloc (Nat.le_refl _) _
        replace i3 := i3.below hal (Nat.le_refl _)
        replace D6 := D6.below hal
        replace D7 := D7.below hal
        have D8 : Cell2 (w8.alloc (.cells #[.int .i64 (totN (joL L M)), .int .i64 (totD (joL L M))] 25)) w8.heap.size (totN (joL L M)) (totD (joL L M)) := ⟨by simp [go_sem], by simp [go_sem], by simp [go_sem], by simp [go_sem]⟩
        have BF : Below w.heap.size w (w8.alloc (.cells #[.int .i64 (totN (joL L M)), .int .i64 (totD (joL L M))] 25)) := (B8.alloc B8.size _)
        have k0 := cell_regrown D6.c0
        have k1 := cell_regrown D6.c1
        have k2 := cell_regrown D7.c0
        have k3 := cell_regrown D7.c1
        have k4 := cell_regrown D8.c0
        have k5 := cell_regrown D8.c1
        have hs1 : IntKind.i64.wrap (N * D2) = N * D2 := IntWalk.i64_in _ (by omega)
        have hs2 : IntKind.i64.wrap (N2 * D) = N2 * D := IntWalk.i64_in _ (by omega)
        have hs3 : IntKind.i64.wrap (N * D2 + N2 * D) = N * D2 + N2 * D := IntWalk.i64_in _ (by omega)
        have hs4 : IntKind.i64.wrap (D * D2) = D * D2 := IntWalk.i64_in _ (by omega)
        have cA := fun d os => Calls.regrown_of (fair_c N D (grow (redrawn (w8.alloc (.cells #[.int .i64 (totN (joL L M)), .int .i64 (totD (joL L M))] 25)) d) os) ⟨f1, by omega, f3, by omega⟩)
        have cD := fun d os => Calls.regrown_of (fair_c N2 D2 (grow (redrawn (w8.alloc (.cells #[.int .i64 (totN (joL L M)), .int .i64 (totD (joL L M))] 25)) d) os) ⟨g1, by omega, g3, by omega⟩)
        have cB := fun d os => Calls.regrown_of (Calls.val (Ratio_c (N * D2 + N2 * D) (D * D2) (grow (redrawn (w8.alloc (.cells #[.int .i64 (totN (joL L M)), .int .i64 (totD (joL L M))] 25)) d) os) (by omega) (by omega) m7 (by omega)) (vagg' Q1.out Q2.out))
        have cC := fun d os => Calls.regrown_of (known_c (grow (redrawn (w8.alloc (.cells #[.int .i64 (totN (joL L M)), .int .i64 (totD (joL L M))] 25)) d) os))
        have HBF := Lib.hid BF
        clear D6 D7 D8 BF i3
        go_wp2_with fail
        refine wp_region_B (by kernel_rfl) (by kernel_rfl) ?_
        repeat (go_big_quiet_step (first | with_reducible exact cA _ _ | with_reducible exact cD _ _ | with_reducible exact cB _ _ | with_reducible exact cC _ _))
        refine wpQuiet_nil ?_
        intro w9 hb9
        go_wp2_with fail
        go_ret
        exact ⟨rfl, btr HBF.out hb9⟩
      · have hz : (joErr L M != 0) = true := by simp [h0]
        clear h0
        go_enter Try.func16, Try.ntmps16
        go_wp2_with fail
        refine (Long_c _ _ _ _).mono ?_
        rintro e w1 ⟨rfl, hb1⟩
        have B1 : Below w.heap.size w w1 := btr (Below.refl _ _) hb1
        simp only [hl]
        go_wp2_with fail
        refine (Long_c _ _ _ _).mono ?_
        rintro e w2 ⟨rfl, hb2⟩
        have B2 : Below w.heap.size w w2 := btr B1 hb2
        simp only [hl2]
        go_wp2_with fail
        refine (Join_c _ _ _ L _ _ _ M _ (h.below B2 (Nat.le_refl _)) (h2.below B2 (Nat.le_refl _))).mono ?_
        rintro e w3 ⟨v3, rfl, hv3, hb3⟩
        have B3 : Below w.heap.size w w3 := btr B2 hb3
        obtain ⟨a3, c3, e3, i3, l3, m3, q3⟩ := hv3
        rw [e3]
        clear e3 q3
        go_wp2_with fail
        refine (rJoin_c _ _ _ L _ _ _ M _ (h.below B3 (Nat.le_refl _)) (h2.below B3 (Nat.le_refl _))).mono ?_
        rintro e w4 ⟨v4, rfl, hv4, hb4⟩
        have B4 : Below w.heap.size w w4 := btr B3 hb4
        replace i3 := i3.below hb4 (Nat.le_refl _)
        obtain ⟨a4, c4, e4, i4, l4, m4, q4⟩ := hv4
        rw [e4]
        clear e4 q4
        go_wp2_with fail
        refine (Same_c _ _ _ _ _ (joL L M) _ i3 i4 (by omega)).mono ?_
        rintro e w5 ⟨rfl, hb5⟩
        have B5 : Below w.heap.size w w5 := btr B4 hb5
        replace i3 := i3.below hb5 (Nat.le_refl _)
        replace i4 := i4.below hb5 (Nat.le_refl _)
        clear i4
        go_wp2_with fail
        refine (known_c _).mono ?_
        rintro e w6 ⟨rfl, hb6⟩
        have B6 : Below w.heap.size w w6 := btr B5 hb6
        replace i3 := i3.below hb6 (Nat.le_refl _)
        go_wp2_with fail
        go_ret
        exact ⟨rfl, B6⟩
end Go.Proofs.Ytplindidegmlkaa
