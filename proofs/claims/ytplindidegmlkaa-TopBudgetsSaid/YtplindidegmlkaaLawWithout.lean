/- BudgetWithout: the walk. -/
import Derived.Test.YtplindidegmlkaaWo
import Derived.Test.YtplindidegmlkaaQ
import Derived.Test.YtplindidegmlkaaK
namespace Go.Proofs.Ytplindidegmlkaa
open Go.RowKit Go.Sort

theorem sumP_shift (f : Nat → Int) : ∀ n : Nat, sumP (fun _ => true) f (n + 1) = f 0 + sumP (fun _ => true) (fun i => f (i + 1)) n
  | 0 => by simp [sumP]
  | n + 1 => by
    rw [sumP, sumP_shift f n, sumP]
    simp; omega
theorem parts_cons (x : It) (L : List It) : parts (x :: L) = wI x + parts L := by
  unfold parts paT
  rw [List.length_cons, sumP_shift]
  rfl
theorem parts_app : ∀ A B : List It, parts (A ++ B) = parts A + parts B
  | [], B => by
    have : parts [] = 0 := rfl
    rw [List.nil_append, this]; omega
  | x :: A, B => by rw [List.cons_append, parts_cons, parts_cons, parts_app A B]; omega

theorem less_at {L : List It} {k i : Nat} (hk : k < L.length) : at_ (lessL L k) i = at_ L (if i < k then i else i + 1) := by
  unfold lessL at_
  rw [List.getD_eq_getElem?_getD, List.getD_eq_getElem?_getD]
  by_cases hi : i < k
  · rw [if_pos hi, List.getElem?_append_left (by simp; omega)]
    simp [hi]
  · rw [if_neg hi, List.getElem?_append_right (by simp; omega)]
    simp only [List.length_take, List.getElem?_drop]
    rw [show k + 1 + (i - min k L.length) = i + 1 by omega]
theorem less_valid {L : List It} {k : Nat} (hv : Valid L) (hk : k < L.length) : Valid (lessL L k) :=
  ⟨by rw [less_length hk]; have := hv.le; omega, fun i hi => by
    rw [less_length hk] at hi
    rw [less_at hk]
    split
    · exact hv.ok _ (by omega)
    · exact hv.ok _ (by omega)⟩
theorem less_parts {L : List It} {k : Nat} (hk : k < L.length) : parts L = parts (lessL L k) + wI (at_ L k) := by
  have e : L = L.take k ++ (at_ L k) :: L.drop (k + 1) := by
    have : at_ L k = L[k] := by simp [at_, hk]
    rw [this, ← List.drop_eq_getElem_cons hk, List.take_append_drop]
  have h1 : parts L = parts (L.take k ++ (at_ L k) :: L.drop (k + 1)) := by rw [← e]
  rw [h1, parts_app, parts_cons]
  unfold lessL
  rw [parts_app]
  omega
theorem wo_facts {L : List It} {k : Int} (h : woErr L k = 0) : vErr L = 0 ∧ vErr (woL L k) = 0 ∧ (0 ≤ k ∧ k < L.length) ∧ (shO L).length = L.length ∧
    (0 ≤ (pr (shO L) k.toNat).1 ∧ (pr (shO L) k.toNat).1 ≤ 80 ∧ 1 ≤ (pr (shO L) k.toNat).2 ∧ (pr (shO L) k.toNat).2 ≤ 10) ∧
    (0 ≤ totN (woL L k) ∧ totN (woL L k) ≤ 120960 ∧ 1 ≤ totD (woL L k) ∧ totD (woL L k) ≤ 2520) ∧
    redN (totN (woL L k) * (pr (shO L) k.toNat).2 + (pr (shO L) k.toNat).1 * totD (woL L k)) (totD (woL L k) * (pr (shO L) k.toNat).2) = totN L ∧
    redD (totN (woL L k) * (pr (shO L) k.toNat).2 + (pr (shO L) k.toNat).1 * totD (woL L k)) (totD (woL L k) * (pr (shO L) k.toNat).2) = totD L := by
  obtain ⟨hv, h0, h1⟩ := woErr_zero.1 h
  have hk : k.toNat < L.length := by omega
  have hL : vErr L = 0 := vErr_zero.2 hv
  have e : woL L k = lessL L k.toNat := if_pos h
  have hM := less_valid hv hk
  have hMv : vErr (lessL L k.toNat) = 0 := vErr_zero.2 hM
  rw [e, shO_ok hL, pr_shL hk, shL_length]
  have e3 : totN L = toN L L.length := if_pos hL
  have e4 : totD L = toD L L.length := if_pos hL
  have e5 : totN (lessL L k.toNat) = toN (lessL L k.toNat) (lessL L k.toNat).length := if_pos hMv
  have e6 : totD (lessL L k.toNat) = toD (lessL L k.toNat) (lessL L k.toNat).length := if_pos hMv
  have b1 := to_bd hM (Nat.le_refl _)
  have b2 := sh_bd (hv.ok _ hk)
  obtain ⟨s1, s2⟩ := sh_parts (hv.ok _ hk)
  have hp := less_parts hk
  refine ⟨hL, hMv, by omega, rfl, by unfold shF; dsimp only; omega, by rw [e5, e6]; omega, ?_⟩
  rw [e3, e4, e5, e6]
  unfold shF
  dsimp only
  rw [s1, s2]
  have hpL : paT L L.length = paT (lessL L k.toNat) (lessL L k.toNat).length + wI (at_ L k.toNat) := hp
  unfold toN toD
  rw [hpL]
  exact red_plus_whole
theorem wo_len {L : List It} {k : Int} : (woL L k).length ≤ L.length := by
  by_cases h : woErr L k = 0
  · have e : woL L k = lessL L k.toNat := if_pos h
    obtain ⟨_, h0, h1⟩ := woErr_zero.1 h
    rw [e, less_length (by omega)]; omega
  · have e : woL L k = [] := if_neg h
    rw [e]; simp
theorem vagg' {a b c d : Int} (h1 : a = c) (h2 : b = d) : Value.agg #[.int .i64 a, .int .i64 b] = .agg #[.int .i64 c, .int .i64 d] := by rw [h1, h2]

set_option maxRecDepth 100000 in
set_option maxHeartbeats 3200000 in
theorem without_w (a : Option Addr) (n c : Nat) (L : List It) (k : Int) (w : World) (h : SlO w a n L) (hc : n ≤ c) (hm : c ≤ maxLen) :
    Calls Try.prog 14 #[.slice a n c, .int .i64 k] w fun e w' => e = .returned (.bool true) ∧ Below w.heap.size w w' := by
  have _ := hc
  have _ := hm
  have self := fun x : Int => (show (x != x) = false by simp)
  have selfe := fun x : Int => (show (x == x) = true by simp)
  have selfb := fun x : Bool => (show (x != x) = false by simp)
  have selfc := fun x : Bool => (show (x == x) = true by simp)
  have HLn := Lib.hid h.1
  cases hl : longB n
  case true =>
    go_enter Try.func14, Try.ntmps14
    go_wp2_with fail
    refine (Long_c _ _ _ _).mono ?_
    rintro e w1 ⟨rfl, hb1⟩
    have B1 : Below w.heap.size w w1 := btr (Below.refl _ _) hb1
    simp only [hl]
    go_wp2_with fail
    refine (known_c _).mono ?_
    rintro e w2 ⟨rfl, hb2⟩
    have B2 : Below w.heap.size w w2 := btr B1 hb2
    go_wp2_with fail
    go_ret
    exact ⟨rfl, B2⟩
  case false =>
    have hL50 := longB_false hl
    have hsl : (woL L k).length ≤ n := by have := wo_len (L := L) (k := k); have := HLn.out; omega
    by_cases h0 : woErr L k = 0
    · have hz : (woErr L k != 0) = false := by simp [h0]
      obtain ⟨hv1, hv2, ⟨k0, k1⟩, hsh, ⟨p1, p2, p3, p4⟩, ⟨t1, t2, t3, t4⟩, q1, q2⟩ := wo_facts h0
      obtain ⟨kk, rfl⟩ : ∃ kk : Nat, k = kk := ⟨k.toNat, by omega⟩
      rw [Int.toNat_natCast] at p1 p2 p3 p4 q1 q2
      have hkn : kk < n := by have := HLn.out; omega
      have HV1 := Lib.hid hv1
      have HV2 := Lib.hid hv2
      have Q1 := Lib.hid q1
      have Q2 := Lib.hid q2
      have HSH : Hid ((shO L).length = n) := Lib.hid (by have := HLn.out; omega)
      clear h0 hv1 hv2 q1 q2 hsh k0 k1
      generalize hN : totN (woL L (kk : Int)) = N at *
      generalize hD : totD (woL L (kk : Int)) = D at *
      have HN := Lib.hid hN
      have HD := Lib.hid hD
      generalize hP : pr (shO L) kk = P at *
      have HP := Lib.hid hP
      clear hN hD hP
      obtain ⟨m1, m2⟩ := mul_bd (a := N) (b := P.2) (A := 120960) (B := 10) t1 t2 (by omega) p4
      obtain ⟨m3, m4⟩ := mul_bd (a := P.1) (b := D) (A := 80) (B := 2520) p1 p2 (by omega) t4
      obtain ⟨m5, m6⟩ := mul_bd (a := D) (b := P.2) (A := 2520) (B := 10) (by omega) t4 (by omega) p4
      have m7 : 0 < D * P.2 := Int.mul_pos (by omega) (by omega)
      go_enter Try.func14, Try.ntmps14
      go_wp2_with fail
      refine (Long_c _ _ _ _).mono ?_
      rintro e w1 ⟨rfl, hb1⟩
      have B1 : Below w.heap.size w w1 := btr (Below.refl _ _) hb1
      simp only [hl]
      go_wp2_with fail
      refine (Without_c _ _ _ L (kk : Int) _ (h.below B1 (Nat.le_refl _)) hc hm).mono ?_
      rintro e w2 ⟨v2, rfl, hv2, hb2⟩
      have B2 : Below w.heap.size w w2 := btr B1 hb2
      obtain ⟨a2, c2, e2, i2, l2, m2, q2⟩ := hv2
      rw [e2]
      clear e2 q2
      go_wp2_with fail
      refine (rWithout_c _ _ _ L (kk : Int) _ (h.below B2 (Nat.le_refl _)) hc hm).mono ?_
      rintro e w3 ⟨v3, rfl, hv3, hb3⟩
      have B3 : Below w.heap.size w w3 := btr B2 hb3
      replace i2 := i2.below hb3 (Nat.le_refl _)
      obtain ⟨a3, c3, e3, i3, l3, m3, q3⟩ := hv3
      rw [e3]
      clear e3 q3
      go_wp2_with fail
      refine (Same_c _ _ _ _ _ (woL L (kk : Int)) _ i2 i3 (by omega)).mono ?_
      rintro e w4 ⟨rfl, hb4⟩
      have B4 : Below w.heap.size w w4 := btr B3 hb4
      replace i2 := i2.below hb4 (Nat.le_refl _)
      replace i3 := i3.below hb4 (Nat.le_refl _)
      clear i3
      go_wp2_with fail
      refine (Shares_c _ _ _ L _ (h.below B4 (Nat.le_refl _))).mono ?_
      rintro e w5 ⟨v5, rfl, hv5, hb5⟩
      have B5 : Below w.heap.size w w5 := btr B4 hb5
      replace i2 := i2.below hb5 (Nat.le_refl _)
      obtain ⟨a5, c5, e5, i5, l5, m5, q5⟩ := hv5
      rw [e5]
      clear e5 q5
      rw [HSH.out] at i5
      rw [HSH.out, HV1.out]
      go_wp2_with fail
      refine (Total_c _ _ _ L _ (h.below B5 (Nat.le_refl _))).mono ?_
      rintro e w6 ⟨rfl, hb6⟩
      have B6 : Below w.heap.size w w6 := btr B5 hb6
      replace i2 := i2.below hb6 (Nat.le_refl _)
      replace i5 := i5.below hb6 (Nat.le_refl _)
      rw [HV1.out]
      go_wp2_with fail
      refine (Total_c _ _ _ (woL L (kk : Int)) _ (i2.below ((Below.refl _ _).alloc (Nat.le_refl _) _) (Nat.le_refl _))).mono ?_
      rintro e w7 ⟨rfl, hb7⟩
      have ha7 : Below w6.heap.size w6 w7 := btr ((Below.refl _ _).alloc (Nat.le_refl _) _) hb7
      have D6 : Cell2 w7 w6.heap.size (totN L) (totD L) := Cell2.below (w := w6.alloc (.cells #[.int .i64 (totN L), .int .i64 (totD L)] 25)) ⟨by simp [go_sem], by simp [go_sem], by simp [go_sem], by simp [go_sem]⟩ hb7
      have B7 : Below w.heap.size w w7 := btr (B6.alloc B6.size _) hb7
      replace i2 := i2.below ha7 (Nat.le_refl _)
      replace i5 := i5.below ha7 (Nat.le_refl _)
      rw [HV2.out, HN.out, HD.out]
      obtain ⟨b5, o5, rfl, hS5⟩ : ∃ b o, a5 = some ⟨b, o, none⟩ ∧ P2 w7 b o n (shO L) := by
        rcases i5.2 with h' | h'
        · omega
        · exact h'
      have e0 := hS5.c0 kk hkn
      have e1 := hS5.c1 kk hkn
      rw [HP.out] at e0 e1
      have el := hS5.lt
      clear hS5
      have D60 := D6.c0
      have D61 := D6.c1
      have D6l := D6.lt
      go_wp2_with fail
      refine (fair_c P.1 P.2 _ ⟨p1, by omega, p3, by omega⟩).mono ?_
      rintro e w8 ⟨rfl, hb8⟩
      clear D60 D61 D6l
      have ha8 : Below w7.heap.size w7 w8 := btr ((Below.refl _ _).alloc (Nat.le_refl _) _) hb8
      have D7 : Cell2 w8 w7.heap.size N D := Cell2.below (w := w7.alloc (.cells #[.int .i64 N, .int .i64 D] 25)) ⟨by simp [go_sem], by simp [go_sem], by simp [go_sem], by simp [go_sem]⟩ hb8
      have B8 : Below w.heap.size w w8 := btr (B7.alloc B7.size _) hb8
      replace i2 := i2.below ha8 (Nat.le_refl _)
      replace i5 := i5.below ha8 (Nat.le_refl _)
      replace D6 := D6.below ha8
      clear e0 e1 el
      have D60 := D6.c0
      have D61 := D6.c1
      have D70 := D7.c0
      have D71 := D7.c1
      go_wp2_with fail
      refine (fair_c N D _ ⟨t1, by omega, t3, by omega⟩).mono ?_
      rintro e w9 ⟨rfl, hb9⟩
      clear D60 D61 D70 D71
      have B9 : Below w.heap.size w w9 := btr B8 hb9
      replace i2 := i2.below hb9 (Nat.le_refl _)
      replace i5 := i5.below hb9 (Nat.le_refl _)
      replace D6 := D6.below hb9
      replace D7 := D7.below hb9
      obtain ⟨b6, o6, h6, hS6⟩ : ∃ b o, some (⟨b5, o5, none⟩ : Addr) = some ⟨b, o, none⟩ ∧ P2 w9 b o n (shO L) := by
        rcases i5.2 with h' | h'
        · omega
        · exact h'
      cases h6
      have e0 := hS6.c0 kk hkn
      have e1 := hS6.c1 kk hkn
      rw [HP.out] at e0 e1
      have k0 := cell_regrown e0
      have k1 := cell_regrown e1
      have k2 := cell_regrown D6.c0
      have k3 := cell_regrown D6.c1
      have k4 := cell_regrown D7.c0
      have k5 := cell_regrown D7.c1
      have hs1 : IntKind.i64.wrap (N * P.2) = N * P.2 := IntWalk.i64_in _ (by omega)
      have hs2 : IntKind.i64.wrap (P.1 * D) = P.1 * D := IntWalk.i64_in _ (by omega)
      have hs3 : IntKind.i64.wrap (N * P.2 + P.1 * D) = N * P.2 + P.1 * D := IntWalk.i64_in _ (by omega)
      have hs4 : IntKind.i64.wrap (D * P.2) = D * P.2 := IntWalk.i64_in _ (by omega)
      have cB := fun d os => Calls.regrown_of (Calls.val (Ratio_c (N * P.2 + P.1 * D) (D * P.2) (grow (redrawn w9 d) os) (by omega) (by omega) m7 (by omega)) (vagg' Q1.out Q2.out))
      have cC := fun d os => Calls.regrown_of (known_c (grow (redrawn w9 d) os))
      have HB9 := Lib.hid B9
      clear e0 e1 D6 D7 B9 i2 i5 hS6
      go_wp2_with fail
      refine wp_region_B (by kernel_rfl) (by kernel_rfl) ?_
      repeat (go_big_quiet_step (first | with_reducible exact cB _ _ | with_reducible exact cC _ _))
      refine wpQuiet_nil ?_
      intro w10 hb10
      go_wp2_with fail
      go_ret
      exact ⟨rfl, btr HB9.out hb10⟩
    · have hz : (woErr L k != 0) = true := by simp [h0]
      clear h0
      go_enter Try.func14, Try.ntmps14
      go_wp2_with fail
      refine (Long_c _ _ _ _).mono ?_
      rintro e w1 ⟨rfl, hb1⟩
      have B1 : Below w.heap.size w w1 := btr (Below.refl _ _) hb1
      simp only [hl]
      go_wp2_with fail
      refine (Without_c _ _ _ L k _ (h.below B1 (Nat.le_refl _)) hc hm).mono ?_
      rintro e w2 ⟨v2, rfl, hv2, hb2⟩
      have B2 : Below w.heap.size w w2 := btr B1 hb2
      obtain ⟨a2, c2, e2, i2, l2, m2, q2⟩ := hv2
      rw [e2]
      clear e2 q2
      go_wp2_with fail
      refine (rWithout_c _ _ _ L k _ (h.below B2 (Nat.le_refl _)) hc hm).mono ?_
      rintro e w3 ⟨v3, rfl, hv3, hb3⟩
      have B3 : Below w.heap.size w w3 := btr B2 hb3
      replace i2 := i2.below hb3 (Nat.le_refl _)
      obtain ⟨a3, c3, e3, i3, l3, m3, q3⟩ := hv3
      rw [e3]
      clear e3 q3
      go_wp2_with fail
      refine (Same_c _ _ _ _ _ (woL L k) _ i2 i3 (by omega)).mono ?_
      rintro e w4 ⟨rfl, hb4⟩
      have B4 : Below w.heap.size w w4 := btr B3 hb4
      replace i2 := i2.below hb4 (Nat.le_refl _)
      replace i3 := i3.below hb4 (Nat.le_refl _)
      clear i3
      go_wp2_with fail
      refine (Shares_c _ _ _ L _ (h.below B4 (Nat.le_refl _))).mono ?_
      rintro e w5 ⟨v5, rfl, hv5, hb5⟩
      have B5 : Below w.heap.size w w5 := btr B4 hb5
      replace i2 := i2.below hb5 (Nat.le_refl _)
      obtain ⟨a5, c5, e5, i5, l5, m5, q5⟩ := hv5
      rw [e5]
      clear e5 q5
      go_wp2_with fail
      refine (Total_c _ _ _ L _ (h.below B5 (Nat.le_refl _))).mono ?_
      rintro e w6 ⟨rfl, hb6⟩
      have B6 : Below w.heap.size w w6 := btr B5 hb6
      replace i2 := i2.below hb6 (Nat.le_refl _)
      replace i5 := i5.below hb6 (Nat.le_refl _)
      go_wp2_with fail
      refine (Total_c _ _ _ (woL L k) _ (i2.below ((Below.refl _ _).alloc (Nat.le_refl _) _) (Nat.le_refl _))).mono ?_
      rintro e w7 ⟨rfl, hb7⟩
      have ha7 : Below w6.heap.size w6 w7 := btr ((Below.refl _ _).alloc (Nat.le_refl _) _) hb7
      have D6 : Cell2 w7 w6.heap.size (totN L) (totD L) := Cell2.below (w := w6.alloc (.cells #[.int .i64 (totN L), .int .i64 (totD L)] 25)) ⟨by simp [go_sem], by simp [go_sem], by simp [go_sem], by simp [go_sem]⟩ hb7
      have B7 : Below w.heap.size w w7 := btr (B6.alloc B6.size _) hb7
      replace i2 := i2.below ha7 (Nat.le_refl _)
      replace i5 := i5.below ha7 (Nat.le_refl _)
      have D60 := D6.c0
      have D61 := D6.c1
      have D6l := D6.lt
      go_wp2_with fail
      refine (known_c _).mono ?_
      rintro e w8 ⟨rfl, hb8⟩
      clear D60 D61 D6l
      have ha8 : Below w7.heap.size w7 w8 := btr ((Below.refl _ _).alloc (Nat.le_refl _) _) hb8
      have D7 : Cell2 w8 w7.heap.size (totN (woL L k)) (totD (woL L k)) := Cell2.below (w := w7.alloc (.cells #[.int .i64 (totN (woL L k)), .int .i64 (totD (woL L k))] 25)) ⟨by simp [go_sem], by simp [go_sem], by simp [go_sem], by simp [go_sem]⟩ hb8
      have B8 : Below w.heap.size w w8 := btr (B7.alloc B7.size _) hb8
      replace i2 := i2.below ha8 (Nat.le_refl _)
      replace i5 := i5.below ha8 (Nat.le_refl _)
      replace D6 := D6.below ha8
      have D60 := D6.c0
      have D61 := D6.c1
      have D70 := D7.c0
      have D71 := D7.c1
      go_wp2_with fail
      go_ret
      exact ⟨rfl, B8⟩
end Go.Proofs.Ytplindidegmlkaa
