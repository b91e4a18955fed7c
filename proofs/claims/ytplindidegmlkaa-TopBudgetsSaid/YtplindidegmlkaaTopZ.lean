/- TopBudgets: the walk, a total of 0: the walk. -/
import Derived.Test.YtplindidegmlkaaTq
namespace Go.Proofs.Ytplindidegmlkaa
open Go.RowKit Go.Sort

set_option maxRecDepth 100000 in
set_option maxHeartbeats 6400000 in
theorem top_zero (a : Option Addr) (n c : Nat) (L : List It) (fa : Option Addr) (m fc : Nat) (F : List Fx) (x y : Int) (w : World) (h : SlO w a n L) (hc : n ≤ c) (hm : c ≤ maxLen) (hf : FlO w fa m F) (hc2 : m ≤ fc) (hm2 : fc ≤ maxLen) (hl : longB n = false) (h50' : ¬ (50 : Int) < m) (h0 : vErr L = 0) (htp : ¬ 0 < totN L) :
    Calls Try.prog 3 #[.slice a n c, .slice fa m fc, .agg #[.int .i64 x, .int .i64 y]] w fun e w' => e = .returned (.bool true) ∧ Below w.heap.size w w' := by
  have _ := h
  have _ := hf
  have _ := hc
  have _ := hm
  have _ := hc2
  have _ := hm2
  have self := fun x : Int => (show (x != x) = false by simp)
  have selfe := fun x : Int => (show (x == x) = true by simp)
  have selfb := fun x : Bool => (show (x != x) = false by simp)
  have selfc := fun x : Bool => (show (x == x) = true by simp)
  have hmm : m ≤ 9223372036854775807 := by unfold maxLen at hm2; omega
  have HLn := Lib.hid h.1
  have HV := Lib.hid (vErr_zero.1 h0)
  have hn6 : n ≤ 6 := by have := HV.out.le; have := HLn.out; omega
  obtain ⟨t1, t2, t3, t4, hid, hli, hcl, hless⟩ := top_total h0
  obtain ⟨p1, p2, hlim⟩ := top_bd h0
  have HID := Lib.hid hid
  have HLI := Lib.hid hli
  have HCL := Lib.hid hcl
  have HLE := Lib.hid hless
  have HE := Lib.hid h0
  obtain ⟨i3, hi3, hz30, hz31, hz32⟩ := info_parts info3
  have SHE : Hid (∀ k, k < n → pr (shL L) k = (redN (wI (at_ L k)) 2520, redD (wI (at_ L k)) 2520)) := Lib.hid (fun k hk => by
    have hkL : k < L.length := by have := HLn.out; omega
    obtain ⟨e1, e2⟩ := sh_parts (HV.out.ok k hkL)
    rw [pr_shL hkL]
    unfold shF
    rw [e1, e2])
  have HPT : Hid (paT L n = parts L) := Lib.hid (by rw [HLn.out]; rfl)
  have PAB : Hid (∀ k, k ≤ n → 0 ≤ paT L k ∧ paT L k ≤ 120960) := Lib.hid (fun k hk => by
    have := paT_bd HV.out k (by have := HLn.out; omega)
    omega)
  clear hid hli hcl hless h0 hlim
  go_enter Try.func3, Try.ntmps3
  have hal : Below w.heap.size w (w.alloc (.cells #[.int .i64 x, .int .i64 y] 25)) := (Below.refl _ _).alloc (Nat.le_refl _) _
  have D0 : Cell2 (w.alloc (.cells #[.int .i64 x, .int .i64 y] 25)) w.heap.size x y := ⟨by simp [go_sem], by simp [go_sem], by simp [go_sem], by simp [go_sem]⟩
  have BF : Below w.heap.size w (w.alloc (.cells #[.int .i64 x, .int .i64 y] 25)) := ((Below.refl w.heap.size w).alloc (Nat.le_refl _) _)
  have D00 := D0.c0
  have D01 := D0.c1
  go_wp2_with fail
  refine (WorstEx_c (w.alloc (.cells #[.int .i64 x, .int .i64 y] 25)) _ (by simp)).mono ?_
  rintro e w1 ⟨b1, o1, c1, rfl, r1, hb1⟩
  clear D00 D01
  have B1 : Below w.heap.size w w1 := btr BF hb1
  replace D0 := D0.below hb1
  clear BF hal
  have D00 := D0.c0
  have D01 := D0.c1
  go_wp2_with fail
  refine (Long_c _ _ _ _).mono ?_
  rintro e w2 ⟨rfl, hb2⟩
  clear D00 D01
  have B2 : Below w.heap.size w w2 := btr B1 hb2
  replace D0 := D0.below hb2
  simp only [hl]
  clear r1
  have D00 := D0.c0
  have D01 := D0.c1
  go_wp2_with fail
  refine (Total_c _ _ _ L _ (h.below B2 (Nat.le_refl _))).mono ?_
  rintro e w3 ⟨rfl, hb3⟩
  clear D00 D01
  have B3 : Below w.heap.size w w3 := btr B2 hb3
  replace D0 := D0.below hb3
  rw [HE.out]
  have D00 := D0.c0
  have D01 := D0.c1
  have D0l := D0.lt
  go_wp2_with fail
  refine (SharesOk_c _ _ _ L _ (h.below (B3.alloc B3.size _) (Nat.le_refl _)) HE.out).mono ?_
  rintro e w4 ⟨a4, c4, rfl, i4, hb4⟩
  clear D00 D01 D0l
  have ha4 : Below w3.heap.size w3 w4 := btr ((Below.refl _ _).alloc (Nat.le_refl _) _) hb4
  have T : Cell2 w4 w3.heap.size (totN L) (totD L) := Cell2.below (w := w3.alloc (.cells #[.int .i64 (totN L), .int .i64 (totD L)] 25)) ⟨by simp [go_sem], by simp [go_sem], by simp [go_sem], by simp [go_sem]⟩ hb4
  have B4 : Below w.heap.size w w4 := btr (B3.alloc B3.size _) hb4
  replace D0 := D0.below ha4
  have D00 := D0.c0
  have D01 := D0.c1
  have T0 := T.c0
  have T1 := T.c1
  go_wp2_with fail
  refine (Closes_c _ _ _ L (totN L) (totD L) _ (h.below B4 (Nat.le_refl _))).mono ?_
  rintro e w5 ⟨rfl, hb5⟩
  clear D00 D01 T0 T1
  have B5 : Below w.heap.size w w5 := btr B4 hb5
  replace i4 := i4.below hb5 (Nat.le_refl _)
  replace D0 := D0.below hb5
  replace T := T.below hb5
  rw [HLI.out, HCL.out]
  have D00 := D0.c0
  have D01 := D0.c1
  have T0 := T.c0
  have T1 := T.c1
  go_wp2_with fail
  clear D00 D01 T0 T1
  have HP5 := Lib.hid i4
  have HB := Lib.hid B5
  have HD0 := Lib.hid D0
  have HT := Lib.hid T
  clear i4 D0 T B1 B2 B3 B4 B5
  clear hb2 hb3 ha4 hb5
  generalize w5 = wk at *
  go_loopw [17, 18, 19] (fun v s i wr => ∃ k : Nat, k ≤ n ∧ i = .int .i64 k ∧ s = .int .i64 (paT L k) ∧ Below wk.heap.size wk wr ∧ wr.ownsRow wk.heap.size 3 1 v k ((tpL L k).map (Value.int .i64))) (fun _ _ i _ => n - (intOf i).toNat)
  case atStart => exact ⟨0, Nat.zero_le _, rfl, rfl, Below.refl _ _, World.ownsRow_nil _ _ _ _⟩
  case round =>
    obtain ⟨k, hk, rfl, rfl, hb, hown⟩ := hrel
    have HO := Lib.hid hown
    clear hown
    by_cases hlt : k < n
    · obtain ⟨b, o, rfl, hQ⟩ : ∃ b o, a4 = some ⟨b, o, none⟩ ∧ P2 wk b o n (shL L) := by
        rcases HP5.out.2 with h' | h'
        · omega
        · exact h'
      have hQ' := hQ.below hb (Nat.le_refl _)
      have d0 := hQ'.c0 k hlt
      have d1 := hQ'.c1 k hlt
      have hkL : k < L.length := by have := HLn.out; omega
      rw [SHE.out k hlt] at d0 d1
      dsimp only at d0 d1
      obtain ⟨f1, f2, f3, f4, f5, f6, f7, f8, f9⟩ := top_share (HV.out.ok k hkL)
      have HW := Lib.hid (tpL_snoc L k)
      have HWA := Lib.hid (tpL_at (L := L) (k := k + 1) (i := k) (by omega))
      have HPS := Lib.hid (paT_step L k)
      have q1 := PAB.out k (by omega)
      have q2 := PAB.out (k + 1) (by omega)
      rw [paT_step] at q2
      generalize redN (wI (at_ L k)) 2520 = p at *
      generalize redD (wI (at_ L k)) 2520 = q at *
      generalize hg : 2520 / q = g at *
      generalize wI (at_ L k) = W at *
      generalize paT L k = S at *
      have k0 := cell_regrown d0
      have k1 := cell_regrown d1
      have hp1 : ¬ q < 1 := by omega
      have hp2 : ¬ 2520 < q := by omega
      have hp3 : ¬ p < 0 := by omega
      have hp4 : ¬ 1000000 < p := by omega
      clear hQ hQ'
      go_wp2_with fail
      clear d0 d1
      refine wp_region_T1 12 _ _ u17 rfl rfl rfl rfl (by kernel_rfl) (by kernel_rfl) (fun _ _ _ _ h => h) ?_
      simp only [List.take_succ_cons, List.take_zero, List.drop_succ_cons, List.drop_zero, Act.put, List.setIfInBounds_toArray, List.set_cons_zero, List.set_cons_succ, Nat.reduceSub]
      repeat (go_big_quiet_step (fail))
      refine wpQuiet_nil ?_
      intro w6 hb6
      have B6 : Below wk.heap.size wk w6 := btr hb hb6
      have HO3 := Lib.hid (ownsRow_below HO.out hb6)
      clear k0 k1 hb6
      go_wp2_with (at_builtin; refine wpList_append_own _ rfl _ _ 26 rfl wk.heap.size 3 i3 (.int .i64 0) 1 8 Try.underlying26 hi3 hz30 hz31 hz32 rfl (by decide) _ _ _ rfl (HO3.out.alloc _) ⟨w6.heap.size, 0, none⟩ 1 1 [.int .i64 W] rfl rfl (cells1_new _ _ _) (by intro u hu; simp at hu; subst hu; rfl) (by unfold maxLen; omega) (by omega) (by have := B6.size; simp; omega) ?_)
      intro v' w7 hown7 hg7 _
      have B7 : Below wk.heap.size wk w7 := (B6.alloc B6.size _).grown hg7 (by have := B6.size; simp; omega) (fun q hq => (HO3.out.lt q hq).1)
      have hown8 : w7.ownsRow wk.heap.size 3 1 v' (k + 1) ((tpL L (k + 1)).map (Value.int .i64)) := by rw [HW.out, List.map_append]; exact hown7
      have HO7 := Lib.hid hown8
      obtain ⟨av, cv, ev, iv, -, -, -⟩ := ownsRow_is hown8
      rw [tpL_length] at ev iv
      obtain ⟨b7, o7, rfl, hI⟩ : ∃ b o, av = some ⟨b, o, none⟩ ∧ Is w7 b o (k + 1) (tpL L (k + 1)) := by
        rcases iv.2 with h' | h'
        · omega
        · exact h'
      have g0 := hI.c0 k (by omega)
      rw [HWA.out] at g0
      subst ev
      clear hown7 hown8 hg7 hI iv
      go_wp2_with fail
      exact ⟨⟨k + 1, by omega, by go_num, by rw [HPS.out], B7, HO7.out⟩, by simp [intOf]; omega⟩
    · obtain rfl : n = k := by omega
      obtain ⟨av, cv, ev, iv, -, -, -⟩ := ownsRow_is HO.out
      rw [tpL_length] at ev iv
      subst ev
      rw [HPT.out]
      clear hlt
      have hT := HT.out.below hb
      have T0 := hT.c0
      have T1 := hT.c1
      have Tl := hT.lt
      have HNE : (parts L * totD L != totN L * 2520) = false := by rw [HID.out]; simp
      obtain ⟨m1, m2⟩ := mul_bd (a := parts L) (b := totD L) p1 p2 (by omega) t4
      have hal : Below wr.heap.size wr (wr.alloc (.cells #[.int .i64 (parts L), .int .i64 2520] 25)) := (Below.refl _ _).alloc (Nat.le_refl _) _
      have HAL : Hid (alErr L (parts L) 2520 (tpL L n) = 0) := Lib.hid (by rw [HLn.out]; exact top_allow HE.out)
      have hpm : ¬ 1000000 < parts L := by omega
      go_wp2_with fail
      refine (Allow_c _ _ _ L (parts L) 2520 _ _ _ (tpL L n) _ (h.below (btr (btr HB.out hb) hal) (Nat.le_refl _)) (iv.below hal (Nat.le_refl _)) (by omega)).mono ?_
      rintro e w8 ⟨rfl, hb8⟩
      rw [HAL.out]
      have ha8 : Below wr.heap.size wr w8 := btr hal hb8
      have HO8 := Lib.hid (ownsRow_below HO.out ha8)
      have HC8 : Hid (Cell2 w8 wr.heap.size (parts L) 2520) := Lib.hid (Cell2.below (w := wr.alloc (.cells #[.int .i64 (parts L), .int .i64 2520] 25)) ⟨by simp [go_sem], by simp [go_sem], by simp [go_sem], by simp [go_sem]⟩ hb8)
      have HB8 := Lib.hid (btr hb ha8)
      have HFM : Hid (0 < n → ∃ q, av = some ⟨q, 0, none⟩ ∧ wk.heap.size ≤ q ∧ q < wr.heap.size) := Lib.hid (own_form HO.out rfl)
      clear T0 T1 Tl hT HNE m1 m2 hal HAL iv ha8 hb hb8 HO HPT SHE HP5 PAB
      go_wp2_with fail
      generalize wr.heap.size = bW at *
      generalize w8 = wl at *
      go_loopw [21] (fun i wr => ∃ k : Nat, k ≤ n ∧ i = .int .i64 k ∧ Below wk.heap.size wk wr ∧ wr.ownsRow wk.heap.size 3 1 (.slice av n cv) n ((tpL L n).map (Value.int .i64)) ∧ Cell2 wr bW (parts L) 2520) (fun i _ => n - (intOf i).toNat)
      case atStart => exact ⟨0, Nat.zero_le _, rfl, HB8.out, HO8.out, HC8.out⟩
      case round =>
        obtain ⟨k, hk, rfl, hb, hown, hC⟩ := hrel
        clear HB8 HO8 HC8
        have HO := Lib.hid hown
        have HC := Lib.hid hC
        clear hown hC
        by_cases hlt : k < n
        · obtain ⟨g, hav, hg1, hg2⟩ := HFM.out (by omega)
          subst hav
          have hkL : k < L.length := by have := HLn.out; omega
          have hw := wI_bd (HV.out.ok k hkL)
          have c0 := HO.out.cellAt k (by omega)
          rw [tpL_get hlt] at c0
          have z0 := HO.out.frozenAt k
          by_cases hp : 0 < wI (at_ L k)
          · have HA8 : Hid (alErr L (parts L) 2520 ((tpL L n).set k (wI (at_ L k) - 1)) = 8) := Lib.hid (by rw [HLn.out]; exact top_less HE.out hkL hp)
            obtain ⟨r1, r2⟩ := top_room HE.out hkL hp
            have HR1 := Lib.hid r1
            have HR2 := Lib.hid r2
            clear r1 r2
            have HT1 := Lib.hid (tpL_one (L := L) (n := n) (k := k) (wI (at_ L k) - 1))
            have HT2 := Lib.hid (tpL_two (L := L) hlt (wI (at_ L k) - 1))
            generalize hV0 : wI (at_ L k) - 1 = V at *
            have hV1 : V + 1 = wI (at_ L k) := by omega
            have HO1 : Hid ((wr.setCell ⟨g, k, none⟩ (.int .i64 V)).ownsRow wk.heap.size 3 1 (.slice (some ⟨g, 0, none⟩) n cv) n (((tpL L n).set k V).map (Value.int .i64))) := Lib.hid (by rw [← HT1.out]; exact (HO.out.stored k _).1)
            have HC1 := Lib.hid (HC.out.set (p := g) (q := k) (u := .int .i64 V) (by omega))
            have x0 := HC1.out.c0
            have x1 := HC1.out.c1
            have Bs := hb.setCell (p := ⟨g, k, none⟩) hg1 (.int .i64 V)
            generalize wI (at_ L k) = W at *
            go_wp2_with fail
            refine (Allow_c _ _ _ L (parts L) 2520 _ _ _ ((tpL L n).set k V) _ (h.below (btr HB.out Bs) (Nat.le_refl _)) (own_iso HO1.out) (by omega)).mono ?_
            rintro e w9 ⟨rfl, hb9⟩
            rw [HA8.out]
            have HO9 := Lib.hid (ownsRow_below HO1.out hb9)
            have HC9 := Lib.hid (HC1.out.below hb9)
            have B9 := btr Bs hb9
            clear c0 z0 x0 x1 HO1 HC1 HO hb hb9 Bs HC
            have c0 := HO9.out.cellAt k (by omega)
            rw [← HT1.out, List.getElem?_set, if_pos rfl, if_pos (by simp [tpL_length]; exact hlt)] at c0
            have z0 := HO9.out.frozenAt k
            have HO10 : Hid ((w9.setCell ⟨g, k, none⟩ (.int .i64 W)).ownsRow wk.heap.size 3 1 (.slice (some ⟨g, 0, none⟩) n cv) n ((tpL L n).map (Value.int .i64))) := Lib.hid (by rw [← HT2.out]; exact (HO9.out.stored k _).1)
            have HC10 := Lib.hid (HC9.out.set (p := g) (q := k) (u := .int .i64 W) (by omega))
            have x0 := HC10.out.c0
            have x1 := HC10.out.c1
            have B10 := B9.setCell (p := ⟨g, k, none⟩) hg1 (.int .i64 W)
            clear HO9 HC9 B9
            go_wp2_with fail
            refine (Room_c _ _ _ L (parts L) 2520 k _ (h.below (btr HB.out B10) (Nat.le_refl _)) (by omega)).mono ?_
            rintro e w11 ⟨rfl, hb11⟩
            rw [HR1.out, HR2.out]
            have HO11 := Lib.hid (ownsRow_below HO10.out hb11)
            have HC11 := Lib.hid (HC10.out.below hb11)
            have HB11 := Lib.hid (btr B10 hb11)
            clear c0 z0 x0 x1 HO10 HC10 B10 hb11
            go_wp2_with fail
            exact ⟨⟨k + 1, by omega, by go_num, HB11.out, HO11.out, HC11.out⟩, by simp [intOf]; omega⟩
          · clear z0
            go_wp2_with fail
            exact ⟨⟨k + 1, by omega, by go_num, hb, HO.out, HC.out⟩, by simp [intOf]; omega⟩
        · have hd : ¬ (k : Int) < n := by omega
          have BX : Below w.heap.size w wr := btr HB.out hb
          have D0 := HD0.out.below hb
          clear HO HC hb HFM HT HID HLI HCL HLE
          by_cases hfi : fiErr L F x y = 0
          · have HFI := Lib.hid hfi
            obtain ⟨g1, g2⟩ := top_close hfi
            have HG1 := Lib.hid g1
            cases hs : (chO L F x y).some
            · obtain ⟨b1, b2, b3, b4, b5, b6, x2, x1, y1, y2⟩ := top_no hfi hs
              have HS := Lib.hid hs
              have HG2 : Hid (closeB L x y = false) := Lib.hid (by rw [g2, hs]; rfl)
              have HBE := Lib.hid b1
              obtain ⟨m1, m2⟩ := mul_bd (a := beN L F 792) (b := y) (A := 120960) (B := 1000000) (by omega) b3 (by omega) y2
              obtain ⟨m3, m4⟩ := mul_bd (a := x) (b := beD L F 792) (A := 1000000) (B := 2520) x1 x2 (by omega) b5
              clear hfi hs g1 g2 b1
              have D00 := D0.c0
              have D01 := D0.c1
              go_wp2_with fail
              refine (Cheapest_c _ _ _ L _ _ _ F x y _ (h.below BX (Nat.le_refl _)) (hf.below BX (Nat.le_refl _)) hmm).mono ?_
              rintro e w21 ⟨rfl, hb21⟩
              clear D00 D01
              have B21 : Below w.heap.size w w21 := btr BX hb21
              replace D0 := D0.below hb21
              rw [HFI.out, HS.out]
              have D00 := D0.c0
              have D01 := D0.c1
              go_wp2_with fail
              refine (Choice_c _ _ _ L _ _ _ F x y _ (h.below B21 (Nat.le_refl _)) (hf.below B21 (Nat.le_refl _)) hmm).mono ?_
              rintro e w22 ⟨v22, rfl, hv22, hb22⟩
              clear D00 D01
              have B22 : Below w.heap.size w w22 := btr B21 hb22
              replace D0 := D0.below hb22
              obtain ⟨a22, c22, e22, i22, l22, m22, q22⟩ := hv22
              rw [e22]
              clear e22 q22
              rw [HFI.out, HS.out]
              generalize (chO L F x y).best.length = K at *
              have D00 := D0.c0
              have D01 := D0.c1
              go_wp2_with fail
              refine (Closes_c _ _ _ L x y _ (h.below B22 (Nat.le_refl _))).mono ?_
              rintro e w23 ⟨rfl, hb23⟩
              clear D00 D01
              have B23 : Below w.heap.size w w23 := btr B22 hb23
              replace i22 := i22.below hb23 (Nat.le_refl _)
              replace D0 := D0.below hb23
              rw [HG1.out, HG2.out]
              have D00 := D0.c0
              have D01 := D0.c1
              go_wp2_with fail
              refine (Best_c _ _ _ L _ _ _ F 792 _ (h.below B23 (Nat.le_refl _)) (hf.below B23 (Nat.le_refl _)) hmm).mono ?_
              rintro e w24 ⟨rfl, hb24⟩
              clear D00 D01
              have B24 : Below w.heap.size w w24 := btr B23 hb24
              replace i22 := i22.below hb24 (Nat.le_refl _)
              replace D0 := D0.below hb24
              rw [HBE.out]
              have hal : Below w24.heap.size w24 (w24.alloc (.cells #[.int .i64 (beN L F 792), .int .i64 (beD L F 792)] 25)) := (Below.refl _ _).alloc (Nat.le_refl _) _
              replace i22 := i22.below hal (Nat.le_refl _)
              replace D0 := D0.below hal
              have Bt : Cell2 (w24.alloc (.cells #[.int .i64 (beN L F 792), .int .i64 (beD L F 792)] 25)) w24.heap.size (beN L F 792) (beD L F 792) := ⟨by simp [go_sem], by simp [go_sem], by simp [go_sem], by simp [go_sem]⟩
              have BF : Below w.heap.size w (w24.alloc (.cells #[.int .i64 (beN L F 792), .int .i64 (beD L F 792)] 25)) := (B24.alloc B24.size _)
              have D00 := D0.c0
              have D01 := D0.c1
              have Bt0 := Bt.c0
              have Bt1 := Bt.c1
              go_wp2_with fail
              go_ret
              exact ⟨rfl, BF⟩
            · obtain ⟨u1, u2, u3, u4, u5, u6, u7, b2, b3, b4, b5, b6, x2, x1, y1, y2⟩ := top_yes hs
              have hlen := (chO_yes hs).2.2.2
              have HS := Lib.hid hs
              rw [hs] at g2
              obtain ⟨m1, m2⟩ := mul_bd (a := beN L F (chO L F x y).least) (b := y) (A := 120960) (B := 1000000) (by omega) b3 (by omega) y2
              obtain ⟨m3, m4⟩ := mul_bd (a := x) (b := beD L F (chO L F x y).least) (A := 1000000) (B := 2520) x1 x2 (by omega) b5
              clear hfi hs g1
              generalize hCC : (chO L F x y).least = CC at *
              generalize hBB : (chO L F x y).best = BB at *
              have HCCe := Lib.hid hCC
              have HBBe := Lib.hid hBB
              have HWE := Lib.hid u1
              have HWC := Lib.hid u2
              have HCE := Lib.hid u3
              have HCC := Lib.hid u4
              have HL5 := Lib.hid u5
              have HC5 := Lib.hid u6
              have HBE := Lib.hid u7
              clear hCC hBB u1 u2 u3 u4 u5 u6 u7
              by_cases hl0 : CC = 0
              · have hl1 : (CC == 0) = true := by simp [hl0]
                by_cases hn0 : BB.length = 0
                · have HG2 : Hid (closeB L x y = true) := Lib.hid (by rw [g2, decT hl0, decT hn0]; rfl)
                  have hn1 : ((BB.length : Int) == 0) = true := by rw [hn0]; rfl
                  have hn2 : (BB.length == 0) = true := by rw [hn0]; rfl
                  clear g2 hl0 hn0
                  have D00 := D0.c0
                  have D01 := D0.c1
                  go_wp2_with fail
                  refine (Cheapest_c _ _ _ L _ _ _ F x y _ (h.below BX (Nat.le_refl _)) (hf.below BX (Nat.le_refl _)) hmm).mono ?_
                  rintro e w21 ⟨rfl, hb21⟩
                  clear D00 D01
                  have B21 : Below w.heap.size w w21 := btr BX hb21
                  replace D0 := D0.below hb21
                  rw [HFI.out, HS.out, HCCe.out]
                  have D00 := D0.c0
                  have D01 := D0.c1
                  go_wp2_with fail
                  refine (Choice_c _ _ _ L _ _ _ F x y _ (h.below B21 (Nat.le_refl _)) (hf.below B21 (Nat.le_refl _)) hmm).mono ?_
                  rintro e w22 ⟨v22, rfl, hv22, hb22⟩
                  clear D00 D01
                  have B22 : Below w.heap.size w w22 := btr B21 hb22
                  replace D0 := D0.below hb22
                  obtain ⟨a22, c22, e22, i22, l22, m22, q22⟩ := hv22
                  rw [e22]
                  clear e22 q22
                  rw [HFI.out, HS.out]
                  rw [HBBe.out] at i22
                  rw [HBBe.out]
                  have D00 := D0.c0
                  have D01 := D0.c1
                  go_wp2_with fail
                  refine (Closes_c _ _ _ L x y _ (h.below B22 (Nat.le_refl _))).mono ?_
                  rintro e w23 ⟨rfl, hb23⟩
                  clear D00 D01
                  have B23 : Below w.heap.size w w23 := btr B22 hb23
                  replace i22 := i22.below hb23 (Nat.le_refl _)
                  replace D0 := D0.below hb23
                  rw [HG1.out, HG2.out]
                  have D00 := D0.c0
                  have D01 := D0.c1
                  go_wp2_with fail
                  refine (With_c _ _ _ L _ _ _ F _ _ _ BB _ (h.below B23 (Nat.le_refl _)) (hf.below B23 (Nat.le_refl _)) i22 hmm (by omega)).mono ?_
                  rintro e w24 ⟨v24, rfl, hv24, hb24⟩
                  clear D00 D01
                  have B24 : Below w.heap.size w w24 := btr B23 hb24
                  replace i22 := i22.below hb24 (Nat.le_refl _)
                  replace D0 := D0.below hb24
                  obtain ⟨a24, c24, e24, i24, -, -, -⟩ := ownsRow_it hv24
                  subst e24
                  have o24 := hv24
                  clear hv24
                  rw [HWE.out, HWC.out]
                  have D00 := D0.c0
                  have D01 := D0.c1
                  go_wp2_with fail
                  refine (CheckChoice_c _ _ _ L _ _ _ F x y _ _ _ BB _ (h.below B24 (Nat.le_refl _)) (hf.below B24 (Nat.le_refl _)) i22 hmm (by omega)).mono ?_
                  rintro e w25 ⟨rfl, hb25⟩
                  clear D00 D01
                  have B25 : Below w.heap.size w w25 := btr B24 hb25
                  replace i22 := i22.below hb25 (Nat.le_refl _)
                  replace i24 := i24.below hb25 (Nat.le_refl _)
                  replace D0 := D0.below hb25
                  replace o24 := ownsRow_below o24 hb25
                  rw [HCE.out, HCC.out]
                  have D00 := D0.c0
                  have D01 := D0.c1
                  go_wp2_with fail
                  refine (Closes_c _ _ _ (weL L F BB) x y _ i24).mono ?_
                  rintro e w26 ⟨rfl, hb26⟩
                  clear D00 D01
                  have B26 : Below w.heap.size w w26 := btr B25 hb26
                  replace i22 := i22.below hb26 (Nat.le_refl _)
                  replace i24 := i24.below hb26 (Nat.le_refl _)
                  replace D0 := D0.below hb26
                  replace o24 := ownsRow_below o24 hb26
                  rw [HL5.out, HC5.out]
                  have D00 := D0.c0
                  have D01 := D0.c1
                  go_wp2_with fail
                  refine (Best_c _ _ _ L _ _ _ F CC _ (h.below B26 (Nat.le_refl _)) (hf.below B26 (Nat.le_refl _)) hmm).mono ?_
                  rintro e w27 ⟨rfl, hb27⟩
                  clear D00 D01
                  have B27 : Below w.heap.size w w27 := btr B26 hb27
                  replace i22 := i22.below hb27 (Nat.le_refl _)
                  replace i24 := i24.below hb27 (Nat.le_refl _)
                  replace D0 := D0.below hb27
                  replace o24 := ownsRow_below o24 hb27
                  rw [HBE.out]
                  have hal : Below w27.heap.size w27 (w27.alloc (.cells #[.int .i64 (beN L F CC), .int .i64 (beD L F CC)] 25)) := (Below.refl _ _).alloc (Nat.le_refl _) _
                  replace i22 := i22.below hal (Nat.le_refl _)
                  replace i24 := i24.below hal (Nat.le_refl _)
                  replace D0 := D0.below hal
                  replace o24 := ownsRow_below o24 hal
                  have Bt : Cell2 (w27.alloc (.cells #[.int .i64 (beN L F CC), .int .i64 (beD L F CC)] 25)) w27.heap.size (beN L F CC) (beD L F CC) := ⟨by simp [go_sem], by simp [go_sem], by simp [go_sem], by simp [go_sem]⟩
                  have BF : Below w.heap.size w (w27.alloc (.cells #[.int .i64 (beN L F CC), .int .i64 (beD L F CC)] 25)) := (B27.alloc B27.size _)
                  have D00 := D0.c0
                  have D01 := D0.c1
                  have Bt0 := Bt.c0
                  have Bt1 := Bt.c1
                  go_wp2_with fail
                  go_ret
                  exact ⟨rfl, BF⟩
                · have HG2 : Hid (closeB L x y = false) := Lib.hid (by rw [g2, decT hl0, decF hn0]; rfl)
                  have hn1 : ((BB.length : Int) == 0) = false := by rw [beq_eq_false_iff_ne]; omega
                  have hn2 : (BB.length == 0) = false := by rw [beq_eq_false_iff_ne]; exact hn0
                  clear g2 hl0 hn0
                  have D00 := D0.c0
                  have D01 := D0.c1
                  go_wp2_with fail
                  refine (Cheapest_c _ _ _ L _ _ _ F x y _ (h.below BX (Nat.le_refl _)) (hf.below BX (Nat.le_refl _)) hmm).mono ?_
                  rintro e w21 ⟨rfl, hb21⟩
                  clear D00 D01
                  have B21 : Below w.heap.size w w21 := btr BX hb21
                  replace D0 := D0.below hb21
                  rw [HFI.out, HS.out, HCCe.out]
                  have D00 := D0.c0
                  have D01 := D0.c1
                  go_wp2_with fail
                  refine (Choice_c _ _ _ L _ _ _ F x y _ (h.below B21 (Nat.le_refl _)) (hf.below B21 (Nat.le_refl _)) hmm).mono ?_
                  rintro e w22 ⟨v22, rfl, hv22, hb22⟩
                  clear D00 D01
                  have B22 : Below w.heap.size w w22 := btr B21 hb22
                  replace D0 := D0.below hb22
                  obtain ⟨a22, c22, e22, i22, l22, m22, q22⟩ := hv22
                  rw [e22]
                  clear e22 q22
                  rw [HFI.out, HS.out]
                  rw [HBBe.out] at i22
                  rw [HBBe.out]
                  have D00 := D0.c0
                  have D01 := D0.c1
                  go_wp2_with fail
                  refine (Closes_c _ _ _ L x y _ (h.below B22 (Nat.le_refl _))).mono ?_
                  rintro e w23 ⟨rfl, hb23⟩
                  clear D00 D01
                  have B23 : Below w.heap.size w w23 := btr B22 hb23
                  replace i22 := i22.below hb23 (Nat.le_refl _)
                  replace D0 := D0.below hb23
                  rw [HG1.out, HG2.out]
                  have D00 := D0.c0
                  have D01 := D0.c1
                  go_wp2_with fail
                  refine (With_c _ _ _ L _ _ _ F _ _ _ BB _ (h.below B23 (Nat.le_refl _)) (hf.below B23 (Nat.le_refl _)) i22 hmm (by omega)).mono ?_
                  rintro e w24 ⟨v24, rfl, hv24, hb24⟩
                  clear D00 D01
                  have B24 : Below w.heap.size w w24 := btr B23 hb24
                  replace i22 := i22.below hb24 (Nat.le_refl _)
                  replace D0 := D0.below hb24
                  obtain ⟨a24, c24, e24, i24, -, -, -⟩ := ownsRow_it hv24
                  subst e24
                  have o24 := hv24
                  clear hv24
                  rw [HWE.out, HWC.out]
                  have D00 := D0.c0
                  have D01 := D0.c1
                  go_wp2_with fail
                  refine (CheckChoice_c _ _ _ L _ _ _ F x y _ _ _ BB _ (h.below B24 (Nat.le_refl _)) (hf.below B24 (Nat.le_refl _)) i22 hmm (by omega)).mono ?_
                  rintro e w25 ⟨rfl, hb25⟩
                  clear D00 D01
                  have B25 : Below w.heap.size w w25 := btr B24 hb25
                  replace i22 := i22.below hb25 (Nat.le_refl _)
                  replace i24 := i24.below hb25 (Nat.le_refl _)
                  replace D0 := D0.below hb25
                  replace o24 := ownsRow_below o24 hb25
                  rw [HCE.out, HCC.out]
                  have D00 := D0.c0
                  have D01 := D0.c1
                  go_wp2_with fail
                  refine (Closes_c _ _ _ (weL L F BB) x y _ i24).mono ?_
                  rintro e w26 ⟨rfl, hb26⟩
                  clear D00 D01
                  have B26 : Below w.heap.size w w26 := btr B25 hb26
                  replace i22 := i22.below hb26 (Nat.le_refl _)
                  replace i24 := i24.below hb26 (Nat.le_refl _)
                  replace D0 := D0.below hb26
                  replace o24 := ownsRow_below o24 hb26
                  rw [HL5.out, HC5.out]
                  have D00 := D0.c0
                  have D01 := D0.c1
                  go_wp2_with fail
                  refine (Best_c _ _ _ L _ _ _ F CC _ (h.below B26 (Nat.le_refl _)) (hf.below B26 (Nat.le_refl _)) hmm).mono ?_
                  rintro e w27 ⟨rfl, hb27⟩
                  clear D00 D01
                  have B27 : Below w.heap.size w w27 := btr B26 hb27
                  replace i22 := i22.below hb27 (Nat.le_refl _)
                  replace i24 := i24.below hb27 (Nat.le_refl _)
                  replace D0 := D0.below hb27
                  replace o24 := ownsRow_below o24 hb27
                  rw [HBE.out]
                  have hal : Below w27.heap.size w27 (w27.alloc (.cells #[.int .i64 (beN L F CC), .int .i64 (beD L F CC)] 25)) := (Below.refl _ _).alloc (Nat.le_refl _) _
                  replace i22 := i22.below hal (Nat.le_refl _)
                  replace i24 := i24.below hal (Nat.le_refl _)
                  replace D0 := D0.below hal
                  replace o24 := ownsRow_below o24 hal
                  have Bt : Cell2 (w27.alloc (.cells #[.int .i64 (beN L F CC), .int .i64 (beD L F CC)] 25)) w27.heap.size (beN L F CC) (beD L F CC) := ⟨by simp [go_sem], by simp [go_sem], by simp [go_sem], by simp [go_sem]⟩
                  have BF : Below w.heap.size w (w27.alloc (.cells #[.int .i64 (beN L F CC), .int .i64 (beD L F CC)] 25)) := (B27.alloc B27.size _)
                  have D00 := D0.c0
                  have D01 := D0.c1
                  have Bt0 := Bt.c0
                  have Bt1 := Bt.c1
                  go_wp2_with fail
                  go_ret
                  exact ⟨rfl, BF⟩
              · have hl1 : (CC == 0) = false := by rw [beq_eq_false_iff_ne]; exact hl0
                have HG2 : Hid (closeB L x y = false) := Lib.hid (by rw [g2, decF hl0]; rfl)
                clear g2 hl0
                have D00 := D0.c0
                have D01 := D0.c1
                go_wp2_with fail
                refine (Cheapest_c _ _ _ L _ _ _ F x y _ (h.below BX (Nat.le_refl _)) (hf.below BX (Nat.le_refl _)) hmm).mono ?_
                rintro e w21 ⟨rfl, hb21⟩
                clear D00 D01
                have B21 : Below w.heap.size w w21 := btr BX hb21
                replace D0 := D0.below hb21
                rw [HFI.out, HS.out, HCCe.out]
                have D00 := D0.c0
                have D01 := D0.c1
                go_wp2_with fail
                refine (Choice_c _ _ _ L _ _ _ F x y _ (h.below B21 (Nat.le_refl _)) (hf.below B21 (Nat.le_refl _)) hmm).mono ?_
                rintro e w22 ⟨v22, rfl, hv22, hb22⟩
                clear D00 D01
                have B22 : Below w.heap.size w w22 := btr B21 hb22
                replace D0 := D0.below hb22
                obtain ⟨a22, c22, e22, i22, l22, m22, q22⟩ := hv22
                rw [e22]
                clear e22 q22
                rw [HFI.out, HS.out]
                rw [HBBe.out] at i22
                rw [HBBe.out]
                have D00 := D0.c0
                have D01 := D0.c1
                go_wp2_with fail
                refine (Closes_c _ _ _ L x y _ (h.below B22 (Nat.le_refl _))).mono ?_
                rintro e w23 ⟨rfl, hb23⟩
                clear D00 D01
                have B23 : Below w.heap.size w w23 := btr B22 hb23
                replace i22 := i22.below hb23 (Nat.le_refl _)
                replace D0 := D0.below hb23
                rw [HG1.out, HG2.out]
                have D00 := D0.c0
                have D01 := D0.c1
                go_wp2_with fail
                refine (With_c _ _ _ L _ _ _ F _ _ _ BB _ (h.below B23 (Nat.le_refl _)) (hf.below B23 (Nat.le_refl _)) i22 hmm (by omega)).mono ?_
                rintro e w24 ⟨v24, rfl, hv24, hb24⟩
                clear D00 D01
                have B24 : Below w.heap.size w w24 := btr B23 hb24
                replace i22 := i22.below hb24 (Nat.le_refl _)
                replace D0 := D0.below hb24
                obtain ⟨a24, c24, e24, i24, -, -, -⟩ := ownsRow_it hv24
                subst e24
                have o24 := hv24
                clear hv24
                rw [HWE.out, HWC.out]
                have D00 := D0.c0
                have D01 := D0.c1
                go_wp2_with fail
                refine (CheckChoice_c _ _ _ L _ _ _ F x y _ _ _ BB _ (h.below B24 (Nat.le_refl _)) (hf.below B24 (Nat.le_refl _)) i22 hmm (by omega)).mono ?_
                rintro e w25 ⟨rfl, hb25⟩
                clear D00 D01
                have B25 : Below w.heap.size w w25 := btr B24 hb25
                replace i22 := i22.below hb25 (Nat.le_refl _)
                replace i24 := i24.below hb25 (Nat.le_refl _)
                replace D0 := D0.below hb25
                replace o24 := ownsRow_below o24 hb25
                rw [HCE.out, HCC.out]
                have D00 := D0.c0
                have D01 := D0.c1
                go_wp2_with fail
                refine (Closes_c _ _ _ (weL L F BB) x y _ i24).mono ?_
                rintro e w26 ⟨rfl, hb26⟩
                clear D00 D01
                have B26 : Below w.heap.size w w26 := btr B25 hb26
                replace i22 := i22.below hb26 (Nat.le_refl _)
                replace i24 := i24.below hb26 (Nat.le_refl _)
                replace D0 := D0.below hb26
                replace o24 := ownsRow_below o24 hb26
                rw [HL5.out, HC5.out]
                have D00 := D0.c0
                have D01 := D0.c1
                go_wp2_with fail
                refine (Best_c _ _ _ L _ _ _ F CC _ (h.below B26 (Nat.le_refl _)) (hf.below B26 (Nat.le_refl _)) hmm).mono ?_
                rintro e w27 ⟨rfl, hb27⟩
                clear D00 D01
                have B27 : Below w.heap.size w w27 := btr B26 hb27
                replace i22 := i22.below hb27 (Nat.le_refl _)
                replace i24 := i24.below hb27 (Nat.le_refl _)
                replace D0 := D0.below hb27
                replace o24 := ownsRow_below o24 hb27
                rw [HBE.out]
                have hal : Below w27.heap.size w27 (w27.alloc (.cells #[.int .i64 (beN L F CC), .int .i64 (beD L F CC)] 25)) := (Below.refl _ _).alloc (Nat.le_refl _) _
                replace i22 := i22.below hal (Nat.le_refl _)
                replace i24 := i24.below hal (Nat.le_refl _)
                replace D0 := D0.below hal
                replace o24 := ownsRow_below o24 hal
                have Bt : Cell2 (w27.alloc (.cells #[.int .i64 (beN L F CC), .int .i64 (beD L F CC)] 25)) w27.heap.size (beN L F CC) (beD L F CC) := ⟨by simp [go_sem], by simp [go_sem], by simp [go_sem], by simp [go_sem]⟩
                have BF : Below w.heap.size w (w27.alloc (.cells #[.int .i64 (beN L F CC), .int .i64 (beD L F CC)] 25)) := (B27.alloc B27.size _)
                have D00 := D0.c0
                have D01 := D0.c1
                have Bt0 := Bt.c0
                have Bt1 := Bt.c1
                go_wp2_with fail
                go_ret
                exact ⟨rfl, BF⟩
          · have hz2 : (fiErr L F x y != 0) = true := by simp [hfi]
            have HS : Hid ((chO L F x y).some = false) := Lib.hid (by rw [chO_bad hfi]; rfl)
            clear hfi
            have D00 := D0.c0
            have D01 := D0.c1
            go_wp2_with fail
            refine (Cheapest_c _ _ _ L _ _ _ F x y _ (h.below BX (Nat.le_refl _)) (hf.below BX (Nat.le_refl _)) hmm).mono ?_
            rintro e w21 ⟨rfl, hb21⟩
            clear D00 D01
            have B21 : Below w.heap.size w w21 := btr BX hb21
            replace D0 := D0.below hb21
            rw [HS.out]
            have D00 := D0.c0
            have D01 := D0.c1
            go_wp2_with fail
            go_ret
            exact ⟨rfl, B21⟩
end Go.Proofs.Ytplindidegmlkaa
