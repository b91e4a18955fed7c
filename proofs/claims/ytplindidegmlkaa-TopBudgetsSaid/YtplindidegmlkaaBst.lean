/- Best of budget. -/
import Derived.Test.YtplindidegmlkaaZ
import Derived.Test.YtplindidegmlkaaMath5
namespace Go.Proofs.Ytplindidegmlkaa
open Go.RowKit Go.Sort

/-- What Best keeps while it goes through the choices: the cost, the smallest total so far. -/
structure BsI (w0 w : World) (b9 : Nat) (cost : Int) (acc : Int) : Prop where
  bel : Below w0.heap.size w0 w
  cst : Var w w0.heap.size (.int .i64 cost)
  res : Cell2 w (w0.heap.size + 1) 0 0
  best : Cell2 w b9 (redN acc 2520) (redD acc 2520)
  gt : w0.heap.size + 1 < b9
theorem BsI.below {w0 w w' : World} {b9 : Nat} {cost acc : Int} (h : BsI w0 w b9 cost acc) (hb : Below w.heap.size w w') : BsI w0 w' b9 cost acc :=
  ⟨btr h.bel hb, h.cst.below hb, h.res.below hb, h.best.below hb, h.gt⟩
theorem BsI.store {w0 w : World} {b9 : Nat} {cost acc : Int} (h : BsI w0 w b9 cost acc) (a : Int) : BsI w0 ((w.setCell ⟨b9, 0, none⟩ (.int .i64 (redN a 2520))).setCell ⟨b9, 1, none⟩ (.int .i64 (redD a 2520))) b9 cost a :=
  have hg := h.gt
  ⟨(h.bel.setCell (show w0.heap.size ≤ b9 by omega) _).setCell (show w0.heap.size ≤ b9 by omega) _, (h.cst.set (by omega)).set (by omega), (h.res.set (by omega)).set (by omega), h.best.store _ _, hg⟩
def BsRet (w0 : World) (b9 : Nat) (cost acc : Int) (e : Ending) (w' : World) : Prop := e = .returned (.tuple #[]) ∧ BsI w0 w' b9 cost acc

theorem low_yes {L : List It} {F : List Fx} {cost acc : Int} {ch : List Int} (h1 : wcL F ch ≤ cost) (h2 : parts (wiL L F ch) < acc) : lowStep L F cost acc ch = parts (wiL L F ch) := if_pos ⟨h1, h2⟩
theorem low_no1 {L : List It} {F : List Fx} {cost acc : Int} {ch : List Int} (h1 : ¬ wcL F ch ≤ cost) : lowStep L F cost acc ch = acc := if_neg (fun h => h1 h.1)
theorem low_no2 {L : List It} {F : List Fx} {cost acc : Int} {ch : List Int} (h2 : ¬ parts (wiL L F ch) < acc) : lowStep L F cost acc ch = acc := if_neg (fun h => h2 h.2)

set_option maxRecDepth 100000 in
set_option maxHeartbeats 3200000 in
theorem clo75 (w0 W : World) (b9 : Nat) (cost acc : Int) (L : List It) (F : List Fx) (ch : List Int) (ca : Option Addr) (p cc : Nat) (oa : Option Addr) (n oc : Nat) (hI : BsI w0 W b9 cost acc)
    (ho : SlO W oa n (wiL L F ch)) (hv : Valid (wiL L F ch)) (ha : 0 ≤ acc ∧ acc ≤ 120960) :
    Calls Try.prog 75 #[.slice ca p cc, .slice oa n oc, .int .i64 (wcL F ch), .pointer (some ⟨w0.heap.size, 0, none⟩), .pointer (some ⟨b9, 0, none⟩)] W (BsRet w0 b9 cost (lowStep L F cost acc ch)) := by
  have S1 : Hid (wcL F ch ≤ cost → parts (wiL L F ch) < acc → lowStep L F cost acc ch = parts (wiL L F ch)) := Lib.hid low_yes
  have S2 : Hid (¬ wcL F ch ≤ cost → lowStep L F cost acc ch = acc) := Lib.hid low_no1
  have S3 : Hid (¬ parts (wiL L F ch) < acc → lowStep L F cost acc ch = acc) := Lib.hid low_no2
  generalize lowStep L F cost acc ch = acc' at *
  generalize wiL L F ch = M at *
  have HT : Hid (toN M M.length = redN (parts M) 2520 ∧ toD M M.length = redD (parts M) 2520) := Lib.hid ⟨rfl, rfl⟩
  have HI := Lib.hid hI
  have HO := Lib.hid ho
  obtain ⟨q1, q2⟩ := parts_bd hv
  obtain ⟨t1, t2, t3, t4⟩ := frac_bd q1 q2
  obtain ⟨a1, a2⟩ := ha
  obtain ⟨u1, u2, u3, u4⟩ := frac_bd a1 a2
  have RS := Lib.hid (red_sub (parts M) acc)
  clear ho hI
  by_cases h1 : wcL F ch ≤ cost
  · have h1' : decide (wcL F ch ≤ cost) = true := decT h1
    by_cases h2 : parts M < acc
    · have HS := Lib.hid (S1.out h1 h2)
      have HD : Hid (decide (redN (parts M) 2520 * redD acc 2520 - redN acc 2520 * redD (parts M) 2520 < 0) = true) := Lib.hid (by rw [RS.out]; exact decT h2)
      clear h1 h2 S1 S2 S3
      go_enter Try.func75, Try.ntmps75
      go_wp2_with fail
      refine (total_c oa n oc M W HO.out hv).mono ?_
      rintro e w1 ⟨rfl, hb1⟩
      rw [HT.out.1, HT.out.2]
      have h01 := HI.out.below hb1
      have hal : Below w1.heap.size w1 (w1.alloc (.cells #[.int .i64 (redN (parts M) 2520), .int .i64 (redD (parts M) 2520)] 77)) := (Below.refl _ _).alloc (Nat.le_refl _) _
      have HI1 := Lib.hid (h01.below hal)
      have m0 := h01.cst.c
      have m1 := h01.best.c0
      have m2 := h01.best.c1
      have hb9 : b9 < w1.heap.size := h01.best.lt
      have h0l : w0.heap.size < w1.heap.size := h01.cst.lt
      have HX : Hid (Cell2 (w1.alloc (.cells #[.int .i64 (redN (parts M) 2520), .int .i64 (redD (parts M) 2520)] 77)) w1.heap.size (redN (parts M) 2520) (redD (parts M) 2520)) := Lib.hid ⟨by simp [go_sem], by simp [go_sem], by simp [go_sem], by simp [go_sem]⟩
      clear hb1 h01 hal
      go_wp2_with fail
      refine (compare_c (redN (parts M) 2520) (redD (parts M) 2520) (redN acc 2520) (redD acc 2520) _ ⟨t1, by omega, by omega, by omega⟩ ⟨u1, by omega, by omega, by omega⟩).mono ?_
      rintro e w3 ⟨rfl, hb3⟩
      have HI3 := Lib.hid (HI1.out.below hb3)
      have HX3 := HX.out.below hb3
      have n0 := HX3.c0
      have n1 := HX3.c1
      have n2 := HI3.out.best.c0
      have n3 := HI3.out.best.c1
      have n4 := HI3.out.best.f0
      have n5 := HI3.out.best.f1
      have HDD := HD.out
      clear hb3 HX3 m0 m1 m2 HI1 HX hb9 h0l
      go_wp2_with fail
      refine bodyPost_ret (results_none rfl _ _ _) rfl ?_
      refine ⟨rfl, ?_⟩
      rw [HS.out]
      exact HI3.out.store _
    · have HS := Lib.hid (S3.out h2)
      have HD : Hid (decide (redN (parts M) 2520 * redD acc 2520 - redN acc 2520 * redD (parts M) 2520 < 0) = false) := Lib.hid (by rw [RS.out]; exact decF h2)
      clear h1 h2 S1 S2 S3
      go_enter Try.func75, Try.ntmps75
      go_wp2_with fail
      refine (total_c oa n oc M W HO.out hv).mono ?_
      rintro e w1 ⟨rfl, hb1⟩
      rw [HT.out.1, HT.out.2]
      have h01 := HI.out.below hb1
      have hal : Below w1.heap.size w1 (w1.alloc (.cells #[.int .i64 (redN (parts M) 2520), .int .i64 (redD (parts M) 2520)] 77)) := (Below.refl _ _).alloc (Nat.le_refl _) _
      have HI1 := Lib.hid (h01.below hal)
      have m0 := h01.cst.c
      have m1 := h01.best.c0
      have m2 := h01.best.c1
      have hb9 : b9 < w1.heap.size := h01.best.lt
      have h0l : w0.heap.size < w1.heap.size := h01.cst.lt
      have HX : Hid (Cell2 (w1.alloc (.cells #[.int .i64 (redN (parts M) 2520), .int .i64 (redD (parts M) 2520)] 77)) w1.heap.size (redN (parts M) 2520) (redD (parts M) 2520)) := Lib.hid ⟨by simp [go_sem], by simp [go_sem], by simp [go_sem], by simp [go_sem]⟩
      clear hb1 h01 hal
      go_wp2_with fail
      refine (compare_c (redN (parts M) 2520) (redD (parts M) 2520) (redN acc 2520) (redD acc 2520) _ ⟨t1, by omega, by omega, by omega⟩ ⟨u1, by omega, by omega, by omega⟩).mono ?_
      rintro e w3 ⟨rfl, hb3⟩
      have HI3 := Lib.hid (HI1.out.below hb3)
      have HX3 := HX.out.below hb3
      have n0 := HX3.c0
      have n1 := HX3.c1
      have n2 := HI3.out.best.c0
      have n3 := HI3.out.best.c1
      have n4 := HI3.out.best.f0
      have n5 := HI3.out.best.f1
      have HDD := HD.out
      clear hb3 HX3 m0 m1 m2 HI1 HX hb9 h0l
      go_wp2_with fail
      refine bodyPost_ret (results_none rfl _ _ _) rfl ?_
      refine ⟨rfl, ?_⟩
      rw [HS.out]
      exact HI3.out
  · have h1' : decide (wcL F ch ≤ cost) = false := decF h1
    have HS := Lib.hid (S2.out h1)
    clear h1 S1 S2 S3
    go_enter Try.func75, Try.ntmps75
    go_wp2_with fail
    refine (total_c oa n oc M W HO.out hv).mono ?_
    rintro e w1 ⟨rfl, hb1⟩
    rw [HT.out.1, HT.out.2]
    have HI1 := Lib.hid ((HI.out.below hb1).below ((Below.refl _ _).alloc (Nat.le_refl _) (.cells #[.int .i64 (redN (parts M) 2520), .int .i64 (redD (parts M) 2520)] 77)))
    have m0 := (HI.out.below hb1).cst.c
    have h0l : w0.heap.size < w1.heap.size := (HI.out.below hb1).cst.lt
    clear hb1
    go_wp2_with fail
    refine bodyPost_ret (results_none rfl _ _ _) rfl ?_
    refine ⟨rfl, ?_⟩
    rw [HS.out]
    exact HI1.out

set_option maxRecDepth 100000 in
set_option maxHeartbeats 3200000 in
theorem choices75 (w0 W : World) (b9 : Nat) (cost : Int) (a : Option Addr) (n c : Nat) (L : List It) (fa : Option Addr) (m fc : Nat) (F : List Fx) (h : SlO w0 a n L) (hf : FlO w0 fa m F) (hv : ValidF L F) (hI : BsI w0 W b9 cost (parts L)) :
    Calls Try.prog 74 #[.slice a n c, .slice fa m fc, .func (.func 75) #[] #[.pointer (some ⟨w0.heap.size, 0, none⟩), .pointer (some ⟨b9, 0, none⟩)]] W (BsRet w0 b9 cost (bestP L F cost)) := by
  have HV := Lib.hid hv
  have HFn := Lib.hid hf.1
  have HH := Lib.hid h
  have HF := Lib.hid hf
  have hm8 : m ≤ 8 := by have := hf.1; have := hv.le; omega
  have HI := Lib.hid hI
  clear h hf hv hI
  obtain ⟨PW, hPW⟩ : ∃ PW : Nat, PW = 2 ^ m := ⟨_, rfl⟩
  have hP1 : PW ≤ 256 := by rw [hPW]; exact Nat.le_trans (Nat.pow_le_pow_right (by decide) hm8) (by decide)
  have hsh : wrap64 ((2 : Int) ^ m) = (PW : Int) := by
    have e : (2 : Int) ^ m = ((2 ^ m : Nat) : Int) := by simp
    rw [e, ← hPW]
    unfold wrap64
    omega
  have HPW := Lib.hid hPW
  have CZ : Hid (bestM L F cost 0 = parts L) := Lib.hid rfl
  obtain ⟨i3, hi3, hz30, hz31, hz32⟩ := info_parts info3
  clear hPW
  go_enter Try.func74, Try.ntmps74
  go_wp2_with fail
  rw [hsh]
  clear hsh
  go_loopw [15] (fun i wr => ∃ k : Nat, k ≤ PW ∧ i = .int .i64 k ∧ BsI w0 wr b9 cost (bestM L F cost k)) (fun i _ => PW - (intOf i).toNat)
  case atStart => exact ⟨0, Nat.zero_le _, rfl, by rw [CZ.out]; exact HI.out⟩
  case round =>
    obtain ⟨k, hk, rfl, hI⟩ := hrel
    clear HI CZ
    have HI := Lib.hid hI
    clear hI
    by_cases hlt : k < PW
    · go_wp2_with fail
      generalize wr = wk at *
      go_loopw [7, 20] (fun v i wr => ∃ j : Nat, j ≤ m ∧ i = .int .i64 j ∧ Below wk.heap.size wk wr ∧ wr.ownsRow wk.heap.size 3 1 v (chM k j).length ((chM k j).map (Value.int .i64))) (fun _ i _ => m - (intOf i).toNat)
      case atStart => exact ⟨0, Nat.zero_le _, rfl, Below.refl _ _, World.ownsRow_nil _ _ _ _⟩
      case round =>
        obtain ⟨j, hj, rfl, hb, hown⟩ := hrel
        have HO := Lib.hid hown
        clear hown
        by_cases hlt2 : j < m
        · have HBT := Lib.hid (bit_at k j)
          have hcl : (chM k j).length ≤ j := (chM_asc k j).len
          cases ht : k.testBit j
          · have htb : (bits BinOp.and IntKind.i64 ((k : Int) / 2 ^ j) 1 == 1) = false := by rw [HBT.out, ht]
            have HCM := Lib.hid (chM_no ht)
            clear ht
            go_wp2_with fail
            exact ⟨⟨j + 1, by omega, by go_num, hb, by rw [HCM.out]; exact HO.out⟩, by simp [intOf]; omega⟩
          · have htb : (bits BinOp.and IntKind.i64 ((k : Int) / 2 ^ j) 1 == 1) = true := by rw [HBT.out, ht]
            have HCM := Lib.hid (chM_yes ht)
            clear ht
            go_wp2_with (at_builtin; refine wpList_append_own _ rfl _ _ 26 rfl wk.heap.size 3 i3 (.int .i64 0) 1 8 Try.underlying26 hi3 hz30 hz31 hz32 rfl (by decide) _ _ _ rfl (HO.out.alloc _) ⟨wr.heap.size, 0, none⟩ 1 1 [.int .i64 (j : Int)] rfl rfl (cells1_new _ _ _) (by intro u hu; simp at hu; subst hu; rfl) (by unfold maxLen; omega) (by omega) (by have := hb.size; simp; omega) ?_)
            intro v' w5 hown5 hg5 _
            have hb5 : Below wk.heap.size wk w5 := (hb.alloc hb.size _).grown hg5 (by have := hb.size; simp; omega) (fun q hq => (HO.out.lt q hq).1)
            have HO5 := Lib.hid hown5
            clear hown5 hg5 htb
            go_wp2_with fail
            exact ⟨⟨j + 1, by omega, by go_num, hb5, by rw [HCM.out.1, HCM.out.2]; exact HO5.out⟩, by simp [intOf]; omega⟩
        · have hd2 : ¬ (j : Int) < m := by omega
          have HJ : Hid (j = F.length) := Lib.hid (by have := HFn.out; omega)
          have HIV : Hid (IsV wr wk.heap.size u7 (chM k F.length)) := Lib.hid (by have h := HO.out; rw [HJ.out] at h; exact ownsRow_is h)
          have HIr := Lib.hid (HI.out.below hb)
          have hasc := chM_asc k F.length
          have HIR := Lib.hid (hasc.inR rfl)
          have hlen8 : (chM k F.length).length ≤ 8 := by have := hasc.len; have := HFn.out; omega
          have TW1 := Lib.hid (bestM_tw (L := L) (F := F) (cost := cost) (k := k))
          have TW2 := Lib.hid (bestM_step (L := L) (F := F) (cost := cost) (k := k))
          have HWV : Hid (Valid (wiL L F (chM k F.length))) := Lib.hid (wiK_valid HV.out HIR.out (Nat.le_refl _))
          have HBD := Lib.hid (bestM_bd (cost := cost) HV.out k)
          generalize hCH : chM k F.length = ch at *
          obtain ⟨a7, c7, rfl, i7, l7, m7, q7⟩ := HIV.out
          have I7 := Lib.hid i7
          have h7 : IsV wr wk.heap.size (.slice a7 ch.length c7) ch := ⟨a7, c7, rfl, i7, l7, m7, q7⟩
          have WC := Lib.hid (with_c a n c L fa m fc F a7 ch.length c7 ch wr (HH.out.below HIr.out.bel (Nat.le_refl _)) (HF.out.below HIr.out.bel (Nat.le_refl _)) i7 HV.out HIR.out (by omega))
          clear HO i7 q7 hCH hasc hlt2 h7 HIV hb l7 m7
          cases htw : twB F ch
          · obtain ⟨r1, r2⟩ := wt_ok (L := L) htw
            have W2 := Lib.hid WC.out
            rw [r1, r2, htw] at W2
            have TS := Lib.hid (TW2.out htw)
            clear r1 r2 htw WC TW1 TW2
            go_wp2_with fail
            refine W2.out.mono ?_
            rintro e w1 ⟨v9, rfl, hown9, hb9⟩
            have HI9 := Lib.hid (HIr.out.below hb9)
            obtain ⟨a9, c9, rfl, i9, -, -, -⟩ := ownsRow_it hown9
            have I9 := Lib.hid i9
            clear hown9 i9 hb9
            go_wp2_with fail
            refine (clo75 w0 w1 b9 cost _ L F ch a7 _ c7 a9 _ c9 HI9.out I9.out HWV.out HBD.out).mono ?_
            rintro e w2 ⟨rfl, hI2⟩
            rw [← TS.out] at hI2
            have HI2 := Lib.hid hI2
            clear hI2
            go_wp2_with fail
            exact ⟨⟨k + 1, by omega, by go_num, HI2.out⟩, by simp [intOf]; omega⟩
          · obtain ⟨r1, r2⟩ := wt_tw (L := L) htw
            have W2 := Lib.hid WC.out
            rw [r1, r2, htw] at W2
            have TS := Lib.hid (TW1.out htw)
            clear r1 r2 htw WC TW1 TW2
            go_wp2_with fail
            refine W2.out.mono ?_
            rintro e w1 ⟨v9, rfl, hown9, hb9⟩
            have HI9 := Lib.hid (HIr.out.below hb9)
            clear hown9 hb9
            go_wp2_with fail
            exact ⟨⟨k + 1, by omega, by go_num, by rw [TS.out]; exact HI9.out⟩, by simp [intOf]; omega⟩
    · have hd : ¬ (k : Int) < PW := by omega
      have HK : Hid (k = 2 ^ F.length) := Lib.hid (by have := HPW.out; have := HFn.out; subst this; omega)
      clear hlt
      go_wp2_with fail
      refine bodyPost_ret (results_none rfl _ _ _) rfl ?_
      refine ⟨rfl, ?_⟩
      have h := HI.out
      rw [HK.out] at h
      exact h

set_option maxRecDepth 100000 in
set_option maxHeartbeats 3200000 in
theorem Best_c (a : Option Addr) (n c : Nat) (L : List It) (fa : Option Addr) (m fc : Nat) (F : List Fx) (cost : Int) (w : World) (h : SlO w a n L) (hf : FlO w fa m F) (hm : m ≤ 9223372036854775807) :
    Calls Try.prog 28 #[.slice a n c, .slice fa m fc, .int .i64 cost] w (RetFe w (beN L F cost) (beD L F cost) (beErr L F cost)) := by
  have HA : Hid (Below w.heap.size w ((w.alloc (.cells #[.int .i64 cost] 3)).alloc (.cells #[.int .i64 0, .int .i64 0] 25))) := Lib.hid (((Below.refl _ _).alloc (Nat.le_refl _) _).alloc (by simp) _)
  have HC : Hid (Cell2 ((w.alloc (.cells #[.int .i64 cost] 3)).alloc (.cells #[.int .i64 0, .int .i64 0] 25)) (w.heap.size + 1) 0 0) := Lib.hid ⟨by simp [go_sem], by simp [go_sem], by simp [go_sem], by simp [go_sem]⟩
  have HV : Hid (Var ((w.alloc (.cells #[.int .i64 cost] 3)).alloc (.cells #[.int .i64 0, .int .i64 0] 25)) w.heap.size (.int .i64 cost)) := Lib.hid ⟨by simp [go_sem], by simp [go_sem]⟩
  by_cases h0 : vfErr L F = 0
  · have hne : (vfErr L F != 0) = false := by simp [h0]
    have hvf := vfErr_zero.1 h0
    have HVF := Lib.hid hvf
    cases hin : inB cost 0 792
    · have e1 := be_no (F := F) h0 hin
      obtain ⟨e2, e3⟩ := beND_bad (L := L) (F := F) (c := cost) (by rw [e1]; decide)
      rw [e1, e2, e3]
      clear e1 e2 e3 h0 hvf
      go_enter Try.func28, Try.ntmps28
      go_wp2_with fail
      refine (ValidateFixes_c _ _ _ _ _ _ _ _ _ (h.below HA.out (Nat.le_refl _)) (hf.below HA.out (Nat.le_refl _)) hm).mono ?_
      rintro e w1 ⟨rfl, hb1⟩
      have B1 : Below w.heap.size w w1 := btr HA.out hb1
      have HC1 := HC.out.below hb1
      have y0 := HC1.c0
      have y1 := HC1.c1
      have g0 := HC1.f0
      have g1 := HC1.f1
      have v0 := (HV.out.below hb1).c
      clear hb1 HC1
      go_wp2_with fail
      refine (within_c _ _ _ _).mono ?_
      rintro e w2 ⟨rfl, rfl⟩
      rw [hin]
      go_wp2_with fail
      refine bodyPost_ret (v := .tuple #[.agg #[.int .i64 0, .int .i64 0], .int .i64 1]) (by simp [results, Try.results28, go_sem, y0, y1]) rfl ⟨rfl, ?_⟩
      go_grown
    · have e1 := be_ok (F := F) h0 hin
      obtain ⟨e2, e3⟩ := beND_ok (L := L) (F := F) (c := cost) e1
      rw [e1, e2, e3]
      obtain ⟨p1, p2⟩ := bestP_bd (cost := cost) hvf
      clear e1 e2 e3 h0 hvf
      have HT : Hid (toN L L.length = redN (parts L) 2520 ∧ toD L L.length = redD (parts L) 2520) := Lib.hid ⟨rfl, rfl⟩
      go_enter Try.func28, Try.ntmps28
      go_wp2_with fail
      refine (ValidateFixes_c _ _ _ _ _ _ _ _ _ (h.below HA.out (Nat.le_refl _)) (hf.below HA.out (Nat.le_refl _)) hm).mono ?_
      rintro e w1 ⟨rfl, hb1⟩
      have B1 : Below w.heap.size w w1 := btr HA.out hb1
      have HC1 := Lib.hid (HC.out.below hb1)
      have HV1 := Lib.hid (HV.out.below hb1)
      have v0 := HV1.out.c
      clear hb1
      go_wp2_with fail
      refine (within_c _ _ _ _).mono ?_
      rintro e w2 ⟨rfl, rfl⟩
      rw [hin]
      go_wp2_with fail
      refine (total_c a n c L _ (h.below B1 (Nat.le_refl _)) HVF.out.v).mono ?_
      rintro e w3 ⟨rfl, hb3⟩
      rw [HT.out.1, HT.out.2]
      have B3 : Below w.heap.size w w3 := btr B1 hb3
      have hal : Below w3.heap.size w3 (w3.alloc (.cells #[.int .i64 (redN (parts L) 2520), .int .i64 (redD (parts L) 2520)] 77)) := (Below.refl _ _).alloc (Nat.le_refl _) _
      have hC3 := HC1.out.below hb3
      have HI : Hid (BsI w (w3.alloc (.cells #[.int .i64 (redN (parts L) 2520), .int .i64 (redD (parts L) 2520)] 77)) w3.heap.size cost (parts L)) := Lib.hid
        ⟨btr B3 hal, (HV1.out.below hb3).below hal, hC3.below hal, ⟨by simp [go_sem], by simp [go_sem], by simp [go_sem], by simp [go_sem]⟩, hC3.lt⟩
      clear hb3 hal hC3 v0
      go_wp2_with fail
      refine (choices75 w _ w3.heap.size cost a n c L fa m fc F h hf HVF.out HI.out).mono ?_
      rintro e w4 ⟨rfl, hI4⟩
      have HB4 := Lib.hid hI4.bel
      have x0 := hI4.best.c0
      have x1 := hI4.best.c1
      have y0 := hI4.res.c0
      have y1 := hI4.res.c1
      have g0 := hI4.res.f0
      have g1 := hI4.res.f1
      have hb4 := hI4.bel
      clear hI4 HI
      go_wp2_with fail
      refine bodyPost_ret (v := .tuple #[.agg #[.int .i64 (redN (bestP L F cost) 2520), .int .i64 (redD (bestP L F cost) 2520)], .int .i64 0]) (by simp [results, Try.results28, go_sem, y0, y1]) rfl ⟨rfl, ?_⟩
      go_grown
  · have hne : (vfErr L F != 0) = true := by simp [h0]
    have e1 := be_bad (L := L) (F := F) (c := cost) h0
    obtain ⟨e2, e3⟩ := beND_bad (L := L) (F := F) (c := cost) (by rw [e1]; exact h0)
    rw [e1, e2, e3]
    clear e1 e2 e3 h0
    go_enter Try.func28, Try.ntmps28
    go_wp2_with fail
    refine (ValidateFixes_c _ _ _ _ _ _ _ _ _ (h.below HA.out (Nat.le_refl _)) (hf.below HA.out (Nat.le_refl _)) hm).mono ?_
    rintro e w1 ⟨rfl, hb1⟩
    have B1 : Below w.heap.size w w1 := btr HA.out hb1
    have HC1 := HC.out.below hb1
    have y0 := HC1.c0
    have y1 := HC1.c1
    have g0 := HC1.f0
    have g1 := HC1.f1
    clear hb1 HC1
    go_wp2_with fail
    refine bodyPost_ret (v := .tuple #[.agg #[.int .i64 0, .int .i64 0], .int .i64 (vfErr L F)]) (by simp [results, Try.results28, go_sem, y0, y1]) rfl ⟨rfl, ?_⟩
    go_grown
end Go.Proofs.Ytplindidegmlkaa
