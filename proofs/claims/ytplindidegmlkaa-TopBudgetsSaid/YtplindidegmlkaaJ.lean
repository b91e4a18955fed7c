/- cheapest, Cheapest, Choice of the reference. -/
import Derived.Test.YtplindidegmlkaaH
import Derived.Test.YtplindidegmlkaaZ
import Derived.Test.YtplindidegmlkaaBst
namespace Go.Proofs.Ytplindidegmlkaa
open Go.RowKit Go.Sort

def RetC0 (w : World) (st : Bst) (e : Ending) (w' : World) : Prop :=
  ∃ v, e = .returned (.tuple #[v, .int .i64 st.least, .bool st.some]) ∧ IsV w' 0 v st.best ∧ Below w.heap.size w w'
def RetCb0 (w : World) (xs : List Int) (b : Bool) (er : Int) (e : Ending) (w' : World) : Prop := ∃ v, e = .returned (.tuple #[v, .bool b, .int .i64 er]) ∧ IsV w' 0 v xs ∧ Below w.heap.size w w'

theorem sr_no {L : List It} {F : List Fx} {x y : Int} {st : Bst} {ch : List Int} (h : clB (wiL L F ch) x y = false) : stepR (cdB L F x y) (wcL F) st ch = st := by
  unfold stepR cdB; rw [h]; rfl
theorem sr_new {L : List It} {F : List Fx} {x y : Int} {st : Bst} {ch : List Int} (h : clB (wiL L F ch) x y = true) (hs : st.some = false) : stepR (cdB L F x y) (wcL F) st ch = ⟨ch, wcL F ch, true⟩ := by
  unfold stepR cdB betterR; rw [h, hs]; rfl
theorem sr_less {L : List It} {F : List Fx} {x y : Int} {st : Bst} {ch : List Int} (h : clB (wiL L F ch) x y = true) (hl : wcL F ch < st.least) : stepR (cdB L F x y) (wcL F) st ch = ⟨ch, wcL F ch, true⟩ := by
  unfold stepR cdB betterR; rw [h, decT hl, if_pos (by simp)]
theorem sr_more {L : List It} {F : List Fx} {x y : Int} {st : Bst} {ch : List Int} (hs : st.some = true) (hl : ¬ wcL F ch < st.least) : stepR (cdB L F x y) (wcL F) st ch = st := by
  unfold stepR betterR; rw [hs, decF hl, if_neg (by simp)]
theorem every_ok {F : List Fx} {k : Nat} (h : k < (everyC F).length) : OkC F (evC F k) := by
  refine mem_every.1 ?_
  unfold evC
  rw [List.getD_eq_getElem?_getD, List.getElem?_eq_getElem h]
  exact List.getElem_mem h
theorem every_len {F : List Fx} (h : F.length ≤ 8) : (everyC F).length ≤ 387420489 := Nat.le_trans (allC_len h _ _) (pow9_8 (by omega))

set_option maxRecDepth 100000 in
set_option maxHeartbeats 6400000 in
theorem rcheapest_c (a : Option Addr) (n c : Nat) (L : List It) (fa : Option Addr) (m fc : Nat) (F : List Fx) (x y : Int) (w : World) (h : SlO w a n L) (hf : FlO w fa m F) (hv : ValidF L F) (hlim : limB x y = true) :
    Calls Try.prog 93 #[.slice a n c, .slice fa m fc, .agg #[.int .i64 x, .int .i64 y]] w (RetC0 w (che L F x y)) := by
  have HV := Lib.hid hv
  have HLim := Lib.hid hlim
  have HH := Lib.hid h
  have HF := Lib.hid hf
  have hF8 := hv.le
  have HEL := every_len hF8
  have HA : Hid (Below w.heap.size w (w.alloc (.cells #[.int .i64 x, .int .i64 y] 25))) := Lib.hid ((Below.refl _ _).alloc (Nat.le_refl _) _)
  have HC : Hid (Cell2 (w.alloc (.cells #[.int .i64 x, .int .i64 y] 25)) w.heap.size x y) := Lib.hid ⟨by simp [go_sem], by simp [go_sem], by simp [go_sem], by simp [go_sem]⟩
  have HX := Lib.hid (rchoices_c F hF8 (fun k hk => (okF_true.1 (hv.ok k hk)).1.1) fa m fc F.length [] none 0 (w.alloc (.cells #[.int .i64 x, .int .i64 y] 25)) hF8 (hf.below HA.out (Nat.le_refl _)) (OkC.nil F) (by omega) (IsT.nil _))
  have HEV : Hid (allC F F.length [] = everyC F) := Lib.hid rfl
  have HEND := Lib.hid (cheR_end L F x y)
  have HZ : Hid (cheR L F x y 0 = bst0) := Lib.hid rfl
  clear h hf hv hlim
  go_enter Try.func93, Try.ntmps93
  go_wp2_with fail
  refine HX.out.mono ?_
  rintro e w1 ⟨v12, rfl, hrow, hb1⟩
  rw [HEV.out] at hrow
  have hpos : 0 < (everyC F).length := by rw [← HEV.out]; exact allC_pos _ _ _
  obtain ⟨us, uo, ut⟩ := hrow
  obtain ⟨g, cap, e12, hg1, hg2, uo'⟩ := own_open uo (by omega)
  subst e12
  have B1 : Below w.heap.size w w1 := btr HA.out hb1
  have HC1 := Lib.hid (HC.out.below hb1)
  have HUO := Lib.hid uo'
  have HUT := Lib.hid ut
  clear uo uo' ut HX hb1 HA HC HEV hg1 hg2
  generalize hN : (everyC F).length = N at *
  have HN := Lib.hid hN
  clear hN
  go_wp2_with fail
  go_loopw [9, 10, 11, 13] (fun v lv sv i wr => ∃ k : Nat, k ≤ N ∧ i = .int .i64 k ∧ lv = .int .i64 (cheR L F x y k).least ∧ sv = .bool (cheR L F x y k).some ∧ IsT wr v (cheR L F x y k).best ∧ Below w.heap.size w wr ∧ Below w1.heap.size w1 wr) (fun _ _ _ i _ => N - (intOf i).toNat)
  case atStart => exact ⟨0, Nat.zero_le _, rfl, by rw [HZ.out]; rfl, by rw [HZ.out]; rfl, by rw [HZ.out]; exact IsT.nil _, B1, Below.refl _ _⟩
  case round =>
    obtain ⟨k, hk, rfl, rfl, rfl, hT, hb, hb'⟩ := hrel
    have HT := Lib.hid hT
    clear hT B1
    by_cases hlt : k < N
    · have HKE : Hid (k < (everyC F).length) := Lib.hid (by rw [HN.out]; exact hlt)
      have HST := Lib.hid (cheR_step (L := L) (x := x) (y := y) HKE.out)
      have HOK := Lib.hid (every_ok HKE.out)
      have hl8 : (evC F k).length ≤ 8 := by have := HOK.out.1.len; omega
      have HIR := Lib.hid (HOK.out.1.inR rfl)
      have HTE := (HUT.out k (by have := HN.out; omega)).below hb'
      have hce : wr.cell? ⟨g, k, none⟩ = some (us.getD k undef) := by
        rw [(ownsRow_below HUO.out hb').cellAt k (by omega), List.getD_eq_getElem?_getD, List.getElem?_eq_getElem (by have := HUO.out.1; omega)]
        rfl
      have HEC : Hid ((everyC F).getD k [] = evC F k) := Lib.hid rfl
      rw [HEC.out] at HTE
      generalize us.getD k undef = ve at *
      have HWV : Hid (Valid (wiL L F (evC F k))) := Lib.hid (wiK_valid HV.out HIR.out (Nat.le_refl _))
      generalize evC F k = ch at *
      have HTEh := Lib.hid HTE
      obtain ⟨ae, ce, rfl, -, -, -⟩ := HTE
      have HTE := HTEh
      clear HTEh
      have S1 : Hid (clB (wiL L F ch) x y = false → cheR L F x y (k + 1) = cheR L F x y k) := Lib.hid (fun hh => by rw [HST.out, sr_no hh])
      have S2 : Hid (clB (wiL L F ch) x y = true → (cheR L F x y k).some = false → cheR L F x y (k + 1) = ⟨ch, wcL F ch, true⟩) := Lib.hid (fun hh h1 => by rw [HST.out, sr_new hh h1])
      have S3 : Hid (clB (wiL L F ch) x y = true → wcL F ch < (cheR L F x y k).least → cheR L F x y (k + 1) = ⟨ch, wcL F ch, true⟩) := Lib.hid (fun hh h1 => by rw [HST.out, sr_less hh h1])
      have S4 : Hid ((cheR L F x y k).some = true → ¬ wcL F ch < (cheR L F x y k).least → cheR L F x y (k + 1) = cheR L F x y k) := Lib.hid (fun h1 h2 => by rw [HST.out, sr_more h1 h2])
      have RW := Lib.hid (rwith_c a n c L fa m fc F ae ch.length ce ch wr (HH.out.below hb (Nat.le_refl _)) (HF.out.below hb (Nat.le_refl _)) HTE.out.isV.isO HV.out HIR.out (by omega))
      generalize cheR L F x y k = st at *
      clear HST HOK HIR HUT HEC
      cases hcl : clB (wiL L F ch) x y
      · have HS := Lib.hid (S1.out hcl)
        have HCL := Lib.hid hcl
        clear S1 S2 S3 S4 hcl
        go_wp2_with fail
        refine RW.out.mono ?_
        rintro e w3 ⟨v14, rfl, hown, hb3⟩
        obtain ⟨a14, c14, rfl, i14, -, -, -⟩ := ownsRow_it hown
        have I14 := Lib.hid i14
        have l0 := ((HC1.out.below hb').below hb3).c0
        have l1 := ((HC1.out.below hb').below hb3).c1
        have B3 := Lib.hid (btr hb hb3)
        have B3' := Lib.hid (btr hb' hb3)
        have hce3 := cellB hb3 hce
        have HT3 := Lib.hid (HT.out.below hb3)
        have HE3 := Lib.hid (HTE.out.below hb3)
        clear hown i14 hb3 hce RW
        go_wp2_with fail
        refine (Calls.val (rcloses_c a14 _ c14 (wiL L F ch) x y w3 I14.out HWV.out.vu HLim.out) (vb HCL.out)).mono ?_
        rintro e w4 ⟨rfl, hb4⟩
        have B4 := btr B3.out hb4
        have B4' := btr B3'.out hb4
        have hce4 := cellB hb4 hce3
        have HT4 := Lib.hid (HT3.out.below hb4)
        have HE4 := Lib.hid (HE3.out.below hb4)
        clear hb4 l0 l1 hce3
        go_wp2_with fail
        exact ⟨⟨k + 1, by omega, by go_num, by rw [HS.out], by rw [HS.out], by rw [HS.out]; exact HT4.out, B4, B4'⟩, by simp [intOf]; omega⟩
      · have HCL := Lib.hid hcl
        cases hso : st.some
        · have HS := Lib.hid (S2.out hcl hso)
          clear S1 S2 S3 S4 hcl
          go_wp2_with fail
          refine RW.out.mono ?_
          rintro e w3 ⟨v14, rfl, hown, hb3⟩
          obtain ⟨a14, c14, rfl, i14, -, -, -⟩ := ownsRow_it hown
          have I14 := Lib.hid i14
          have l0 := ((HC1.out.below hb').below hb3).c0
          have l1 := ((HC1.out.below hb').below hb3).c1
          have B3 := Lib.hid (btr hb hb3)
          have B3' := Lib.hid (btr hb' hb3)
          have hce3 := cellB hb3 hce
          have HT3 := Lib.hid (HT.out.below hb3)
          have HE3 := Lib.hid (HTE.out.below hb3)
          clear hown i14 hb3 hce RW
          go_wp2_with fail
          refine (Calls.val (rcloses_c a14 _ c14 (wiL L F ch) x y w3 I14.out HWV.out.vu HLim.out) (vb HCL.out)).mono ?_
          rintro e w4 ⟨rfl, hb4⟩
          have B4 := btr B3.out hb4
          have B4' := btr B3'.out hb4
          have hce4 := cellB hb4 hce3
          have HT4 := Lib.hid (HT3.out.below hb4)
          have HE4 := Lib.hid (HE3.out.below hb4)
          clear hb4 l0 l1 hce3
          go_wp2_with fail
          exact ⟨⟨k + 1, by omega, by go_num, by rw [HS.out], by rw [HS.out], by rw [HS.out]; exact HE4.out, B4, B4'⟩, by simp [intOf]; omega⟩
        · by_cases hls : wcL F ch < st.least
          · have HS := Lib.hid (S3.out hcl hls)
            have hls' : decide (wcL F ch < st.least) = true := decT hls
            clear S1 S2 S3 S4 hcl hls
            go_wp2_with fail
            refine RW.out.mono ?_
            rintro e w3 ⟨v14, rfl, hown, hb3⟩
            obtain ⟨a14, c14, rfl, i14, -, -, -⟩ := ownsRow_it hown
            have I14 := Lib.hid i14
            have l0 := ((HC1.out.below hb').below hb3).c0
            have l1 := ((HC1.out.below hb').below hb3).c1
            have B3 := Lib.hid (btr hb hb3)
            have B3' := Lib.hid (btr hb' hb3)
            have hce3 := cellB hb3 hce
            have HT3 := Lib.hid (HT.out.below hb3)
            have HE3 := Lib.hid (HTE.out.below hb3)
            clear hown i14 hb3 hce RW
            go_wp2_with fail
            refine (Calls.val (rcloses_c a14 _ c14 (wiL L F ch) x y w3 I14.out HWV.out.vu HLim.out) (vb HCL.out)).mono ?_
            rintro e w4 ⟨rfl, hb4⟩
            have B4 := btr B3.out hb4
            have B4' := btr B3'.out hb4
            have hce4 := cellB hb4 hce3
            have HT4 := Lib.hid (HT3.out.below hb4)
            have HE4 := Lib.hid (HE3.out.below hb4)
            clear hb4 l0 l1 hce3
            go_wp2_with fail
            exact ⟨⟨k + 1, by omega, by go_num, by rw [HS.out], by rw [HS.out], by rw [HS.out]; exact HE4.out, B4, B4'⟩, by simp [intOf]; omega⟩
          · have HS := Lib.hid (S4.out hso hls)
            have hls' : decide (wcL F ch < st.least) = false := decF hls
            have HSO := Lib.hid hso
            clear S1 S2 S3 S4 hcl hls
            go_wp2_with fail
            refine RW.out.mono ?_
            rintro e w3 ⟨v14, rfl, hown, hb3⟩
            obtain ⟨a14, c14, rfl, i14, -, -, -⟩ := ownsRow_it hown
            have I14 := Lib.hid i14
            have l0 := ((HC1.out.below hb').below hb3).c0
            have l1 := ((HC1.out.below hb').below hb3).c1
            have B3 := Lib.hid (btr hb hb3)
            have B3' := Lib.hid (btr hb' hb3)
            have hce3 := cellB hb3 hce
            have HT3 := Lib.hid (HT.out.below hb3)
            have HE3 := Lib.hid (HTE.out.below hb3)
            clear hown i14 hb3 hce RW
            go_wp2_with fail
            refine (Calls.val (rcloses_c a14 _ c14 (wiL L F ch) x y w3 I14.out HWV.out.vu HLim.out) (vb HCL.out)).mono ?_
            rintro e w4 ⟨rfl, hb4⟩
            have B4 := btr B3.out hb4
            have B4' := btr B3'.out hb4
            have hce4 := cellB hb4 hce3
            have HT4 := Lib.hid (HT3.out.below hb4)
            have HE4 := Lib.hid (HE3.out.below hb4)
            clear hb4 l0 l1 hce3
            go_wp2_with fail
            exact ⟨⟨k + 1, by omega, by go_num, by rw [HS.out], by rw [HS.out, HSO.out], by rw [HS.out]; exact HT4.out, B4, B4'⟩, by simp [intOf]; omega⟩
    · have HK : Hid (k = N) := Lib.hid (by omega)
      have hd2 : ¬ (k : Int) < N := by omega
      clear hlt
      have HE2 : Hid (cheR L F x y k = che L F x y) := Lib.hid (by rw [HK.out, HEND.out])
      rw [HE2.out] at HT
      go_wp2_with fail
      go_ret3
      exact ⟨_, by rw [HE2.out]; rfl, HT.out.isV, hb⟩

set_option maxRecDepth 100000 in
set_option maxHeartbeats 1600000 in
theorem rCheapest_c (a : Option Addr) (n c : Nat) (L : List It) (fa : Option Addr) (m fc : Nat) (F : List Fx) (x y : Int) (w : World) (h : SlO w a n L) (hf : FlO w fa m F) (hm : m ≤ 9223372036854775807) :
    Calls Try.prog 58 #[.slice a n c, .slice fa m fc, .agg #[.int .i64 x, .int .i64 y]] w (RetNb w (chO L F x y).least (chO L F x y).some (fiErr L F x y)) := by
  have HA : Hid (Below w.heap.size w (w.alloc (.cells #[.int .i64 x, .int .i64 y] 25))) := Lib.hid ((Below.refl _ _).alloc (Nat.le_refl _) _)
  have HC : Hid (Cell2 (w.alloc (.cells #[.int .i64 x, .int .i64 y] 25)) w.heap.size x y) := Lib.hid ⟨by simp [go_sem], by simp [go_sem], by simp [go_sem], by simp [go_sem]⟩
  have x0 := HC.out.c0
  have x1 := HC.out.c1
  by_cases h0 : fiErr L F x y = 0
  · have hne : (fiErr L F x y != 0) = false := by simp [h0]
    obtain ⟨hv, hl⟩ := fiErr_zero.1 h0
    have HV := Lib.hid hv
    have HL := Lib.hid hl
    have HE := Lib.hid h0
    rw [chO_ok h0]
    clear h0 hv hl
    go_enter Try.func58, Try.ntmps58
    go_wp2_with fail
    refine (rlimited_c _ _ _ _ _ _ _ _ _ _ _ (h.below HA.out (Nat.le_refl _)) (hf.below HA.out (Nat.le_refl _)) hm).mono ?_
    rintro e w1 ⟨rfl, hb1⟩
    have B1 : Below w.heap.size w w1 := btr HA.out hb1
    have HC1 := Lib.hid (HC.out.below hb1)
    have y0 := HC1.out.c0
    have y1 := HC1.out.c1
    clear hb1 x0 x1
    go_wp2_with fail
    refine (rcheapest_c _ _ _ _ _ _ _ _ _ _ _ (h.below B1 (Nat.le_refl _)) (hf.below B1 (Nat.le_refl _)) HV.out HL.out).mono ?_
    rintro e w2 ⟨v, rfl, hiv, hb2⟩
    have B2 : Below w.heap.size w w2 := btr B1 hb2
    have HIV := Lib.hid (hiv)
    clear hb2 hiv
    go_wp2_with fail
    rw [HE.out]
    go_ret3
    exact ⟨rfl, B2⟩
  · have hne : (fiErr L F x y != 0) = true := by simp [h0]
    rw [chO_bad h0]
    clear h0
    go_enter Try.func58, Try.ntmps58
    go_wp2_with fail
    refine (rlimited_c _ _ _ _ _ _ _ _ _ _ _ (h.below HA.out (Nat.le_refl _)) (hf.below HA.out (Nat.le_refl _)) hm).mono ?_
    rintro e w1 ⟨rfl, hb1⟩
    have B1 : Below w.heap.size w w1 := btr HA.out hb1
    clear hb1 x0 x1
    go_wp2_with fail
    go_ret3
    exact ⟨rfl, B1⟩

set_option maxRecDepth 100000 in
set_option maxHeartbeats 1600000 in
theorem rChoice_c (a : Option Addr) (n c : Nat) (L : List It) (fa : Option Addr) (m fc : Nat) (F : List Fx) (x y : Int) (w : World) (h : SlO w a n L) (hf : FlO w fa m F) (hm : m ≤ 9223372036854775807) :
    Calls Try.prog 59 #[.slice a n c, .slice fa m fc, .agg #[.int .i64 x, .int .i64 y]] w (RetCb0 w (chO L F x y).best (chO L F x y).some (fiErr L F x y)) := by
  have HA : Hid (Below w.heap.size w (w.alloc (.cells #[.int .i64 x, .int .i64 y] 25))) := Lib.hid ((Below.refl _ _).alloc (Nat.le_refl _) _)
  have HC : Hid (Cell2 (w.alloc (.cells #[.int .i64 x, .int .i64 y] 25)) w.heap.size x y) := Lib.hid ⟨by simp [go_sem], by simp [go_sem], by simp [go_sem], by simp [go_sem]⟩
  have x0 := HC.out.c0
  have x1 := HC.out.c1
  by_cases h0 : fiErr L F x y = 0
  · have hne : (fiErr L F x y != 0) = false := by simp [h0]
    obtain ⟨hv, hl⟩ := fiErr_zero.1 h0
    have HV := Lib.hid hv
    have HL := Lib.hid hl
    have HE := Lib.hid h0
    rw [chO_ok h0]
    clear h0 hv hl
    go_enter Try.func59, Try.ntmps59
    go_wp2_with fail
    refine (rlimited_c _ _ _ _ _ _ _ _ _ _ _ (h.below HA.out (Nat.le_refl _)) (hf.below HA.out (Nat.le_refl _)) hm).mono ?_
    rintro e w1 ⟨rfl, hb1⟩
    have B1 : Below w.heap.size w w1 := btr HA.out hb1
    have HC1 := Lib.hid (HC.out.below hb1)
    have y0 := HC1.out.c0
    have y1 := HC1.out.c1
    clear hb1 x0 x1
    go_wp2_with fail
    refine (rcheapest_c _ _ _ _ _ _ _ _ _ _ _ (h.below B1 (Nat.le_refl _)) (hf.below B1 (Nat.le_refl _)) HV.out HL.out).mono ?_
    rintro e w2 ⟨v, rfl, hiv, hb2⟩
    have B2 : Below w.heap.size w w2 := btr B1 hb2
    have HIV := Lib.hid (hiv)
    clear hb2 hiv
    go_wp2_with fail
    rw [HE.out]
    go_ret3
    exact ⟨v, rfl, HIV.out, B2⟩
  · have hne : (fiErr L F x y != 0) = true := by simp [h0]
    rw [chO_bad h0]
    clear h0
    go_enter Try.func59, Try.ntmps59
    go_wp2_with fail
    refine (rlimited_c _ _ _ _ _ _ _ _ _ _ _ (h.below HA.out (Nat.le_refl _)) (hf.below HA.out (Nat.le_refl _)) hm).mono ?_
    rintro e w1 ⟨rfl, hb1⟩
    have B1 : Below w.heap.size w w1 := btr HA.out hb1
    clear hb1 x0 x1
    go_wp2_with fail
    go_ret3
    exact ⟨_, rfl, IsV.nil _ _, B1⟩


theorem lowS_1 {L : List It} {F : List Fx} {cost acc : Int} {ch : List Int} (h1 : wcL F ch ≤ cost) (h2 : parts (wiL L F ch) < acc) : lowStep L F cost acc ch = parts (wiL L F ch) := if_pos ⟨h1, h2⟩

set_option maxRecDepth 100000 in
set_option maxHeartbeats 6400000 in
theorem rBest_c (a : Option Addr) (n c : Nat) (L : List It) (fa : Option Addr) (m fc : Nat) (F : List Fx) (cost : Int) (w : World) (h : SlO w a n L) (hf : FlO w fa m F) (hm : m ≤ 9223372036854775807) :
    Calls Try.prog 45 #[.slice a n c, .slice fa m fc, .int .i64 cost] w (RetFe w (beN L F cost) (beD L F cost) (beErr L F cost)) := by
  have HA : Hid (Below w.heap.size w (w.alloc (.cells #[.int .i64 0, .int .i64 0] 25))) := Lib.hid ((Below.refl _ _).alloc (Nat.le_refl _) _)
  have HC : Hid (Cell2 (w.alloc (.cells #[.int .i64 0, .int .i64 0] 25)) w.heap.size 0 0) := Lib.hid ⟨by simp [go_sem], by simp [go_sem], by simp [go_sem], by simp [go_sem]⟩
  by_cases h0 : vfErr L F = 0
  · have hne : (vfErr L F != 0) = false := by simp [h0]
    have hvf := vfErr_zero.1 h0
    have HVF := Lib.hid hvf
    cases hin : inB cost 0 792
    · have e1 := be_no (F := F) h0 hin
      obtain ⟨e2, e3⟩ := beND_bad (L := L) (F := F) (c := cost) (by rw [e1]; decide)
      rw [e1, e2, e3]
      clear e1 e2 e3 h0 hvf
      go_enter Try.func45, Try.ntmps45
      go_wp2_with fail
      refine (rValidateFixes_c _ _ _ _ _ _ _ _ _ (h.below HA.out (Nat.le_refl _)) (hf.below HA.out (Nat.le_refl _)) hm).mono ?_
      rintro e w1 ⟨rfl, hb1⟩
      have B1 : Below w.heap.size w w1 := btr HA.out hb1
      have HC1 := HC.out.below hb1
      have y0 := HC1.c0
      have y1 := HC1.c1
      have g0 := HC1.f0
      have g1 := HC1.f1
      clear hb1 HC1
      go_wp2_with fail
      refine (rWithin_c _ _ _ _).mono ?_
      rintro e w2 ⟨rfl, rfl⟩
      rw [hin]
      go_wp2_with fail
      refine bodyPost_ret (v := .tuple #[.agg #[.int .i64 0, .int .i64 0], .int .i64 1]) (by simp [results, Try.results45, go_sem, y0, y1]) rfl ⟨rfl, ?_⟩
      go_grown
    · have e1 := be_ok (F := F) h0 hin
      obtain ⟨e2, e3⟩ := beND_ok (L := L) (F := F) (c := cost) e1
      rw [e1, e2, e3]
      clear e1 e2 e3 h0
      have hF8 := hvf.le
      have HEL := every_len hF8
      have HEV : Hid (allC F F.length [] = everyC F) := Lib.hid rfl
      have HEND := Lib.hid (bestR_end L F cost)
      have HZ : Hid (bestR L F cost 0 = parts L) := Lib.hid rfl
      have HH := Lib.hid h
      have HF := Lib.hid hf
      obtain ⟨pb1, pb2⟩ := bestP_bd (cost := cost) hvf
      clear h hf hvf
      go_enter Try.func45, Try.ntmps45
      go_wp2_with fail
      refine (rValidateFixes_c _ _ _ _ _ _ _ _ _ (HH.out.below HA.out (Nat.le_refl _)) (HF.out.below HA.out (Nat.le_refl _)) hm).mono ?_
      rintro e w1 ⟨rfl, hb1⟩
      have B1 : Below w.heap.size w w1 := btr HA.out hb1
      have HC1 := Lib.hid (HC.out.below hb1)
      clear hb1
      go_wp2_with fail
      refine (rWithin_c _ _ _ _).mono ?_
      rintro e w2 ⟨rfl, rfl⟩
      rw [hin]
      go_wp2_with fail
      refine (parts_c a n c L _ (HH.out.below B1 (Nat.le_refl _)) HVF.out.v).mono ?_
      rintro e w2 ⟨rfl, hb2⟩
      have B2 : Below w.heap.size w w2 := btr B1 hb2
      have HC2 := Lib.hid (HC1.out.below hb2)
      clear hb2 HC1
      go_wp2_with fail
      refine (rchoices_c F hF8 (fun k hk => (okF_true.1 (HVF.out.ok k hk)).1.1) fa m fc F.length [] none 0 w2 hF8 (HF.out.below B2 (Nat.le_refl _)) (OkC.nil F) (by omega) (IsT.nil _)).mono ?_
      rintro e w3 ⟨v12, rfl, hrow, hb3⟩
      rw [HEV.out] at hrow
      have hpos : 0 < (everyC F).length := by rw [← HEV.out]; exact allC_pos _ _ _
      obtain ⟨us, uo, ut⟩ := hrow
      obtain ⟨g, cap, e12, hg1, hg2, uo'⟩ := own_open uo (by omega)
      subst e12
      have B3 : Below w.heap.size w w3 := btr B2 hb3
      have HC3 := Lib.hid (HC2.out.below hb3)
      have HUO := Lib.hid uo'
      have HUT := Lib.hid ut
      clear uo uo' ut hb3 HA HC HC2 HEV hg1 hg2 hin
      generalize hN : (everyC F).length = N at *
      have HN := Lib.hid hN
      clear hN
      go_wp2_with fail
      go_loopw [9, 11] (fun s i wr => ∃ k : Nat, k ≤ N ∧ i = .int .i64 k ∧ s = .int .i64 (bestR L F cost k) ∧ Cell2 wr w.heap.size 0 0 ∧ Below w.heap.size w wr ∧ Below w3.heap.size w3 wr) (fun _ i _ => N - (intOf i).toNat)
      case atStart => exact ⟨0, Nat.zero_le _, rfl, by rw [HZ.out], by have h := HC3.out; exact ⟨h.c0, h.c1, h.f0, h.f1⟩, B3, Below.refl _ _⟩
      case round =>
        obtain ⟨k, hk, rfl, rfl, hC, hb, hb'⟩ := hrel
        have HCk := Lib.hid hC
        clear hC B3 HC3
        by_cases hlt : k < N
        · have HKE : Hid (k < (everyC F).length) := Lib.hid (by rw [HN.out]; exact hlt)
          have HST := Lib.hid (bestR_step (L := L) (cost := cost) HKE.out)
          have HOK := Lib.hid (every_ok HKE.out)
          have hl8 : (evC F k).length ≤ 8 := by have := HOK.out.1.len; omega
          have HIR := Lib.hid (HOK.out.1.inR rfl)
          have HTE := (HUT.out k (by have := HN.out; omega)).below hb'
          have hce : wr.cell? ⟨g, k, none⟩ = some (us.getD k undef) := by
            rw [(ownsRow_below HUO.out hb').cellAt k (by omega), List.getD_eq_getElem?_getD, List.getElem?_eq_getElem (by have := HUO.out.1; omega)]
            rfl
          have HEC : Hid ((everyC F).getD k [] = evC F k) := Lib.hid rfl
          rw [HEC.out] at HTE
          generalize us.getD k undef = ve at *
          have HWV : Hid (Valid (wiL L F (evC F k))) := Lib.hid (wiK_valid HVF.out HIR.out (Nat.le_refl _))
          obtain ⟨q1, q2⟩ := bestR_bd (cost := cost) HVF.out k
          obtain ⟨q3, q4⟩ := parts_bd HWV.out
          generalize evC F k = ch at *
          have HTEh := Lib.hid HTE
          obtain ⟨ae, ce, rfl, -, -, -⟩ := HTE
          have HTE := HTEh
          clear HTEh
          have RW := Lib.hid (rwith_c a n c L fa m fc F ae ch.length ce ch wr (HH.out.below hb (Nat.le_refl _)) (HF.out.below hb (Nat.le_refl _)) HTE.out.isV.isO HVF.out HIR.out (by omega))
          clear HOK HIR HUT HEC
          generalize hM : wiL L F ch = M at *
          have HM := Lib.hid hM
          clear hM
          by_cases hcc : wcL F ch ≤ cost
          · have hcc' : decide (wcL F ch ≤ cost) = true := decT hcc
            by_cases hls : parts M < bestR L F cost k
            · have HS : Hid (bestR L F cost (k + 1) = parts M) := Lib.hid (by rw [HST.out, lowS_1 hcc (by rw [HM.out]; exact hls), HM.out])
              clear HST
              go_wp2_with fail
              refine RW.out.mono ?_
              rintro e w5 ⟨v14, rfl, hown, hb5⟩
              obtain ⟨a14, c14, rfl, i14, -, -, -⟩ := ownsRow_it hown
              have I14 := Lib.hid i14
              have B5 := Lib.hid (btr hb hb5)
              have B5' := Lib.hid (btr hb' hb5)
              have HC5 := Lib.hid (HCk.out.below hb5)
              clear hown i14 hb5 RW
              go_wp2_with fail
              refine (parts_c a14 _ c14 M w5 I14.out HWV.out).mono ?_
              rintro e w6 ⟨rfl, hb6⟩
              have B4 := btr B5.out hb6
              have B4' := btr B5'.out hb6
              have HC4 := Lib.hid (HC5.out.below hb6)
              clear hb6
              go_wp2_with fail
              exact ⟨⟨k + 1, by omega, by go_num, by rw [HS.out], HC4.out, B4, B4'⟩, by simp [intOf]; omega⟩
            · have HS : Hid (bestR L F cost (k + 1) = bestR L F cost k) := Lib.hid (by rw [HST.out, low_no2 (by rw [HM.out]; exact hls)])
              clear HST
              go_wp2_with fail
              refine RW.out.mono ?_
              rintro e w5 ⟨v14, rfl, hown, hb5⟩
              obtain ⟨a14, c14, rfl, i14, -, -, -⟩ := ownsRow_it hown
              have I14 := Lib.hid i14
              have B5 := Lib.hid (btr hb hb5)
              have B5' := Lib.hid (btr hb' hb5)
              have HC5 := Lib.hid (HCk.out.below hb5)
              clear hown i14 hb5 RW
              go_wp2_with fail
              refine (parts_c a14 _ c14 M w5 I14.out HWV.out).mono ?_
              rintro e w6 ⟨rfl, hb6⟩
              have B4 := btr B5.out hb6
              have B4' := btr B5'.out hb6
              have HC4 := Lib.hid (HC5.out.below hb6)
              clear hb6
              go_wp2_with fail
              exact ⟨⟨k + 1, by omega, by go_num, by rw [HS.out], HC4.out, B4, B4'⟩, by simp [intOf]; omega⟩
          · have hcc' : decide (wcL F ch ≤ cost) = false := decF hcc
            have HS : Hid (bestR L F cost (k + 1) = bestR L F cost k) := Lib.hid (by rw [HST.out, low_no1 hcc])
            clear HST
            go_wp2_with fail
            refine RW.out.mono ?_
            rintro e w5 ⟨v14, rfl, hown, hb5⟩
            have B5 := btr hb hb5
            have B5' := btr hb' hb5
            have HC5 := Lib.hid (HCk.out.below hb5)
            clear hown hb5
            go_wp2_with fail
            exact ⟨⟨k + 1, by omega, by go_num, by rw [HS.out], HC5.out, B5, B5'⟩, by simp [intOf]; omega⟩
        · have HK : Hid (k = N) := Lib.hid (by omega)
          have hd2 : ¬ (k : Int) < N := by omega
          clear hlt
          have HE2 : Hid (bestR L F cost k = bestP L F cost) := Lib.hid (by rw [HK.out, HEND.out])
          rw [HE2.out]
          go_wp2_with fail
          refine (Ratio_c (bestP L F cost) 2520 _ pb1 (by omega) (by decide) (by decide)).mono ?_
          rintro e w5 ⟨rfl, hb5⟩
          have B5 := btr hb hb5
          have HC5 := Lib.hid (HCk.out.below hb5)
          have y0 := HC5.out.c0
          have y1 := HC5.out.c1
          have g0 := HC5.out.f0
          have g1 := HC5.out.f1
          clear hb5
          go_wp2_with fail
          refine bodyPost_ret (v := .tuple #[.agg #[.int .i64 (redN (bestP L F cost) 2520), .int .i64 (redD (bestP L F cost) 2520)], .int .i64 0]) (by simp [results, Try.results45, go_sem, y0, y1]) rfl ⟨rfl, ?_⟩
          go_grown
  · have hne : (vfErr L F != 0) = true := by simp [h0]
    have e1 := be_bad (L := L) (F := F) (c := cost) h0
    obtain ⟨e2, e3⟩ := beND_bad (L := L) (F := F) (c := cost) (by rw [e1]; exact h0)
    rw [e1, e2, e3]
    clear e1 e2 e3 h0
    go_enter Try.func45, Try.ntmps45
    go_wp2_with fail
    refine (rValidateFixes_c _ _ _ _ _ _ _ _ _ (h.below HA.out (Nat.le_refl _)) (hf.below HA.out (Nat.le_refl _)) hm).mono ?_
    rintro e w1 ⟨rfl, hb1⟩
    have B1 : Below w.heap.size w w1 := btr HA.out hb1
    have HC1 := HC.out.below hb1
    have y0 := HC1.c0
    have y1 := HC1.c1
    have g0 := HC1.f0
    have g1 := HC1.f1
    clear hb1 HC1
    go_wp2_with fail
    refine bodyPost_ret (v := .tuple #[.agg #[.int .i64 0, .int .i64 0], .int .i64 (vfErr L F)]) (by simp [results, Try.results45, go_sem, y0, y1]) rfl ⟨rfl, ?_⟩
    go_grown
end Go.Proofs.Ytplindidegmlkaa
