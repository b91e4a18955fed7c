/- Steepest of the reference: contract. -/
import Derived.Test.YtgbdcemlnklmoaaS
namespace Go.Proofs.Ytgbdcemlnklmoaa
open Go.RowKit Go.Sort

set_option maxRecDepth 100000 in
set_option maxHeartbeats 3200000 in
theorem rSteepest_c (a : Option Addr) (n c : Nat) (L : List Rd) (w : World) (h : SlO w a n L) : Calls Try.prog 36 #[.slice a n c] w (RetQ w (stN L) (stD L) (vErr L)) := by
  have hA : Below w.heap.size w (w.alloc (.cells #[.int .i64 0, .int .i64 0] 45)) := (Below.refl _ _).alloc (Nat.le_refl _) _
  have hC : Cell2 (w.alloc (.cells #[.int .i64 0, .int .i64 0] 45)) w.heap.size 0 0 := ⟨by simp [go_sem], by simp [go_sem], by simp [go_sem], by simp [go_sem]⟩
  have HA := Lib.hid hA
  have HC0 := Lib.hid hC
  clear hA hC
  by_cases h0 : vErr L = 0
  · have hv0 : (vErr L != 0) = false := by rw [h0]; rfl
    have hv := vErr_zero.1 h0
    obtain ⟨b, o, rfl, hS⟩ : ∃ b o, a = some ⟨b, o, none⟩ ∧ Sl w b o n L := by
      rcases h.2 with h' | h'
      · have := hv.pos; have := h.1; omega
      · exact h'
    have hn8 : n ≤ 8 := by have := hv.le; have := h.1; omega
    have e1 : stN L = redN (outI L n n).1 (outI L n n).2 := by unfold stN steep; rw [if_pos h0, hS.len]
    have e2 : stD L = redD (outI L n n).1 (outI L n n).2 := by unfold stD steep; rw [if_pos h0, hS.len]
    rw [e1, e2, h0]
    have HLn : Hid (L.length = n) := Lib.hid h.1.symm
    have HV := Lib.hid hv
    have HS := Lib.hid hS
    clear e1 e2 h0 hv hS
    go_enter Try.func36, Try.ntmps36
    go_wp2_with fail
    refine (rvalidate_c _ _ _ _ _ (h.below HA.out (Nat.le_refl _))).mono ?_
    rintro e w1 ⟨rfl, hb1⟩
    have B1' := Lib.hid (btr HA.out hb1 : Below w.heap.size w w1)
    have C1' := Lib.hid (HC0.out.below hb1)
    clear hb1
    go_wp2_with fail
    go_loopw [5, 6, 7] (fun x y i wr => ∃ k : Nat, k ≤ n ∧ i = .int .i64 k ∧ Below w.heap.size w wr ∧ Cell2 wr w.heap.size 0 0 ∧ x = .int .i64 (outI L n k).1 ∧ y = .int .i64 (outI L n k).2) (fun _ _ i _ => n - (intOf i).toNat)
    case atStart => exact ⟨0, Nat.zero_le _, rfl, B1'.out, C1'.out, rfl, rfl⟩
    case round =>
      obtain ⟨k, hk, rfl, hb, hC, rfl, rfl⟩ := hrel
      have HC := Lib.hid hC
      clear hC B1' C1' HC0 HA
      have hst := outI_ok HV.out k (by rw [HLn.out]; exact hk)
      rw [HLn.out] at hst
      have HST := Lib.hid hst
      clear hst
      by_cases hlt : k < n
      · have hin0 : outI L n (k + 1) = inK L k (outI L n k) n := rfl
        have HIN := Lib.hid hin0
        clear hin0
        generalize outI L n k = s0 at *
        go_wp2_with fail
        obtain ⟨wo, hwo⟩ : ∃ wo : World, wo = wr := ⟨_, rfl⟩
        rw [← hwo]
        rw [← hwo] at hb HC
        clear hwo wr
        go_loopw [5, 6, 8] (fun x y i wr => ∃ j : Nat, j ≤ n ∧ i = .int .i64 j ∧ Below w.heap.size w wr ∧ Cell2 wr w.heap.size 0 0 ∧ x = .int .i64 (inK L k s0 j).1 ∧ y = .int .i64 (inK L k s0 j).2) (fun _ _ i _ => n - (intOf i).toNat)
        case atStart => exact ⟨0, Nat.zero_le _, rfl, hb, HC.out, rfl, rfl⟩
        case round =>
          obtain ⟨j, hj, rfl, hb', hC', rfl, rfl⟩ := hrel
          have HC' := Lib.hid hC'
          clear hC' hb HC
          by_cases hjt : j < n
          · have hst := inK_ok HV.out (i := k) (by rw [HLn.out]; exact hlt) HST.out j (by rw [HLn.out]; exact hj)
            have hup : inK L k s0 (j + 1) = upd L k j (inK L k s0 j) := rfl
            have HST2 := Lib.hid hst
            have HUP := Lib.hid hup
            clear hst hup
            generalize inK L k s0 j = s at *
            by_cases hkj : k = j
            · have hq : ((k : Int) == (j : Int)) = true := by simp [hkj]
              have HU : Hid (upd L k j s = s) := Lib.hid (by unfold upd; rw [if_neg (by simp [hkj])])
              clear hkj
              go_wp2_with fail
              exact ⟨⟨j + 1, by omega, by go_num, hb', HC'.out, by rw [HUP.out, HU.out], by rw [HUP.out, HU.out]⟩, by simp [intOf]; omega⟩
            · have hq : ((k : Int) == (j : Int)) = false := by simp; omega
              have hS' := HS.out.below hb' (Nat.le_refl _)
              have k0 := cell_regrown (hS'.c0 k hlt)
              have k1 := cell_regrown (hS'.c1 k hlt)
              have j0 := cell_regrown (hS'.c0 j hjt)
              have j2 := cell_regrown (hS'.c2 j hjt)
              clear hS'
              obtain ⟨⟨a1, a2⟩, ⟨a3, a4⟩, a5, a6⟩ := HV.out.bd (i := k) (by rw [HLn.out]; exact hlt)
              obtain ⟨⟨b1, b2⟩, ⟨b3, b4⟩, b5, b6⟩ := HV.out.bd (i := j) (by rw [HLn.out]; exact hjt)
              have cF := fun d os => rg_same (rfar_c (at_ L k).t (at_ L j).t (grow (redrawn wr d) os) (by omega) (by omega) (by omega) (by omega))
              have hspan : span L k j = far (at_ L k).t (at_ L j).t := rfl
              have hspb := span_bd HV.out (i := k) (k := j) (by rw [HLn.out]; exact hlt) (by rw [HLn.out]; exact hjt)
              have hsp0 := span_pos HV.out (i := k) (k := j) (by rw [HLn.out]; exact hlt) (by rw [HLn.out]; exact hjt) hkj
              rw [← hspan] at cF
              clear hspan
              go_wp2_with fail
              refine wp_region_B (by kernel_rfl) (by kernel_rfl) ?_
              repeat (go_big_quiet_step (exact cF _ _))
              refine wpQuiet_nil ?_

              intro w5 hb5
              have B5' : Below w.heap.size w w5 := btr hb' hb5
              have C5 := Lib.hid (HC'.out.below hb5)
              clear k0 k1 j0 j2 cF hb5 hb' HC'
              have hrise : rise L k j = (at_ L k).lo - (at_ L j).hi := rfl
              have HRI := Lib.hid hrise
              clear hrise
              have r1 : -2000 ≤ (at_ L k).lo - (at_ L j).hi := by omega
              have r2 : (at_ L k).lo - (at_ L j).hi ≤ 2000 := by omega
              obtain ⟨s1, s2⟩ := hspb
              obtain ⟨n0, n1, m0, m1, _⟩ := HST2.out
              generalize hgr : (at_ L k).lo - (at_ L j).hi = ri at *
              generalize hgs : span L k j = sp at *
              have HGS := Lib.hid hgs
              clear hgr hgs a1 a2 a3 a4 a5 a6 b1 b2 b3 b4 b5 b6
              obtain ⟨p1, p2⟩ := mul_bd (A := 2000) (B := 1000) r1 r2 (show (0:Int) ≤ s.2 by omega) m1
              obtain ⟨p3, p4⟩ := mul_bd (A := 2000) (B := 1000) (show (-2000:Int) ≤ s.1 by omega) n1 s1 s2
              by_cases hcm : s.1 * sp < ri * s.2
              · have HU : Hid (upd L k j s = (ri, sp)) := Lib.hid (by unfold upd; rw [HGS.out, HRI.out, if_pos ⟨hkj, hcm⟩])
                go_wp2_with fail
                exact ⟨⟨j + 1, by omega, by go_num, B5', C5.out, by rw [HUP.out, HU.out], by rw [HUP.out, HU.out]⟩, by simp [intOf]; omega⟩
              · have HU : Hid (upd L k j s = s) := Lib.hid (by unfold upd; rw [HGS.out, HRI.out, if_neg (fun hx => hcm hx.2)])
                go_wp2_with fail
                exact ⟨⟨j + 1, by omega, by go_num, B5', C5.out, by rw [HUP.out, HU.out], by rw [HUP.out, HU.out]⟩, by simp [intOf]; omega⟩
          · have HJ : Hid (j = n) := Lib.hid (by omega)
            have hjt' : ¬ (j : Int) < n := by omega
            clear hjt
            go_wp2_with fail
            exact ⟨⟨k + 1, by omega, by go_num, hb', HC'.out, by rw [HIN.out, ← HJ.out], by rw [HIN.out, ← HJ.out]⟩, by simp [intOf]; omega⟩
      · have HK : Hid (k = n) := Lib.hid (by omega)
        have hlt' : ¬ (k : Int) < n := by omega
        clear hlt
        have HN : Hid (redN (outI L n n).1 (outI L n n).2 = redN (outI L n k).1 (outI L n k).2) := Lib.hid (by rw [HK.out])
        have HD : Hid (redD (outI L n n).1 (outI L n n).2 = redD (outI L n k).1 (outI L n k).2) := Lib.hid (by rw [HK.out])
        generalize redN (outI L n n).1 (outI L n n).2 = NN at *
        generalize redD (outI L n n).1 (outI L n n).2 = DD at *
        generalize outI L n k = s at *
        obtain ⟨n0, n1, m0, m1, _⟩ := HST.out
        go_wp2_with fail
        obtain ⟨wo, hwo⟩ : ∃ wo : World, wo = wr := ⟨_, rfl⟩
        rw [← hwo]
        rw [← hwo] at hb HC
        clear hwo wr
        go_loopw [11, 12] (fun u v wr => wr = wo ∧ ∃ x y : Int, u = .int .i64 x ∧ v = .int .i64 y ∧ 0 ≤ x ∧ x ≤ 1000000000000 ∧ 0 ≤ y ∧ y ≤ 1000000000000 ∧ gcdI x y = gcdI s.1 s.2) (fun _ v _ => (intOf v).toNat)
        case atStart => exact ⟨rfl, _, _, rfl, rfl, n0, by omega, by omega, by omega, rfl⟩
        case round =>
          obtain ⟨rfl, x, y, rfl, rfl, hx, hx', hy, hy', hgg⟩ := hrel
          have HG1 := Lib.hid hgg
          clear hgg
          by_cases hy0 : 0 < y
          · have q0 : ¬ y = 0 := by omega
            have mm0 : 0 ≤ x % y := Int.emod_nonneg _ q0
            have mm1 : x % y < y := Int.emod_lt_of_pos _ hy0
            have HS1 : Hid (gcdI y (x % y) = gcdI s.1 s.2) := Lib.hid (by rw [gcdI_step]; exact HG1.out)
            go_wp2_with fail
            exact ⟨⟨trivial, y, x % y, rfl, rfl, hy, hy', mm0, by omega, HS1.out⟩, by simp [intOf]; omega⟩
          · have HY : Hid (y = 0) := Lib.hid (by omega)
            have HX : Hid (x = gcdI s.1 s.2) := Lib.hid (by have := HG1.out; rw [HY.out, gcdI_zero hx] at this; exact this)
            have gp : 1 ≤ gcdI s.1 s.2 := gcdI_pos (by omega)
            have gx : 1 ≤ x := by rw [HX.out]; exact gp
            have hN1 : redN s.1 s.2 = s.1 / x := by unfold redN; rw [HX.out]
            have hD1 : redD s.1 s.2 = s.2 / x := by unfold redD; rw [HX.out]
            have HN1 := Lib.hid hN1
            have HD1 := Lib.hid hD1
            have f0 := HC.out.f0
            have f1 := HC.out.f1
            have c0 := HC.out.c0
            have c1 := HC.out.c1
            clear hN1 hD1 gp
            go_wp2_with fail
            go_region
            go_wp2_with fail
            refine bodyPost_ret (v := .tuple #[.agg #[.int .i64 (s.1 / x), .int .i64 (s.2 / x)], .int .i64 0]) (by simp [results, Try.results36, go_sem, c0, c1]) rfl ⟨by rw [HN.out, HD.out, HN1.out, HD1.out], ?_⟩
            go_grown
  · have hv0 : (vErr L != 0) = true := by simpa using h0
    have e1 : stN L = 0 := by unfold stN; rw [if_neg h0]
    have e2 : stD L = 0 := by unfold stD; rw [if_neg h0]
    rw [e1, e2]
    clear e1 e2 h0
    go_enter Try.func36, Try.ntmps36
    go_wp2_with fail
    refine (rvalidate_c _ _ _ _ _ (h.below HA.out (Nat.le_refl _))).mono ?_
    rintro e w1 ⟨rfl, hb1⟩
    have B1 : Below w.heap.size w w1 := btr HA.out hb1
    have C1 := HC0.out.below hb1
    have c0 := C1.c0
    have c1 := C1.c1
    have f0 := C1.f0
    have f1 := C1.f1
    clear C1
    go_wp2_with fail
    refine bodyPost_ret (v := .tuple #[.agg #[.int .i64 0, .int .i64 0], .int .i64 (vErr L)]) (by simp [results, Try.results36, go_sem, c0, c1]) rfl ⟨rfl, ?_⟩
    go_grown

end Go.Proofs.Ytgbdcemlnklmoaa
