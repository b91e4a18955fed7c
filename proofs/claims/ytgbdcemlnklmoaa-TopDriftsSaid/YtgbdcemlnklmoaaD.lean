/- CheckTrack of the program: contract. -/
import Derived.Test.YtgbdcemlnklmoaaC
namespace Go.Proofs.Ytgbdcemlnklmoaa
open Go.RowKit Go.Sort

set_option maxRecDepth 100000 in
set_option maxHeartbeats 3200000 in
theorem CheckTrack_c (a : Option Addr) (n c : Nat) (L : List Rd) (r : Int) (a2 : Option Addr) (n2 c2 : Nat) (xs : List Int) (w : World) (h : SlO w a n L) (h2 : IsO w a2 n2 xs) (hc2 : n2 ≤ c2) (hm2 : c2 ≤ 9223372036854775807) :
    Calls Try.prog 42 #[.slice a n c, .int .i64 r, .slice a2 n2 c2] w fun e w' => e = .returned (.int .i64 (ckErr L r xs)) ∧ Below w.heap.size w w' := by
  have hA : Below w.heap.size w ((w.alloc (.cells #[.slice a n c] 22)).alloc (.cells #[.slice a2 n2 c2] 39)) := ((Below.refl _ _).alloc (Nat.le_refl _) _).alloc (by simp) _
  have HA := Lib.hid hA
  have hA3 : ((w.alloc (.cells #[.slice a n c] 22)).alloc (.cells #[.slice a2 n2 c2] 39)).cell? ⟨w.heap.size, 0, none⟩ = some (.slice a n c) := by simp [go_sem]
  have hA5 : ((w.alloc (.cells #[.slice a n c] 22)).alloc (.cells #[.slice a2 n2 c2] 39)).cell? ⟨w.heap.size + 1, 0, none⟩ = some (.slice a2 n2 c2) := by simp [go_sem]
  have HA3 := Lib.hid hA3
  have HA5 := Lib.hid hA5
  clear hA hA3 hA5
  by_cases h0 : rErr L r = 0
  · have hv0 : (rErr L r != 0) = false := by rw [h0]; rfl
    obtain ⟨hv, hr, hr9⟩ := rErr_zero.1 h0
    obtain ⟨b, o, rfl, hS⟩ : ∃ b o, a = some ⟨b, o, none⟩ ∧ Sl w b o n L := by
      rcases h.2 with h' | h'
      · have := hv.pos; have := h.1; omega
      · exact h'
    have hn8 : n ≤ 8 := by have := hv.le; have := h.1; omega
    have hn1 : 1 ≤ n := by have := hv.pos; have := h.1; omega
    have HV := Lib.hid hv
    have HLn : Hid (L.length = n) := Lib.hid h.1.symm
    have HLx : Hid (xs.length = n2) := Lib.hid h2.1.symm
    have HL2 : Hid (xs.length - 1 = n2 - 1) := Lib.hid (by rw [HLx.out])
    have HS := Lib.hid hS
    have HE := Lib.hid h0
    obtain ⟨l1, l2⟩ := lastT_bd hv
    have hf0 : 0 ≤ firstT L := (hv.bd (i := 0) (by have := hv.pos; omega)).1.1
    have hf1 : firstT L ≤ lastT L := (times_bd hv (i := 0) (by have := hv.pos; omega)).2
    have HT : Hid ((at_ L (n - 1)).t = lastT L) := Lib.hid (by unfold lastT; rw [HLn.out])
    have HT0 : Hid ((at_ L 0).t = firstT L) := rfl
    have e1 : ((n : Int) - 1).toNat = n - 1 := by omega
    have e2 : 0 ≤ (n : Int) - 1 := by omega
    have hfx : ∀ w1, Below w.heap.size w w1 → w1.cell? ⟨b, o, none⟩ = some (.int .i64 (firstT L)) ∧ w1.cell? ⟨b, o + (n - 1) * 3, none⟩ = some (.int .i64 (lastT L)) := by
      intro w1 hb
      have s1 := (HS.out.below hb (Nat.le_refl _)).c0 0 (by omega)
      have s2 := (HS.out.below hb (Nat.le_refl _)).c0 (n - 1) (by omega)
      rw [HT.out] at s2
      rw [HT0.out] at s1
      simp only [Nat.zero_mul, Nat.add_zero] at s1
      exact ⟨s1, s2⟩
    have HFX := Lib.hid hfx
    clear h0 hv hS hfx
    by_cases hx : (xs.length : Int) = lastT L - firstT L + 1
    · have HX := Lib.hid hx
      have hx1 : (n2 : Int) = lastT L - firstT L + 1 := by rw [← HLx.out]; exact hx
      have hne : ((n2 : Int) != lastT L - firstT L + 1) = false := by simp [hx1]
      obtain ⟨b2, o2, rfl, hI⟩ : ∃ b o, a2 = some ⟨b, o, none⟩ ∧ Is w b o n2 xs := by
        rcases h2.2 with h' | h'
        · omega
        · exact h'
      have hn2 : 1 ≤ n2 := by omega
      have hn3 : n2 ≤ 1001 := by omega
      have HI := Lib.hid hI
      clear hI h2 hx hx1
      go_enter Try.func42, Try.ntmps42
      go_wp2_with fail
      refine (rated_c _ _ _ _ _ _ (h.below HA.out (Nat.le_refl _))).mono ?_
      rintro e w1 ⟨rfl, hb1⟩
      have B1 : Below w.heap.size w w1 := btr HA.out hb1
      have M3' := Lib.hid (cellB hb1 HA3.out)
      have M5' := Lib.hid (cellB hb1 HA5.out)
      obtain ⟨s1, s2⟩ := HFX.out _ B1
      have k1 := cell_regrown s1
      have k2 := cell_regrown s2
      have k3 := cell_regrown M3'.out
      have k5 := cell_regrown M5'.out
      have cF := fun d os => Calls.regrown_of (has_75 (some ⟨b2, o2, none⟩) n2 c2 xs (grow (redrawn w1 d) os) ((IsO.of (HI.out.below B1 (Nat.le_refl _))).below (below_regrown w1 d os) (Nat.le_refl _)) (by omega))
      clear s1 s2
      cases hs : (scanJ (badR xs) n2 0).isSome
      · simp only [hs] at cF
        have HG1 : Hid ((scanJ (badR xs) xs.length 0).isSome = false) := Lib.hid (by rw [HLx.out]; exact hs)
        have HR : Hid (∀ i, i < n2 → inB (gi xs i) (-1000) 1000 = true) := Lib.hid (by
          have := scan_none.1 HG1.out
          intro i hi
          have := this i (by rw [HLx.out]; exact hi)
          simpa [badR] using this)
        clear hs
        go_wp2_with fail
        refine wp_region_B (by kernel_rfl) (by kernel_rfl) ?_
        repeat (go_big_quiet_step (exact cF _ _))
        refine wpQuiet_nil ?_
        intro w2 hb2
        have B2 := Lib.hid (btr B1 hb2 : Below w.heap.size w w2)
        have M3 := Lib.hid (cellB hb2 M3'.out)
        have M5 := Lib.hid (cellB hb2 M5'.out)
        clear k1 k2 k3 k5 cF e1 e2 hne hv0 hb1 B1 hb2 M3' M5' HA HA3 HA5
        have m5 := M5.out
        by_cases hc1 : c2 = 1
        · have hn21 : n2 = 1 := by omega
          have HG2 : Hid ((scanJ (badS xs r) (xs.length - 1) 0).isSome = false) := Lib.hid (by rw [HL2.out, hn21]; rfl)
          have m3 := M3.out
          subst hc1 hn21
          go_wp2_with fail
          go_loopw [38] (fun i wr => wr = w2 ∧ i = .int .i64 0) (fun _ _ => 0)
          case atStart => exact ⟨rfl, rfl⟩
          case round =>
            obtain ⟨rfl, rfl⟩ := hrel
            go_wp2_with fail
            refine (has_77 _ _ _ _ _ _ _ _ _ _ _ _ (SlO.of (HS.out.below B2.out (Nat.le_refl _))) (by omega) M5.out M3.out (HI.out.below B2.out (Nat.le_refl _)) HV.out (by have := HX.out; rw [HLx.out] at this; exact this)).mono ?_
            rintro e w6 ⟨rfl, hb6⟩
            cases hs : (scanJ (badP L xs) n 0).isSome
            · go_wp2_with fail
              go_ret
              exact ⟨by rw [ck_0 HE.out HX.out HG1.out HG2.out (by rw [HLn.out]; exact hs)]; rfl, btr B2.out hb6⟩
            · go_wp2_with fail
              go_ret
              exact ⟨by rw [ck_3 HE.out HX.out HG1.out HG2.out (by rw [HLn.out]; exact hs)]; rfl, btr B2.out hb6⟩
        · have hc2' : 2 ≤ c2 := by omega
          go_wp2_with fail
          clear m5 hc1
          go_loopw [38] (fun i wr => ∃ k : Nat, k ≤ n2 - 1 ∧ i = .int .i64 k ∧ Below w.heap.size w wr ∧ wr.cell? ⟨w.heap.size, 0, none⟩ = some (.slice (some ⟨b, o, none⟩) n c) ∧ wr.cell? ⟨w.heap.size + 1, 0, none⟩ = some (.slice (some ⟨b2, o2, none⟩) n2 c2) ∧ scanJ (badS xs r) (n2 - 1) 0 = scanJ (badS xs r) (n2 - 1 - k) k) (fun i _ => n2 - (intOf i).toNat)
          case atStart => exact ⟨0, Nat.zero_le _, rfl, B2.out, M3.out, M5.out, rfl⟩
          case round =>
            obtain ⟨k, hk, rfl, hb', hm3, hm5, hF⟩ := hrel
            have HF := Lib.hid hF
            have M3' := Lib.hid hm3
            have M5' := Lib.hid hm5
            clear hF hm3 hm5 B2 M3 M5
            by_cases hlt : k < n2 - 1
            · have hI' := HI.out.below hb' (Nat.le_refl _)
              have k0 := cell_regrown (hI'.c0 k (by omega))
              have k1 := cell_regrown (hI'.c0 (k + 1) (by omega))
              have k5 := cell_regrown M5'.out
              have q1 := inB_true.1 (HR.out (k + 1) (by omega))
              have q2 := inB_true.1 (HR.out k (by omega))
              have hp : badS xs r k = decide (r < far (gi xs (k + 1)) (gi xs k)) := rfl
              have HP := Lib.hid hp
              clear hI' hp
              have e1 : ((k : Int) + 1).toNat = k + 1 := by omega
              have e2 : 0 ≤ (k : Int) + 1 := by omega
              have e3 : (k : Int) + 1 < n2 := by omega
              have hkn : (k : Int) < ((n2 - 1 : Nat) : Int) := by omega
              have cF := fun d os => rg_same (far_c (gi xs k) (gi xs (k + 1)) (grow (redrawn wr d) os) (by omega) (by omega) (by omega) (by omega))
              simp only [far_comm (gi xs k) (gi xs (k + 1))] at cF
              generalize hfv : far (gi xs (k + 1)) (gi xs k) = fv at cF
              have HFV := Lib.hid hfv
              clear hfv
              go_wp2_with fail
              refine wp_region_B (by kernel_rfl) (by kernel_rfl) ?_
              repeat (go_big_quiet_step (exact cF _ _))
              refine wpQuiet_nil ?_
              intro w4 hb4
              by_cases hc : r < fv
              · have hd : decide (r < fv) = true := decT hc
                go_wp2_with fail
                go_ret
                exact ⟨by rw [ck_2 HE.out HX.out HG1.out (by rw [HL2.out, HF.out, scan_yes hlt (by rw [HP.out, HFV.out]; exact hd)]; rfl)]; rfl, btr hb' hb4⟩
              · have hd : decide (r < fv) = false := decF hc
                go_wp2_with fail
                exact ⟨⟨k + 1, by omega, by go_num, btr hb' hb4, cellB hb4 M3'.out, cellB hb4 M5'.out, by rw [HF.out, scan_no hlt (by rw [HP.out, HFV.out]; exact hd)]⟩, by simp [intOf]; omega⟩
            · have hd : ¬ (k : Int) < ((n2 - 1 : Nat) : Int) := by omega
              have HG2 : Hid ((scanJ (badS xs r) (xs.length - 1) 0).isSome = false) := Lib.hid (by rw [HL2.out, HF.out, scan_end hlt]; rfl)
              clear hlt HF
              have m3 := M3'.out
              go_wp2_with fail
              refine (has_77 _ _ _ _ _ _ _ _ _ _ _ _ (SlO.of (HS.out.below hb' (Nat.le_refl _))) (by omega) M5'.out M3'.out (HI.out.below hb' (Nat.le_refl _)) HV.out (by have := HX.out; rw [HLx.out] at this; exact this)).mono ?_
              rintro e w6 ⟨rfl, hb6⟩
              cases hs : (scanJ (badP L xs) n 0).isSome
              · go_wp2_with fail
                go_ret
                exact ⟨by rw [ck_0 HE.out HX.out HG1.out HG2.out (by rw [HLn.out]; exact hs)]; rfl, btr hb' hb6⟩
              · go_wp2_with fail
                go_ret
                exact ⟨by rw [ck_3 HE.out HX.out HG1.out HG2.out (by rw [HLn.out]; exact hs)]; rfl, btr hb' hb6⟩

      · simp only [hs] at cF
        go_wp2_with fail
        refine wp_region_B (by kernel_rfl) (by kernel_rfl) ?_
        repeat (go_big_quiet_step (exact cF _ _))
        refine wpQuiet_nil ?_
        intro w2 hb2
        go_wp2_with fail
        go_ret
        exact ⟨by rw [ck_1 HE.out HX.out (by rw [HLx.out]; exact hs)]; rfl, btr B1 hb2⟩
    · have hne : ((n2 : Int) != lastT L - firstT L + 1) = true := by rw [bne_iff_ne, ← HLx.out]; exact hx
      have hE := ck_len HE.out hx
      rw [hE]
      clear hE hx
      go_enter Try.func42, Try.ntmps42
      go_wp2_with fail
      refine (rated_c _ _ _ _ _ _ (h.below HA.out (Nat.le_refl _))).mono ?_
      rintro e w1 ⟨rfl, hb1⟩
      have B1 : Below w.heap.size w w1 := btr HA.out hb1
      obtain ⟨s1, s2⟩ := HFX.out _ B1
      have k1 := cell_regrown s1
      have k2 := cell_regrown s2
      have k3 := cell_regrown (cellB hb1 HA3.out)
      have k5 := cell_regrown (cellB hb1 HA5.out)
      clear s1 s2
      go_wp2_with fail
      refine wp_region_B (by kernel_rfl) (by kernel_rfl) ?_
      repeat (go_big_quiet_step (fail))
      refine wpQuiet_nil ?_
      intro w2 hb2
      go_wp2_with fail
      go_ret
      exact ⟨rfl, btr B1 hb2⟩
  · have hv0 : (rErr L r != 0) = true := by simpa using h0
    have hE : ckErr L r xs = rErr L r := by simp [ckErr, h0]
    rw [hE]
    clear h0 hE h2 hc2 hm2
    go_enter Try.func42, Try.ntmps42
    go_wp2_with fail
    refine (rated_c _ _ _ _ _ _ (h.below HA.out (Nat.le_refl _))).mono ?_
    rintro e w1 ⟨rfl, hb1⟩
    go_wp2_with fail
    go_ret
    exact ⟨rfl, btr HA.out hb1⟩

end Go.Proofs.Ytgbdcemlnklmoaa
