/- Track, and the reference CheckTrack: contracts. -/
import Derived.Test.YtgbdcemlnklmoaaI
import Derived.WalkSpells
namespace Go.Proofs.Ytgbdcemlnklmoaa
open Go.RowKit Go.Sort

set_option maxHeartbeats 1600000 in
theorem Track_c (a : Option Addr) (n c : Nat) (L : List Rd) (r : Int) (w : World) (h : SlO w a n L) (hc : n ≤ c) (hm : c ≤ maxLen) :
    Calls Try.prog 31 #[.slice a n c, .int .i64 r] w (RetIs w (trackR L r) (aOk L r) (rErr L r)) := by
  by_cases h0 : rErr L r = 0
  · have hv0 : (rErr L r != 0) = false := by rw [h0]; rfl
    obtain ⟨hv, hr, hr9⟩ := rErr_zero.1 h0
    obtain ⟨b, o, rfl, hS⟩ : ∃ b o, a = some ⟨b, o, none⟩ ∧ Sl w b o n L := by
      rcases h.2 with h' | h'
      · have := hv.pos; have := h.1; omega
      · exact h'
    by_cases ha : agreeB L r = true
    · have hA : aOk L r = true := aOk_true.2 ⟨h0, ha⟩
      have hT : trackR L r = trackL L r := by unfold trackR; rw [if_pos hA]
      rw [hA, hT, h0]
      have HV := Lib.hid hv
      have HLn : Hid (L.length = n) := Lib.hid h.1.symm
      have HS := Lib.hid hS
      have hn8 : n ≤ 8 := by have := hv.le; have := h.1; omega
      have hn1 : 1 ≤ n := by have := hv.pos; have := h.1; omega
      obtain ⟨l1, l2⟩ := lastT_bd hv
      have hf0 : 0 ≤ firstT L := (hv.bd (i := 0) (by have := hv.pos; omega)).1.1
      have hf1 : firstT L ≤ lastT L := (times_bd hv (i := 0) (by have := hv.pos; omega)).2
      have HT : Hid ((at_ L (n - 1)).t = lastT L) := Lib.hid (by unfold lastT; rw [HLn.out])
      have HT0 : Hid ((at_ L 0).t = firstT L) := rfl
      have HN : Hid ((trackN L : Int) = lastT L - firstT L + 1) := Lib.hid (by unfold trackN; omega)
      have HL : Hid (trackL L r = (List.range (trackN L)).map (tAt L r)) := rfl
      have HA : Hid (∀ i : Nat, tAt L r i = max (loP L r (firstT L + i) (n - 1)) (-1000)) := Lib.hid (by intro i; unfold tAt loB; rw [HLn.out])
      generalize lastT L = tn at *
      generalize firstT L = t0 at *
      clear h0 hv hS hA hT
      obtain ⟨i0, hi, hz0, hz1, hz2⟩ := info_parts info3
      go_enter Try.func31, Try.ntmps31
      go_wp2_with (first | (go_at_call 61; refine (rated_c _ _ _ _ _ _ h).mono ?_; rintro e w1 ⟨rfl, hb⟩))
      refine (agree_c _ _ _ _ _ _ _ (HS.out.below hb (Nat.le_refl _)) HV.out hr hr9).mono ?_
      rintro e w2 ⟨rfl, hb2⟩
      simp only [ha]
      have B2 := btr hb hb2
      have c00 := (HS.out.below B2 (Nat.le_refl _)).c0 0 (by omega)
      rw [HT0.out] at c00
      simp only [Nat.zero_mul, Nat.add_zero] at c00
      go_wp2_with fail
      clear c00
      go_loopw [8, 9] (fun v i wr => ∃ k : Nat, k ≤ trackN L ∧ i = .int .i64 (t0 + k) ∧ Below w.heap.size w wr ∧ wr.ownsRow w.heap.size 3 1 v k (((List.range k).map (tAt L r)).map (Value.int .i64))) (fun _ i _ => (tn + 1 - intOf i).toNat)
      case atStart => exact ⟨0, Nat.zero_le _, by simp, B2, World.ownsRow_nil _ _ _ _⟩
      case round =>
        obtain ⟨k, hk, rfl, hb', hown⟩ := hrel
        have HO := Lib.hid hown
        clear hown hb hb2 B2
        have c0 := (HS.out.below hb' (Nat.le_refl _)).c0 (n - 1) (by omega)
        rw [HT.out] at c0
        have e1 : ((n : Int) - 1).toNat = n - 1 := by omega
        have e2 : 0 ≤ (n : Int) - 1 := by omega
        have hN := HN.out
        have hkb : k ≤ 1001 := by omega
        by_cases hlt : k < trackN L
        · have hd : t0 + (k : Int) ≤ tn := by omega
          obtain ⟨l3, l4⟩ := loP_bd HV.out hr hr9 (t := t0 + (k : Int)) (by omega) (by omega) (n - 1) (by rw [HLn.out]; omega)
          have HA1 := Lib.hid (HA.out k)
          clear hN
          go_wp2_with fail
          refine (bounds_c _ _ _ _ _ _ _ _ (HS.out.below hb' (Nat.le_refl _)) hc hm HV.out hr hr9 (by omega) (by omega)).mono ?_
          rintro e w3 ⟨rfl, hb3⟩
          have hown3 := ownsRow_below HO.out hb3
          have HO3 := Lib.hid hown3
          clear hown3
          have B3 := btr hb' hb3
          by_cases hw : ¬ loP L r (t0 + (k : Int)) (n - 1) < -1000
          · have HX : Hid (tAt L r k = loP L r (t0 + (k : Int)) (n - 1)) := Lib.hid (by rw [HA1.out]; omega)
            go_wp2_with (at_builtin; refine wpList_append_own _ rfl _ _ 39 rfl w.heap.size 3 i0 (.int .i64 0) 1 8 Try.underlying39 hi hz0 hz1 hz2 rfl (by decide) _ _ _ rfl (HO3.out.alloc _) ⟨w3.heap.size, 0, none⟩ 1 1 [.int .i64 (loP L r (t0 + (k : Int)) (n - 1))] rfl rfl (cell_one_new _ _ _) (by simp [Value.oneCell']) (by unfold maxLen; omega) (by omega) (by have := B3.size; simp; omega) ?_)
            intro v' w4 hown4 hg4 _
            have hb4 : Below w.heap.size w w4 := (B3.alloc B3.size _).grown hg4 (by have := B3.size; simp; omega) (fun q hq => (HO3.out.lt q hq).1)
            have HO4 := Lib.hid hown4
            clear hown4 hg4 hw l3 l4 c0
            go_wp2_with fail
            exact ⟨⟨k + 1, by omega, by go_num, hb4, by have := HO4.out; rw [List.range_succ, List.map_append, List.map_append]; simpa [HX.out] using this⟩, by simp [intOf]; omega⟩
          · have HX : Hid (tAt L r k = -1000) := Lib.hid (by rw [HA1.out]; omega)
            go_wp2_with (at_builtin; refine wpList_append_own _ rfl _ _ 39 rfl w.heap.size 3 i0 (.int .i64 0) 1 8 Try.underlying39 hi hz0 hz1 hz2 rfl (by decide) _ _ _ rfl (HO3.out.alloc _) ⟨w3.heap.size, 0, none⟩ 1 1 [.int .i64 (-1000)] rfl rfl (cell_one_new _ _ _) (by simp [Value.oneCell']) (by unfold maxLen; omega) (by omega) (by have := B3.size; simp; omega) ?_)
            intro v' w4 hown4 hg4 _
            have hb4 : Below w.heap.size w w4 := (B3.alloc B3.size _).grown hg4 (by have := B3.size; simp; omega) (fun q hq => (HO3.out.lt q hq).1)
            have HO4 := Lib.hid hown4
            clear hown4 hg4 hw l3 l4 c0
            go_wp2_with fail
            exact ⟨⟨k + 1, by omega, by go_num, hb4, by have := HO4.out; rw [List.range_succ, List.map_append, List.map_append]; simpa [HX.out] using this⟩, by simp [intOf]; omega⟩
        · have hkn : k = trackN L := by omega
          have HK := Lib.hid hkn
          have hd : ¬ t0 + (k : Int) ≤ tn := by omega
          clear hkn hN
          go_wp2_with fail
          go_ret3
          refine ⟨_, rfl, ?_, hb'⟩
          have := ownsRow_is HO.out
          rw [HK.out] at this
          exact this
    · replace ha : agreeB L r = false := by simpa using ha
      have hA : aOk L r = false := by simp [aOk, ha]
      have hT : trackR L r = [] := by unfold trackR; rw [hA]; rfl
      rw [hA, hT, h0]
      have HV := Lib.hid hv
      clear h0 hv hA hT hc hm
      go_enter Try.func31, Try.ntmps31
      go_wp2_with (first | (go_at_call 61; refine (rated_c _ _ _ _ _ _ h).mono ?_; rintro e w1 ⟨rfl, hb⟩))
      refine (agree_c _ _ _ _ _ _ _ (hS.below hb (Nat.le_refl _)) HV.out hr hr9).mono ?_
      rintro e w2 ⟨rfl, hb2⟩
      simp only [ha]
      go_wp2_with fail
      go_ret3
      exact ⟨_, rfl, IsV.nil _ _, btr hb hb2⟩
  · have hv0 : (rErr L r != 0) = true := by simpa using h0
    have hA : aOk L r = false := by simp [aOk, h0]
    have hT : trackR L r = [] := by unfold trackR; rw [hA]; rfl
    rw [hA, hT]
    clear h0 hA hT hc hm
    go_enter Try.func31, Try.ntmps31
    go_wp2_with (first | (go_at_call 61; refine (rated_c _ _ _ _ _ _ h).mono ?_; rintro e w1 ⟨rfl, hb⟩))
    go_ret3
    exact ⟨_, rfl, IsV.nil _ _, hb⟩


theorem scan_yes {c : Nat → Bool} {n k : Nat} (h : k < n) (hc : c k = true) : scanJ c (n - k) k = some k := by
  rw [show n - k = (n - (k + 1)) + 1 by omega]; simp [scanJ, hc]
theorem scan_no {c : Nat → Bool} {n k : Nat} (h : k < n) (hc : c k = false) : scanJ c (n - k) k = scanJ c (n - (k + 1)) (k + 1) := by
  rw [show n - k = (n - (k + 1)) + 1 by omega]; simp [scanJ, hc]
theorem scan_end {c : Nat → Bool} {n k : Nat} (h : ¬ k < n) : scanJ c (n - k) k = none := by
  rw [show n - k = 0 by omega]; rfl

section
variable {L : List Rd} {r : Int} {xs : List Int}
theorem ck_len (h0 : rErr L r = 0) (h1 : ¬ (xs.length : Int) = lastT L - firstT L + 1) : ckErr L r xs = 1 := by simp [ckErr, h0, h1]
theorem ck_1 (h0 : rErr L r = 0) (h1 : (xs.length : Int) = lastT L - firstT L + 1) (h2 : (scanJ (badR xs) xs.length 0).isSome = true) : ckErr L r xs = 1 := by simp [ckErr, h0, h1, h2]
theorem ck_2 (h0 : rErr L r = 0) (h1 : (xs.length : Int) = lastT L - firstT L + 1) (h2 : (scanJ (badR xs) xs.length 0).isSome = false) (h3 : (scanJ (badS xs r) (xs.length - 1) 0).isSome = true) : ckErr L r xs = 8 := by simp [ckErr, h0, h1, h2, h3]
theorem ck_3 (h0 : rErr L r = 0) (h1 : (xs.length : Int) = lastT L - firstT L + 1) (h2 : (scanJ (badR xs) xs.length 0).isSome = false) (h3 : (scanJ (badS xs r) (xs.length - 1) 0).isSome = false) (h4 : (scanJ (badP L xs) L.length 0).isSome = true) : ckErr L r xs = 7 := by simp [ckErr, h0, h1, h2, h3, h4]
theorem ck_0 (h0 : rErr L r = 0) (h1 : (xs.length : Int) = lastT L - firstT L + 1) (h2 : (scanJ (badR xs) xs.length 0).isSome = false) (h3 : (scanJ (badS xs r) (xs.length - 1) 0).isSome = false) (h4 : (scanJ (badP L xs) L.length 0).isSome = false) : ckErr L r xs = 0 := by simp [ckErr, h0, h1, h2, h3, h4]
end


set_option maxRecDepth 100000 in
set_option maxHeartbeats 3200000 in
theorem rCheckTrack_c (a : Option Addr) (n c : Nat) (L : List Rd) (r : Int) (a2 : Option Addr) (n2 c2 : Nat) (xs : List Int) (w : World) (h : SlO w a n L) (h2 : IsO w a2 n2 xs) (hm2 : n2 ≤ 9223372036854775807) :
    Calls Try.prog 32 #[.slice a n c, .int .i64 r, .slice a2 n2 c2] w fun e w' => e = .returned (.int .i64 (ckErr L r xs)) ∧ Below w.heap.size w w' := by
  by_cases h0 : rErr L r = 0
  · have hv0 : (rErr L r != 0) = false := by rw [h0]; rfl
    obtain ⟨hv, hr, hr9⟩ := rErr_zero.1 h0
    obtain ⟨b, o, rfl, hS⟩ : ∃ b o, a = some ⟨b, o, none⟩ ∧ Sl w b o n L := by
      rcases h.2 with h' | h'
      · have := hv.pos; have := h.1; omega
      · exact h'
    have hn8 : n ≤ 8 := by have := hv.le; have := h.1; omega
    have hn1 : 1 ≤ n := by have := hv.pos; have := h.1; omega
    have HV := Lib.hid hv
    have HLn : Hid (L.length = n) := Lib.hid h.1.symm
    have HLx : Hid (xs.length = n2) := Lib.hid h2.1.symm
    have HL2 : Hid (xs.length - 1 = n2 - 1) := Lib.hid (by rw [HLx.out])
    have HS := Lib.hid hS
    have HE := Lib.hid h0
    obtain ⟨l1, l2⟩ := lastT_bd hv
    have hf0 : 0 ≤ firstT L := (hv.bd (i := 0) (by have := hv.pos; omega)).1.1
    have hf1 : firstT L ≤ lastT L := (times_bd hv (i := 0) (by have := hv.pos; omega)).2
    have HT : Hid ((at_ L (n - 1)).t = lastT L) := Lib.hid (by unfold lastT; rw [HLn.out])
    have HT0 : Hid ((at_ L 0).t = firstT L) := rfl
    have e1 : ((n : Int) - 1).toNat = n - 1 := by omega
    have e2 : 0 ≤ (n : Int) - 1 := by omega
    have hfx : ∀ w1, Below w.heap.size w w1 → w1.cell? ⟨b, o, none⟩ = some (.int .i64 (firstT L)) ∧ w1.cell? ⟨b, o + (n - 1) * 3, none⟩ = some (.int .i64 (lastT L)) := by
      intro w1 hb
      have s1 := (HS.out.below hb (Nat.le_refl _)).c0 0 (by omega)
      have s2 := (HS.out.below hb (Nat.le_refl _)).c0 (n - 1) (by omega)
      rw [HT.out] at s2
      rw [HT0.out] at s1
      simp only [Nat.zero_mul, Nat.add_zero] at s1
      exact ⟨s1, s2⟩
    have HFX := Lib.hid hfx
    clear h0 hv hS hfx
    by_cases hx : (xs.length : Int) = lastT L - firstT L + 1
    · have HX := Lib.hid hx
      have hx1 : (n2 : Int) = lastT L - firstT L + 1 := by rw [← HLx.out]; exact hx
      have hne : ((n2 : Int) != lastT L - firstT L + 1) = false := by simp [hx1]
      obtain ⟨b2, o2, rfl, hI⟩ : ∃ b o, a2 = some ⟨b, o, none⟩ ∧ Is w b o n2 xs := by
        rcases h2.2 with h' | h'
        · omega
        · exact h'
      have hn2 : 1 ≤ n2 := by omega
      have HI := Lib.hid hI
      clear hI h2 hx hx1
      go_enter Try.func32, Try.ntmps32
      go_wp2_with (first | (go_at_call 63; refine (rrated_c _ _ _ _ _ _ h).mono ?_; rintro e w1 ⟨rfl, hb⟩; obtain ⟨s1, s2⟩ := HFX.out _ hb))
      clear s1 s2 e1 e2 hne hv0
      go_loopw [9] (fun i wr => ∃ k : Nat, k ≤ n2 ∧ i = .int .i64 k ∧ Below w.heap.size w wr ∧ scanJ (badR xs) n2 0 = scanJ (badR xs) (n2 - k) k) (fun i _ => n2 - (intOf i).toNat)
      case atStart => exact ⟨0, Nat.zero_le _, rfl, hb, rfl⟩
      case round =>
        obtain ⟨k, hk, rfl, hb', hF⟩ := hrel
        have HF := Lib.hid hF
        clear hF hb
        by_cases hlt : k < n2
        · have c1 := (HI.out.below hb' (Nat.le_refl _)).c0 k hlt
          have hp : badR xs k = !inB (gi xs k) (-1000) 1000 := rfl
          have HP := Lib.hid hp
          clear hp
          by_cases hc : inB (gi xs k) (-1000) 1000 = true
          · go_wp2_with (go_at_call 64; refine (rwithin_c _ _ _ _).mono ?_; rintro e w' ⟨rfl, rfl⟩)
            exact ⟨⟨k + 1, by omega, by go_num, hb', by rw [HF.out, scan_no hlt (by rw [HP.out, hc]; rfl)]⟩, by simp [intOf]; omega⟩
          · replace hc : inB (gi xs k) (-1000) 1000 = false := by simpa using hc
            go_wp2_with (go_at_call 64; refine (rwithin_c _ _ _ _).mono ?_; rintro e w' ⟨rfl, rfl⟩)
            go_ret
            exact ⟨by rw [ck_1 HE.out HX.out (by rw [HLx.out, HF.out, scan_yes hlt (by rw [HP.out, hc]; rfl)]; rfl)]; rfl, hb'⟩
        · have hd : ¬ (k : Int) < n2 := by omega
          have HG1 : Hid ((scanJ (badR xs) xs.length 0).isSome = false) := Lib.hid (by rw [HLx.out, HF.out, scan_end hlt]; rfl)
          have HR : Hid (∀ i, i < n2 → inB (gi xs i) (-1000) 1000 = true) := Lib.hid (by
            have := scan_none.1 HG1.out
            intro i hi
            have := this i (by rw [HLx.out]; exact hi)
            simpa [badR] using this)
          clear hlt HF
          have B2 := hb'
          clear hb'
          go_wp2_with fail
          obtain ⟨wo, hwo⟩ : ∃ wo : World, wo = wr := ⟨_, rfl⟩
          rw [← hwo]
          rw [← hwo] at B2
          clear hwo wr hd hk
          go_loopw [10] (fun i wr => ∃ k : Nat, k ≤ n2 - 1 ∧ i = .int .i64 (k + 1 : Nat) ∧ Below w.heap.size w wr ∧ scanJ (badS xs r) (n2 - 1) 0 = scanJ (badS xs r) (n2 - 1 - k) k) (fun i _ => n2 - (intOf i).toNat)
          case atStart => exact ⟨0, Nat.zero_le _, rfl, B2, rfl⟩
          case round =>
            obtain ⟨k, hk, rfl, hb', hF⟩ := hrel
            have HF := Lib.hid hF
            clear hF B2
            by_cases hlt : k < n2 - 1
            · have hI' := HI.out.below hb' (Nat.le_refl _)
              have k0 := cell_regrown (hI'.c0 (k + 1) (by omega))
              have k1 := cell_regrown (hI'.c0 k (by omega))
              have q1 := inB_true.1 (HR.out (k + 1) (by omega))
              have q2 := inB_true.1 (HR.out k (by omega))
              have hp : badS xs r k = decide (r < far (gi xs (k + 1)) (gi xs k)) := rfl
              have HP := Lib.hid hp
              clear hI' hp
              have e1 : ((k : Int) + 1).toNat = k + 1 := by omega
              have e2 : 0 ≤ (k : Int) + 1 := by omega
              have e3 : (k : Int) + 1 < n2 := by omega
              have cF := fun d os => rg_same (rfar_c (gi xs (k + 1)) (gi xs k) (grow (redrawn wr d) os) (by omega) (by omega) (by omega) (by omega))
              generalize hfv : far (gi xs (k + 1)) (gi xs k) = fv at cF
              have HFV := Lib.hid hfv
              clear hfv
              go_wp2_with fail
              refine wp_region_B (by kernel_rfl) (by kernel_rfl) ?_
              repeat (go_big_quiet_step (exact cF _ _))
              refine wpQuiet_nil ?_
              intro w4 hb4
              by_cases hc : r < fv
              · have hd : decide (r < fv) = true := decT hc
                go_wp2_with fail
                go_ret
                exact ⟨by rw [ck_2 HE.out HX.out HG1.out (by rw [HL2.out, HF.out, scan_yes hlt (by rw [HP.out, HFV.out]; exact hd)]; rfl)]; rfl, btr hb' hb4⟩
              · have hd : decide (r < fv) = false := decF hc
                go_wp2_with fail
                exact ⟨⟨k + 1, by omega, by go_num, btr hb' hb4, by rw [HF.out, scan_no hlt (by rw [HP.out, HFV.out]; exact hd)]⟩, by simp [intOf]; omega⟩
            · have hd : ¬ (k : Int) + 1 < n2 := by omega
              have HG2 : Hid ((scanJ (badS xs r) (xs.length - 1) 0).isSome = false) := Lib.hid (by rw [HL2.out, HF.out, scan_end hlt]; rfl)
              clear hlt HF
              have B2 := hb'
              clear hb'
              go_wp2_with fail
              obtain ⟨wo, hwo⟩ : ∃ wo : World, wo = wr := ⟨_, rfl⟩
              rw [← hwo]
              rw [← hwo] at B2
              clear hwo wr hd hk
              go_loopw [11] (fun i wr => ∃ k : Nat, k ≤ n ∧ i = .int .i64 k ∧ Below w.heap.size w wr ∧ scanJ (badP L xs) n 0 = scanJ (badP L xs) (n - k) k) (fun i _ => n - (intOf i).toNat)
              case atStart => exact ⟨0, Nat.zero_le _, rfl, B2, rfl⟩
              case round =>
                obtain ⟨k, hk, rfl, hb', hF⟩ := hrel
                have HF := Lib.hid hF
                clear hF B2
                by_cases hlt : k < n
                · have hlL : k < L.length := by rw [HLn.out]; exact hlt
                  obtain ⟨t1, t2⟩ := times_bd HV.out hlL
                  have hS' := HS.out.below hb' (Nat.le_refl _)
                  have hI' := HI.out.below hb' (Nat.le_refl _)
                  have g1 := HT0.out
                  have k0 := cell_regrown (hS'.c0 k hlt)
                  have k1 := cell_regrown (hS'.c1 k hlt)
                  have k2 := cell_regrown (hS'.c2 k hlt)
                  have hlen := HX.out
                  rw [HLx.out] at hlen
                  have p1 : 0 ≤ (at_ L k).t - firstT L := by omega
                  have p2 : (at_ L k).t - firstT L < n2 := by omega
                  have k3 := cell_regrown (hI'.c0 ((at_ L k).t - firstT L).toNat (by omega))
                  have hbt := HV.out.bd hlL
                  have hp : badP L xs k = !inB (gi xs ((at_ L k).t - firstT L).toNat) (at_ L k).lo (at_ L k).hi := rfl
                  have HP := Lib.hid hp
                  clear hS' hI' hlen g1 hp
                  have cF := fun d os => rg_same (rwithin_c (gi xs ((at_ L k).t - firstT L).toNat) (at_ L k).lo (at_ L k).hi (grow (redrawn wr d) os))
                  by_cases hc : inB (gi xs ((at_ L k).t - firstT L).toNat) (at_ L k).lo (at_ L k).hi = true
                  · simp only [hc] at cF
                    go_wp2_with fail
                    refine wp_region_B (by kernel_rfl) (by kernel_rfl) ?_
                    repeat (go_big_quiet_step (exact cF _ _))
                    refine wpQuiet_nil ?_
                    intro w4 hb4
                    go_wp2_with fail
                    exact ⟨⟨k + 1, by omega, by go_num, btr hb' hb4, by rw [HF.out, scan_no hlt (by rw [HP.out, hc]; rfl)]⟩, by simp [intOf]; omega⟩
                  · replace hc : inB (gi xs ((at_ L k).t - firstT L).toNat) (at_ L k).lo (at_ L k).hi = false := by simpa using hc
                    simp only [hc] at cF
                    go_wp2_with fail
                    refine wp_region_B (by kernel_rfl) (by kernel_rfl) ?_
                    repeat (go_big_quiet_step (exact cF _ _))
                    refine wpQuiet_nil ?_
                    intro w4 hb4
                    go_wp2_with fail
                    go_ret
                    exact ⟨by rw [ck_3 HE.out HX.out HG1.out HG2.out (by rw [HLn.out, HF.out, scan_yes hlt (by rw [HP.out, hc]; rfl)]; rfl)]; rfl, btr hb' hb4⟩
                · have HK := Lib.hid hlt
                  have hd : ¬ (k : Int) < n := by omega
                  clear hlt
                  go_wp2_with fail
                  go_ret
                  exact ⟨by rw [ck_0 HE.out HX.out HG1.out HG2.out (by rw [HLn.out, HF.out, scan_end HK.out]; rfl)]; rfl, hb'⟩

    · have hne : ((n2 : Int) != lastT L - firstT L + 1) = true := by rw [bne_iff_ne, ← HLx.out]; exact hx
      have hE := ck_len HE.out hx
      rw [hE]
      clear hE hx
      go_enter Try.func32, Try.ntmps32
      go_wp2_with (first | (go_at_call 63; refine (rrated_c _ _ _ _ _ _ h).mono ?_; rintro e w1 ⟨rfl, hb⟩; obtain ⟨s1, s2⟩ := HFX.out _ hb))
      go_ret
      exact ⟨rfl, hb⟩
  · have hv0 : (rErr L r != 0) = true := by simpa using h0
    have hE : ckErr L r xs = rErr L r := by simp [ckErr, h0]
    rw [hE]
    clear h0 hE h2 hm2
    go_enter Try.func32, Try.ntmps32
    go_wp2_with (first | (go_at_call 63; refine (rrated_c _ _ _ _ _ _ h).mono ?_; rintro e w1 ⟨rfl, hb⟩))
    go_ret
    exact ⟨rfl, hb⟩

end Go.Proofs.Ytgbdcemlnklmoaa
