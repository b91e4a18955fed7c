/- Validate of drift and of its reference: their contracts. -/
import Derived.Test.YtgbdcemlnklmoaaA
namespace Go.Proofs.Ytgbdcemlnklmoaa
open Go.RowKit Go.Sort

set_option maxHeartbeats 800000 in
theorem validate_in (b o n c : Nat) (L : List Rd) (w : World) (hS : Sl w b o n L) (h1 : 1 ≤ n) (h8 : n ≤ 8) : Calls Try.prog 29 #[.slice (some ⟨b, o, none⟩) n c] w fun e w' => e = .returned (.int .i64 (okE L n)) ∧ Below w.heap.size w w' := by
  have HS := Lib.hid hS
  clear hS
  go_enter Try.func29, Try.ntmps29
  go_wp2
  go_loopw [3, 4, 15] (fun _ _ i wr => ∃ k : Nat, k ≤ n ∧ i = .int .i64 k ∧ Below w.heap.size w wr ∧ okFrom L n 0 = okFrom L (n - k) k) (fun _ _ i _ => n - (intOf i).toNat)
  case atStart => exact ⟨0, Nat.zero_le _, rfl, Below.refl _ _, rfl⟩
  case round =>
    obtain ⟨k, hk, rfl, hb, hokk⟩ := hrel
    have HK := Lib.hid hokk
    clear hokk
    by_cases hlt : k < n
    · have hn1 : okFrom L (n - k) k = (okAt L k && okFrom L (n - (k + 1)) (k + 1)) := by
        rw [show n - k = (n - (k + 1)) + 1 by omega]; rfl
      have hn2 : okAt L k = (okRd (at_ L k) && (decide (k = 0) || decide ((at_ L (k - 1)).t < (at_ L k).t))) := rfl
      have HN := Lib.hid (hn1.trans (by rw [hn2]) : okFrom L (n - k) k = (okRd (at_ L k) && (decide (k = 0) || decide ((at_ L (k - 1)).t < (at_ L k).t)) && okFrom L (n - (k + 1)) (k + 1)))
      clear hn1 hn2
      have hS' := HS.out.below hb (Nat.le_refl _)
      have c0 := hS'.c0 k hlt
      have c1 := hS'.c1 k hlt
      have c2 := hS'.c2 k hlt
      clear hS'
      go_wp2
      refine wp_world ?_
      intro w1 hw1
      have hb1 : Below w.heap.size w w1 := by rw [hw1]; exact hb.alloc hb.size _
      have x0 : w1.cell? ⟨wr.heap.size, 0, none⟩ = some (.int .i64 (at_ L k).t) := by rw [hw1]; simp [go_sem]
      have x1 : w1.cell? ⟨wr.heap.size, 1, none⟩ = some (.int .i64 (at_ L k).lo) := by rw [hw1]; simp [go_sem]
      have x2 : w1.cell? ⟨wr.heap.size, 2, none⟩ = some (.int .i64 (at_ L k).hi) := by rw [hw1]; simp [go_sem]
      have hS1 := HS.out.below hb1 (Nat.le_refl _)
      clear hw1
      have k0 := cell_regrown x0
      have k1 := cell_regrown x1
      have k2 := cell_regrown x2
      have cR := fun d os => Calls.regrown_of (isReading_c (at_ L k) (grow (redrawn w1 d) os))
      by_cases ho : okRd (at_ L k) = true
      · by_cases h0 : k = 0
        · subst h0
          refine wp_region_B (by kernel_rfl) (by kernel_rfl) ?_
          repeat (go_big_quiet_step (exact cR _ _))
          refine wpQuiet_nil ?_
          intro w2 hb2
          go_wp2
          exact ⟨⟨1, by omega, by go_num, btr hb1 hb2, by rw [HK.out, HN.out, ho]; rfl⟩, by simp [intOf]; omega⟩
        · have k3 := cell_regrown (hS1.c0 (k - 1) (by omega))
          clear hS1
          have hi : ((k : Int) - 1).toNat = k - 1 := by omega
          have hd2 : decide (0 < k) = true := by simp; omega
          have hp1 : 0 ≤ (k : Int) - 1 := by omega
          have hp2 : (k : Int) - 1 < n := by omega
          have h0' : decide (k = 0) = false := decF h0
          have H0 := Lib.hid h0'
          clear h0'
          by_cases ha : (at_ L (k-1)).t < (at_ L k).t
          · have HA := Lib.hid (decT ha)
            refine wp_region_B (by kernel_rfl) (by kernel_rfl) ?_
            repeat (go_big_quiet_step (exact cR _ _))
            refine wpQuiet_nil ?_
            intro w2 hb2
            go_wp2
            exact ⟨⟨k + 1, by omega, by go_num, btr hb1 hb2, by rw [HK.out, HN.out, ho, H0.out, HA.out]; rfl⟩, by simp [intOf]; omega⟩
          · have HA := Lib.hid (decF ha)
            refine wp_region_B (by kernel_rfl) (by kernel_rfl) ?_
            repeat (go_big_quiet_step (exact cR _ _))
            refine wpQuiet_nil ?_
            intro w2 hb2
            go_wp2
            go_ret
            exact ⟨by unfold okE; rw [HK.out, HN.out, ho, H0.out, HA.out]; rfl, btr hb1 hb2⟩
      · replace ho : okRd (at_ L k) = false := by simpa using ho
        refine wp_region_B (by kernel_rfl) (by kernel_rfl) ?_
        repeat (go_big_quiet_step (exact cR _ _))
        refine wpQuiet_nil ?_
        intro w2 hb2
        go_wp2
        go_ret
        exact ⟨by unfold okE; rw [HK.out, HN.out, ho]; rfl, btr hb1 hb2⟩
    · have hkn : n - k = 0 := by omega
      have HN := Lib.hid hkn
      clear hkn
      go_wp2
      go_ret
      exact ⟨by unfold okE; rw [HK.out, HN.out]; rfl, hb⟩


set_option maxHeartbeats 1600000 in
theorem rvalidate_in (b o n c : Nat) (L : List Rd) (w : World) (hS : Sl w b o n L) (h1 : 1 ≤ n) (h8 : n ≤ 8) : Calls Try.prog 30 #[.slice (some ⟨b, o, none⟩) n c] w fun e w' => e = .returned (.int .i64 (okE L n)) ∧ Below w.heap.size w w' := by
  have HS := Lib.hid hS
  clear hS
  have hin : inB (n : Int) 1 8 = true := inB_true.2 (by omega)
  go_enter Try.func30, Try.ntmps30
  go_wp2_with (go_at_call 64; refine (rwithin_c _ _ _ _).mono ?_; rintro e w' ⟨rfl, rfl⟩)
  clear hin
  go_loopw [3] (fun i wr => ∃ k : Nat, k ≤ n ∧ i = .int .i64 k ∧ Below w.heap.size w wr ∧ okFrom L n 0 = okFrom L (n - k) k) (fun i _ => n - (intOf i).toNat)
  case atStart => exact ⟨0, Nat.zero_le _, rfl, Below.refl _ _, rfl⟩
  case round =>
    obtain ⟨k, hk, rfl, hb, hokk⟩ := hrel
    have HK := Lib.hid hokk
    clear hokk
    by_cases hlt : k < n
    · have hn1 : okFrom L (n - k) k = (okAt L k && okFrom L (n - (k + 1)) (k + 1)) := by
        rw [show n - k = (n - (k + 1)) + 1 by omega]; rfl
      have hn2 : okAt L k = (inB (at_ L k).t 0 1000 && inB (at_ L k).lo (-1000) 1000 && inB (at_ L k).hi (at_ L k).lo 1000 && (decide (k = 0) || decide ((at_ L (k - 1)).t < (at_ L k).t))) := rfl
      have HN := Lib.hid (hn1.trans (by rw [hn2]) : okFrom L (n - k) k = (inB (at_ L k).t 0 1000 && inB (at_ L k).lo (-1000) 1000 && inB (at_ L k).hi (at_ L k).lo 1000 && (decide (k = 0) || decide ((at_ L (k - 1)).t < (at_ L k).t)) && okFrom L (n - (k + 1)) (k + 1)))
      clear hn1 hn2
      have hS' := HS.out.below hb (Nat.le_refl _)
      have k0 := cell_regrown (hS'.c0 k hlt)
      have km := fun h0 : 0 < k => cell_regrown (hS'.c0 (k - 1) (by omega))
      clear hS'
      go_wp2
      by_cases ht : inB (at_ L k).t 0 1000 = true
      · by_cases h0 : k = 0
        · have hd2 : decide (0 < k) = false := by simp; omega
          have H0 := Lib.hid h0
          clear km h0
          refine wp_region_B (by kernel_rfl) (by kernel_rfl) ?_
          repeat (go_big_quiet_step (first | exact rg_same (rwithin_c _ _ _ _)))
          refine wpQuiet_nil ?_

          intro w2 hb2'
          have hb2 := btr hb hb2'
          have HP : Hid ((decide (k = 0) || decide ((at_ L (k - 1)).t < (at_ L k).t)) = true) := Lib.hid (by rw [decT H0.out]; rfl)
          have HT := Lib.hid ht
          clear ht k0 hb2' hb hd2
          go_wp2
          have hS2 := HS.out.below hb2 (Nat.le_refl _)
          have d1 := cell_regrown (hS2.c1 k hlt)
          have d2 := cell_regrown (hS2.c2 k hlt)
          clear hS2
          by_cases hl : inB (at_ L k).lo (-1000) 1000 = true
          · by_cases hh : inB (at_ L k).hi (-1000) 1000 = true
            · by_cases hc : (at_ L k).hi < (at_ L k).lo
              · have hc' : inB (at_ L k).hi (at_ L k).lo 1000 = false := inB_false.2 (by omega)
                have HC := Lib.hid hc'
                clear hc'
                refine wp_region_B (by kernel_rfl) (by kernel_rfl) ?_
                repeat (go_big_quiet_step (first | exact rg_same (rwithin_c _ _ _ _)))
                refine wpQuiet_nil ?_

                intro w3 hb3
                go_wp2
                go_ret
                exact ⟨by unfold okE; rw [HK.out, HN.out, HT.out, hl, HC.out]; rfl, btr hb2 hb3⟩
              · have hc' : inB (at_ L k).hi (at_ L k).lo 1000 = true := inB_true.2 (by have := inB_true.1 hh; omega)
                have HC := Lib.hid hc'
                clear hc'
                refine wp_region_B (by kernel_rfl) (by kernel_rfl) ?_
                repeat (go_big_quiet_step (first | exact rg_same (rwithin_c _ _ _ _)))
                refine wpQuiet_nil ?_

                intro w3 hb3
                go_wp2
                exact ⟨⟨k + 1, by omega, by go_num, btr hb2 hb3, by rw [HK.out, HN.out, HT.out, hl, HC.out, HP.out]; rfl⟩, by simp [intOf]; omega⟩
            · replace hh : inB (at_ L k).hi (-1000) 1000 = false := by simpa using hh
              have hc' : inB (at_ L k).hi (at_ L k).lo 1000 = false := inB_false.2 (by have := inB_true.1 hl; have := inB_false.1 hh; omega)
              have HC := Lib.hid hc'
              clear hc'
              refine wp_region_B (by kernel_rfl) (by kernel_rfl) ?_
              repeat (go_big_quiet_step (first | exact rg_same (rwithin_c _ _ _ _)))
              refine wpQuiet_nil ?_

              intro w3 hb3
              go_wp2
              go_ret
              exact ⟨by unfold okE; rw [HK.out, HN.out, HT.out, hl, HC.out]; rfl, btr hb2 hb3⟩
          · replace hl : inB (at_ L k).lo (-1000) 1000 = false := by simpa using hl
            refine wp_region_B (by kernel_rfl) (by kernel_rfl) ?_
            repeat (go_big_quiet_step (first | exact rg_same (rwithin_c _ _ _ _)))
            refine wpQuiet_nil ?_

            intro w3 hb3
            go_wp2
            go_ret
            exact ⟨by unfold okE; rw [HK.out, HN.out, HT.out, hl]; rfl, btr hb2 hb3⟩

        · have k3 := km (by omega)
          clear km
          have hi : ((k : Int) - 1).toNat = k - 1 := by omega
          have hd2 : decide (0 < k) = true := by simp; omega
          have hp1 : 0 ≤ (k : Int) - 1 := by omega
          have hp2 : (k : Int) - 1 < n := by omega
          have H0 := Lib.hid (decF h0)
          by_cases ha : (at_ L (k-1)).t < (at_ L k).t
          · have HA := Lib.hid (decT ha)
            refine wp_region_B (by kernel_rfl) (by kernel_rfl) ?_
            repeat (go_big_quiet_step (first | exact rg_same (rwithin_c _ _ _ _)))
            refine wpQuiet_nil ?_

            intro w2 hb2'
            have hb2 := btr hb hb2'
            have HP : Hid ((decide (k = 0) || decide ((at_ L (k - 1)).t < (at_ L k).t)) = true) := Lib.hid (by rw [HA.out]; simp)
            have HT := Lib.hid ht
            clear ht k0 k3 hb2' hb hi hp1 hp2 hd2
            go_wp2
            have hS2 := HS.out.below hb2 (Nat.le_refl _)
            have d1 := cell_regrown (hS2.c1 k hlt)
            have d2 := cell_regrown (hS2.c2 k hlt)
            clear hS2
            by_cases hl : inB (at_ L k).lo (-1000) 1000 = true
            · by_cases hh : inB (at_ L k).hi (-1000) 1000 = true
              · by_cases hc : (at_ L k).hi < (at_ L k).lo
                · have hc' : inB (at_ L k).hi (at_ L k).lo 1000 = false := inB_false.2 (by omega)
                  have HC := Lib.hid hc'
                  clear hc'
                  refine wp_region_B (by kernel_rfl) (by kernel_rfl) ?_
                  repeat (go_big_quiet_step (first | exact rg_same (rwithin_c _ _ _ _)))
                  refine wpQuiet_nil ?_

                  intro w3 hb3
                  go_wp2
                  go_ret
                  exact ⟨by unfold okE; rw [HK.out, HN.out, HT.out, hl, HC.out]; rfl, btr hb2 hb3⟩
                · have hc' : inB (at_ L k).hi (at_ L k).lo 1000 = true := inB_true.2 (by have := inB_true.1 hh; omega)
                  have HC := Lib.hid hc'
                  clear hc'
                  refine wp_region_B (by kernel_rfl) (by kernel_rfl) ?_
                  repeat (go_big_quiet_step (first | exact rg_same (rwithin_c _ _ _ _)))
                  refine wpQuiet_nil ?_

                  intro w3 hb3
                  go_wp2
                  exact ⟨⟨k + 1, by omega, by go_num, btr hb2 hb3, by rw [HK.out, HN.out, HT.out, hl, HC.out, HP.out]; rfl⟩, by simp [intOf]; omega⟩
              · replace hh : inB (at_ L k).hi (-1000) 1000 = false := by simpa using hh
                have hc' : inB (at_ L k).hi (at_ L k).lo 1000 = false := inB_false.2 (by have := inB_true.1 hl; have := inB_false.1 hh; omega)
                have HC := Lib.hid hc'
                clear hc'
                refine wp_region_B (by kernel_rfl) (by kernel_rfl) ?_
                repeat (go_big_quiet_step (first | exact rg_same (rwithin_c _ _ _ _)))
                refine wpQuiet_nil ?_

                intro w3 hb3
                go_wp2
                go_ret
                exact ⟨by unfold okE; rw [HK.out, HN.out, HT.out, hl, HC.out]; rfl, btr hb2 hb3⟩
            · replace hl : inB (at_ L k).lo (-1000) 1000 = false := by simpa using hl
              refine wp_region_B (by kernel_rfl) (by kernel_rfl) ?_
              repeat (go_big_quiet_step (first | exact rg_same (rwithin_c _ _ _ _)))
              refine wpQuiet_nil ?_

              intro w3 hb3
              go_wp2
              go_ret
              exact ⟨by unfold okE; rw [HK.out, HN.out, HT.out, hl]; rfl, btr hb2 hb3⟩

          · have HA := Lib.hid (decF ha)
            refine wp_region_B (by kernel_rfl) (by kernel_rfl) ?_
            repeat (go_big_quiet_step (first | exact rg_same (rwithin_c _ _ _ _)))
            refine wpQuiet_nil ?_

            intro w2 hb2'
            go_wp2
            go_ret
            exact ⟨by unfold okE; rw [HK.out, HN.out, H0.out, HA.out]; simp, btr hb hb2'⟩
      · replace ht : inB (at_ L k).t 0 1000 = false := by simpa using ht
        clear km
        refine wp_region_B (by kernel_rfl) (by kernel_rfl) ?_
        repeat (go_big_quiet_step (first | exact rg_same (rwithin_c _ _ _ _)))
        refine wpQuiet_nil ?_

        intro w2 hb2'
        go_wp2
        go_ret
        exact ⟨by unfold okE; rw [HK.out, HN.out, ht]; rfl, btr hb hb2'⟩
    · have hkn : n - k = 0 := by omega
      have HN := Lib.hid hkn
      clear hkn
      go_wp2
      go_ret
      exact ⟨by unfold okE; rw [HK.out, HN.out]; rfl, hb⟩

end Go.Proofs.Ytgbdcemlnklmoaa
