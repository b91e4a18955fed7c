/- The bounds at a time: contracts, program and reference. -/
import Derived.Test.YtgbdcemlnklmoaaF
namespace Go.Proofs.Ytgbdcemlnklmoaa
open Go.RowKit Go.Sort

set_option maxHeartbeats 1600000 in
theorem bounds_c (b o n c : Nat) (L : List Rd) (r t : Int) (w : World) (hS : Sl w b o n L) (hc : n ≤ c) (hm : c ≤ maxLen) (hv : Valid L) (hr : 0 ≤ r) (hr9 : r ≤ 9) (ht0 : 0 ≤ t) (ht : t ≤ 2000) :
    Calls Try.prog 57 #[.slice (some ⟨b, o, none⟩) n c, .int .i64 r, .int .i64 t] w fun e w' => e = .returned (.tuple #[.int .i64 (loP L r t (n - 1)), .int .i64 (hiP L r t (n - 1))]) ∧ Below w.heap.size w w' := by
  have hn8 : n ≤ 8 := by have := hv.le; have := hS.len; omega
  have hn1 : 1 ≤ n := by have := hv.pos; have := hS.len; omega
  have HL := Lib.hid hS.len
  unfold maxLen at hm
  have k0 := cell_regrown (hS.c0 0 (by omega))
  have k1 := cell_regrown (hS.c1 0 (by omega))
  have k2 := cell_regrown (hS.c2 0 (by omega))
  simp only [Nat.zero_mul, Nat.add_zero] at k0 k1 k2
  obtain ⟨⟨a1, a2⟩, ⟨a3, a4⟩, a5, a6⟩ := hv.bd (i := 0) (by have := hS.len; omega)
  have hfar : 0 ≤ far t (at_ L 0).t ∧ far t (at_ L 0).t ≤ 2000 := ⟨far_nonneg _ _, by unfold far; split <;> omega⟩
  obtain ⟨w1, w2⟩ := way_bd (r := r) (a := far t (at_ L 0).t) hr hr9 hfar.1 hfar.2
  have HS := Lib.hid hS
  have HV := Lib.hid hv
  clear hS hv
  have cF := fun d os => rg_same (far_c t (at_ L 0).t (grow (redrawn w d) os) (by omega) (by omega) (by omega) (by omega))
  have H0 : Hid (loP L r t 0 = (at_ L 0).lo - r * far t (at_ L 0).t) := rfl
  have H1 : Hid (hiP L r t 0 = (at_ L 0).hi + r * far t (at_ L 0).t) := rfl
  by_cases hc1 : c = 1
  · obtain rfl : n = 1 := by omega
    subst hc1
    go_enter Try.func57, Try.ntmps57
    go_wp2
    refine wp_region_B (by kernel_rfl) (by kernel_rfl) ?_
    repeat (go_big_quiet_step (exact cF _ _))
    refine wpQuiet_nil ?_
    intro w2 hb2
    go_wp2
    go_loopw [8, 9, 41] (fun l h i wr => wr = w2 ∧ l = .int .i64 (loP L r t 0) ∧ h = .int .i64 (hiP L r t 0) ∧ i = .int .i64 0) (fun _ _ _ _ => 0)
    case atStart => exact ⟨rfl, rfl, rfl, rfl⟩
    case round =>
      obtain ⟨rfl, rfl, rfl, rfl⟩ := hrel
      go_wp2
      go_ret2
      exact ⟨rfl, hb2⟩
  · go_enter Try.func57, Try.ntmps57
    go_wp2
    refine wp_region_B (by kernel_rfl) (by kernel_rfl) ?_
    repeat (go_big_quiet_step (exact cF _ _))
    refine wpQuiet_nil ?_
    intro w2 hb2
    clear cF k0 k1 k2
    go_wp2
    go_loopw [8, 9, 41] (fun l h i wr => ∃ k : Nat, k ≤ n - 1 ∧ l = .int .i64 (loP L r t k) ∧ h = .int .i64 (hiP L r t k) ∧ i = .int .i64 k ∧ Below w.heap.size w wr) (fun _ _ i _ => n - 1 - (intOf i).toNat)
    case atStart => exact ⟨0, Nat.zero_le _, by rw [H0.out], by rw [H1.out], rfl, hb2⟩
    case round =>
      obtain ⟨k, hk, rfl, rfl, rfl, hb⟩ := hrel
      clear w1 w2 hfar a1 a2 a3 a4 a5 a6 hb2
      by_cases hlt : k < n - 1
      · have hl : k + 1 < L.length := by have := HL.out; omega
        obtain ⟨⟨a1, a2⟩, ⟨a3, a4⟩, a5, a6⟩ := HV.out.bd hl
        have hfar : 0 ≤ far t (at_ L (k + 1)).t ∧ far t (at_ L (k + 1)).t ≤ 2000 := ⟨far_nonneg _ _, by unfold far; split <;> omega⟩
        obtain ⟨w1, w2⟩ := way_bd (r := r) (a := far t (at_ L (k + 1)).t) hr hr9 hfar.1 hfar.2
        have hbl := loP_bd HV.out hr hr9 ht0 ht k (by omega)
        have hbh := hiP_bd HV.out hr hr9 ht0 ht k (by omega)
        have Hl : Hid (loP L r t (k + 1) = max (loP L r t k) ((at_ L (k + 1)).lo - r * far t (at_ L (k + 1)).t)) := rfl
        have Hh : Hid (hiP L r t (k + 1) = min (hiP L r t k) ((at_ L (k + 1)).hi + r * far t (at_ L (k + 1)).t)) := rfl
        generalize loP L r t k = lk at *
        generalize hiP L r t k = hk' at *
        have hS' := HS.out.below hb (Nat.le_refl _)
        have c0 := hS'.c0 (k + 1) (by omega)
        have c1 := hS'.c1 (k + 1) (by omega)
        have c2 := hS'.c2 (k + 1) (by omega)
        clear hS'
        rw [show o + (k + 1) * 3 = o + 3 + k * 3 by omega] at c0 c1 c2
        go_wp2
        refine wp_world ?_
        intro w3 hw3
        have hb3 : Below w.heap.size w w3 := by rw [hw3]; exact hb.alloc hb.size _
        have x0 : w3.cell? ⟨wr.heap.size, 0, none⟩ = some (.int .i64 (at_ L (k + 1)).t) := by rw [hw3]; simp [go_sem]
        have x1 : w3.cell? ⟨wr.heap.size, 1, none⟩ = some (.int .i64 (at_ L (k + 1)).lo) := by rw [hw3]; simp [go_sem]
        have x2 : w3.cell? ⟨wr.heap.size, 2, none⟩ = some (.int .i64 (at_ L (k + 1)).hi) := by rw [hw3]; simp [go_sem]
        have hlt3 : wr.heap.size < w3.heap.size := by rw [hw3]; simp
        clear hw3 c0 c1 c2
        have k0 := cell_regrown x0
        have k1 := cell_regrown x1
        have cF1 := fun d os => rg_same (far_c t (at_ L (k + 1)).t (grow (redrawn w3 d) os) (by omega) (by omega) (by omega) (by omega))
        by_cases h1 : lk < (at_ L (k + 1)).lo - r * far t (at_ L (k + 1)).t
        · have HM : Hid (max lk ((at_ L (k + 1)).lo - r * far t (at_ L (k + 1)).t) = ((at_ L (k + 1)).lo - r * far t (at_ L (k + 1)).t)) := Lib.hid (by omega)
          refine wp_region_B (by kernel_rfl) (by kernel_rfl) ?_
          repeat (go_big_quiet_step (exact cF1 _ _))
          refine wpQuiet_nil ?_
          intro w4 hb4
          have y0 : w4.cell? _ = _ := (hb4.cell (p := ⟨wr.heap.size, 0, none⟩) hlt3).trans x0
          have y2 : w4.cell? _ = _ := (hb4.cell (p := ⟨wr.heap.size, 2, none⟩) hlt3).trans x2
          clear cF1 k0 k1 x0 x2
          have z0 := cell_regrown y0
          have z2 := cell_regrown y2
          clear y0 y2
          have cF2 := fun d os => rg_same (far_c t (at_ L (k + 1)).t (grow (redrawn w4 d) os) (by omega) (by omega) (by omega) (by omega))
          go_wp2
          by_cases h2 : (at_ L (k + 1)).hi + r * far t (at_ L (k + 1)).t < hk'
          · have HN : Hid (min hk' ((at_ L (k + 1)).hi + r * far t (at_ L (k + 1)).t) = ((at_ L (k + 1)).hi + r * far t (at_ L (k + 1)).t)) := Lib.hid (by omega)
            refine wp_region_B (by kernel_rfl) (by kernel_rfl) ?_
            repeat (go_big_quiet_step (exact cF2 _ _))
            refine wpQuiet_nil ?_
            intro w5 hb5
            go_wp2
            exact ⟨⟨k + 1, by omega, by rw [Hl.out, HM.out], by rw [Hh.out, HN.out], by go_num, btr (btr hb3 hb4) hb5⟩, by simp [intOf]; omega⟩
          · have HN : Hid (min hk' ((at_ L (k + 1)).hi + r * far t (at_ L (k + 1)).t) = hk') := Lib.hid (by omega)
            refine wp_region_B (by kernel_rfl) (by kernel_rfl) ?_
            repeat (go_big_quiet_step (exact cF2 _ _))
            refine wpQuiet_nil ?_
            intro w5 hb5
            go_wp2
            exact ⟨⟨k + 1, by omega, by rw [Hl.out, HM.out], by rw [Hh.out, HN.out], by go_num, btr (btr hb3 hb4) hb5⟩, by simp [intOf]; omega⟩
        · have HM : Hid (max lk ((at_ L (k + 1)).lo - r * far t (at_ L (k + 1)).t) = lk) := Lib.hid (by omega)
          refine wp_region_B (by kernel_rfl) (by kernel_rfl) ?_
          repeat (go_big_quiet_step (exact cF1 _ _))
          refine wpQuiet_nil ?_
          intro w4 hb4
          have y0 : w4.cell? _ = _ := (hb4.cell (p := ⟨wr.heap.size, 0, none⟩) hlt3).trans x0
          have y2 : w4.cell? _ = _ := (hb4.cell (p := ⟨wr.heap.size, 2, none⟩) hlt3).trans x2
          clear cF1 k0 k1 x0 x2
          have z0 := cell_regrown y0
          have z2 := cell_regrown y2
          clear y0 y2
          have cF2 := fun d os => rg_same (far_c t (at_ L (k + 1)).t (grow (redrawn w4 d) os) (by omega) (by omega) (by omega) (by omega))
          go_wp2
          by_cases h2 : (at_ L (k + 1)).hi + r * far t (at_ L (k + 1)).t < hk'
          · have HN : Hid (min hk' ((at_ L (k + 1)).hi + r * far t (at_ L (k + 1)).t) = ((at_ L (k + 1)).hi + r * far t (at_ L (k + 1)).t)) := Lib.hid (by omega)
            refine wp_region_B (by kernel_rfl) (by kernel_rfl) ?_
            repeat (go_big_quiet_step (exact cF2 _ _))
            refine wpQuiet_nil ?_
            intro w5 hb5
            go_wp2
            exact ⟨⟨k + 1, by omega, by rw [Hl.out, HM.out], by rw [Hh.out, HN.out], by go_num, btr (btr hb3 hb4) hb5⟩, by simp [intOf]; omega⟩
          · have HN : Hid (min hk' ((at_ L (k + 1)).hi + r * far t (at_ L (k + 1)).t) = hk') := Lib.hid (by omega)
            refine wp_region_B (by kernel_rfl) (by kernel_rfl) ?_
            repeat (go_big_quiet_step (exact cF2 _ _))
            refine wpQuiet_nil ?_
            intro w5 hb5
            go_wp2
            exact ⟨⟨k + 1, by omega, by rw [Hl.out, HM.out], by rw [Hh.out, HN.out], by go_num, btr (btr hb3 hb4) hb5⟩, by simp [intOf]; omega⟩
      · have hkn : n - 1 = k := by omega
        have HK := Lib.hid hkn
        clear hkn
        go_wp2
        go_ret2
        exact ⟨by rw [HK.out]; rfl, hb⟩


set_option maxHeartbeats 1600000 in
theorem rbounds_c (b o n c : Nat) (L : List Rd) (r t : Int) (w : World) (hS : Sl w b o n L) (hv : Valid L) (hr : 0 ≤ r) (hr9 : r ≤ 9) (ht0 : 0 ≤ t) (ht : t ≤ 2000) :
    Calls Try.prog 60 #[.slice (some ⟨b, o, none⟩) n c, .int .i64 r, .int .i64 t] w fun e w' => e = .returned (.tuple #[.int .i64 (loP L r t (n - 1)), .int .i64 (hiP L r t (n - 1))]) ∧ Below w.heap.size w w' := by
  have hn8 : n ≤ 8 := by have := hv.le; have := hS.len; omega
  have hn1 : 1 ≤ n := by have := hv.pos; have := hS.len; omega
  have HL := Lib.hid hS.len
  have k0 := cell_regrown (hS.c0 0 (by omega))
  have k1 := cell_regrown (hS.c1 0 (by omega))
  have k2 := cell_regrown (hS.c2 0 (by omega))
  simp only [Nat.zero_mul, Nat.add_zero] at k0 k1 k2
  obtain ⟨⟨a1, a2⟩, ⟨a3, a4⟩, a5, a6⟩ := hv.bd (i := 0) (by have := hS.len; omega)
  have hfar : 0 ≤ far t (at_ L 0).t ∧ far t (at_ L 0).t ≤ 2000 := ⟨far_nonneg _ _, by unfold far; split <;> omega⟩
  obtain ⟨w1, w2⟩ := way_bd (r := r) (a := far t (at_ L 0).t) hr hr9 hfar.1 hfar.2
  have HS := Lib.hid hS
  have HV := Lib.hid hv
  clear hS hv
  have cF := fun d os => rg_same (rfar_c (at_ L 0).t t (grow (redrawn w d) os) (by omega) (by omega) (by omega) (by omega))
  simp only [far_comm (at_ L 0).t t] at cF
  have H0 : Hid (loP L r t 0 = (at_ L 0).lo - r * far t (at_ L 0).t) := rfl
  have H1 : Hid (hiP L r t 0 = (at_ L 0).hi + r * far t (at_ L 0).t) := rfl
  go_enter Try.func60, Try.ntmps60
  go_wp2
  refine wp_region_B (by kernel_rfl) (by kernel_rfl) ?_
  repeat (go_big_quiet_step (exact cF _ _))
  refine wpQuiet_nil ?_
  intro w2 hb2
  clear cF k0 k1 k2
  go_wp2
  go_loopw [8, 9, 10] (fun l h i wr => ∃ k : Nat, k ≤ n - 1 ∧ l = .int .i64 (loP L r t k) ∧ h = .int .i64 (hiP L r t k) ∧ i = .int .i64 (k + 1 : Nat) ∧ Below w.heap.size w wr) (fun _ _ i _ => n - (intOf i).toNat)
  case atStart => exact ⟨0, Nat.zero_le _, by rw [H0.out], by rw [H1.out], rfl, hb2⟩
  case round =>
    obtain ⟨k, hk, rfl, rfl, rfl, hb⟩ := hrel
    clear w1 w2 hfar a1 a2 a3 a4 a5 a6 hb2
    by_cases hlt : k < n - 1
    · have hl : k + 1 < L.length := by have := HL.out; omega
      obtain ⟨⟨a1, a2⟩, ⟨a3, a4⟩, a5, a6⟩ := HV.out.bd hl
      have hfar : 0 ≤ far t (at_ L (k + 1)).t ∧ far t (at_ L (k + 1)).t ≤ 2000 := ⟨far_nonneg _ _, by unfold far; split <;> omega⟩
      obtain ⟨w1, w2⟩ := way_bd (r := r) (a := far t (at_ L (k + 1)).t) hr hr9 hfar.1 hfar.2
      have hbl := loP_bd HV.out hr hr9 ht0 ht k (by omega)
      have hbh := hiP_bd HV.out hr hr9 ht0 ht k (by omega)
      have Hl : Hid (loP L r t (k + 1) = max (loP L r t k) ((at_ L (k + 1)).lo - r * far t (at_ L (k + 1)).t)) := rfl
      have Hh : Hid (hiP L r t (k + 1) = min (hiP L r t k) ((at_ L (k + 1)).hi + r * far t (at_ L (k + 1)).t)) := rfl
      generalize loP L r t k = lk at *
      generalize hiP L r t k = hk' at *
      have hS' := HS.out.below hb (Nat.le_refl _)
      have c0 := hS'.c0 (k + 1) (by omega)
      have c1 := hS'.c1 (k + 1) (by omega)
      have c2 := hS'.c2 (k + 1) (by omega)
      clear hS'
      have hb3 := hb
      obtain ⟨w3, hw3⟩ : ∃ w3 : World, w3 = wr := ⟨_, rfl⟩
      rw [← hw3] at c0 c1 c2 hb3
      have x0 := c0
      have x2 := c2
      have k0 := cell_regrown c0
      have k1 := cell_regrown c1
      go_wp2
      rw [← hw3]
      clear hw3 c0 c1 c2
      have e1 : ((k : Int) + 1).toNat = k + 1 := by omega
      have e2 : 0 ≤ (k : Int) + 1 := by omega
      have e3 : (k : Int) + 1 < n := by omega
      have cF1 := fun d os => rg_same (rfar_c (at_ L (k + 1)).t t (grow (redrawn w3 d) os) (by omega) (by omega) (by omega) (by omega))
      simp only [far_comm (at_ L (k + 1)).t t] at cF1
      by_cases h1 : lk < (at_ L (k + 1)).lo - r * far t (at_ L (k + 1)).t
      · have HM : Hid (max lk ((at_ L (k + 1)).lo - r * far t (at_ L (k + 1)).t) = ((at_ L (k + 1)).lo - r * far t (at_ L (k + 1)).t)) := Lib.hid (by omega)
        refine wp_region_B (by kernel_rfl) (by kernel_rfl) ?_
        repeat (go_big_quiet_step (exact cF1 _ _))
        refine wpQuiet_nil ?_
        intro w4 hb4
        have y0 := (HS.out.below (btr hb3 hb4) (Nat.le_refl _)).c0 (k + 1) (by omega)
        have y2 := (HS.out.below (btr hb3 hb4) (Nat.le_refl _)).c2 (k + 1) (by omega)
        clear cF1 k0 k1 x0 x2
        have z0 := cell_regrown y0
        have z2 := cell_regrown y2
        clear y0 y2
        have cF2 := fun d os => rg_same (rfar_c (at_ L (k + 1)).t t (grow (redrawn w4 d) os) (by omega) (by omega) (by omega) (by omega))
        simp only [far_comm (at_ L (k + 1)).t t] at cF2
        go_wp2
        by_cases h2 : (at_ L (k + 1)).hi + r * far t (at_ L (k + 1)).t < hk'
        · have HN : Hid (min hk' ((at_ L (k + 1)).hi + r * far t (at_ L (k + 1)).t) = ((at_ L (k + 1)).hi + r * far t (at_ L (k + 1)).t)) := Lib.hid (by omega)
          refine wp_region_B (by kernel_rfl) (by kernel_rfl) ?_
          repeat (go_big_quiet_step (exact cF2 _ _))
          refine wpQuiet_nil ?_
          intro w5 hb5
          go_wp2
          exact ⟨⟨k + 1, by omega, by rw [Hl.out, HM.out], by rw [Hh.out, HN.out], by go_num, btr (btr hb3 hb4) hb5⟩, by simp [intOf]; omega⟩
        · have HN : Hid (min hk' ((at_ L (k + 1)).hi + r * far t (at_ L (k + 1)).t) = hk') := Lib.hid (by omega)
          refine wp_region_B (by kernel_rfl) (by kernel_rfl) ?_
          repeat (go_big_quiet_step (exact cF2 _ _))
          refine wpQuiet_nil ?_
          intro w5 hb5
          go_wp2
          exact ⟨⟨k + 1, by omega, by rw [Hl.out, HM.out], by rw [Hh.out, HN.out], by go_num, btr (btr hb3 hb4) hb5⟩, by simp [intOf]; omega⟩
      · have HM : Hid (max lk ((at_ L (k + 1)).lo - r * far t (at_ L (k + 1)).t) = lk) := Lib.hid (by omega)
        refine wp_region_B (by kernel_rfl) (by kernel_rfl) ?_
        repeat (go_big_quiet_step (exact cF1 _ _))
        refine wpQuiet_nil ?_
        intro w4 hb4
        have y0 := (HS.out.below (btr hb3 hb4) (Nat.le_refl _)).c0 (k + 1) (by omega)
        have y2 := (HS.out.below (btr hb3 hb4) (Nat.le_refl _)).c2 (k + 1) (by omega)
        clear cF1 k0 k1 x0 x2
        have z0 := cell_regrown y0
        have z2 := cell_regrown y2
        clear y0 y2
        have cF2 := fun d os => rg_same (rfar_c (at_ L (k + 1)).t t (grow (redrawn w4 d) os) (by omega) (by omega) (by omega) (by omega))
        simp only [far_comm (at_ L (k + 1)).t t] at cF2
        go_wp2
        by_cases h2 : (at_ L (k + 1)).hi + r * far t (at_ L (k + 1)).t < hk'
        · have HN : Hid (min hk' ((at_ L (k + 1)).hi + r * far t (at_ L (k + 1)).t) = ((at_ L (k + 1)).hi + r * far t (at_ L (k + 1)).t)) := Lib.hid (by omega)
          refine wp_region_B (by kernel_rfl) (by kernel_rfl) ?_
          repeat (go_big_quiet_step (exact cF2 _ _))
          refine wpQuiet_nil ?_
          intro w5 hb5
          go_wp2
          exact ⟨⟨k + 1, by omega, by rw [Hl.out, HM.out], by rw [Hh.out, HN.out], by go_num, btr (btr hb3 hb4) hb5⟩, by simp [intOf]; omega⟩
        · have HN : Hid (min hk' ((at_ L (k + 1)).hi + r * far t (at_ L (k + 1)).t) = hk') := Lib.hid (by omega)
          refine wp_region_B (by kernel_rfl) (by kernel_rfl) ?_
          repeat (go_big_quiet_step (exact cF2 _ _))
          refine wpQuiet_nil ?_
          intro w5 hb5
          go_wp2
          exact ⟨⟨k + 1, by omega, by rw [Hl.out, HM.out], by rw [Hh.out, HN.out], by go_num, btr (btr hb3 hb4) hb5⟩, by simp [intOf]; omega⟩
    · have hkn : n - 1 = k := by omega
      have HK := Lib.hid hkn
      clear hkn
      go_wp2
      go_ret2
      exact ⟨by rw [HK.out]; rfl, hb⟩

end Go.Proofs.Ytgbdcemlnklmoaa
