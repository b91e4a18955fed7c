/- The first pair that clashes; whether readings agree: contracts, program and reference. -/
import Derived.Test.YtgbdcemlnklmoaaR
namespace Go.Proofs.Ytgbdcemlnklmoaa
open Go.RowKit Go.Sort

def pI (p : Option (Nat × Nat)) : Int := match p with | some q => (q.1 : Int) | none => 0
def pJ (p : Option (Nat × Nat)) : Int := match p with | some q => (q.2 : Int) | none => 0

/-- The first pair from row k, number j on. -/
def restJ (c : Nat → Nat → Bool) (n k j : Nat) : Option (Nat × Nat) := match scanJ (c k) (n - j) j with
  | some i => some (k, i)
  | none => scanI c n (n - (k + 1)) (k + 1)

theorem restJ_start {c : Nat → Nat → Bool} {n k : Nat} (h : k < n) : scanI c n (n - k) k = restJ c n k (k + 1) := by
  rw [show n - k = (n - (k + 1)) + 1 by omega]; rfl
theorem restJ_yes {c : Nat → Nat → Bool} {n k j : Nat} (h : j < n) (hc : c k j = true) : restJ c n k j = some (k, j) := by
  unfold restJ
  rw [show n - j = (n - (j + 1)) + 1 by omega]
  simp [scanJ, hc]
theorem restJ_no {c : Nat → Nat → Bool} {n k j : Nat} (h : j < n) (hc : c k j = false) : restJ c n k j = restJ c n k (j + 1) := by
  unfold restJ
  rw [show n - j = (n - (j + 1)) + 1 by omega]
  simp [scanJ, hc]
theorem restJ_end {c : Nat → Nat → Bool} {n k : Nat} : restJ c n k n = scanI c n (n - (k + 1)) (k + 1) := by
  unfold restJ
  rw [Nat.sub_self]; rfl


set_option maxHeartbeats 800000 in
theorem pair_c (b o n c : Nat) (L : List Rd) (r : Int) (w : World) (hS : Sl w b o n L) (hv : Valid L) (hr : 0 ≤ r) (hr9 : r ≤ 9) :
    Calls Try.prog 66 #[.slice (some ⟨b, o, none⟩) n c, .int .i64 r] w fun e w' => e = .returned (.tuple #[.int .i64 (pI (firstP L r)), .int .i64 (pJ (firstP L r)), .bool (firstP L r).isSome]) ∧ Below w.heap.size w w' := by
  have hn8 : n ≤ 8 := by have := hv.le; have := hS.len; omega
  have HL := Lib.hid hS.len
  have HF : Hid (firstP L r = scanI (clashAt L r) n n 0) := Lib.hid (by unfold firstP; rw [hS.len])
  generalize firstP L r = F at *
  have HS := Lib.hid hS
  have HV := Lib.hid hv
  clear hS hv
  go_enter Try.func66, Try.ntmps66
  go_wp2
  go_loopw [7] (fun i wr => ∃ k : Nat, k ≤ n ∧ i = .int .i64 k ∧ Below w.heap.size w wr ∧ F = scanI (clashAt L r) n (n - k) k) (fun i _ => n - (intOf i).toNat)
  case atStart => exact ⟨0, Nat.zero_le _, rfl, Below.refl _ _, HF.out⟩
  case round =>
    obtain ⟨k, hk, rfl, hb, hF⟩ := hrel
    have HF1 := Lib.hid hF
    clear hF HF
    by_cases hlt : k < n
    · go_wp2
      obtain ⟨wo, hwo⟩ : ∃ wo : World, wo = wr := ⟨_, rfl⟩
      rw [← hwo]
      rw [← hwo] at hb
      clear hwo wr
      go_loopw [8] (fun i wr => ∃ j : Nat, k + 1 ≤ j ∧ j ≤ n ∧ i = .int .i64 j ∧ Below w.heap.size w wr ∧ F = restJ (clashAt L r) n k j) (fun i _ => n - (intOf i).toNat)
      case atStart => exact ⟨k + 1, by omega, by omega, by go_num, hb, HF1.out.trans (restJ_start hlt)⟩
      case round =>
        obtain ⟨j, hj0, hj, rfl, hb', hF⟩ := hrel
        have HF2 := Lib.hid hF
        clear hF HF1 hb
        by_cases hjt : j < n
        · have hS' := HS.out.below hb' (Nat.le_refl _)
          have a0 := cell_regrown (hS'.c0 k hlt)
          have a1 := cell_regrown (hS'.c1 k hlt)
          have a2 := cell_regrown (hS'.c2 k hlt)
          have b0 := cell_regrown (hS'.c0 j hjt)
          have b1 := cell_regrown (hS'.c1 j hjt)
          have b2 := cell_regrown (hS'.c2 j hjt)
          clear hS'
          have cR := fun d os => Calls.regrown_of (rclash_c (at_ L k) (at_ L j) r (grow (redrawn wr d) os) (HV.out.ok k (by have := HL.out; omega)) (HV.out.ok j (by have := HL.out; omega)) hr hr9)
          by_cases hc : clashB (at_ L k) (at_ L j) r = true
          · simp only [hc] at cR
            go_wp2
            refine wp_region_B (by kernel_rfl) (by kernel_rfl) ?_
            repeat (go_big_quiet_step (exact cR _ _))
            refine wpQuiet_nil ?_
            intro w2 hb2
            go_wp2
            go_ret3
            exact ⟨by rw [HF2.out, restJ_yes hjt hc]; rfl, btr hb' hb2⟩
          · replace hc : clashB (at_ L k) (at_ L j) r = false := by simpa using hc
            simp only [hc] at cR
            go_wp2
            refine wp_region_B (by kernel_rfl) (by kernel_rfl) ?_
            repeat (go_big_quiet_step (exact cR _ _))
            refine wpQuiet_nil ?_
            intro w2 hb2
            go_wp2
            exact ⟨⟨j + 1, by omega, by omega, by go_num, btr hb' hb2, by rw [HF2.out, restJ_no hjt hc]⟩, by simp [intOf]; omega⟩
        · have hjn : j = n := by omega
          have HJ := Lib.hid hjn
          clear hjn
          go_wp2
          exact ⟨⟨k + 1, by omega, by go_num, hb', by rw [HF2.out, HJ.out, restJ_end]⟩, by simp [intOf]; omega⟩
    · have hkn : n - k = 0 := by omega
      have HN := Lib.hid hkn
      clear hkn
      go_wp2
      go_ret3
      exact ⟨by rw [HF1.out, HN.out]; rfl, hb⟩


set_option maxRecDepth 100000 in
set_option maxHeartbeats 1600000 in
theorem first_c (b o n c : Nat) (L : List Rd) (r : Int) (w : World) (hS : Sl w b o n L) (hv : Valid L) (hr : 0 ≤ r) (hr9 : r ≤ 9) :
    Calls Try.prog 65 #[.slice (some ⟨b, o, none⟩) n c, .int .i64 r] w fun e w' => e = .returned (.tuple #[.int .i64 (pI (firstP L r)), .int .i64 (pJ (firstP L r)), .bool (firstP L r).isSome]) ∧ Below w.heap.size w w' := by
  have hn8 : n ≤ 8 := by have := hv.le; have := hS.len; omega
  have HL := Lib.hid hS.len
  have HF : Hid (firstP L r = scanI (clashAt L r) n n 0) := Lib.hid (by unfold firstP; rw [hS.len])
  generalize firstP L r = F at *
  have HS := Lib.hid hS
  have HV := Lib.hid hv
  clear hS hv
  go_enter Try.func65, Try.ntmps65
  go_wp2
  refine wp_scope_jumps 0 (fun a' w' => Below w.heap.size w w' ∧ ∃ (u2 u3 u4 u5 u6 u10 u11 u12 u13 u14 u15 u16 u17 u18 u19 u20 u21 u22 u23 u24 u25 u26 u27 u28 u29 u30 u31 u32 u33 u34 u35 u36 : Value), a' = { tmps := #[.slice (some ⟨b, o, none⟩) n c, .int .i64 r, u2, u3, u4, u5, u6, .int .i64 (pI F), .int .i64 (pJ F), .bool F.isSome, u10, u11, u12, u13, u14, u15, u16, u17, u18, u19, u20, u21, u22, u23, u24, u25, u26, u27, u28, u29, u30, u31, u32, u33, u34, u35, u36], defers := [] }) (fun _ _ => 0) rfl ?_ ?_
  · go_wp2
    go_loopw [9, 12] (fun f i wr => ∃ k : Nat, k ≤ n ∧ f = .bool false ∧ i = .int .i64 k ∧ Below w.heap.size w wr ∧ F = scanI (clashAt L r) n (n - k) k) (fun _ i _ => n - (intOf i).toNat)
    case atStart => exact ⟨0, Nat.zero_le _, rfl, rfl, Below.refl _ _, HF.out⟩
    case round =>
      obtain ⟨k, hk, rfl, rfl, hb, hF⟩ := hrel
      have HF1 := Lib.hid hF
      clear hF HF
      by_cases hlt : k < n
      · go_wp2
        obtain ⟨wo, hwo⟩ : ∃ wo : World, wo = wr := ⟨_, rfl⟩
        rw [← hwo]
        rw [← hwo] at hb
        clear hwo wr
        go_loopw [8, 9] (fun i f wr => ∃ j : Nat, k + 1 ≤ j ∧ j ≤ n ∧ i = .int .i64 j ∧ f = .bool false ∧ Below w.heap.size w wr ∧ F = restJ (clashAt L r) n k j) (fun i _ _ => n - (intOf i).toNat)
        case atStart => exact ⟨k + 1, by omega, by omega, by go_num, rfl, hb, HF1.out.trans (restJ_start hlt)⟩
        case round =>
          obtain ⟨j, hj0, hj, rfl, rfl, hb', hF⟩ := hrel
          have HF2 := Lib.hid hF
          clear hF HF1 hb
          by_cases hjt : j < n
          · have hS' := HS.out.below hb' (Nat.le_refl _)
            have a0 := cell_regrown (hS'.c0 k hlt)
            have a1 := cell_regrown (hS'.c1 k hlt)
            have a2 := cell_regrown (hS'.c2 k hlt)
            have b0 := cell_regrown (hS'.c0 j hjt)
            have b1 := cell_regrown (hS'.c1 j hjt)
            have b2 := cell_regrown (hS'.c2 j hjt)
            clear hS'
            have cR := fun d os => Calls.regrown_of (clash_c (at_ L k) (at_ L j) r (grow (redrawn wr d) os) (HV.out.ok k (by have := HL.out; omega)) (HV.out.ok j (by have := HL.out; omega)) hr hr9)
            by_cases hc : clashB (at_ L k) (at_ L j) r = true
            · simp only [hc] at cR
              go_wp2
              refine wp_region_B (by kernel_rfl) (by kernel_rfl) ?_
              repeat (go_big_quiet_step (exact cR _ _))
              refine wpQuiet_nil ?_
              intro w2 hb2
              go_wp2
              go_step3
              refine ⟨rfl, btr hb' hb2, ?_⟩
              rw [HF2.out, restJ_yes hjt hc]
              repeat (apply Exists.intro)
              rfl
            · replace hc : clashB (at_ L k) (at_ L j) r = false := by simpa using hc
              simp only [hc] at cR
              go_wp2
              refine wp_region_B (by kernel_rfl) (by kernel_rfl) ?_
              repeat (go_big_quiet_step (exact cR _ _))
              refine wpQuiet_nil ?_
              intro w2 hb2
              go_wp2
              exact ⟨⟨j + 1, by omega, by omega, by go_num, rfl, btr hb' hb2, by rw [HF2.out, restJ_no hjt hc]⟩, by simp [intOf]; omega⟩
          · have hjn : j = n := by omega
            have HJ := Lib.hid hjn
            clear hjn
            go_wp2
            exact ⟨⟨k + 1, by omega, rfl, by go_num, hb', by rw [HF2.out, HJ.out, restJ_end]⟩, by simp [intOf]; omega⟩
      · have hkn : n - k = 0 := by omega
        have HN := Lib.hid hkn
        clear hkn
        go_wp2
        go_step3
        go_wp2
        simp only [Exit.jump]
        go_ret3
        exact ⟨by rw [HF1.out, HN.out]; rfl, hb⟩
  · rintro a' w' ⟨hb, u2, u3, u4, u5, u6, u10, u11, u12, u13, u14, u15, u16, u17, u18, u19, u20, u21, u22, u23, u24, u25, u26, u27, u28, u29, u30, u31, u32, u33, u34, u35, u36, rfl⟩
    go_wp2
    simp only [Exit.jump]
    go_ret3
    exact ⟨rfl, hb⟩


theorem agree_c (b o n c : Nat) (L : List Rd) (r : Int) (w : World) (hS : Sl w b o n L) (hv : Valid L) (hr : 0 ≤ r) (hr9 : r ≤ 9) :
    Calls Try.prog 56 #[.slice (some ⟨b, o, none⟩) n c, .int .i64 r] w fun e w' => e = .returned (.bool (agreeB L r)) ∧ Below w.heap.size w w' := by
  unfold agreeB
  go_enter Try.func56, Try.ntmps56
  go_wp2_with (go_at_call 65; refine (first_c _ _ _ _ _ _ _ hS hv hr hr9).mono ?_; rintro e w' ⟨rfl, hb⟩)
  go_ret
  exact ⟨rfl, hb⟩


theorem ragree_c (b o n c : Nat) (L : List Rd) (r : Int) (w : World) (hS : Sl w b o n L) (hv : Valid L) (hr : 0 ≤ r) (hr9 : r ≤ 9) :
    Calls Try.prog 59 #[.slice (some ⟨b, o, none⟩) n c, .int .i64 r] w fun e w' => e = .returned (.bool (agreeB L r)) ∧ Below w.heap.size w w' := by
  unfold agreeB
  go_enter Try.func59, Try.ntmps59
  go_wp2_with (go_at_call 66; refine (pair_c _ _ _ _ _ _ _ hS hv hr hr9).mono ?_; rintro e w' ⟨rfl, hb⟩)
  go_ret
  exact ⟨rfl, hb⟩

end Go.Proofs.Ytgbdcemlnklmoaa
