/- Needless of the program and of the reference: contracts. -/
import Derived.Test.YtgbdcemlnklmoaaQ
import Derived.Test.YtgbdcemlnklmoaaL
import Derived.Maps.AppendAt
namespace Go.Proofs.Ytgbdcemlnklmoaa
open Go.RowKit Go.Sort
set_option maxRecDepth 100000 in
set_option maxHeartbeats 1600000 in
theorem Equal_c (a : Option Addr) (n c : Nat) (A : List Rd) (a2 : Option Addr) (n2 c2 : Nat) (B : List Rd) (w : World) (h : SlO w a n A) (h2 : SlO w a2 n2 B) (hn : n ≤ 9223372036854775807) :
    Calls Try.prog 84 #[.slice a n c, .slice a2 n2 c2] w fun e w' => e = .returned (.bool (sameB A B)) ∧ Below w.heap.size w w' := by
  by_cases hl : n = n2
  · have hne : ((n : Int) != (n2 : Int)) = false := by simp [hl]
    have HR : Hid (∀ s : Bool, (scanJ (neqR A B) n 0).isSome = s → sameB A B = !s) := Lib.hid (by
      intro s hs
      unfold sameB
      rw [← h.1, ← h2.1, hs]
      simp [hl])
    generalize sameB A B = R at *
    have HL := Lib.hid hl
    by_cases h0 : n = 0
    · have H0 := Lib.hid h0
      have hR : R = true := by rw [HR.out false (by rw [h0]; rfl)]; rfl
      rw [hR]
      have hd : ¬ (0 : Int) < (n : Int) := by omega
      clear hR h h2 h0 hl HR
      go_enter Try.func84, Try.ntmps84
      go_wp2_with fail
      go_loopw [13] (fun i wr => wr = w ∧ i = .int .i64 0) (fun _ _ => 0)
      case atStart => exact ⟨rfl, rfl⟩
      case round =>
        obtain ⟨rfl, rfl⟩ := hrel
        go_wp2_with fail
        go_ret
        exact ⟨rfl, Below.refl _ _⟩
    · obtain ⟨b, o, rfl, hS⟩ : ∃ b o, a = some ⟨b, o, none⟩ ∧ Sl w b o n A := by
        rcases h.2 with h' | h'
        · exact absurd h' h0
        · exact h'
      obtain ⟨b2, o2, rfl, hS2⟩ : ∃ b o, a2 = some ⟨b, o, none⟩ ∧ Sl w b o n2 B := by
        rcases h2.2 with h' | h'
        · exact absurd (hl.trans h') h0
        · exact h'
      have HS := Lib.hid hS
      have HS2 := Lib.hid hS2
      have hle : n ≤ n2 := by omega
      clear h h2 hS hS2 hl h0
      go_enter Try.func84, Try.ntmps84
      go_wp2_with fail
      go_loopw [13] (fun i wr => ∃ k : Nat, k ≤ n ∧ i = .int .i64 k ∧ Below w.heap.size w wr ∧ scanJ (neqR A B) n 0 = scanJ (neqR A B) (n - k) k) (fun i _ => n - (intOf i).toNat)
      case atStart => exact ⟨0, Nat.zero_le _, rfl, Below.refl _ _, rfl⟩
      case round =>
        obtain ⟨k, hk, rfl, hb, hF⟩ := hrel
        have HF := Lib.hid hF
        clear hF
        by_cases hlt : k < n
        · have hS' := HS.out.below hb (Nat.le_refl _)
          have k0 := cell_regrown (hS'.c0 k hlt)
          have k1 := cell_regrown (hS'.c1 k hlt)
          have k2 := cell_regrown (hS'.c2 k hlt)
          have hT' := HS2.out.below hb (Nat.le_refl _)
          have m0 := cell_regrown (hT'.c0 k (by omega))
          have m1 := cell_regrown (hT'.c1 k (by omega))
          have m2 := cell_regrown (hT'.c2 k (by omega))
          have hlt2 : k < n2 := by omega
          clear hS' hT'
          have hpk : neqR A B k = !(decide ((at_ A k).t = (at_ B k).t) && decide ((at_ A k).lo = (at_ B k).lo) && decide ((at_ A k).hi = (at_ B k).hi)) := rfl
          have HP := Lib.hid hpk
          clear hpk
          have hx : (neqR A B k = true ∧ ((((at_ A k).t == (at_ B k).t) = false) ∨ ((((at_ A k).t == (at_ B k).t) = true) ∧ (((at_ A k).lo == (at_ B k).lo) = false)) ∨ ((((at_ A k).t == (at_ B k).t) = true) ∧ (((at_ A k).lo == (at_ B k).lo) = true) ∧ (((at_ A k).hi == (at_ B k).hi) = false)))) ∨
              (neqR A B k = false ∧ ((at_ A k).t == (at_ B k).t) = true ∧ ((at_ A k).lo == (at_ B k).lo) = true ∧ ((at_ A k).hi == (at_ B k).hi) = true) := by
            rw [HP.out]
            by_cases c1 : (at_ A k).t = (at_ B k).t
            · by_cases c2 : (at_ A k).lo = (at_ B k).lo
              · by_cases c3 : (at_ A k).hi = (at_ B k).hi
                · right; simp [c1, c2, c3]
                · left; simp [c1, c2, c3]
              · left; simp [c1, c2]
            · left; simp [c1]
          rcases hx with ⟨hx, c1 | ⟨c1, c2⟩ | ⟨c1, c2, c3⟩⟩ | ⟨hx, c1, c2, c3⟩
          · go_wp2_with fail
            refine wp_region_B (by kernel_rfl) (by kernel_rfl) ?_
            repeat (go_big_quiet_step (fail))
            refine wpQuiet_nil ?_
            intro w2 hb2
            go_wp2_with fail
            go_ret
            exact ⟨by rw [HR.out true (by rw [HF.out, scan_yes hlt hx]; rfl)]; rfl, btr hb hb2⟩
          · go_wp2_with fail
            refine wp_region_B (by kernel_rfl) (by kernel_rfl) ?_
            repeat (go_big_quiet_step (fail))
            refine wpQuiet_nil ?_
            intro w2 hb2
            go_wp2_with fail
            go_ret
            exact ⟨by rw [HR.out true (by rw [HF.out, scan_yes hlt hx]; rfl)]; rfl, btr hb hb2⟩
          · go_wp2_with fail
            refine wp_region_B (by kernel_rfl) (by kernel_rfl) ?_
            repeat (go_big_quiet_step (fail))
            refine wpQuiet_nil ?_
            intro w2 hb2
            go_wp2_with fail
            go_ret
            exact ⟨by rw [HR.out true (by rw [HF.out, scan_yes hlt hx]; rfl)]; rfl, btr hb hb2⟩
          · go_wp2_with fail
            refine wp_region_B (by kernel_rfl) (by kernel_rfl) ?_
            repeat (go_big_quiet_step (fail))
            refine wpQuiet_nil ?_
            intro w2 hb2
            go_wp2_with fail
            exact ⟨⟨k + 1, by omega, by go_num, btr hb hb2, by rw [HF.out, scan_no hlt hx]⟩, by simp [intOf]; omega⟩
        · have HK := Lib.hid hlt
          have hd : ¬ (k : Int) < n := by omega
          clear hlt
          go_wp2_with fail
          go_ret
          exact ⟨by rw [HR.out false (by rw [HF.out, scan_end HK.out]; rfl)]; rfl, hb⟩
  · have hne : ((n : Int) != (n2 : Int)) = true := by simp; omega
    have hR : sameB A B = false := by
      unfold sameB
      rw [← h.1, ← h2.1]
      simp [hl]
    rw [hR]
    clear hR h h2 hl hn
    go_enter Try.func84, Try.ntmps84
    go_wp2_with fail
    go_ret
    exact ⟨rfl, Below.refl _ _⟩



set_option maxRecDepth 100000 in
set_option maxHeartbeats 1600000 in
theorem SameInts_c (a : Option Addr) (n c : Nat) (xs : List Int) (a2 : Option Addr) (c2 : Nat) (w : World) (h : IsO w a n xs) (h2 : IsO w a2 n xs) (hn : n ≤ 9223372036854775807) :
    Calls Try.prog 53 #[.slice a n c, .slice a2 n c2] w fun e w' => e = .returned (.bool true) ∧ Below w.heap.size w w' := by
  have hne : ((n : Int) != (n : Int)) = false := by simp
  by_cases h0 : n = 0
  · have hd : ¬ (0 : Int) < (n : Int) := by omega
    clear h h2 h0
    go_enter Try.func53, Try.ntmps53
    go_wp2_with fail
    go_loopw [5] (fun i wr => wr = w ∧ i = .int .i64 0) (fun _ _ => 0)
    case atStart => exact ⟨rfl, rfl⟩
    case round =>
      obtain ⟨rfl, rfl⟩ := hrel
      go_wp2_with fail
      go_ret
      exact ⟨rfl, Below.refl _ _⟩
  · obtain ⟨b, o, rfl, hS⟩ : ∃ b o, a = some ⟨b, o, none⟩ ∧ Is w b o n xs := by
      rcases h.2 with h' | h'
      · exact absurd h' h0
      · exact h'
    obtain ⟨b2, o2, rfl, hS2⟩ : ∃ b o, a2 = some ⟨b, o, none⟩ ∧ Is w b o n xs := by
      rcases h2.2 with h' | h'
      · exact absurd h' h0
      · exact h'
    have HS := Lib.hid hS
    have HS2 := Lib.hid hS2
    clear h h2 hS hS2 h0
    go_enter Try.func53, Try.ntmps53
    go_wp2_with fail
    go_loopw [5] (fun i wr => ∃ k : Nat, k ≤ n ∧ i = .int .i64 k ∧ Below w.heap.size w wr) (fun i _ => n - (intOf i).toNat)
    case atStart => exact ⟨0, Nat.zero_le _, rfl, Below.refl _ _⟩
    case round =>
      obtain ⟨k, hk, rfl, hb⟩ := hrel
      by_cases hlt : k < n
      · have k0 := cell_regrown ((HS.out.below hb (Nat.le_refl _)).c0 k hlt)
        have m0 := cell_regrown ((HS2.out.below hb (Nat.le_refl _)).c0 k hlt)
        have c1 : ((gi xs k) != (gi xs k)) = false := by simp
        go_wp2_with fail
        refine wp_region_B (by kernel_rfl) (by kernel_rfl) ?_
        repeat (go_big_quiet_step (fail))
        refine wpQuiet_nil ?_
        intro w2 hb2
        go_wp2_with fail
        exact ⟨⟨k + 1, by omega, by go_num, btr hb hb2⟩, by simp [intOf]; omega⟩
      · have hd : ¬ (k : Int) < n := by omega
        clear hlt
        go_wp2_with fail
        go_ret
        exact ⟨rfl, hb⟩

theorem slo_open {w : World} {a : Option Addr} {n : Nat} {L : List Rd} (h : SlO w a n L) (hn : n ≠ 0) : ∃ b o, a = some ⟨b, o, none⟩ ∧ Sl w b o n L := by
  rcases h.2 with h' | h'
  · exact absurd h' hn
  · exact h'

/-- A row of ints and an errno come back. -/
def RetNd (w : World) (L : List Rd) (r : Int) (e : Ending) (w' : World) : Prop :=
  ∃ v, e = .returned (.tuple #[v, .int .i64 (rErr L r)]) ∧ IsV w' w.heap.size v (ndR L r) ∧ Below w.heap.size w w'


set_option maxRecDepth 100000 in
set_option maxHeartbeats 3200000 in
theorem Needless_c (a : Option Addr) (n c : Nat) (L : List Rd) (r : Int) (w : World) (h : SlO w a n L) (hc : n ≤ c) (hm : c ≤ maxLen) : Calls Try.prog 51 #[.slice a n c, .int .i64 r] w (RetNd w L r) := by
  obtain ⟨i0, hi, hz0, hz1, hz2⟩ := info_parts info3
  unfold RetNd
  have _ := hm
  by_cases h0 : rErr L r = 0
  · have hv0 : (rErr L r != 0) = false := by rw [h0]; rfl
    obtain ⟨hv, hr, hr9⟩ := rErr_zero.1 h0
    have hp := hv.pos
    have hLn := h.1
    have hn8 : n ≤ 8 := by have := hv.le; omega
    obtain ⟨b, o, rfl, hS⟩ := slo_open h (by omega)
    have HV := Lib.hid hv
    have HS := Lib.hid hS
    have HLn := Lib.hid hLn.symm
    have H0 := Lib.hid h0
    clear hv hS
    by_cases h1 : n = 1
    · have HQ : Hid (ndR L r = []) := Lib.hid (by unfold ndR; rw [if_neg (by omega)])
      have d1 : ((n : Int) == 1) = true := by simp [h1]
      clear h0 hLn hp h1
      rw [HQ.out, H0.out]
      go_enter Try.func51, Try.ntmps51
      go_wp2_with fail
      refine (rated_c _ _ _ _ _ _ h).mono ?_
      rintro e w1 ⟨rfl, hb1⟩
      go_wp2_with fail
      go_ret2
      exact ⟨_, rfl, IsV.nil _ _, hb1⟩
    · have d1 : ((n : Int) == 1) = false := by simp; omega
      by_cases ha : agreeB L r = true
      · have HQ : Hid (ndR L r = ndL L r L.length) := Lib.hid (by unfold ndR; rw [if_pos ⟨aOk_true.2 ⟨h0, ha⟩, by omega⟩])
        have HA := Lib.hid ha
        have hn2 : 2 ≤ n := by omega
        have hm2 : n ≤ 9223372036854775807 := by omega
        have HNE : Hid (L.length ≠ 1) := Lib.hid (by omega)
        have HTL : Hid ((tightL L r).length = n) := Lib.hid (by rw [tight_length]; omega)
        have HLL : Hid (∀ k, k < n → (lessL L k).length = n - 1) := Lib.hid (fun k hk => by rw [less_length (by omega)]; omega)
        clear h0 hLn hp h1
        rw [HQ.out, H0.out]
        go_enter Try.func51, Try.ntmps51
        go_wp2_with fail
        refine (rated_c _ _ _ _ _ _ h).mono ?_
        rintro e w1 ⟨rfl, hb1⟩
        go_wp2_with fail
        refine (agree_c _ _ _ _ _ _ _ (HS.out.below hb1 (Nat.le_refl _)) HV.out hr hr9).mono ?_
        rintro e w2 ⟨rfl, hb2⟩
        rw [ha]
        have B2 := Lib.hid (btr hb1 hb2)
        clear hb1 hb2
        go_wp2_with fail
        go_loopw [7, 26] (fun v i wr => ∃ k : Nat, k ≤ n ∧ i = .int .i64 k ∧ Below w2.heap.size w2 wr ∧ wr.ownsRow w2.heap.size 3 1 v (ndL L r k).length ((ndL L r k).map (Value.int .i64))) (fun _ i _ => n - (intOf i).toNat)
        case atStart => exact ⟨0, Nat.zero_le _, rfl, Below.refl _ _, World.ownsRow_nil _ _ _ _⟩
        case round =>
          obtain ⟨k, hk, rfl, hb, hown⟩ := hrel
          have HO := Lib.hid hown
          have C0 := Lib.hid (btr B2.out hb)
          clear hown
          by_cases hlt : k < n
          · have hkL : k < L.length := by have := HLn.out; omega
            have HVL : Hid (Valid (lessL L k)) := less_valid HV.out hkL HNE.out
            have HLk : Hid ((lessL L k).length = n - 1) := HLL.out k hlt
            have hlen : (ndL L r k).length ≤ k := ndL_length _ _ _
            go_wp2_with fail
            refine (without_c _ _ _ _ k L _ (HS.out.below C0.out (Nat.le_refl _)) (by omega) hlt).mono ?_
            rintro e w4 ⟨v4, rfl, hv4, hb4⟩
            obtain ⟨a4, c4, e4, s4, l4, m4, -⟩ := hv4
            rw [e4]
            clear e4
            obtain ⟨b4, o4, rfl, S4⟩ := slo_open s4 (by rw [HLk.out]; omega)
            have C4 := Lib.hid (btr C0.out hb4)
            go_wp2_with fail
            refine (tight_c _ _ _ _ _ _ _ S4 l4 m4 HVL.out hr hr9).mono ?_
            rintro e w5 ⟨v5, rfl, hv5, hb5⟩
            obtain ⟨a5, c5, e5, s5, l5, m5, -⟩ := hv5
            rw [e5]
            clear e5
            have C5 := Lib.hid (btr C4.out hb5)
            clear S4 s4
            go_wp2_with fail
            refine (tight_c _ _ _ _ _ _ _ (HS.out.below C5.out (Nat.le_refl _)) hc hm HV.out hr hr9).mono ?_
            rintro e w6 ⟨v6, rfl, hv6, hb6⟩
            obtain ⟨a6, c6, e6, s6, l6, m6, -⟩ := hv6
            rw [e6]
            clear e6
            obtain ⟨b6, o6, rfl, S6⟩ := slo_open s6 (by rw [HTL.out]; omega)
            replace s5 := s5.below hb6 (Nat.le_refl _)
            have C6 := Lib.hid (btr C5.out hb6)
            go_wp2_with fail
            refine (without_c _ _ _ _ k _ _ S6 (by rw [HTL.out]; omega) (by rw [HTL.out]; exact hlt)).mono ?_
            rintro e w7 ⟨v7, rfl, hv7, hb7⟩
            obtain ⟨a7, c7, e7, s7, l7, m7, -⟩ := hv7
            rw [e7]
            clear e7
            replace s5 := s5.below hb7 (Nat.le_refl _)
            have C7 := Lib.hid (btr C6.out hb7)
            clear S6 s6
            go_wp2_with fail
            refine (Equal_c _ _ _ _ _ _ _ _ _ s5 s7 (by rw [tight_length, HLk.out]; omega)).mono ?_
            rintro e w8 ⟨rfl, hb8⟩
            have hbb := btr (btr (btr (btr (btr hb hb4) hb5) hb6) hb7) hb8
            have HO8 := Lib.hid (ownsRow_below HO.out (btr (btr (btr (btr hb4 hb5) hb6) hb7) hb8))
            clear hb4 hb5 hb6 hb7 hb8 s5 s7 C4 C5 C6 C7
            have hnd : sameB (tightL (lessL L k) r) (lessL (tightL L r) k) = ndB L r k := rfl
            rw [hnd]
            clear hnd
            cases hx : ndB L r k
            · have HX := Lib.hid (ndL_miss hx)
              go_wp2_with fail
              exact ⟨⟨k + 1, by omega, by go_num, hbb, by rw [HX.out]; exact HO8.out⟩, by simp [intOf]; omega⟩
            · have HX := Lib.hid (ndL_hit hx)
              have HXl : Hid ((ndL L r (k + 1)).length = (ndL L r k).length + 1) := Lib.hid (by rw [HX.out, List.length_append]; rfl)
              generalize (ndL L r k).length = m at *
              go_wp2_with (at_builtin; refine wpList_append_own _ rfl _ _ 39 rfl w2.heap.size 3 i0 (.int .i64 0) 1 8 Try.underlying39 hi hz0 hz1 hz2 rfl (by decide) _ _ _ rfl (HO8.out.alloc _) ⟨w8.heap.size, 0, none⟩ 1 1 [.int .i64 (k : Int)] rfl rfl (cell_one_new _ _ _) (by simp [Value.oneCell']) (by unfold maxLen; omega) (by omega) (by have := hbb.size; simp; omega) ?_; intro v' w9 hown9 hg9 _)
              have hb9 : Below w2.heap.size w2 w9 := (hbb.alloc hbb.size _).grown hg9 (by have := hbb.size; simp; omega) (fun q hq => (HO8.out.lt q hq).1)
              refine ⟨⟨k + 1, by omega, by go_num, hb9, ?_⟩, by simp [intOf]; omega⟩
              rw [HXl.out, HX.out, List.map_append]
              exact hown9
          · have HK : Hid (k = n) := Lib.hid (by omega)
            have hd : ¬ (k : Int) < n := by omega
            clear hlt
            go_wp2_with fail
            go_ret2
            have h9 := HO.out
            rw [HK.out, ← HLn.out] at h9
            obtain ⟨a9, c9, e9, s9, l9, m9, g9⟩ := ownsRow_is h9
            have hsz := B2.out.size
            exact ⟨_, rfl, ⟨a9, c9, e9, s9, l9, m9, fun x hx => Nat.le_trans hsz (g9 x hx)⟩, C0.out⟩
      · replace ha : agreeB L r = false := by simpa using ha
        have HQ : Hid (ndR L r = []) := Lib.hid (by unfold ndR; rw [if_neg (by simp [aOk, ha])])
        clear h0 hLn hp h1
        rw [HQ.out, H0.out]
        go_enter Try.func51, Try.ntmps51
        go_wp2_with fail
        refine (rated_c _ _ _ _ _ _ h).mono ?_
        rintro e w1 ⟨rfl, hb1⟩
        go_wp2_with fail
        refine (agree_c _ _ _ _ _ _ _ (HS.out.below hb1 (Nat.le_refl _)) HV.out hr hr9).mono ?_
        rintro e w2 ⟨rfl, hb2⟩
        rw [ha]
        go_wp2_with fail
        go_ret2
        exact ⟨_, rfl, IsV.nil _ _, btr hb1 hb2⟩
  · have hv0 : (rErr L r != 0) = true := by simpa using h0
    have HQ : Hid (ndR L r = []) := Lib.hid (by unfold ndR; rw [if_neg (by simp [aOk, h0])])
    clear h0
    rw [HQ.out]
    go_enter Try.func51, Try.ntmps51
    go_wp2_with fail
    refine (rated_c _ _ _ _ _ _ h).mono ?_
    rintro e w1 ⟨rfl, hb1⟩
    go_wp2_with fail
    go_ret2
    exact ⟨_, rfl, IsV.nil _ _, hb1⟩


set_option maxRecDepth 100000 in
set_option maxHeartbeats 3200000 in
theorem rNeedless_c (a : Option Addr) (n c : Nat) (L : List Rd) (r : Int) (w : World) (h : SlO w a n L) (hc : n ≤ c) (hm : c ≤ maxLen) : Calls Try.prog 52 #[.slice a n c, .int .i64 r] w (RetNd w L r) := by
  obtain ⟨i0, hi, hz0, hz1, hz2⟩ := info_parts info3
  unfold RetNd
  have _ := hm
  by_cases h0 : rErr L r = 0
  · have hv0 : (rErr L r != 0) = false := by rw [h0]; rfl
    obtain ⟨hv, hr, hr9⟩ := rErr_zero.1 h0
    have hp := hv.pos
    have hLn := h.1
    have hn8 : n ≤ 8 := by have := hv.le; omega
    obtain ⟨b, o, rfl, hS⟩ := slo_open h (by omega)
    have HV := Lib.hid hv
    have HS := Lib.hid hS
    have HLn := Lib.hid hLn.symm
    have H0 := Lib.hid h0
    clear hv hS
    by_cases h1 : n = 1
    · have HQ : Hid (ndR L r = []) := Lib.hid (by unfold ndR; rw [if_neg (by omega)])
      have d1 : ((n : Int) == 1) = true := by simp [h1]
      clear h0 hLn hp h1
      rw [HQ.out, H0.out]
      go_enter Try.func52, Try.ntmps52
      go_wp2_with fail
      refine (rrated_c _ _ _ _ _ _ h).mono ?_
      rintro e w1 ⟨rfl, hb1⟩
      go_wp2_with fail
      go_ret2
      exact ⟨_, rfl, IsV.nil _ _, hb1⟩
    · have d1 : ((n : Int) == 1) = false := by simp; omega
      by_cases ha : agreeB L r = true
      · have HQ : Hid (ndR L r = ndL L r L.length) := Lib.hid (by unfold ndR; rw [if_pos ⟨aOk_true.2 ⟨h0, ha⟩, by omega⟩])
        have HA := Lib.hid ha
        have hn2 : 2 ≤ n := by omega
        have hm2 : n ≤ 9223372036854775807 := by omega
        have HNE : Hid (L.length ≠ 1) := Lib.hid (by omega)
        have HTL : Hid ((tightL L r).length = n) := Lib.hid (by rw [tight_length]; omega)
        have HLL : Hid (∀ k, k < n → (lessL L k).length = n - 1) := Lib.hid (fun k hk => by rw [less_length (by omega)]; omega)
        clear h0 hLn hp h1
        rw [HQ.out, H0.out]
        go_enter Try.func52, Try.ntmps52
        go_wp2_with fail
        refine (rrated_c _ _ _ _ _ _ h).mono ?_
        rintro e w1 ⟨rfl, hb1⟩
        go_wp2_with fail
        refine (ragree_c _ _ _ _ _ _ _ (HS.out.below hb1 (Nat.le_refl _)) HV.out hr hr9).mono ?_
        rintro e w2 ⟨rfl, hb2⟩
        rw [ha]
        have B2 := Lib.hid (btr hb1 hb2)
        clear hb1 hb2
        go_wp2_with fail
        refine (rtight_c _ _ _ _ _ _ _ (HS.out.below B2.out (Nat.le_refl _)) HV.out hr hr9).mono ?_
        rintro e w3 ⟨v, rfl, hv3, hb3⟩
        obtain ⟨a3, c3, e3, s3, l3, m3, -⟩ := hv3
        rw [e3]
        clear e3
        obtain ⟨b3, o3, rfl, S3⟩ := slo_open s3 (by rw [HTL.out]; omega)
        have HS3 := Lib.hid S3
        have B3 := Lib.hid (btr B2.out hb3)
        rw [HTL.out] at l3 ⊢
        rw [HTL.out] at S3
        have HS3 := Lib.hid S3
        clear s3 hb3 S3
        go_wp2_with fail
        go_loopw [8, 9] (fun v i wr => ∃ k : Nat, k ≤ n ∧ i = .int .i64 k ∧ Below w3.heap.size w3 wr ∧ wr.ownsRow w3.heap.size 3 1 v (ndL L r k).length ((ndL L r k).map (Value.int .i64))) (fun _ i _ => n - (intOf i).toNat)
        case atStart => exact ⟨0, Nat.zero_le _, rfl, Below.refl _ _, World.ownsRow_nil _ _ _ _⟩
        case round =>
          obtain ⟨k, hk, rfl, hb, hown⟩ := hrel
          have HO := Lib.hid hown
          have C0 := Lib.hid (btr B3.out hb)
          clear hown
          by_cases hlt : k < n
          · have hkL : k < L.length := by have := HLn.out; omega
            have HVL : Hid (Valid (lessL L k)) := less_valid HV.out hkL HNE.out
            have HLk : Hid ((lessL L k).length = n - 1) := HLL.out k hlt
            have hlen : (ndL L r k).length ≤ k := ndL_length _ _ _
            go_wp2_with fail
            refine (less_c _ _ _ _ k L _ (HS.out.below C0.out (Nat.le_refl _)) (by omega) hc hlt).mono ?_
            rintro e w4 ⟨v4, rfl, hv4, hb4⟩
            obtain ⟨a4, c4, e4, s4, l4, m4, -⟩ := hv4
            rw [e4]
            clear e4
            obtain ⟨b4, o4, rfl, S4⟩ := slo_open s4 (by rw [HLk.out]; omega)
            have C4 := Lib.hid (btr C0.out hb4)
            go_wp2_with fail
            refine (rtight_c _ _ _ _ _ _ _ S4 HVL.out hr hr9).mono ?_
            rintro e w5 ⟨v5, rfl, hv5, hb5⟩
            obtain ⟨a5, c5, e5, s5, l5, m5, -⟩ := hv5
            rw [e5]
            clear e5
            have C5 := Lib.hid (btr C4.out hb5)
            clear S4 s4
            have CC := Lib.hid (btr (btr hb hb4) hb5)
            go_wp2_with fail
            refine (less_c _ _ _ _ k _ _ (HS3.out.below CC.out (Nat.le_refl _)) (by omega) l3 hlt).mono ?_
            rintro e w7 ⟨v7, rfl, hv7, hb7⟩
            obtain ⟨a7, c7, e7, s7, l7, m7, -⟩ := hv7
            rw [e7]
            clear e7
            replace s5 := s5.below hb7 (Nat.le_refl _)
            have C7 := Lib.hid (btr C5.out hb7)
            go_wp2_with fail
            refine (Same_c _ _ _ _ _ _ _ _ _ s5 s7 (by rw [tight_length, HLk.out]; omega)).mono ?_
            rintro e w8 ⟨rfl, hb8⟩
            have hbb := btr (btr (btr (btr hb hb4) hb5) hb7) hb8
            have HO8 := Lib.hid (ownsRow_below HO.out (btr (btr (btr hb4 hb5) hb7) hb8))
            clear hb4 hb5 hb7 hb8 s5 s7 C4 C5 C7 CC
            have hnd : sameB (tightL (lessL L k) r) (lessL (tightL L r) k) = ndB L r k := rfl
            rw [hnd]
            clear hnd
            cases hx : ndB L r k
            · have HX := Lib.hid (ndL_miss hx)
              go_wp2_with fail
              exact ⟨⟨k + 1, by omega, by go_num, hbb, by rw [HX.out]; exact HO8.out⟩, by simp [intOf]; omega⟩
            · have HX := Lib.hid (ndL_hit hx)
              have HXl : Hid ((ndL L r (k + 1)).length = (ndL L r k).length + 1) := Lib.hid (by rw [HX.out, List.length_append]; rfl)
              generalize (ndL L r k).length = m at *
              go_wp2_with (at_builtin; refine wpList_append_own _ rfl _ _ 39 rfl w3.heap.size 3 i0 (.int .i64 0) 1 8 Try.underlying39 hi hz0 hz1 hz2 rfl (by decide) _ _ _ rfl (HO8.out.alloc _) ⟨w8.heap.size, 0, none⟩ 1 1 [.int .i64 (k : Int)] rfl rfl (cell_one_new _ _ _) (by simp [Value.oneCell']) (by unfold maxLen; omega) (by omega) (by have := hbb.size; simp; omega) ?_; intro v' w9 hown9 hg9 _)
              have hb9 : Below w3.heap.size w3 w9 := (hbb.alloc hbb.size _).grown hg9 (by have := hbb.size; simp; omega) (fun q hq => (HO8.out.lt q hq).1)
              refine ⟨⟨k + 1, by omega, by go_num, hb9, ?_⟩, by simp [intOf]; omega⟩
              rw [HXl.out, HX.out, List.map_append]
              exact hown9
          · have HK : Hid (k = n) := Lib.hid (by omega)
            have hd : ¬ (k : Int) < n := by omega
            clear hlt
            go_wp2_with fail
            go_ret2
            have h9 := HO.out
            rw [HK.out, ← HLn.out] at h9
            obtain ⟨a9, c9, e9, s9, l9, m9, g9⟩ := ownsRow_is h9
            have hsz := B3.out.size
            exact ⟨_, rfl, ⟨a9, c9, e9, s9, l9, m9, fun x hx => Nat.le_trans hsz (g9 x hx)⟩, C0.out⟩
      · replace ha : agreeB L r = false := by simpa using ha
        have HQ : Hid (ndR L r = []) := Lib.hid (by unfold ndR; rw [if_neg (by simp [aOk, ha])])
        clear h0 hLn hp h1
        rw [HQ.out, H0.out]
        go_enter Try.func52, Try.ntmps52
        go_wp2_with fail
        refine (rrated_c _ _ _ _ _ _ h).mono ?_
        rintro e w1 ⟨rfl, hb1⟩
        go_wp2_with fail
        refine (ragree_c _ _ _ _ _ _ _ (HS.out.below hb1 (Nat.le_refl _)) HV.out hr hr9).mono ?_
        rintro e w2 ⟨rfl, hb2⟩
        rw [ha]
        go_wp2_with fail
        go_ret2
        exact ⟨_, rfl, IsV.nil _ _, btr hb1 hb2⟩
  · have hv0 : (rErr L r != 0) = true := by simpa using h0
    have HQ : Hid (ndR L r = []) := Lib.hid (by unfold ndR; rw [if_neg (by simp [aOk, h0])])
    clear h0
    rw [HQ.out]
    go_enter Try.func52, Try.ntmps52
    go_wp2_with fail
    refine (rrated_c _ _ _ _ _ _ h).mono ?_
    rintro e w1 ⟨rfl, hb1⟩
    go_wp2_with fail
    go_ret2
    exact ⟨_, rfl, IsV.nil _ _, hb1⟩

end Go.Proofs.Ytgbdcemlnklmoaa
