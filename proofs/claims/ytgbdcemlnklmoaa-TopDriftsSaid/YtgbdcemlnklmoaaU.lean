/- Until, Slowest, Long, the examples: contracts, program and reference. -/
import Derived.Test.YtgbdcemlnklmoaaW
namespace Go.Proofs.Ytgbdcemlnklmoaa
open Go.RowKit Go.Sort

theorem ds_yes' {p : Int → Bool} {a : Int} {m : Nat} (hm : ¬ m = 0) (h : p (a + m - 1) = true) : ds p a m = some (a + m - 1) := by
  obtain ⟨q, rfl⟩ : ∃ q, m = q + 1 := ⟨m - 1, by omega⟩
  have e : a + ((q + 1 : Nat) : Int) - 1 = a + q := by omega
  rw [e] at h ⊢
  exact ds_yes h
theorem ds_no' {p : Int → Bool} {a : Int} {m : Nat} (hm : ¬ m = 0) (h : p (a + m - 1) = false) : ds p a m = ds p a (m - 1) := by
  obtain ⟨q, rfl⟩ : ∃ q, m = q + 1 := ⟨m - 1, by omega⟩
  have e : a + ((q + 1 : Nat) : Int) - 1 = a + q := by omega
  rw [e] at h
  exact ds_no h


theorem Slowest_c (a : Option Addr) (n c : Nat) (L : List Rd) (w : World) (h : SlO w a n L) : Calls Try.prog 33 #[.slice a n c] w fun e w' => e = .returned (.tuple #[.int .i64 (oN (slowO L)), .bool (slowO L).isSome, .int .i64 (vErr L)]) ∧ Below w.heap.size w w' := by
  by_cases h0 : vErr L = 0
  · have hv0 : (vErr L != 0) = false := by rw [h0]; rfl
    have hv := vErr_zero.1 h0
    obtain ⟨b, o, rfl, hS⟩ : ∃ b o, a = some ⟨b, o, none⟩ ∧ Sl w b o n L := by
      rcases h.2 with h' | h'
      · have := hv.pos; have := h.1; omega
      · exact h'
    have HF : Hid (slowO L = scanJ (fun k => agreeB L (k : Int)) 10 0) := Lib.hid (by unfold slowO; rw [if_pos h0])
    generalize slowO L = F at *
    rw [h0]
    have HV := Lib.hid hv
    have HS := Lib.hid hS
    clear h0 hv hS
    go_enter Try.func33, Try.ntmps33
    go_wp2_with (first | (go_at_call 29; refine (validate_c _ _ _ _ _ h).mono ?_; rintro e w1 ⟨rfl, hb⟩))
    go_loopw [12] (fun i wr => ∃ k : Nat, k ≤ 10 ∧ i = .int .i64 k ∧ Below w.heap.size w wr ∧ F = scanJ (fun k => agreeB L (k : Int)) (10 - k) k) (fun i _ => 10 - (intOf i).toNat)
    case atStart => exact ⟨0, by omega, rfl, hb, HF.out⟩
    case round =>
      obtain ⟨k, hk, rfl, hb', hF⟩ := hrel
      have HF2 := Lib.hid hF
      clear hF HF hb
      by_cases hlt : k < 10
      · have HN : Hid (scanJ (fun k => agreeB L (k : Int)) (10 - k) k = if agreeB L (k : Int) then some k else scanJ (fun k => agreeB L (k : Int)) (10 - (k + 1)) (k + 1)) := Lib.hid (by rw [show 10 - k = (10 - (k + 1)) + 1 by omega]; rfl)
        by_cases ha : agreeB L (k : Int) = true
        · go_wp2_with fail
          refine (agree_c _ _ _ _ _ _ _ (HS.out.below hb' (Nat.le_refl _)) HV.out (by omega) (by omega)).mono ?_
          rintro e w2 ⟨rfl, hb2⟩
          simp only [ha]
          go_wp2_with fail
          go_ret3
          exact ⟨by rw [HF2.out, HN.out, if_pos ha]; rfl, btr hb' hb2⟩
        · replace ha : agreeB L (k : Int) = false := by simpa using ha
          go_wp2_with fail
          refine (agree_c _ _ _ _ _ _ _ (HS.out.below hb' (Nat.le_refl _)) HV.out (by omega) (by omega)).mono ?_
          rintro e w2 ⟨rfl, hb2⟩
          simp only [ha]
          go_wp2_with fail
          exact ⟨⟨k + 1, by omega, by go_num, btr hb' hb2, by rw [HF2.out, HN.out, if_neg (by rw [ha]; simp)]⟩, by simp [intOf]; omega⟩
      · have hkn : 10 - k = 0 := by omega
        have HN := Lib.hid hkn
        clear hkn
        go_wp2_with fail
        go_ret3
        exact ⟨by rw [HF2.out, HN.out]; rfl, hb'⟩
  · have hv0 : (vErr L != 0) = true := by simpa using h0
    have e1 : slowO L = none := by unfold slowO; rw [if_neg h0]
    rw [e1]
    clear e1 h0
    go_enter Try.func33, Try.ntmps33
    go_wp2_with (first | (go_at_call 29; refine (validate_c _ _ _ _ _ h).mono ?_; rintro e w1 ⟨rfl, hb⟩))
    go_ret3
    exact ⟨rfl, hb⟩


theorem rSlowest_c (a : Option Addr) (n c : Nat) (L : List Rd) (w : World) (h : SlO w a n L) : Calls Try.prog 34 #[.slice a n c] w fun e w' => e = .returned (.tuple #[.int .i64 (oN (slowO L)), .bool (slowO L).isSome, .int .i64 (vErr L)]) ∧ Below w.heap.size w w' := by
  by_cases h0 : vErr L = 0
  · have hv0 : (vErr L != 0) = false := by rw [h0]; rfl
    have hv := vErr_zero.1 h0
    obtain ⟨b, o, rfl, hS⟩ : ∃ b o, a = some ⟨b, o, none⟩ ∧ Sl w b o n L := by
      rcases h.2 with h' | h'
      · have := hv.pos; have := h.1; omega
      · exact h'
    have HF : Hid (slowO L = scanJ (fun k => agreeB L (k : Int)) 10 0) := Lib.hid (by unfold slowO; rw [if_pos h0])
    generalize slowO L = F at *
    rw [h0]
    have HV := Lib.hid hv
    have HS := Lib.hid hS
    clear h0 hv hS
    go_enter Try.func34, Try.ntmps34
    go_wp2_with (first | (go_at_call 30; refine (rvalidate_c _ _ _ _ _ h).mono ?_; rintro e w1 ⟨rfl, hb⟩))
    go_loopw [6] (fun i wr => ∃ k : Nat, k ≤ 10 ∧ i = .int .i64 k ∧ Below w.heap.size w wr ∧ F = scanJ (fun k => agreeB L (k : Int)) (10 - k) k) (fun i _ => 10 - (intOf i).toNat)
    case atStart => exact ⟨0, by omega, rfl, hb, HF.out⟩
    case round =>
      obtain ⟨k, hk, rfl, hb', hF⟩ := hrel
      have HF2 := Lib.hid hF
      clear hF HF hb
      by_cases hlt : k < 10
      · have HN : Hid (scanJ (fun k => agreeB L (k : Int)) (10 - k) k = if agreeB L (k : Int) then some k else scanJ (fun k => agreeB L (k : Int)) (10 - (k + 1)) (k + 1)) := Lib.hid (by rw [show 10 - k = (10 - (k + 1)) + 1 by omega]; rfl)
        by_cases ha : agreeB L (k : Int) = true
        · go_wp2_with fail
          refine (ragree_c _ _ _ _ _ _ _ (HS.out.below hb' (Nat.le_refl _)) HV.out (by omega) (by omega)).mono ?_
          rintro e w2 ⟨rfl, hb2⟩
          simp only [ha]
          go_wp2_with fail
          go_ret3
          exact ⟨by rw [HF2.out, HN.out, if_pos ha]; rfl, btr hb' hb2⟩
        · replace ha : agreeB L (k : Int) = false := by simpa using ha
          go_wp2_with fail
          refine (ragree_c _ _ _ _ _ _ _ (HS.out.below hb' (Nat.le_refl _)) HV.out (by omega) (by omega)).mono ?_
          rintro e w2 ⟨rfl, hb2⟩
          simp only [ha]
          go_wp2_with fail
          exact ⟨⟨k + 1, by omega, by go_num, btr hb' hb2, by rw [HF2.out, HN.out, if_neg (by rw [ha]; simp)]⟩, by simp [intOf]; omega⟩
      · have hkn : 10 - k = 0 := by omega
        have HN := Lib.hid hkn
        clear hkn
        go_wp2_with fail
        go_ret3
        exact ⟨by rw [HF2.out, HN.out]; rfl, hb'⟩
  · have hv0 : (vErr L != 0) = true := by simpa using h0
    have e1 : slowO L = none := by unfold slowO; rw [if_neg h0]
    rw [e1]
    clear e1 h0
    go_enter Try.func34, Try.ntmps34
    go_wp2_with (first | (go_at_call 30; refine (rvalidate_c _ _ _ _ _ h).mono ?_; rintro e w1 ⟨rfl, hb⟩))
    go_ret3
    exact ⟨rfl, hb⟩


set_option maxHeartbeats 800000 in
theorem Until_c (a : Option Addr) (n c : Nat) (L : List Rd) (r wd : Int) (w : World) (h : SlO w a n L) (hc : n ≤ c) (hm : c ≤ maxLen) : Calls Try.prog 23 #[.slice a n c, .int .i64 r, .int .i64 wd] w fun e w' => e = .returned (.tuple #[.int .i64 (oI (untilO L r wd)), .bool (untilO L r wd).isSome, .int .i64 (uErr L r wd)]) ∧ Below w.heap.size w w' := by
  by_cases h0 : rErr L r = 0
  · have hv0 : (rErr L r != 0) = false := by rw [h0]; rfl
    obtain ⟨hv, hr, hr9⟩ := rErr_zero.1 h0
    obtain ⟨b, o, rfl, hS⟩ : ∃ b o, a = some ⟨b, o, none⟩ ∧ Sl w b o n L := by
      rcases h.2 with h' | h'
      · have := hv.pos; have := h.1; omega
      · exact h'
    by_cases h1 : inB wd 0 100000 = true
    · have hw := inB_true.1 h1
      have hu : uErr L r wd = 0 := uErr_zero.2 ⟨⟨hv, hr, hr9⟩, hw⟩
      have HV := Lib.hid hv
      have HLn : Hid (L.length = n) := Lib.hid h.1.symm
      have HS := Lib.hid hS
      have hn8 : n ≤ 8 := by have := hv.le; have := h.1; omega
      have hn1 : 1 ≤ n := by have := hv.pos; have := h.1; omega
      by_cases ha : agreeB L r = true
      · have HF : Hid (untilO L r wd = ds (wideB L r wd) (lastT L) (2001 - lastT L).toNat) := Lib.hid (by unfold untilO; rw [if_pos ⟨hu, ha⟩])
        obtain ⟨l1, l2⟩ := lastT_bd hv
        have HT : Hid ((at_ L (n - 1)).t = lastT L) := Lib.hid (by unfold lastT; rw [HLn.out])
        have HW : Hid (∀ t, wideB L r wd t = decide (hiP L r t (n - 1) - loP L r t (n - 1) ≤ wd)) := Lib.hid (by intro t; unfold wideB loB hiB; rw [HLn.out])
        generalize untilO L r wd = F at *
        generalize lastT L = tn at *
        rw [hu]
        clear h0 hv hS hu
        go_enter Try.func23, Try.ntmps23
        go_wp2_with (first | (go_at_call 61; refine (rated_c _ _ _ _ _ _ h).mono ?_; rintro e w1 ⟨rfl, hb⟩) | (go_at_call 62; refine (within_c _ _ _ _).mono ?_; rintro e w' ⟨rfl, rfl⟩))
        refine (agree_c _ _ _ _ _ _ _ (HS.out.below hb (Nat.le_refl _)) HV.out hr hr9).mono ?_
        rintro e w2 ⟨rfl, hb2⟩
        simp only [ha]
        go_wp2_with fail
        go_loopw [10] (fun i wr => ∃ m : Nat, (m : Int) ≤ 2001 - tn ∧ i = .int .i64 (tn + m - 1) ∧ Below w.heap.size w wr ∧ F = ds (wideB L r wd) tn m) (fun i _ => (intOf i + 1).toNat)
        case atStart => exact ⟨(2001 - tn).toNat, by omega, by rw [show tn + ((2001 - tn).toNat : Int) - 1 = 2000 by omega], btr hb hb2, HF.out⟩
        case round =>
          obtain ⟨m, hm', rfl, hb', hF⟩ := hrel
          have HF2 := Lib.hid hF
          clear hF HF hb hb2
          have c0 := (HS.out.below hb' (Nat.le_refl _)).c0 (n - 1) (by omega)
          rw [HT.out] at c0
          have e1 : ((n : Int) - 1).toNat = n - 1 := by omega
          have e2 : 0 ≤ (n : Int) - 1 := by omega
          by_cases hlt : m = 0
          · have HN := Lib.hid hlt
            clear hlt
            have hd : tn + (m : Int) - 1 < tn := by have := HN.out; omega
            go_wp2_with fail
            go_ret3
            exact ⟨by rw [HF2.out, HN.out]; rfl, hb'⟩
          · have hd : tn ≤ tn + (m : Int) - 1 := by omega
            have hp : ((m - 1 : Nat) : Int) = (m : Int) - 1 := by omega
            have HP := Lib.hid hp
            clear hp
            obtain ⟨l3, l4⟩ := loP_bd HV.out hr hr9 (t := tn + (m : Int) - 1) (by omega) (by omega) (n - 1) (by rw [HLn.out]; omega)
            obtain ⟨l5, l6⟩ := hiP_bd HV.out hr hr9 (t := tn + (m : Int) - 1) (by omega) (by omega) (n - 1) (by rw [HLn.out]; omega)
            go_wp2_with fail
            refine (bounds_c _ _ _ _ _ _ _ _ (HS.out.below hb' (Nat.le_refl _)) hc hm HV.out hr hr9 (by omega) (by omega)).mono ?_
            rintro e w3 ⟨rfl, hb3⟩
            have HW1 := HW.out (tn + (m : Int) - 1)
            by_cases hw : hiP L r (tn + (m : Int) - 1) (n - 1) - loP L r (tn + (m : Int) - 1) (n - 1) ≤ wd
            · rw [decT hw] at HW1
              have HW2 := Lib.hid HW1
              clear HW1
              go_wp2_with fail
              go_ret3
              exact ⟨by rw [HF2.out, ds_yes' hlt HW2.out]; rfl, btr hb' hb3⟩
            · rw [decF hw] at HW1
              have HW2 := Lib.hid HW1
              clear HW1
              go_wp2_with fail
              exact ⟨⟨m - 1, by omega, congrArg (Value.int .i64) (by have := HP.out; omega), btr hb' hb3, by rw [HF2.out, ds_no' hlt HW2.out]⟩, by simp [intOf]; omega⟩
      · replace ha : agreeB L r = false := by simpa using ha
        have hF : untilO L r wd = none := by unfold untilO; rw [if_neg (by rw [ha]; simp)]
        rw [hF, hu]
        clear hF h0 hv hu hS
        clear hc hm
        go_enter Try.func23, Try.ntmps23
        go_wp2_with (first | (go_at_call 61; refine (rated_c _ _ _ _ _ _ h).mono ?_; rintro e w1 ⟨rfl, hb⟩) | (go_at_call 62; refine (within_c _ _ _ _).mono ?_; rintro e w' ⟨rfl, rfl⟩))
        refine (agree_c _ _ _ _ _ _ _ (HS.out.below hb (Nat.le_refl _)) HV.out hr hr9).mono ?_
        rintro e w2 ⟨rfl, hb2⟩
        simp only [ha]
        go_wp2_with fail
        go_ret3
        exact ⟨rfl, btr hb hb2⟩
    · replace h1 : inB wd 0 100000 = false := by simpa using h1
      have hu : uErr L r wd = 1 := by unfold uErr; rw [if_neg (by simpa using h0), if_neg (by simp [h1])]
      have hF : untilO L r wd = none := by unfold untilO; rw [if_neg (by rw [hu]; simp)]
      rw [hF, hu]
      clear hF hu h0 hv hS hc hm
      go_enter Try.func23, Try.ntmps23
      go_wp2_with (first | (go_at_call 61; refine (rated_c _ _ _ _ _ _ h).mono ?_; rintro e w1 ⟨rfl, hb⟩) | (go_at_call 62; refine (within_c _ _ _ _).mono ?_; rintro e w' ⟨rfl, rfl⟩))
      go_ret3
      exact ⟨rfl, hb⟩
  · have hv0 : (rErr L r != 0) = true := by simpa using h0
    have hu : uErr L r wd = rErr L r := by unfold uErr; rw [if_pos (by simpa using h0)]
    have hF : untilO L r wd = none := by unfold untilO; rw [if_neg (by rw [hu]; simp [h0])]
    rw [hF, hu]
    clear hF hu h0 hc hm
    go_enter Try.func23, Try.ntmps23
    go_wp2_with (first | (go_at_call 61; refine (rated_c _ _ _ _ _ _ h).mono ?_; rintro e w1 ⟨rfl, hb⟩))
    go_ret3
    exact ⟨rfl, hb⟩


set_option maxHeartbeats 800000 in
theorem rUntil_c (a : Option Addr) (n c : Nat) (L : List Rd) (r wd : Int) (w : World) (h : SlO w a n L) : Calls Try.prog 24 #[.slice a n c, .int .i64 r, .int .i64 wd] w fun e w' => e = .returned (.tuple #[.int .i64 (oI (untilO L r wd)), .bool (untilO L r wd).isSome, .int .i64 (uErr L r wd)]) ∧ Below w.heap.size w w' := by
  by_cases h0 : rErr L r = 0
  · have hv0 : (rErr L r != 0) = false := by rw [h0]; rfl
    obtain ⟨hv, hr, hr9⟩ := rErr_zero.1 h0
    obtain ⟨b, o, rfl, hS⟩ : ∃ b o, a = some ⟨b, o, none⟩ ∧ Sl w b o n L := by
      rcases h.2 with h' | h'
      · have := hv.pos; have := h.1; omega
      · exact h'
    by_cases h1 : inB wd 0 100000 = true
    · have hw := inB_true.1 h1
      have hu : uErr L r wd = 0 := uErr_zero.2 ⟨⟨hv, hr, hr9⟩, hw⟩
      have HV := Lib.hid hv
      have HLn : Hid (L.length = n) := Lib.hid h.1.symm
      have HS := Lib.hid hS
      have hn8 : n ≤ 8 := by have := hv.le; have := h.1; omega
      have hn1 : 1 ≤ n := by have := hv.pos; have := h.1; omega
      by_cases ha : agreeB L r = true
      · have HF : Hid (untilO L r wd = ds (wideB L r wd) (lastT L) (2001 - lastT L).toNat) := Lib.hid (by unfold untilO; rw [if_pos ⟨hu, ha⟩])
        obtain ⟨l1, l2⟩ := lastT_bd hv
        have HT : Hid ((at_ L (n - 1)).t = lastT L) := Lib.hid (by unfold lastT; rw [HLn.out])
        have HW : Hid (∀ t, wideB L r wd t = decide (hiP L r t (n - 1) - loP L r t (n - 1) ≤ wd)) := Lib.hid (by intro t; unfold wideB loB hiB; rw [HLn.out])
        generalize untilO L r wd = F at *
        generalize lastT L = tn at *
        rw [hu]
        clear h0 hv hS hu
        go_enter Try.func24, Try.ntmps24
        have e1 : ((n : Int) - 1).toNat = n - 1 := by omega
        have e2 : 0 ≤ (n : Int) - 1 := by omega
        go_wp2_with (first | (go_at_call 63; refine (rrated_c _ _ _ _ _ _ h).mono ?_; rintro e w1 ⟨rfl, hb⟩; have c0 := (HS.out.below hb (Nat.le_refl _)).c0 (n - 1) (by omega); rw [HT.out] at c0) | (go_at_call 64; refine (rwithin_c _ _ _ _).mono ?_; rintro e w' ⟨rfl, rfl⟩))
        clear e1 e2
        go_loopw [10, 11, 12] (fun l k i wr => ∃ m : Nat, (m : Int) ≤ 2001 - tn ∧ l = .int .i64 (oI (ds (wideB L r wd) tn m)) ∧ k = .bool (ds (wideB L r wd) tn m).isSome ∧ i = .int .i64 (tn + m) ∧ Below w.heap.size w wr) (fun _ _ i _ => (2001 - intOf i).toNat)
        case atStart => exact ⟨0, by omega, rfl, rfl, by simp, hb⟩
        case round =>
          obtain ⟨m, hm', rfl, rfl, rfl, hb'⟩ := hrel
          clear c0 hb
          by_cases hlt : tn + (m : Int) ≤ 2000
          · have hg1 : decide (tn + (m : Int) ≤ 2000) = true := decT hlt
            go_wp2_with fail
            refine (ragree_c _ _ _ _ _ _ _ (HS.out.below hb' (Nat.le_refl _)) HV.out hr hr9).mono ?_
            rintro e w2 ⟨rfl, hb2⟩
            simp only [ha]
            obtain ⟨l3, l4⟩ := loP_bd HV.out hr hr9 (t := tn + (m : Int)) (by omega) (by omega) (n - 1) (by rw [HLn.out]; omega)
            obtain ⟨l5, l6⟩ := hiP_bd HV.out hr hr9 (t := tn + (m : Int)) (by omega) (by omega) (n - 1) (by rw [HLn.out]; omega)
            go_wp2_with fail
            refine (rbounds_c _ _ _ _ _ _ _ _ (HS.out.below (btr hb' hb2) (Nat.le_refl _)) HV.out hr hr9 (by omega) (by omega)).mono ?_
            rintro e w3 ⟨rfl, hb3⟩
            have HW1 := HW.out (tn + (m : Int))
            by_cases hw : hiP L r (tn + (m : Int)) (n - 1) - loP L r (tn + (m : Int)) (n - 1) ≤ wd
            · rw [decT hw] at HW1
              have HW2 : Hid (ds (wideB L r wd) tn (m + 1) = some (tn + m)) := Lib.hid (ds_yes HW1)
              clear HW1
              go_wp2_with fail
              exact ⟨⟨m + 1, by omega, by rw [HW2.out]; rfl, by rw [HW2.out]; rfl, by go_num, btr (btr hb' hb2) hb3⟩, by simp [intOf]; omega⟩
            · rw [decF hw] at HW1
              have HW2 : Hid (ds (wideB L r wd) tn (m + 1) = ds (wideB L r wd) tn m) := Lib.hid (ds_no HW1)
              clear HW1
              go_wp2_with fail
              exact ⟨⟨m + 1, by omega, by rw [HW2.out], by rw [HW2.out], by go_num, btr (btr hb' hb2) hb3⟩, by simp [intOf]; omega⟩
          · have hg1 : decide (tn + (m : Int) ≤ 2000) = false := decF hlt
            have hM : (2001 - tn).toNat = m := by omega
            have HM := Lib.hid hM
            clear hM
            go_wp2_with fail
            go_ret3
            exact ⟨by rw [HF.out, HM.out]; rfl, hb'⟩
      · replace ha : agreeB L r = false := by simpa using ha
        have hF : untilO L r wd = none := by unfold untilO; rw [if_neg (by rw [ha]; simp)]
        rw [hF, hu]
        clear hF h0 hv hu hS
        go_enter Try.func24, Try.ntmps24
        have e1 : ((n : Int) - 1).toNat = n - 1 := by omega
        have e2 : 0 ≤ (n : Int) - 1 := by omega
        obtain ⟨l1, l2⟩ := HV.out.bd (i := n - 1) (by rw [HLn.out]; omega) |>.1
        go_wp2_with (first | (go_at_call 63; refine (rrated_c _ _ _ _ _ _ h).mono ?_; rintro e w1 ⟨rfl, hb⟩; have c0 := (HS.out.below hb (Nat.le_refl _)).c0 (n - 1) (by omega)) | (go_at_call 64; refine (rwithin_c _ _ _ _).mono ?_; rintro e w' ⟨rfl, rfl⟩))
        have hg1 : decide ((at_ L (n - 1)).t ≤ 2000) = true := decT (by omega)
        go_loopw [10, 11, 12] (fun l k i wr => wr = w1 ∧ l = .int .i64 0 ∧ k = .bool false ∧ i = .int .i64 (at_ L (n - 1)).t) (fun _ _ _ _ => 0)
        case atStart => exact ⟨rfl, rfl, rfl, rfl⟩
        case round =>
          obtain ⟨rfl, rfl, rfl, rfl⟩ := hrel
          go_wp2_with fail
          refine (ragree_c _ _ _ _ _ _ _ (HS.out.below hb (Nat.le_refl _)) HV.out hr hr9).mono ?_
          rintro e w2 ⟨rfl, hb2⟩
          simp only [ha]
          go_wp2_with fail
          go_ret3
          exact ⟨rfl, btr hb hb2⟩
    · replace h1 : inB wd 0 100000 = false := by simpa using h1
      have hu : uErr L r wd = 1 := by unfold uErr; rw [if_neg (by simpa using h0), if_neg (by simp [h1])]
      have hF : untilO L r wd = none := by unfold untilO; rw [if_neg (by rw [hu]; simp)]
      rw [hF, hu]
      clear hF hu h0 hv hS
      go_enter Try.func24, Try.ntmps24
      go_wp2_with (first | (go_at_call 63; refine (rrated_c _ _ _ _ _ _ h).mono ?_; rintro e w1 ⟨rfl, hb⟩) | (go_at_call 64; refine (rwithin_c _ _ _ _).mono ?_; rintro e w' ⟨rfl, rfl⟩))
      go_ret3
      exact ⟨rfl, hb⟩
  · have hv0 : (rErr L r != 0) = true := by simpa using h0
    have hu : uErr L r wd = rErr L r := by unfold uErr; rw [if_pos (by simpa using h0)]
    have hF : untilO L r wd = none := by unfold untilO; rw [if_neg (by rw [hu]; simp [h0])]
    rw [hF, hu]
    clear hF hu h0
    go_enter Try.func24, Try.ntmps24
    go_wp2_with (first | (go_at_call 63; refine (rrated_c _ _ _ _ _ _ h).mono ?_; rintro e w1 ⟨rfl, hb⟩))
    go_ret3
    exact ⟨rfl, hb⟩

end Go.Proofs.Ytgbdcemlnklmoaa
