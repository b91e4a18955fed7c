/- Bounds, Width, Until, Slowest: contracts, program and reference. -/
import Derived.Test.YtgbdcemlnklmoaaN
import Derived.Test.YtgbdcemlnklmoaaMath2
namespace Go.Proofs.Ytgbdcemlnklmoaa
open Go.RowKit Go.Sort

set_option maxHeartbeats 800000 in
theorem Bounds_c (a : Option Addr) (n c : Nat) (L : List Rd) (r t : Int) (w : World) (h : SlO w a n L) (hc : n ≤ c) (hm : c ≤ maxLen) : Calls Try.prog 19 #[.slice a n c, .int .i64 r, .int .i64 t] w fun e w' => e = .returned (.tuple #[.int .i64 (bLo L r t), .int .i64 (bHi L r t), .bool (bOk L r t), .int .i64 (tErr L r t)]) ∧ Below w.heap.size w w' := by
  by_cases h0 : tErr L r t = 0
  · have hv0 : (tErr L r t != 0) = false := by rw [h0]; rfl
    obtain ⟨⟨hv, hr, hr9⟩, ht0, ht⟩ := tErr_zero.1 h0
    obtain ⟨b, o, rfl, hS⟩ : ∃ b o, a = some ⟨b, o, none⟩ ∧ Sl w b o n L := by
      rcases h.2 with h' | h'
      · have := hv.pos; have := h.1; omega
      · exact h'
    by_cases h1 : agreeB L r = true
    · obtain ⟨e1, e2, e3⟩ := bOk_yes h0 h1
      rw [e1, e2, e3, h0]
      clear e1 e2 e3
      have HT := Lib.hid h0
      have HV := Lib.hid hv
      have HLn : Hid (L.length = n) := Lib.hid h.1.symm
      clear h0
      unfold loB hiB
      rw [HLn.out]
      go_enter Try.func19, Try.ntmps19
      go_wp2_with (first | (go_at_call 55; refine (timed_c _ _ _ _ _ _ _ h).mono ?_; rintro e w1 ⟨rfl, hb⟩))
      go_wp2_with fail
      refine (agree_c _ _ _ _ _ _ _ (hS.below hb (Nat.le_refl _)) HV.out hr hr9).mono ?_
      rintro e w2 ⟨rfl, hb2⟩
      simp only [h1]
      go_wp2_with fail
      refine (bounds_c _ _ _ _ _ _ _ _ (hS.below (btr hb hb2) (Nat.le_refl _)) hc hm HV.out hr hr9 ht0 ht).mono ?_
      rintro e w3 ⟨rfl, hb3⟩
      go_wp2_with fail
      ((try simp only [Exit.inBlock, Exit.then]); refine bodyPost_ret (results_tmp4 rfl _ _ _) rfl ?_)
      exact ⟨rfl, btr (btr hb hb2) hb3⟩
    · replace h1 : agreeB L r = false := by simpa using h1
      obtain ⟨e1, e2, e3⟩ := bOk_no (L := L) (r := r) (t := t) (by rw [h1]; simp)
      rw [e1, e2, e3, h0]
      clear e1 e2 e3
      have HV := Lib.hid hv
      clear h0
      go_enter Try.func19, Try.ntmps19
      go_wp2_with (first | (go_at_call 55; refine (timed_c _ _ _ _ _ _ _ h).mono ?_; rintro e w1 ⟨rfl, hb⟩))
      go_wp2_with fail
      refine (agree_c _ _ _ _ _ _ _ (hS.below hb (Nat.le_refl _)) HV.out hr hr9).mono ?_
      rintro e w2 ⟨rfl, hb2⟩
      simp only [h1]
      go_wp2_with fail
      ((try simp only [Exit.inBlock, Exit.then]); refine bodyPost_ret (results_tmp4 rfl _ _ _) rfl ?_)
      exact ⟨rfl, btr hb hb2⟩
  · have hv0 : (tErr L r t != 0) = true := by simpa using h0
    obtain ⟨e1, e2, e3⟩ := bOk_no (L := L) (r := r) (t := t) (by simp [h0])
    rw [e1, e2, e3]
    clear e1 e2 e3 h0 hc hm
    go_enter Try.func19, Try.ntmps19
    go_wp2_with (first | (go_at_call 55; refine (timed_c _ _ _ _ _ _ _ h).mono ?_; rintro e w1 ⟨rfl, hb⟩))
    ((try simp only [Exit.inBlock, Exit.then]); refine bodyPost_ret (results_tmp4 rfl _ _ _) rfl ?_)
    exact ⟨rfl, hb⟩


set_option maxHeartbeats 800000 in
theorem rBounds_c (a : Option Addr) (n c : Nat) (L : List Rd) (r t : Int) (w : World) (h : SlO w a n L) : Calls Try.prog 20 #[.slice a n c, .int .i64 r, .int .i64 t] w fun e w' => e = .returned (.tuple #[.int .i64 (bLo L r t), .int .i64 (bHi L r t), .bool (bOk L r t), .int .i64 (tErr L r t)]) ∧ Below w.heap.size w w' := by
  by_cases h0 : tErr L r t = 0
  · have hv0 : (tErr L r t != 0) = false := by rw [h0]; rfl
    obtain ⟨⟨hv, hr, hr9⟩, ht0, ht⟩ := tErr_zero.1 h0
    obtain ⟨b, o, rfl, hS⟩ : ∃ b o, a = some ⟨b, o, none⟩ ∧ Sl w b o n L := by
      rcases h.2 with h' | h'
      · have := hv.pos; have := h.1; omega
      · exact h'
    by_cases h1 : agreeB L r = true
    · obtain ⟨e1, e2, e3⟩ := bOk_yes h0 h1
      rw [e1, e2, e3, h0]
      clear e1 e2 e3
      have HT := Lib.hid h0
      have HV := Lib.hid hv
      have HLn : Hid (L.length = n) := Lib.hid h.1.symm
      clear h0
      unfold loB hiB
      rw [HLn.out]
      go_enter Try.func20, Try.ntmps20
      go_wp2_with (first | (go_at_call 58; refine (rtimed_c _ _ _ _ _ _ _ h).mono ?_; rintro e w1 ⟨rfl, hb⟩))
      go_wp2_with fail
      refine (ragree_c _ _ _ _ _ _ _ (hS.below hb (Nat.le_refl _)) HV.out hr hr9).mono ?_
      rintro e w2 ⟨rfl, hb2⟩
      simp only [h1]
      go_wp2_with fail
      refine (rbounds_c _ _ _ _ _ _ _ _ (hS.below (btr hb hb2) (Nat.le_refl _)) HV.out hr hr9 ht0 ht).mono ?_
      rintro e w3 ⟨rfl, hb3⟩
      go_wp2_with fail
      ((try simp only [Exit.inBlock, Exit.then]); refine bodyPost_ret (results_tmp4 rfl _ _ _) rfl ?_)
      exact ⟨rfl, btr (btr hb hb2) hb3⟩
    · replace h1 : agreeB L r = false := by simpa using h1
      obtain ⟨e1, e2, e3⟩ := bOk_no (L := L) (r := r) (t := t) (by rw [h1]; simp)
      rw [e1, e2, e3, h0]
      clear e1 e2 e3
      have HV := Lib.hid hv
      clear h0
      go_enter Try.func20, Try.ntmps20
      go_wp2_with (first | (go_at_call 58; refine (rtimed_c _ _ _ _ _ _ _ h).mono ?_; rintro e w1 ⟨rfl, hb⟩))
      go_wp2_with fail
      refine (ragree_c _ _ _ _ _ _ _ (hS.below hb (Nat.le_refl _)) HV.out hr hr9).mono ?_
      rintro e w2 ⟨rfl, hb2⟩
      simp only [h1]
      go_wp2_with fail
      ((try simp only [Exit.inBlock, Exit.then]); refine bodyPost_ret (results_tmp4 rfl _ _ _) rfl ?_)
      exact ⟨rfl, btr hb hb2⟩
  · have hv0 : (tErr L r t != 0) = true := by simpa using h0
    obtain ⟨e1, e2, e3⟩ := bOk_no (L := L) (r := r) (t := t) (by simp [h0])
    rw [e1, e2, e3]
    clear e1 e2 e3 h0
    go_enter Try.func20, Try.ntmps20
    go_wp2_with (first | (go_at_call 58; refine (rtimed_c _ _ _ _ _ _ _ h).mono ?_; rintro e w1 ⟨rfl, hb⟩))
    ((try simp only [Exit.inBlock, Exit.then]); refine bodyPost_ret (results_tmp4 rfl _ _ _) rfl ?_)
    exact ⟨rfl, hb⟩


theorem Width_c (a : Option Addr) (n c : Nat) (L : List Rd) (r t : Int) (w : World) (h : SlO w a n L) (hc : n ≤ c) (hm : c ≤ maxLen) : Calls Try.prog 21 #[.slice a n c, .int .i64 r, .int .i64 t] w fun e w' => e = .returned (.tuple #[.int .i64 (bHi L r t - bLo L r t), .bool (bOk L r t), .int .i64 (tErr L r t)]) ∧ Below w.heap.size w w' := by
  obtain ⟨l1, l2⟩ := bLo_bd L r t
  obtain ⟨l3, l4⟩ := bHi_bd L r t
  go_enter Try.func21, Try.ntmps21
  go_wp2_with fail
  refine (Bounds_c _ _ _ _ _ _ _ h hc hm).mono ?_
  rintro e w1 ⟨rfl, hb⟩
  go_wp2_with fail
  go_ret3
  exact ⟨rfl, hb⟩


theorem rWidth_c (a : Option Addr) (n c : Nat) (L : List Rd) (r t : Int) (w : World) (h : SlO w a n L) : Calls Try.prog 22 #[.slice a n c, .int .i64 r, .int .i64 t] w fun e w' => e = .returned (.tuple #[.int .i64 (bHi L r t - bLo L r t), .bool (bOk L r t), .int .i64 (tErr L r t)]) ∧ Below w.heap.size w w' := by
  obtain ⟨l1, l2⟩ := bLo_bd L r t
  obtain ⟨l3, l4⟩ := bHi_bd L r t
  go_enter Try.func22, Try.ntmps22
  go_wp2_with fail
  refine (rBounds_c _ _ _ _ _ _ _ h).mono ?_
  rintro e w1 ⟨rfl, hb⟩
  go_wp2_with fail
  go_ret3
  exact ⟨rfl, hb⟩

end Go.Proofs.Ytgbdcemlnklmoaa
