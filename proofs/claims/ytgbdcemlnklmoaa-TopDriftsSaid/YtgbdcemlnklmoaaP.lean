/- Agree, Clash: contracts, program and reference. -/
import Derived.Test.YtgbdcemlnklmoaaK
import Derived.Test.YtgbdcemlnklmoaaMath3
namespace Go.Proofs.Ytgbdcemlnklmoaa
open Go.RowKit Go.Sort

def cO (L : List Rd) (r : Int) : Option (Nat × Nat) := if rErr L r = 0 then firstP L r else none
theorem aOk_cO {L : List Rd} {r : Int} (h : rErr L r = 0) : aOk L r = !(cO L r).isSome := by
  simp [aOk, cO, h, agreeB]


set_option maxHeartbeats 400000 in
theorem Agree_c (a : Option Addr) (n c : Nat) (L : List Rd) (r : Int) (w : World) (h : SlO w a n L) : Calls Try.prog 25 #[.slice a n c, .int .i64 r] w fun e w' => e = .returned (.tuple #[.bool (aOk L r), .int .i64 (rErr L r)]) ∧ Below w.heap.size w w' := by
  by_cases h0 : rErr L r = 0
  · have hv0 : (rErr L r != 0) = false := by rw [h0]; rfl
    obtain ⟨hv, hr, hr9⟩ := rErr_zero.1 h0
    obtain ⟨b, o, rfl, hS⟩ : ∃ b o, a = some ⟨b, o, none⟩ ∧ Sl w b o n L := by
      rcases h.2 with h' | h'
      · have := hv.pos; have := h.1; omega
      · exact h'
    have e1 : aOk L r = agreeB L r := by simp [aOk, h0]
    rw [e1, h0]
    have HV := Lib.hid hv
    clear e1 h0 hv
    go_enter Try.func25, Try.ntmps25
    go_wp2_with (first | (go_at_call 61; refine (rated_c _ _ _ _ _ _ h).mono ?_; rintro e w1 ⟨rfl, hb⟩))
    refine (agree_c _ _ _ _ _ _ _ (hS.below hb (Nat.le_refl _)) HV.out hr hr9).mono ?_
    rintro e w2 ⟨rfl, hb2⟩
    go_wp2_with fail
    go_ret2
    exact ⟨rfl, btr hb hb2⟩
  · have hv0 : (rErr L r != 0) = true := by simpa using h0
    have e1 : aOk L r = false := by simp [aOk, h0]
    rw [e1]
    clear e1 h0
    go_enter Try.func25, Try.ntmps25
    go_wp2_with (first | (go_at_call 61; refine (rated_c _ _ _ _ _ _ h).mono ?_; rintro e w1 ⟨rfl, hb⟩))
    go_ret2
    exact ⟨rfl, hb⟩


set_option maxHeartbeats 400000 in
theorem rAgree_c (a : Option Addr) (n c : Nat) (L : List Rd) (r : Int) (w : World) (h : SlO w a n L) : Calls Try.prog 26 #[.slice a n c, .int .i64 r] w fun e w' => e = .returned (.tuple #[.bool (aOk L r), .int .i64 (rErr L r)]) ∧ Below w.heap.size w w' := by
  by_cases h0 : rErr L r = 0
  · have hv0 : (rErr L r != 0) = false := by rw [h0]; rfl
    obtain ⟨hv, hr, hr9⟩ := rErr_zero.1 h0
    obtain ⟨b, o, rfl, hS⟩ : ∃ b o, a = some ⟨b, o, none⟩ ∧ Sl w b o n L := by
      rcases h.2 with h' | h'
      · have := hv.pos; have := h.1; omega
      · exact h'
    have e1 : aOk L r = agreeB L r := by simp [aOk, h0]
    rw [e1, h0]
    have HV := Lib.hid hv
    clear e1 h0 hv
    go_enter Try.func26, Try.ntmps26
    go_wp2_with (first | (go_at_call 63; refine (rrated_c _ _ _ _ _ _ h).mono ?_; rintro e w1 ⟨rfl, hb⟩))
    refine (ragree_c _ _ _ _ _ _ _ (hS.below hb (Nat.le_refl _)) HV.out hr hr9).mono ?_
    rintro e w2 ⟨rfl, hb2⟩
    go_wp2_with fail
    go_ret2
    exact ⟨rfl, btr hb hb2⟩
  · have hv0 : (rErr L r != 0) = true := by simpa using h0
    have e1 : aOk L r = false := by simp [aOk, h0]
    rw [e1]
    clear e1 h0
    go_enter Try.func26, Try.ntmps26
    go_wp2_with (first | (go_at_call 63; refine (rrated_c _ _ _ _ _ _ h).mono ?_; rintro e w1 ⟨rfl, hb⟩))
    go_ret2
    exact ⟨rfl, hb⟩


set_option maxHeartbeats 400000 in
theorem Clash_c (a : Option Addr) (n c : Nat) (L : List Rd) (r : Int) (w : World) (h : SlO w a n L) : Calls Try.prog 27 #[.slice a n c, .int .i64 r] w fun e w' => e = .returned (.tuple #[.int .i64 (pI (cO L r)), .int .i64 (pJ (cO L r)), .bool (cO L r).isSome, .int .i64 (rErr L r)]) ∧ Below w.heap.size w w' := by
  by_cases h0 : rErr L r = 0
  · have hv0 : (rErr L r != 0) = false := by rw [h0]; rfl
    obtain ⟨hv, hr, hr9⟩ := rErr_zero.1 h0
    obtain ⟨b, o, rfl, hS⟩ : ∃ b o, a = some ⟨b, o, none⟩ ∧ Sl w b o n L := by
      rcases h.2 with h' | h'
      · have := hv.pos; have := h.1; omega
      · exact h'
    have e1 : cO L r = firstP L r := by simp [cO, h0]
    rw [e1, h0]
    have HV := Lib.hid hv
    clear e1 h0 hv
    go_enter Try.func27, Try.ntmps27
    go_wp2_with (first | (go_at_call 61; refine (rated_c _ _ _ _ _ _ h).mono ?_; rintro e w1 ⟨rfl, hb⟩))
    refine (first_c _ _ _ _ _ _ _ (hS.below hb (Nat.le_refl _)) HV.out hr hr9).mono ?_
    rintro e w2 ⟨rfl, hb2⟩
    go_wp2_with fail
    ((try simp only [Exit.inBlock, Exit.then]); refine bodyPost_ret (results_tmp4 rfl _ _ _) rfl ?_)
    exact ⟨rfl, btr hb hb2⟩
  · have hv0 : (rErr L r != 0) = true := by simpa using h0
    have e1 : cO L r = none := by simp [cO, h0]
    rw [e1]
    clear e1 h0
    go_enter Try.func27, Try.ntmps27
    go_wp2_with (first | (go_at_call 61; refine (rated_c _ _ _ _ _ _ h).mono ?_; rintro e w1 ⟨rfl, hb⟩))
    ((try simp only [Exit.inBlock, Exit.then]); refine bodyPost_ret (results_tmp4 rfl _ _ _) rfl ?_)
    exact ⟨rfl, hb⟩


set_option maxHeartbeats 400000 in
theorem rClash_c (a : Option Addr) (n c : Nat) (L : List Rd) (r : Int) (w : World) (h : SlO w a n L) : Calls Try.prog 28 #[.slice a n c, .int .i64 r] w fun e w' => e = .returned (.tuple #[.int .i64 (pI (cO L r)), .int .i64 (pJ (cO L r)), .bool (cO L r).isSome, .int .i64 (rErr L r)]) ∧ Below w.heap.size w w' := by
  by_cases h0 : rErr L r = 0
  · have hv0 : (rErr L r != 0) = false := by rw [h0]; rfl
    obtain ⟨hv, hr, hr9⟩ := rErr_zero.1 h0
    obtain ⟨b, o, rfl, hS⟩ : ∃ b o, a = some ⟨b, o, none⟩ ∧ Sl w b o n L := by
      rcases h.2 with h' | h'
      · have := hv.pos; have := h.1; omega
      · exact h'
    have e1 : cO L r = firstP L r := by simp [cO, h0]
    rw [e1, h0]
    have HV := Lib.hid hv
    clear e1 h0 hv
    go_enter Try.func28, Try.ntmps28
    go_wp2_with (first | (go_at_call 63; refine (rrated_c _ _ _ _ _ _ h).mono ?_; rintro e w1 ⟨rfl, hb⟩))
    refine (pair_c _ _ _ _ _ _ _ (hS.below hb (Nat.le_refl _)) HV.out hr hr9).mono ?_
    rintro e w2 ⟨rfl, hb2⟩
    go_wp2_with fail
    ((try simp only [Exit.inBlock, Exit.then]); refine bodyPost_ret (results_tmp4 rfl _ _ _) rfl ?_)
    exact ⟨rfl, btr hb hb2⟩
  · have hv0 : (rErr L r != 0) = true := by simpa using h0
    have e1 : cO L r = none := by simp [cO, h0]
    rw [e1]
    clear e1 h0
    go_enter Try.func28, Try.ntmps28
    go_wp2_with (first | (go_at_call 63; refine (rrated_c _ _ _ _ _ _ h).mono ?_; rintro e w1 ⟨rfl, hb⟩))
    ((try simp only [Exit.inBlock, Exit.then]); refine bodyPost_ret (results_tmp4 rfl _ _ _) rfl ?_)
    exact ⟨rfl, hb⟩

end Go.Proofs.Ytgbdcemlnklmoaa
