/- rated, timed, the first pair that clashes, agree: contracts, program and reference. -/
import Derived.Test.YtgbdcemlnklmoaaV2
namespace Go.Proofs.Ytgbdcemlnklmoaa
open Go.RowKit Go.Sort

set_option maxHeartbeats 400000 in
theorem rated_c (a : Option Addr) (n c : Nat) (L : List Rd) (r : Int) (w : World) (h : SlO w a n L) : Calls Try.prog 61 #[.slice a n c, .int .i64 r] w fun e w' => e = .returned (.int .i64 (rErr L r)) ∧ Below w.heap.size w w' := by
  by_cases h0 : vErr L = 0
  · have hv0 : (vErr L != 0) = false := by rw [h0]; rfl
    by_cases h1 : inB r 0 9 = true
    · have e : rErr L r = 0 := by unfold rErr; rw [if_neg (by simpa using h0), if_pos h1]
      rw [e]; clear e h0
      go_enter Try.func61, Try.ntmps61
      go_wp2_with (first | (go_at_call 29; refine (validate_c _ _ _ _ _ h).mono ?_; rintro e w' ⟨rfl, hb⟩) | (go_at_call 62; refine (within_c _ _ _ _).mono ?_; rintro e w' ⟨rfl, rfl⟩))
      go_ret
      exact ⟨rfl, hb⟩
    · replace h1 : inB r 0 9 = false := by simpa using h1
      have e : rErr L r = 1 := by unfold rErr; rw [if_neg (by simpa using h0), if_neg (by simp [h1])]
      rw [e]; clear e h0
      go_enter Try.func61, Try.ntmps61
      go_wp2_with (first | (go_at_call 29; refine (validate_c _ _ _ _ _ h).mono ?_; rintro e w' ⟨rfl, hb⟩) | (go_at_call 62; refine (within_c _ _ _ _).mono ?_; rintro e w' ⟨rfl, rfl⟩))
      go_ret
      exact ⟨rfl, hb⟩
  · have hv0 : (vErr L != 0) = true := by simpa using h0
    have e : rErr L r = vErr L := by unfold rErr; rw [if_pos (by simpa using h0)]
    rw [e]; clear e h0
    go_enter Try.func61, Try.ntmps61
    go_wp2_with (first | (go_at_call 29; refine (validate_c _ _ _ _ _ h).mono ?_; rintro e w' ⟨rfl, hb⟩))
    go_ret
    exact ⟨rfl, hb⟩


set_option maxHeartbeats 400000 in
theorem rrated_c (a : Option Addr) (n c : Nat) (L : List Rd) (r : Int) (w : World) (h : SlO w a n L) : Calls Try.prog 63 #[.slice a n c, .int .i64 r] w fun e w' => e = .returned (.int .i64 (rErr L r)) ∧ Below w.heap.size w w' := by
  by_cases h0 : vErr L = 0
  · have hv0 : (vErr L != 0) = false := by rw [h0]; rfl
    by_cases h1 : inB r 0 9 = true
    · have e : rErr L r = 0 := by unfold rErr; rw [if_neg (by simpa using h0), if_pos h1]
      rw [e]; clear e h0
      go_enter Try.func63, Try.ntmps63
      go_wp2_with (first | (go_at_call 30; refine (rvalidate_c _ _ _ _ _ h).mono ?_; rintro e w' ⟨rfl, hb⟩) | (go_at_call 64; refine (rwithin_c _ _ _ _).mono ?_; rintro e w' ⟨rfl, rfl⟩))
      go_ret
      exact ⟨rfl, hb⟩
    · replace h1 : inB r 0 9 = false := by simpa using h1
      have e : rErr L r = 1 := by unfold rErr; rw [if_neg (by simpa using h0), if_neg (by simp [h1])]
      rw [e]; clear e h0
      go_enter Try.func63, Try.ntmps63
      go_wp2_with (first | (go_at_call 30; refine (rvalidate_c _ _ _ _ _ h).mono ?_; rintro e w' ⟨rfl, hb⟩) | (go_at_call 64; refine (rwithin_c _ _ _ _).mono ?_; rintro e w' ⟨rfl, rfl⟩))
      go_ret
      exact ⟨rfl, hb⟩
  · have hv0 : (vErr L != 0) = true := by simpa using h0
    have e : rErr L r = vErr L := by unfold rErr; rw [if_pos (by simpa using h0)]
    rw [e]; clear e h0
    go_enter Try.func63, Try.ntmps63
    go_wp2_with (first | (go_at_call 30; refine (rvalidate_c _ _ _ _ _ h).mono ?_; rintro e w' ⟨rfl, hb⟩))
    go_ret
    exact ⟨rfl, hb⟩


set_option maxHeartbeats 400000 in
theorem timed_c (a : Option Addr) (n c : Nat) (L : List Rd) (r t : Int) (w : World) (h : SlO w a n L) : Calls Try.prog 55 #[.slice a n c, .int .i64 r, .int .i64 t] w fun e w' => e = .returned (.int .i64 (tErr L r t)) ∧ Below w.heap.size w w' := by
  by_cases h0 : rErr L r = 0
  · have hv0 : (rErr L r != 0) = false := by rw [h0]; rfl
    by_cases h1 : inB t 0 2000 = true
    · have e : tErr L r t = 0 := by unfold tErr; rw [if_neg (by simpa using h0), if_pos h1]
      rw [e]; clear e h0
      go_enter Try.func55, Try.ntmps55
      go_wp2_with (first | (go_at_call 61; refine (rated_c _ _ _ _ _ _ h).mono ?_; rintro e w' ⟨rfl, hb⟩) | (go_at_call 62; refine (within_c _ _ _ _).mono ?_; rintro e w' ⟨rfl, rfl⟩))
      go_ret
      exact ⟨rfl, hb⟩
    · replace h1 : inB t 0 2000 = false := by simpa using h1
      have e : tErr L r t = 1 := by unfold tErr; rw [if_neg (by simpa using h0), if_neg (by simp [h1])]
      rw [e]; clear e h0
      go_enter Try.func55, Try.ntmps55
      go_wp2_with (first | (go_at_call 61; refine (rated_c _ _ _ _ _ _ h).mono ?_; rintro e w' ⟨rfl, hb⟩) | (go_at_call 62; refine (within_c _ _ _ _).mono ?_; rintro e w' ⟨rfl, rfl⟩))
      go_ret
      exact ⟨rfl, hb⟩
  · have hv0 : (rErr L r != 0) = true := by simpa using h0
    have e : tErr L r t = rErr L r := by unfold tErr; rw [if_pos (by simpa using h0)]
    rw [e]; clear e h0
    go_enter Try.func55, Try.ntmps55
    go_wp2_with (first | (go_at_call 61; refine (rated_c _ _ _ _ _ _ h).mono ?_; rintro e w' ⟨rfl, hb⟩))
    go_ret
    exact ⟨rfl, hb⟩


set_option maxHeartbeats 400000 in
theorem rtimed_c (a : Option Addr) (n c : Nat) (L : List Rd) (r t : Int) (w : World) (h : SlO w a n L) : Calls Try.prog 58 #[.slice a n c, .int .i64 r, .int .i64 t] w fun e w' => e = .returned (.int .i64 (tErr L r t)) ∧ Below w.heap.size w w' := by
  by_cases h0 : rErr L r = 0
  · have hv0 : (rErr L r != 0) = false := by rw [h0]; rfl
    by_cases h1 : inB t 0 2000 = true
    · have e : tErr L r t = 0 := by unfold tErr; rw [if_neg (by simpa using h0), if_pos h1]
      rw [e]; clear e h0
      go_enter Try.func58, Try.ntmps58
      go_wp2_with (first | (go_at_call 63; refine (rrated_c _ _ _ _ _ _ h).mono ?_; rintro e w' ⟨rfl, hb⟩) | (go_at_call 64; refine (rwithin_c _ _ _ _).mono ?_; rintro e w' ⟨rfl, rfl⟩))
      go_ret
      exact ⟨rfl, hb⟩
    · replace h1 : inB t 0 2000 = false := by simpa using h1
      have e : tErr L r t = 1 := by unfold tErr; rw [if_neg (by simpa using h0), if_neg (by simp [h1])]
      rw [e]; clear e h0
      go_enter Try.func58, Try.ntmps58
      go_wp2_with (first | (go_at_call 63; refine (rrated_c _ _ _ _ _ _ h).mono ?_; rintro e w' ⟨rfl, hb⟩) | (go_at_call 64; refine (rwithin_c _ _ _ _).mono ?_; rintro e w' ⟨rfl, rfl⟩))
      go_ret
      exact ⟨rfl, hb⟩
  · have hv0 : (rErr L r != 0) = true := by simpa using h0
    have e : tErr L r t = rErr L r := by unfold tErr; rw [if_pos (by simpa using h0)]
    rw [e]; clear e h0
    go_enter Try.func58, Try.ntmps58
    go_wp2_with (first | (go_at_call 63; refine (rrated_c _ _ _ _ _ _ h).mono ?_; rintro e w' ⟨rfl, hb⟩))
    go_ret
    exact ⟨rfl, hb⟩

end Go.Proofs.Ytgbdcemlnklmoaa
