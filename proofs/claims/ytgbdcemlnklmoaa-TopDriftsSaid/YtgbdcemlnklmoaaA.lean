/- Leaf functions of the package drift and of its reference: their contracts. -/
import Derived.Test.YtgbdcemlnklmoaaB
namespace Go.Proofs.Ytgbdcemlnklmoaa
open Go.RowKit Go.Sort

theorem within_c (n lo hi : Int) (w : World) : Calls Try.prog 62 #[.int .i64 n, .int .i64 lo, .int .i64 hi] w fun e w' => e = .returned (.bool (inB n lo hi)) ∧ w = w' := by
  by_cases h : lo ≤ n
  · have h' : decide (lo ≤ n) = true := by simpa using h
    go_enter Try.func62, Try.ntmps62
    go_wp2
    go_ret
    exact ⟨by simp [inB, h'], rfl⟩
  · have h' : decide (lo ≤ n) = false := by simpa using h
    go_enter Try.func62, Try.ntmps62
    go_wp2
    go_ret
    exact ⟨by simp [inB, h'], rfl⟩


theorem rwithin_c (n lo hi : Int) (w : World) : Calls Try.prog 64 #[.int .i64 n, .int .i64 lo, .int .i64 hi] w fun e w' => e = .returned (.bool (inB n lo hi)) ∧ w = w' := by
  by_cases h : lo ≤ n
  · have h' : decide (lo ≤ n) = true := by simpa using h
    go_enter Try.func64, Try.ntmps64
    go_wp2
    go_ret
    exact ⟨by simp [inB, h'], rfl⟩
  · have h' : decide (lo ≤ n) = false := by simpa using h
    go_enter Try.func64, Try.ntmps64
    go_wp2
    go_ret
    exact ⟨by simp [inB, h'], rfl⟩


theorem far_c (a b : Int) (w : World) (ha : -100000 ≤ a) (ha' : a ≤ 100000) (hb : -100000 ≤ b) (hb' : b ≤ 100000) : Calls Try.prog 69 #[.int .i64 a, .int .i64 b] w fun e w' => e = .returned (.int .i64 (far a b)) ∧ w = w' := by
  by_cases h : a - b < b - a
  · have hf : far a b = b - a := by unfold far; rw [if_pos (by omega)]
    rw [hf]; clear hf
    go_enter Try.func69, Try.ntmps69
    go_wp2
    go_ret
    exact ⟨rfl, rfl⟩
  · have hf : far a b = a - b := by unfold far; split <;> omega
    rw [hf]; clear hf
    go_enter Try.func69, Try.ntmps69
    go_wp2
    go_ret
    exact ⟨rfl, rfl⟩


theorem rfar_c (a b : Int) (w : World) (ha : -100000 ≤ a) (ha' : a ≤ 100000) (hb : -100000 ≤ b) (hb' : b ≤ 100000) : Calls Try.prog 68 #[.int .i64 a, .int .i64 b] w fun e w' => e = .returned (.int .i64 (far a b)) ∧ w = w' := by
  by_cases h : a - b < b - a
  · have hf : far a b = b - a := by unfold far; rw [if_pos (by omega)]
    rw [hf]; clear hf
    go_enter Try.func68, Try.ntmps68
    go_wp2
    go_ret
    exact ⟨rfl, rfl⟩
  · have hf : far a b = a - b := by unfold far; split <;> omega
    rw [hf]; clear hf
    go_enter Try.func68, Try.ntmps68
    go_wp2
    go_ret
    exact ⟨rfl, rfl⟩


theorem isReading_c (x : Rd) (w : World) : Calls Try.prog 67 #[.agg #[.int .i64 x.t, .int .i64 x.lo, .int .i64 x.hi]] w fun e w' => e = .returned (.bool (okRd x)) ∧ Below w.heap.size w w' := by
  obtain ⟨t, lo, hi⟩ := x
  show Calls Try.prog 67 #[.agg #[.int .i64 t, .int .i64 lo, .int .i64 hi]] w _
  have e : okRd ⟨t, lo, hi⟩ = (inB t 0 1000 && inB lo (-1000) 1000 && inB hi lo 1000) := rfl
  rw [e]; clear e
  by_cases h1 : inB t 0 1000 = true
  · by_cases h2 : inB lo (-1000) 1000 = true
    · by_cases h3 : inB hi lo 1000 = true
      · go_enter Try.func67, Try.ntmps67
        go_wp2_with (go_at_call 62; refine (within_c _ _ _ _).mono ?_; rintro e w' ⟨rfl, rfl⟩)
        go_ret
        exact ⟨by simp [*], by go_grown⟩
      · replace h3 : inB hi lo 1000 = false := by simpa using h3
        go_enter Try.func67, Try.ntmps67
        go_wp2_with (go_at_call 62; refine (within_c _ _ _ _).mono ?_; rintro e w' ⟨rfl, rfl⟩)
        go_ret
        exact ⟨by simp [*], by go_grown⟩
    · replace h2 : inB lo (-1000) 1000 = false := by simpa using h2
      go_enter Try.func67, Try.ntmps67
      go_wp2_with (go_at_call 62; refine (within_c _ _ _ _).mono ?_; rintro e w' ⟨rfl, rfl⟩)
      go_ret
      exact ⟨by simp [*], by go_grown⟩
  · replace h1 : inB t 0 1000 = false := by simpa using h1
    go_enter Try.func67, Try.ntmps67
    go_wp2_with (go_at_call 62; refine (within_c _ _ _ _).mono ?_; rintro e w' ⟨rfl, rfl⟩)
    go_ret
    exact ⟨by simp [*], by go_grown⟩


theorem clash_c (x y : Rd) (r : Int) (w : World) (hx : okRd x = true) (hy : okRd y = true) (hr : 0 ≤ r) (hr9 : r ≤ 9) : Calls Try.prog 79 #[.agg #[.int .i64 x.t, .int .i64 x.lo, .int .i64 x.hi], .agg #[.int .i64 y.t, .int .i64 y.lo, .int .i64 y.hi], .int .i64 r] w fun e w' => e = .returned (.bool (clashB x y r)) ∧ Below w.heap.size w w' := by
  obtain ⟨⟨a1, a2⟩, ⟨a3, a4⟩, a5, a6⟩ := okRd_iff.1 hx
  obtain ⟨⟨b1, b2⟩, ⟨b3, b4⟩, b5, b6⟩ := okRd_iff.1 hy
  obtain ⟨w1, w2⟩ := way_bd (r := r) (a := far x.t y.t) hr hr9 (far_nonneg _ _) (by unfold far; split <;> omega)
  have hH : clashB x y r = (decide (r * far x.t y.t < x.lo - y.hi) || decide (r * far x.t y.t < y.lo - x.hi)) := rfl
  have H := Lib.hid hH
  clear hH
  obtain ⟨t, lo, hi⟩ := x
  obtain ⟨t', lo', hi'⟩ := y
  dsimp only at *
  by_cases h : r * far t t' < lo - hi'
  · have hd : decide (r * far t t' < lo - hi') = true := decT h
    go_enter Try.func79, Try.ntmps79
    go_wp2_with (go_at_call 69; refine (far_c _ _ _ (by omega) (by omega) (by omega) (by omega)).mono ?_; rintro e w' ⟨rfl, rfl⟩)
    go_ret
    exact ⟨by rw [H.out, hd]; rfl, by go_grown⟩
  · have hd : decide (r * far t t' < lo - hi') = false := decF h
    go_enter Try.func79, Try.ntmps79
    go_wp2_with (go_at_call 69; refine (far_c _ _ _ (by omega) (by omega) (by omega) (by omega)).mono ?_; rintro e w' ⟨rfl, rfl⟩)
    go_ret
    exact ⟨by rw [H.out, hd]; rfl, by go_grown⟩


theorem rclash_c (x y : Rd) (r : Int) (w : World) (hx : okRd x = true) (hy : okRd y = true) (hr : 0 ≤ r) (hr9 : r ≤ 9) : Calls Try.prog 81 #[.agg #[.int .i64 x.t, .int .i64 x.lo, .int .i64 x.hi], .agg #[.int .i64 y.t, .int .i64 y.lo, .int .i64 y.hi], .int .i64 r] w fun e w' => e = .returned (.bool (clashB x y r)) ∧ Below w.heap.size w w' := by
  obtain ⟨⟨a1, a2⟩, ⟨a3, a4⟩, a5, a6⟩ := okRd_iff.1 hx
  obtain ⟨⟨b1, b2⟩, ⟨b3, b4⟩, b5, b6⟩ := okRd_iff.1 hy
  obtain ⟨w1, w2⟩ := way_bd (r := r) (a := far x.t y.t) hr hr9 (far_nonneg _ _) (by unfold far; split <;> omega)
  have hH : clashB x y r = (decide (r * far x.t y.t < x.lo - y.hi) || decide (r * far x.t y.t < y.lo - x.hi)) := rfl
  have H := Lib.hid hH
  clear hH
  obtain ⟨t, lo, hi⟩ := x
  obtain ⟨t', lo', hi'⟩ := y
  dsimp only at *
  by_cases h : r * far t t' < lo - hi'
  · have hd : decide (r * far t t' < lo - hi') = true := decT h
    go_enter Try.func81, Try.ntmps81
    go_wp2_with (go_at_call 68; refine (rfar_c _ _ _ (by omega) (by omega) (by omega) (by omega)).mono ?_; rintro e w' ⟨rfl, rfl⟩)
    go_ret
    exact ⟨by rw [H.out, hd]; rfl, by go_grown⟩
  · have hd : decide (r * far t t' < lo - hi') = false := decF h
    go_enter Try.func81, Try.ntmps81
    go_wp2_with (go_at_call 68; refine (rfar_c _ _ _ (by omega) (by omega) (by omega) (by omega)).mono ?_; rintro e w' ⟨rfl, rfl⟩)
    go_ret
    exact ⟨by rw [H.out, hd]; rfl, by go_grown⟩

end Go.Proofs.Ytgbdcemlnklmoaa
