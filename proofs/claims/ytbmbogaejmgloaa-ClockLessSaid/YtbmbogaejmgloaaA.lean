/- Leaf functions of the package clock and of its reference: their contracts. -/
import Derived.Test.YtbmbogaejmgloaaI
namespace Go.Proofs.Ytbmbogaejmgloaa
open Go.RowKit Go.Sort

theorem limit_c (j e : Int) (w : World) : Calls Try.prog 94 #[.agg #[.int .i64 j, .int .i64 e]] w fun r w' => r = .returned (.int .i64 e) ∧ Below w.heap.size w w' := by
  go_enter Try.func94, Try.ntmps94
  go_wp2
  go_ret
  exact ⟨rfl, by go_grown⟩

/-- The name of the method that an urgency has for its limit, as the type bears it. -/
noncomputable def limitName : String := (Try.prog.types[83]?.bind fun i => i.methods[1]?.bind fun m => some m.name).getD Try.f94.name

set_option maxRecDepth 100000 in
theorem ahead_c (j e j2 e2 : Int) (w : World) : Calls Try.prog 76 #[.agg #[.int .i64 j, .int .i64 e], .iface 83 (.agg #[.int .i64 j2, .int .i64 e2])] w fun r w' => r = .returned (.bool (decide (e < e2))) ∧ Below w.heap.size w w' := by
  go_enter Try.func76, Try.ntmps76
  go_wp2_with fail
  refine wp_world ?_
  intro w1 hw1
  have B1 : Below w.heap.size w w1 := by rw [hw1]; exact (Below.refl _ _).alloc (Nat.le_refl _) _
  have x0 : w1.cell? ⟨w.heap.size, 1, none⟩ = some (.int .i64 e) := by rw [hw1]; simp [go_sem]
  have k0 := cell_regrown x0
  clear hw1
  have hm : ∀ w : World, Sem.run Try.prog (method 205 83 (.agg #[.int .i64 j2, .int .i64 e2]) limitName) w = .ok (94, .agg #[.int .i64 j2, .int .i64 e2]) w := fun _ => by kernel_rfl
  conv at hm in limitName => whnf
  have cF := fun d os => Calls.regrown_of (limit_c j2 e2 (grow (redrawn w1 d) os))
  refine wp_region_B (by kernel_rfl) (by kernel_rfl) ?_
  repeat (go_big_quiet_step (exact cF _ _))
  refine wpQuiet_nil ?_
  intro w2 hb2
  go_wp2
  go_ret
  exact ⟨rfl, btr B1 hb2⟩

theorem within_c (n lo hi : Int) (w : World) : Calls Try.prog 42 #[.int .i64 n, .int .i64 lo, .int .i64 hi] w fun e w' => e = .returned (.bool (inB n lo hi)) ∧ w = w' := by
  by_cases h : lo ≤ n
  · have h' : decide (lo ≤ n) = true := by simpa using h
    go_enter Try.func42, Try.ntmps42
    go_wp2
    go_ret
    exact ⟨by simp [inB, h'], rfl⟩
  · have h' : decide (lo ≤ n) = false := by simpa using h
    go_enter Try.func42, Try.ntmps42
    go_wp2
    go_ret
    exact ⟨by simp [inB, h'], rfl⟩

theorem small_c (y : Int) (w : World) : Calls Try.prog 68 #[.int .i64 y] w fun e w' => e = .returned (.int .i64 (small y)) ∧ w = w' := by
  by_cases h1 : y ≤ 120
  · by_cases h2 : -120 < y
    · have hs : small y = y := by unfold small; omega
      rw [hs]; clear hs
      go_enter Try.func68, Try.ntmps68
      go_wp2
      go_ret
      exact ⟨rfl, rfl⟩
    · have hs : small y = -120 := by unfold small; omega
      rw [hs]; clear hs
      go_enter Try.func68, Try.ntmps68
      go_wp2
      go_ret
      exact ⟨rfl, rfl⟩
  · have hs : small y = 120 := by unfold small; omega
    rw [hs]; clear hs
    go_enter Try.func68, Try.ntmps68
    go_wp2
    go_ret
    exact ⟨rfl, rfl⟩

theorem right_c (x : Jb) (w : World) : Calls Try.prog 74 #[.agg #[.int .i64 x.s, .int .i64 x.e, .int .i64 x.d]] w fun e w' => e = .returned (.bool (okJ x)) ∧ Below w.heap.size w w' := by
  obtain ⟨s, e, d⟩ := x
  show Calls Try.prog 74 #[.agg #[.int .i64 s, .int .i64 e, .int .i64 d]] w _
  have he : okJ ⟨s, e, d⟩ = (decide (0 ≤ s) && decide (s < e) && decide (e ≤ 60) && inB d 1 60) := rfl
  rw [he]; clear he
  by_cases h0 : 0 ≤ s
  · have d0 := decT h0
    by_cases h1 : s < e
    · have d1 := decT h1
      by_cases h2 : e ≤ 60
      · have d2 := decT h2
        go_enter Try.func74, Try.ntmps74
        go_wp2_with (go_at_call 42; refine (within_c _ _ _ _).mono ?_; rintro e w' ⟨rfl, rfl⟩)
        go_ret
        exact ⟨by simp [*], by go_grown⟩
      · have d2 := decF h2
        go_enter Try.func74, Try.ntmps74
        go_wp2_with (go_at_call 42; refine (within_c _ _ _ _).mono ?_; rintro e w' ⟨rfl, rfl⟩)
        go_ret
        exact ⟨by simp [*], by go_grown⟩
    · have d1 := decF h1
      go_enter Try.func74, Try.ntmps74
      go_wp2_with (go_at_call 42; refine (within_c _ _ _ _).mono ?_; rintro e w' ⟨rfl, rfl⟩)
      go_ret
      exact ⟨by simp [*], by go_grown⟩
  · have d0 := decF h0
    go_enter Try.func74, Try.ntmps74
    go_wp2_with (go_at_call 42; refine (within_c _ _ _ _).mono ?_; rintro e w' ⟨rfl, rfl⟩)
    go_ret
    exact ⟨by simp [*], by go_grown⟩

end Go.Proofs.Ytbmbogaejmgloaa
