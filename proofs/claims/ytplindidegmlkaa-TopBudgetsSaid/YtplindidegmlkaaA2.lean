/- Fractions of the package budget; parts of the whole; what the laws calculate with. -/
import Derived.Test.YtplindidegmlkaaA
namespace Go.Proofs.Ytplindidegmlkaa
open Go.RowKit Go.Sort

structure Frac (n d : Int) : Prop where
  n0 : 0 ≤ n
  n1 : n ≤ 200000000
  d0 : 0 ≤ d
  d1 : d ≤ 200000000

theorem Frac.mul {a b c d : Int} (h : Frac a b) (k : Frac c d) : 0 ≤ a * d ∧ a * d ≤ 40000000000000000 :=
  mul_bd h.n0 h.n1 k.d0 k.d1

theorem compare_c (a b c d : Int) (w : World) (h : Frac a b) (k : Frac c d) : Calls Try.prog 62 #[.agg #[.int .i64 a, .int .i64 b], .agg #[.int .i64 c, .int .i64 d]] w fun e w' => e = .returned (.int .i64 (a * d - c * b)) ∧ Below w.heap.size w w' := by
  obtain ⟨m1, m2⟩ := h.mul k
  obtain ⟨m3, m4⟩ := k.mul h
  go_enter Try.func62, Try.ntmps62
  go_wp2
  go_ret
  exact ⟨rfl, by go_grown⟩

theorem less_c (a b c d : Int) (w : World) (h : Frac a b) (k : Frac c d) : Calls Try.prog 35 #[.agg #[.int .i64 a, .int .i64 b], .agg #[.int .i64 c, .int .i64 d]] w fun e w' => e = .returned (.bool (decide (a * d < c * b))) ∧ Below w.heap.size w w' := by
  obtain ⟨m1, m2⟩ := h.mul k
  obtain ⟨m3, m4⟩ := k.mul h
  go_enter Try.func35, Try.ntmps35
  go_wp2
  go_ret
  exact ⟨rfl, by go_grown⟩

theorem fair_c (n d : Int) (w : World) (h : 0 ≤ n ∧ n ≤ 134217728 ∧ 1 ≤ d ∧ d ≤ 134217728) : Calls Try.prog 34 #[.agg #[.int .i64 n, .int .i64 d]] w fun e w' => e = .returned (.bool true) ∧ Below w.heap.size w w' := by
  obtain ⟨h1, h2, h3, h4⟩ := h
  go_enter Try.func34, Try.ntmps34
  go_wp2
  go_ret
  exact ⟨rfl, by go_grown⟩

theorem part_c (n d : Int) (w : World) (h : 0 ≤ n ∧ n ≤ 1000000) : Calls Try.prog 89 #[.agg #[.int .i64 n, .int .i64 d]] w fun e w' => e = .returned (.int .i64 (partI n d)) ∧ Below w.heap.size w w' := by
  obtain ⟨h1, h2⟩ := h
  by_cases hd : d < 1
  · have e : partI n d = 0 := if_pos hd
    rw [e]
    go_enter Try.func89, Try.ntmps89
    go_wp2
    go_ret
    exact ⟨rfl, by go_grown⟩
  · have e : partI n d = n * 2520 / d := if_neg hd
    rw [e]
    have hd1 : 1 ≤ d := by omega
    have hq1 : 0 ≤ n * 2520 := by omega
    clear e
    go_enter Try.func89, Try.ntmps89
    go_wp2
    go_ret
    exact ⟨rfl, by go_grown⟩

theorem plus_c (a b c d : Int) (w : World) (ha : 0 ≤ a ∧ a ≤ 200000 ∧ 1 ≤ b ∧ b ≤ 3000) (hc : 0 ≤ c ∧ c ≤ 200000 ∧ 1 ≤ d ∧ d ≤ 3000) :
    Calls Try.prog 95 #[.agg #[.int .i64 a, .int .i64 b], .agg #[.int .i64 c, .int .i64 d]] w fun e w' => e = .returned (.agg #[.int .i64 (redN (a * d + c * b) (b * d)), .int .i64 (redD (a * d + c * b) (b * d))]) ∧ Below w.heap.size w w' := by
  obtain ⟨a1, a2, a3, a4⟩ := ha
  obtain ⟨c1, c2, c3, c4⟩ := hc
  obtain ⟨m1, m2⟩ := mul_bd a1 a2 (b := d) (by omega) c4
  obtain ⟨m3, m4⟩ := mul_bd c1 c2 (b := b) (by omega) a4
  obtain ⟨m5, m6⟩ := mul_bd (a := b) (b := d) (by omega) a4 (by omega) c4
  have m7 : 0 < b * d := Int.mul_pos (by omega) (by omega)
  go_enter Try.func95, Try.ntmps95
  go_wp2_with fail
  refine (low_c _ _ _ (by omega) (by omega) m7 (by omega)).mono ?_
  rintro e w1 ⟨rfl, hb1⟩
  have hc := Cell2.below (w := ((w.alloc (.cells #[.int .i64 a, .int .i64 b] 77)).alloc (.cells #[.int .i64 c, .int .i64 d] 77)).alloc (.cells #[.int .i64 0, .int .i64 0] 77)) (b := w.heap.size + 1 + 1) (x := 0) (y := 0) ⟨by simp [go_sem], by simp [go_sem], by simp [go_sem], by simp [go_sem]⟩ hb1
  have c0 := hc.c0
  have c1 := hc.c1
  have f0 := hc.f0
  have f1 := hc.f1
  have B1 : Below w.heap.size w w1 := btr ((((Below.refl _ _).alloc (Nat.le_refl _) _).alloc (by simp) _).alloc (by simp; omega) _) hb1
  clear hc hb1
  go_wp2_with fail
  refine bodyPost_ret (v := .agg #[.int .i64 (redN (a * d + c * b) (b * d)), .int .i64 (redD (a * d + c * b) (b * d))]) (by simp [results, Try.results95, go_sem, c0, c1]) rfl ⟨rfl, ?_⟩
  go_grown

theorem share_c (u n d : Int) (w : World) (h : okI ⟨u, n, d⟩ = true) :
    Calls Try.prog 94 #[.agg #[.int .i64 u, .int .i64 n, .int .i64 d]] w fun e w' => e = .returned (.agg #[.int .i64 (shN ⟨u, n, d⟩), .int .i64 (shD ⟨u, n, d⟩)]) ∧ Below w.heap.size w w' := by
  obtain ⟨a1, a2, a3, a4, a5, a6⟩ := okI_iff.1 h
  dsimp only at a1 a2 a3 a4 a5 a6
  show Calls Try.prog 94 #[.agg #[.int .i64 u, .int .i64 n, .int .i64 d]] w fun e w' => e = .returned (.agg #[.int .i64 (redN (u * n) d), .int .i64 (redD (u * n) d)]) ∧ Below w.heap.size w w'
  obtain ⟨m1, m2⟩ := mul_bd (a := u) (b := n) (A := 8) (B := 10) (by omega) a2 a5 (by omega)
  clear h
  go_enter Try.func94, Try.ntmps94
  go_wp2_with fail
  refine (low_c _ _ _ (by omega) (by omega) (by omega) (by omega)).mono ?_
  rintro e w1 ⟨rfl, hb1⟩
  have hc := Cell2.below (w := (w.alloc (.cells #[.int .i64 u, .int .i64 n, .int .i64 d] 31)).alloc (.cells #[.int .i64 0, .int .i64 0] 77)) (b := w.heap.size + 1) (x := 0) (y := 0) ⟨by simp [go_sem], by simp [go_sem], by simp [go_sem], by simp [go_sem]⟩ hb1
  have c0 := hc.c0
  have c1 := hc.c1
  have f0 := hc.f0
  have f1 := hc.f1
  have B1 : Below w.heap.size w w1 := btr (((Below.refl _ _).alloc (Nat.le_refl _) _).alloc (by simp) _) hb1
  clear hc hb1
  go_wp2_with fail
  refine bodyPost_ret (v := .agg #[.int .i64 (redN (u * n) d), .int .i64 (redD (u * n) d)]) (by simp [results, Try.results94, go_sem, c0, c1]) rfl ⟨rfl, ?_⟩
  go_grown
end Go.Proofs.Ytplindidegmlkaa
