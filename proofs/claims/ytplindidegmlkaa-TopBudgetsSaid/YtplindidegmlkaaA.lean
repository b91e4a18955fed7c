/- Leaf functions of the package budget and of its reference: their contracts. -/
import Derived.Test.YtplindidegmlkaaI
import Derived.Test.YtplindidegmlkaaTail
import Derived.WalkSpells
namespace Go.Proofs.Ytplindidegmlkaa
open Go.RowKit Go.Sort

structure Cell2 (w : World) (b : Nat) (x y : Int) : Prop where
  c0 : w.cell? ⟨b, 0, none⟩ = some (.int .i64 x)
  c1 : w.cell? ⟨b, 1, none⟩ = some (.int .i64 y)
  f0 : w.frozen? ⟨b, 0, none⟩ = false
  f1 : w.frozen? ⟨b, 1, none⟩ = false

theorem Cell2.lt {w : World} {b : Nat} {x y : Int} (h : Cell2 w b x y) : b < w.heap.size := block_lt_of_cell h.c0
theorem Cell2.below {w w' : World} {b : Nat} {x y : Int} (h : Cell2 w b x y) (hb : Below w.heap.size w w') : Cell2 w' b x y :=
  ⟨cellB hb h.c0, cellB hb h.c1, by rw [hb.frozen (p := ⟨b, 0, none⟩) h.lt]; exact h.f0, by rw [hb.frozen (p := ⟨b, 1, none⟩) h.lt]; exact h.f1⟩
theorem Cell2.drew {w : World} {b : Nat} {x y : Int} (h : Cell2 w b x y) : Cell2 w.drew b x y := ⟨h.c0, h.c1, h.f0, h.f1⟩
theorem Cell2.set {w : World} {b p q : Nat} {x y : Int} {u : Value} (h : Cell2 w b x y) (hne : b ≠ p) : Cell2 (w.setCell ⟨p, q, none⟩ u) b x y := by
  have e : ∀ o : Nat, (w.setCell ⟨p, q, none⟩ u).cell? ⟨b, o, none⟩ = w.cell? ⟨b, o, none⟩ := fun o => World.cell?_of_block (w := w) (Below.heap_setCell w ⟨p, q, none⟩ u b hne)
  have f : ∀ o : Nat, (w.setCell ⟨p, q, none⟩ u).frozen? ⟨b, o, none⟩ = w.frozen? ⟨b, o, none⟩ := fun o => World.frozen?_of_block (w := w) (Below.heap_setCell w ⟨p, q, none⟩ u b hne)
  exact ⟨by rw [e]; exact h.c0, by rw [e]; exact h.c1, by rw [f]; exact h.f0, by rw [f]; exact h.f1⟩


theorem within_c (n lo hi : Int) (w : World) : Calls Try.prog 66 #[.int .i64 n, .int .i64 lo, .int .i64 hi] w fun e w' => e = .returned (.bool (inB n lo hi)) ∧ w = w' := by
  by_cases h : lo ≤ n
  · have h' : decide (lo ≤ n) = true := by simpa using h
    go_enter Try.func66, Try.ntmps66
    go_wp2
    go_ret
    exact ⟨by simp [inB, h'], rfl⟩
  · have h' : decide (lo ≤ n) = false := by simpa using h
    go_enter Try.func66, Try.ntmps66
    go_wp2
    go_ret
    exact ⟨by simp [inB, h'], rfl⟩

theorem rWithin_c (n lo hi : Int) (w : World) : Calls Try.prog 83 #[.int .i64 n, .int .i64 lo, .int .i64 hi] w fun e w' => e = .returned (.bool (inB n lo hi)) ∧ w = w' := by
  by_cases h : lo ≤ n
  · have h' : decide (lo ≤ n) = true := by simpa using h
    go_enter Try.func83, Try.ntmps83
    go_wp2
    go_ret
    exact ⟨by simp [inB, h'], rfl⟩
  · have h' : decide (lo ≤ n) = false := by simpa using h
    go_enter Try.func83, Try.ntmps83
    go_wp2
    go_ret
    exact ⟨by simp [inB, h'], rfl⟩

def rateB (n d : Int) : Bool := inB d 1 10 && inB n 0 d
def limB (n d : Int) : Bool := inB d 1 1000000 && inB n 0 1000000

theorem isRate_c (n d : Int) (w : World) : Calls Try.prog 67 #[.agg #[.int .i64 n, .int .i64 d]] w fun e w' => e = .returned (.bool (rateB n d)) ∧ Below w.heap.size w w' := by
  have he : rateB n d = (inB d 1 10 && inB n 0 d) := rfl
  rw [he]; clear he
  cases h : inB d 1 10
  · go_enter Try.func67, Try.ntmps67
    go_wp2_with (go_at_call 66; refine (within_c _ _ _ _).mono ?_; rintro e w' ⟨rfl, rfl⟩; simp only [h])
    go_ret
    exact ⟨by simp, by go_grown⟩
  · go_enter Try.func67, Try.ntmps67
    go_wp2_with (go_at_call 66; refine (within_c _ _ _ _).mono ?_; rintro e w' ⟨rfl, rfl⟩; try simp only [h])
    go_ret
    exact ⟨by simp, by go_grown⟩

theorem rIsRate_c (n d : Int) (w : World) : Calls Try.prog 84 #[.agg #[.int .i64 n, .int .i64 d]] w fun e w' => e = .returned (.bool (rateB n d)) ∧ Below w.heap.size w w' := by
  have he : rateB n d = (inB d 1 10 && inB n 0 d) := rfl
  rw [he]; clear he
  cases h : inB d 1 10
  · go_enter Try.func84, Try.ntmps84
    go_wp2_with (go_at_call 83; refine (rWithin_c _ _ _ _).mono ?_; rintro e w' ⟨rfl, rfl⟩; simp only [h])
    go_ret
    exact ⟨by simp, by go_grown⟩
  · go_enter Try.func84, Try.ntmps84
    go_wp2_with (go_at_call 83; refine (rWithin_c _ _ _ _).mono ?_; rintro e w' ⟨rfl, rfl⟩; try simp only [h])
    go_ret
    exact ⟨by simp, by go_grown⟩

theorem isLimit_c (n d : Int) (w : World) : Calls Try.prog 97 #[.agg #[.int .i64 n, .int .i64 d]] w fun e w' => e = .returned (.bool (limB n d)) ∧ Below w.heap.size w w' := by
  have he : limB n d = (inB d 1 1000000 && inB n 0 1000000) := rfl
  rw [he]; clear he
  cases h : inB d 1 1000000
  · go_enter Try.func97, Try.ntmps97
    go_wp2_with (go_at_call 66; refine (within_c _ _ _ _).mono ?_; rintro e w' ⟨rfl, rfl⟩; simp only [h])
    go_ret
    exact ⟨by simp, by go_grown⟩
  · go_enter Try.func97, Try.ntmps97
    go_wp2_with (go_at_call 66; refine (within_c _ _ _ _).mono ?_; rintro e w' ⟨rfl, rfl⟩; try simp only [h])
    go_ret
    exact ⟨by simp, by go_grown⟩

theorem rIsLimit_c (n d : Int) (w : World) : Calls Try.prog 80 #[.agg #[.int .i64 n, .int .i64 d]] w fun e w' => e = .returned (.bool (limB n d)) ∧ Below w.heap.size w w' := by
  have he : limB n d = (inB d 1 1000000 && inB n 0 1000000) := rfl
  rw [he]; clear he
  cases h : inB d 1 1000000
  · go_enter Try.func80, Try.ntmps80
    go_wp2_with (go_at_call 83; refine (rWithin_c _ _ _ _).mono ?_; rintro e w' ⟨rfl, rfl⟩; simp only [h])
    go_ret
    exact ⟨by simp, by go_grown⟩
  · go_enter Try.func80, Try.ntmps80
    go_wp2_with (go_at_call 83; refine (rWithin_c _ _ _ _).mono ?_; rintro e w' ⟨rfl, rfl⟩; try simp only [h])
    go_ret
    exact ⟨by simp, by go_grown⟩

set_option maxHeartbeats 800000 in
theorem low_c (n d : Int) (w : World) (hn : 0 ≤ n) (hn' : n ≤ 1000000000000) (hd : 0 < d) (hd' : d ≤ 1000000000000) :
    Calls Try.prog 79 #[.int .i64 n, .int .i64 d] w fun e w' => e = .returned (.agg #[.int .i64 (redN n d), .int .i64 (redD n d)]) ∧ Below w.heap.size w w' := by
  have hA : Below w.heap.size w (w.alloc (.cells #[.int .i64 0, .int .i64 0] 77)) := (Below.refl _ _).alloc (Nat.le_refl _) _
  have hC : Cell2 (w.alloc (.cells #[.int .i64 0, .int .i64 0] 77)) w.heap.size 0 0 := ⟨by simp [go_sem], by simp [go_sem], by simp [go_sem], by simp [go_sem]⟩
  have HA := Lib.hid hA
  have HC := Lib.hid hC
  have g0 := gcdI_pos (a := n) hd
  have hgn : redN n d = n / gcdI n d := rfl
  have hgd : redD n d = d / gcdI n d := rfl
  rw [hgn, hgd]
  generalize hg : gcdI n d = g at *
  have HG := Lib.hid hg
  clear hg hgn hgd hA hC
  go_enter Try.func79, Try.ntmps79
  go_wp2_with fail
  go_loopw [5, 6] (fun u v wr => ∃ x y : Int, u = .int .i64 x ∧ v = .int .i64 y ∧ 0 ≤ x ∧ x ≤ 1000000000000 ∧ 0 ≤ y ∧ y ≤ 1000000000000 ∧ gcdI x y = g ∧ Below w.heap.size w wr ∧ Cell2 wr w.heap.size 0 0) (fun _ v _ => (intOf v).toNat)
  case atStart => exact ⟨n, d, rfl, rfl, hn, hn', Int.le_of_lt hd, hd', HG.out, HA.out, HC.out⟩
  case round =>
    obtain ⟨x, y, rfl, rfl, hx, hx', hy, hy', hgg, hb, hC⟩ := hrel
    have HG1 := Lib.hid hgg
    have HC1 := Lib.hid hC
    clear hgg HG HA HC hC
    by_cases h0 : y = 0
    · have hne : (y != 0) = false := by simp [h0]
      have HX : Hid (x = g) := Lib.hid (by have := HG1.out; rw [h0, gcdI_zero hx] at this; exact this)
      rw [HX.out]
      have c0 := HC1.out.c0
      have c1 := HC1.out.c1
      have f0 := HC1.out.f0
      have f1 := HC1.out.f1
      have g1 : 1 ≤ g := by omega
      have d0 : 0 ≤ d := by omega
      clear h0
      go_wp2_with fail
      go_region
      go_wp2_with fail
      refine bodyPost_ret (v := .agg #[.int .i64 (n / g), .int .i64 (d / g)]) (by simp [results, Try.results79, go_sem, c0, c1]) rfl ⟨rfl, ?_⟩
      go_grown
    · have hne : (y != 0) = true := by simp [h0]
      have hy0 : 0 < y := by omega
      have m0 : 0 ≤ x % y := Int.emod_nonneg _ h0
      have m1 : x % y < y := Int.emod_lt_of_pos _ hy0
      have HS : Hid (gcdI y (x % y) = g) := Lib.hid (by rw [gcdI_step]; exact HG1.out)
      clear h0
      go_wp2_with fail
      refine wp_region_B (by kernel_rfl) (by kernel_rfl) ?_
      repeat (go_big_quiet_step (fail))
      refine wpQuiet_nil ?_
      intro w3 hb3
      go_wp2_with fail
      exact ⟨⟨y, x % y, rfl, rfl, hy, hy', m0, by omega, HS.out, btr hb hb3, HC1.out.below hb3⟩, by simp [intOf]; omega⟩

set_option maxHeartbeats 800000 in
theorem Ratio_c (n d : Int) (w : World) (hn : 0 ≤ n) (hn' : n ≤ 1000000000000) (hd : 0 < d) (hd' : d ≤ 1000000000000) :
    Calls Try.prog 44 #[.int .i64 n, .int .i64 d] w fun e w' => e = .returned (.agg #[.int .i64 (redN n d), .int .i64 (redD n d)]) ∧ Below w.heap.size w w' := by
  have hA : Below w.heap.size w (w.alloc (.cells #[.int .i64 0, .int .i64 0] 25)) := (Below.refl _ _).alloc (Nat.le_refl _) _
  have hC : Cell2 (w.alloc (.cells #[.int .i64 0, .int .i64 0] 25)) w.heap.size 0 0 := ⟨by simp [go_sem], by simp [go_sem], by simp [go_sem], by simp [go_sem]⟩
  have HA := Lib.hid hA
  have HC := Lib.hid hC
  have g0 := gcdI_pos (a := n) hd
  have hgn : redN n d = n / gcdI n d := rfl
  have hgd : redD n d = d / gcdI n d := rfl
  rw [hgn, hgd]
  generalize hg : gcdI n d = g at *
  have HG := Lib.hid hg
  clear hg hgn hgd hA hC
  go_enter Try.func44, Try.ntmps44
  go_wp2_with fail
  go_loopw [5, 6] (fun u v wr => ∃ x y : Int, u = .int .i64 x ∧ v = .int .i64 y ∧ 0 ≤ x ∧ x ≤ 1000000000000 ∧ 0 ≤ y ∧ y ≤ 1000000000000 ∧ gcdI x y = g ∧ Below w.heap.size w wr ∧ Cell2 wr w.heap.size 0 0) (fun _ v _ => (intOf v).toNat)
  case atStart => exact ⟨n, d, rfl, rfl, hn, hn', Int.le_of_lt hd, hd', HG.out, HA.out, HC.out⟩
  case round =>
    obtain ⟨x, y, rfl, rfl, hx, hx', hy, hy', hgg, hb, hC⟩ := hrel
    have HG1 := Lib.hid hgg
    have HC1 := Lib.hid hC
    clear hgg HG HA HC hC
    by_cases h0 : y = 0
    · have hne : decide (0 < y) = false := decF (by omega)
      have HX : Hid (x = g) := Lib.hid (by have := HG1.out; rw [h0, gcdI_zero hx] at this; exact this)
      rw [HX.out]
      have c0 := HC1.out.c0
      have c1 := HC1.out.c1
      have f0 := HC1.out.f0
      have f1 := HC1.out.f1
      have g1 : 1 ≤ g := by omega
      have d0 : 0 ≤ d := by omega
      clear h0
      go_wp2_with fail
      go_region
      go_wp2_with fail
      refine bodyPost_ret (v := .agg #[.int .i64 (n / g), .int .i64 (d / g)]) (by simp [results, Try.results44, go_sem, c0, c1]) rfl ⟨rfl, ?_⟩
      go_grown
    · have hne : decide (0 < y) = true := decT (by omega)
      have hy0 : 0 < y := by omega
      have m0 : 0 ≤ x % y := Int.emod_nonneg _ h0
      have m1 : x % y < y := Int.emod_lt_of_pos _ hy0
      have HS : Hid (gcdI y (x % y) = g) := Lib.hid (by rw [gcdI_step]; exact HG1.out)
      clear h0
      go_wp2_with fail
      skip
      exact ⟨⟨y, x % y, rfl, rfl, hy, hy', m0, by omega, HS.out, hb, HC1.out⟩, by simp [intOf]; omega⟩
end Go.Proofs.Ytplindidegmlkaa
