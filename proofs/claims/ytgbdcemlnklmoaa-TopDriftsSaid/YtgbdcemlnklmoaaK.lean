/- Long, the example, known: contracts. -/
import Derived.Test.YtgbdcemlnklmoaaU
namespace Go.Proofs.Ytgbdcemlnklmoaa
open Go.RowKit Go.Sort

/-- A cell that is there stays through what only makes memory. -/
theorem cellB {w w' : World} {a : Addr} {v : Value} (hb : Below w.heap.size w w') (h : w.cell? a = some v) : w'.cell? a = some v := by
  rw [hb.cell (block_lt_of_cell h)]; exact h

def longB (n : Nat) : Bool := decide (100 < n)

theorem Long_c (a : Option Addr) (n c : Nat) (w : World) : Calls Try.prog 17 #[.slice a n c] w fun e w' => e = .returned (.bool (longB n)) ∧ Below w.heap.size w w' := by
  by_cases h : 100 < n
  · have e : longB n = true := decT h
    rw [e]
    have h' : (100 : Int) < n := by omega
    go_enter Try.func17, Try.ntmps17
    go_wp2
    go_ret
    exact ⟨by simp, Below.refl _ _⟩
  · have e : longB n = false := decF h
    rw [e]
    have h' : ¬ (100 : Int) < n := by omega
    go_enter Try.func17, Try.ntmps17
    go_wp2
    go_ret
    exact ⟨by simp, Below.refl _ _⟩

theorem example_c (w : World) : Calls Try.prog 54 #[] w fun e w' => e = .returned (.slice (some ⟨w.heap.size, 0, none⟩) 2 2) ∧ Sl w' w.heap.size 0 2 exR ∧ Below w.heap.size w w' := by
  go_enter Try.func54, Try.ntmps54
  go_wp2
  go_ret
  refine ⟨rfl, ⟨rfl, by simp, ?_, ?_, ?_⟩, by go_grown⟩
  all_goals
    intro i hi
    have hi' : i = 0 ∨ i = 1 := by omega
    rcases hi' with rfl | rfl <;> simp [go_sem, exR, at_]


set_option maxHeartbeats 800000 in
theorem known_c (w : World) : Calls Try.prog 18 #[] w fun e w' => e = .returned (.bool true) ∧ Below w.heap.size w w' := by
  have f1 := exR_verr
  have f2 : oN (slowO exR) = 2 := by rw [exR_slow]; rfl
  have f3 : (slowO exR).isSome = true := by rw [exR_slow]; rfl
  obtain ⟨f4, f5, f6, f7⟩ := exR_bounds
  have f8 := exU_uerr
  have f9 : oI (untilO exU 1 4) = 4 := by rw [exU_until]; rfl
  have f10 : (untilO exU 1 4).isSome = true := by rw [exU_until]; rfl
  go_enter Try.func18, Try.ntmps18
  go_wp2_with fail
  refine (example_c _).mono ?_
  rintro e w1 ⟨rfl, hS1, hb1⟩
  go_wp2_with fail
  refine (Slowest_c _ _ _ _ _ (SlO.of hS1)).mono ?_
  rintro e w2 ⟨rfl, hb2⟩
  simp only [f1, f2, f3]
  go_wp2_with fail
  refine (example_c _).mono ?_
  rintro e w3 ⟨rfl, hS3, hb3⟩
  go_wp2_with fail
  refine (Bounds_c _ _ _ _ _ _ _ (SlO.of hS3) (by omega) (by unfold maxLen; omega)).mono ?_
  rintro e w4 ⟨rfl, hb4⟩
  simp only [f4, f5, f6, f7]
  go_wp2_with fail
  have hS : Sl (w4.alloc (.cells #[.int .i64 3, .int .i64 0, .int .i64 2] 54)) w4.heap.size 0 1 exU := by
    refine ⟨rfl, by simp, ?_, ?_, ?_⟩
    all_goals
      intro i hi
      obtain rfl : i = 0 := by omega
      simp [go_sem, exU, at_]
  refine (Until_c _ _ _ _ _ _ _ (SlO.of hS) (by omega) (by unfold maxLen; omega)).mono ?_
  rintro e w5 ⟨rfl, hb5⟩
  simp only [f8, f9, f10]
  go_wp2_with fail
  go_ret
  exact ⟨rfl, btr (btr (btr (btr hb1 hb2) hb3) hb4) (btr ((Below.refl _ _).alloc (Nat.le_refl _) _) hb5)⟩

end Go.Proofs.Ytgbdcemlnklmoaa
