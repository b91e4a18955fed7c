/- Validate at any length. -/
import Derived.Test.YtgbdcemlnklmoaaV
namespace Go.Proofs.Ytgbdcemlnklmoaa
open Go.RowKit Go.Sort

theorem validate_c (a : Option Addr) (n c : Nat) (L : List Rd) (w : World) (h : SlO w a n L) : Calls Try.prog 29 #[.slice a n c] w fun e w' => e = .returned (.int .i64 (vErr L)) ∧ Below w.heap.size w w' := by
  obtain ⟨hl, h2⟩ := h
  by_cases h1 : 1 ≤ n
  · by_cases h8 : n ≤ 8
    · rcases h2 with h2 | ⟨b, o, rfl, hS⟩
      · omega
      · have e : vErr L = okE L n := by unfold vErr; rw [if_neg (by omega), hl]
        rw [e]
        exact validate_in b o n c L w hS h1 h8
    · have e : vErr L = 3 := by unfold vErr; rw [if_pos (by omega)]
      rw [e]
      clear e h2 hl
      have g1 : ¬ ((n : Int) < 1) := by omega
      have g2 : (8 : Int) < n := by omega
      go_enter Try.func29, Try.ntmps29
      go_wp2
      go_ret
      exact ⟨rfl, Below.refl _ _⟩
  · have e : vErr L = 3 := by unfold vErr; rw [if_pos (by omega)]
    rw [e]
    obtain rfl : n = 0 := by omega
    clear e h2 hl
    go_enter Try.func29, Try.ntmps29
    go_wp2
    go_ret
    exact ⟨rfl, Below.refl _ _⟩


theorem rvalidate_c (a : Option Addr) (n c : Nat) (L : List Rd) (w : World) (h : SlO w a n L) : Calls Try.prog 30 #[.slice a n c] w fun e w' => e = .returned (.int .i64 (vErr L)) ∧ Below w.heap.size w w' := by
  obtain ⟨hl, h2⟩ := h
  by_cases h1 : 1 ≤ n
  · by_cases h8 : n ≤ 8
    · rcases h2 with h2 | ⟨b, o, rfl, hS⟩
      · omega
      · have e : vErr L = okE L n := by unfold vErr; rw [if_neg (by omega), hl]
        rw [e]
        exact rvalidate_in b o n c L w hS h1 h8
    · have e : vErr L = 3 := by unfold vErr; rw [if_pos (by omega)]
      rw [e]
      clear e h2 hl
      have hin : inB (n : Int) 1 8 = false := inB_false.2 (by omega)
      go_enter Try.func30, Try.ntmps30
      go_wp2_with (go_at_call 64; refine (rwithin_c _ _ _ _).mono ?_; rintro e w' ⟨rfl, rfl⟩)
      go_ret
      exact ⟨rfl, Below.refl _ _⟩
  · have e : vErr L = 3 := by unfold vErr; rw [if_pos (by omega)]
    rw [e]
    obtain rfl : n = 0 := by omega
    clear e h2 hl
    have hin : inB 0 1 8 = false := rfl
    go_enter Try.func30, Try.ntmps30
    go_wp2_with (go_at_call 64; refine (rwithin_c _ _ _ _).mono ?_; rintro e w' ⟨rfl, rfl⟩)
    go_ret
    exact ⟨rfl, Below.refl _ _⟩

end Go.Proofs.Ytgbdcemlnklmoaa
