/- ClockTables: the walk. -/
import Derived.Test.YtbmbogaejmgloaaK
import Derived.Test.YtbmbogaejmgloaaC
namespace Go.Proofs.Ytbmbogaejmgloaa
open Go.RowKit Go.Sort

set_option maxRecDepth 100000 in
set_option maxHeartbeats 3200000 in
theorem tables_w (a : Option Addr) (n c : Nat) (L : List Jb) (a2 : Option Addr) (n2 c2 : Nat) (xs : List Int) (w : World) (h : SlO w a n L) (hc : n ≤ c) (hm : c ≤ maxLen) (h2 : IsO w a2 n2 xs) (hc2 : n2 ≤ c2) (hm2 : c2 ≤ maxLen) :
    Calls Try.prog 13 #[.slice a n c, .slice a2 n2 c2] w fun e w' => e = .returned (.bool true) ∧ Below w.heap.size w w' := by
  have _ := hc
  have _ := hm
  have self := fun x : Int => (show (x != x) = false by simp)
  have selfe := fun x : Int => (show (x == x) = true by simp)
  have selfb := fun x : Bool => (show (x != x) = false by simp)
  have selfc := fun x : Bool => (show (x == x) = true by simp)
  have hn2 : n2 ≤ 9223372036854775807 := Nat.le_trans hc2 (Nat.le_trans hm2 (by decide))
  cases hl : longB n
  case true =>
    go_enter Try.func13, Try.ntmps13
    go_wp2_with fail
    refine (Long_c _ _ _ _).mono ?_
    rintro e w1 ⟨rfl, hb1⟩
    have B1 : Below w.heap.size w w1 := btr (Below.refl _ _) hb1
    simp only [hl]
    go_wp2_with fail
    refine (known_c _).mono ?_
    rintro e w2 ⟨rfl, hb2⟩
    have B2 : Below w.heap.size w w2 := btr B1 hb2
    go_wp2_with fail
    go_ret
    exact ⟨rfl, B2⟩
  case false =>
    by_cases ht : 1000 < n2
    · have dt : decide (1000 < n2) = true := decT ht
      go_enter Try.func13, Try.ntmps13
      go_wp2_with fail
      refine (Long_c _ _ _ _).mono ?_
      rintro e w1 ⟨rfl, hb1⟩
      have B1 : Below w.heap.size w w1 := btr (Below.refl _ _) hb1
      simp only [hl]
      go_wp2_with fail
      refine (known_c _).mono ?_
      rintro e w2 ⟨rfl, hb2⟩
      have B2 : Below w.heap.size w w2 := btr B1 hb2
      go_wp2_with fail
      go_ret
      exact ⟨rfl, B2⟩
    · have dt : decide (1000 < n2) = false := decF ht
      go_enter Try.func13, Try.ntmps13
      go_wp2_with fail
      refine (Long_c _ _ _ _).mono ?_
      rintro e w1 ⟨rfl, hb1⟩
      have B1 : Below w.heap.size w w1 := btr (Below.refl _ _) hb1
      simp only [hl]
      go_wp2_with fail
      refine (Validate_c _ _ _ _ _ (h.below B1 (Nat.le_refl _))).mono ?_
      rintro e w2 ⟨rfl, hb2⟩
      have B2 : Below w.heap.size w w2 := btr B1 hb2
      go_wp2_with fail
      refine (rValidate_c _ _ _ _ _ (h.below B2 (Nat.le_refl _))).mono ?_
      rintro e w3 ⟨rfl, hb3⟩
      have B3 : Below w.heap.size w w3 := btr B2 hb3
      go_wp2_with fail
      refine (CheckTable_c _ _ _ _ _ _ _ _ _ (h.below B3 (Nat.le_refl _)) (h2.below B3 (Nat.le_refl _)) hn2).mono ?_
      rintro e w4 ⟨rfl, hb4⟩
      have B4 : Below w.heap.size w w4 := btr B3 hb4
      go_wp2_with fail
      refine (rCheckTable_c _ _ _ _ _ _ _ _ _ (h.below B4 (Nat.le_refl _)) (h2.below B4 (Nat.le_refl _)) hn2).mono ?_
      rintro e w5 ⟨rfl, hb5⟩
      have B5 : Below w.heap.size w w5 := btr B4 hb5
      go_wp2_with fail
      refine (known_c _).mono ?_
      rintro e w6 ⟨rfl, hb6⟩
      have B6 : Below w.heap.size w w6 := btr B5 hb6
      go_wp2_with fail
      go_ret
      exact ⟨rfl, B6⟩
end Go.Proofs.Ytbmbogaejmgloaa
