/- The examples of the chapter; Long. -/
import Derived.Test.YtplindidegmlkaaZ
namespace Go.Proofs.Ytplindidegmlkaa
open Go.RowKit Go.Sort

def longB (n : Nat) : Bool := decide (50 < n)
theorem longB_false {n : Nat} (h : longB n = false) : n ≤ 50 := by simpa [longB] using h
theorem Long_c (a : Option Addr) (n c : Nat) (w : World) : Calls Try.prog 19 #[.slice a n c] w fun e w' => e = .returned (.bool (longB n)) ∧ Below w.heap.size w w' := by
  have e : longB n = decide ((50 : Int) < (n : Int)) := by unfold longB; rw [decide_eq_decide]; omega
  rw [e]
  clear e
  go_enter Try.func19, Try.ntmps19
  go_wp2
  go_ret
  exact ⟨rfl, Below.refl _ _⟩

def exL : List It := [⟨2, 1, 10⟩, ⟨1, 1, 4⟩]
def exF : List Fx := [⟨1, 1, 10, 5⟩]
def RetEx (w : World) (e : Ending) (w' : World) : Prop := ∃ g, e = .returned (.slice (some ⟨g, 0, none⟩) 2 2) ∧ Sl w' g 0 2 exL ∧ Below w.heap.size w w'
theorem example_c (w : World) : Calls Try.prog 78 #[] w (RetEx w) := by
  go_enter Try.func78, Try.ntmps78
  go_wp2
  go_ret
  refine ⟨w.heap.size, rfl, ⟨rfl, by simp, ?_, ?_, ?_⟩, (Below.refl _ _).alloc (Nat.le_refl _) _⟩
  · intro i hi
    match i, hi with
    | 0, _ => simp [go_sem, exL, at_]
    | 1, _ => simp [go_sem, exL, at_]
  · intro i hi
    match i, hi with
    | 0, _ => simp [go_sem, exL, at_]
    | 1, _ => simp [go_sem, exL, at_]
  · intro i hi
    match i, hi with
    | 0, _ => simp [go_sem, exL, at_]
    | 1, _ => simp [go_sem, exL, at_]

theorem ex_total : totN exL = 9 ∧ totD exL = 20 ∧ vErr exL = 0 := by decide +kernel
theorem ex_chance : chN exL = 157 ∧ chD exL = 400 ∧ caErr exL = 0 := by decide +kernel
theorem ex_cheap : (chO exL exF 3 10).least = 5 ∧ (chO exL exF 3 10).some = true ∧ fiErr exL exF 3 10 = 0 := by decide +kernel
theorem fix_new (w : World) : FlO (w.alloc (.cells #[.int .i64 1, .int .i64 1, .int .i64 10, .int .i64 5] 98)) (some ⟨w.heap.size, 0, none⟩) 1 exF := by
  refine ⟨rfl, .inr ⟨w.heap.size, 0, rfl, ⟨rfl, by simp, ?_, ?_, ?_, ?_⟩⟩⟩ <;> intro i hi <;> obtain rfl : i = 0 := by omega
  all_goals simp [go_sem, exF, fx]

set_option maxRecDepth 100000 in
set_option maxHeartbeats 1600000 in
theorem known_c (w : World) : Calls Try.prog 31 #[] w fun e w' => e = .returned (.bool true) ∧ Below w.heap.size w w' := by
  have T := Lib.hid ex_total
  have C := Lib.hid ex_chance
  have P := Lib.hid ex_cheap
  go_enter Try.func31, Try.ntmps31
  go_wp2_with fail
  refine (example_c _).mono ?_
  rintro e w1 ⟨g, rfl, hS, hb1⟩
  go_wp2_with fail
  refine (Total_c _ _ _ exL _ (SlO.of hS)).mono ?_
  rintro e w2 ⟨rfl, hb2⟩
  rw [T.out.1, T.out.2.1, T.out.2.2]
  have B2 : Below w.heap.size w w2 := btr hb1 hb2
  have ha2 : Below w2.heap.size w2 (w2.alloc (.cells #[.int .i64 9, .int .i64 20] 25)) := (Below.refl _ _).alloc (Nat.le_refl _) _
  have D2 : Cell2 (w2.alloc (.cells #[.int .i64 9, .int .i64 20] 25)) w2.heap.size 9 20 := ⟨by simp [go_sem], by simp [go_sem], by simp [go_sem], by simp [go_sem]⟩
  have A2 := Lib.hid (btr B2 ha2)
  have HD2 := Lib.hid D2
  clear hb1 hb2 hS D2 B2 ha2
  go_wp2_with fail
  refine (example_c _).mono ?_
  rintro e w3 ⟨g3, rfl, hS3, hb3⟩
  go_wp2_with fail
  refine (Chance_c _ _ _ exL _ (SlO.of hS3)).mono ?_
  rintro e w4 ⟨rfl, hb4⟩
  rw [C.out.1, C.out.2.1, C.out.2.2]
  have hb34 := btr hb3 hb4
  have B4 : Below w.heap.size w w4 := btr A2.out hb34
  have ha4 : Below w4.heap.size w4 (w4.alloc (.cells #[.int .i64 157, .int .i64 400] 25)) := (Below.refl _ _).alloc (Nat.le_refl _) _
  have D4 : Cell2 (w4.alloc (.cells #[.int .i64 157, .int .i64 400] 25)) w4.heap.size 157 400 := ⟨by simp [go_sem], by simp [go_sem], by simp [go_sem], by simp [go_sem]⟩
  have E4 := Lib.hid ((HD2.out.below hb34).below ha4)
  have A4 := Lib.hid (btr B4 ha4)
  have HD4 := Lib.hid D4
  clear hb3 hb4 hb34 hS3 D4 B4 ha4 A2 HD2
  go_wp2_with fail
  refine (example_c _).mono ?_
  rintro e w5 ⟨g5, rfl, hS5, hb5⟩
  have ha5 : Below w5.heap.size w5 (w5.alloc (.cells #[.int .i64 1, .int .i64 1, .int .i64 10, .int .i64 5] 98)) := (Below.refl _ _).alloc (Nat.le_refl _) _
  have HS5 := Lib.hid ((SlO.of hS5).below ha5 (Nat.le_refl _))
  have E5 := Lib.hid ((E4.out.below hb5).below ha5)
  have G5 := Lib.hid ((HD4.out.below hb5).below ha5)
  have A5 := Lib.hid (btr (btr A4.out hb5) ha5)
  clear hb5 hS5 ha5 E4 HD4 A4
  go_wp2_with fail
  refine (Cheapest_c _ _ _ exL _ _ _ exF _ _ _ HS5.out (fix_new w5) (by omega)).mono ?_
  rintro e w6 ⟨rfl, hb6⟩
  rw [P.out.1, P.out.2.1, P.out.2.2]
  have E6 := E5.out.below hb6
  have G6 := G5.out.below hb6
  have A6 := Lib.hid (btr A5.out hb6)
  have e0 := E6.c0
  have e1 := E6.c1
  have g0 := G6.c0
  have g1 := G6.c1
  clear E6 G6 hb6
  go_wp2_with fail
  go_ret
  exact ⟨rfl, A6.out⟩
end Go.Proofs.Ytplindidegmlkaa
