/- BudgetRooms: the walk. -/
import Derived.Test.YtplindidegmlkaaRo2
import Derived.Test.YtplindidegmlkaaK
namespace Go.Proofs.Ytplindidegmlkaa
open Go.RowKit Go.Sort

/-- A block of three values. -/
structure CellV (w : World) (b : Nat) (u0 u1 u2 : Value) : Prop where
  c0 : w.cell? ⟨b, 0, none⟩ = some u0
  c1 : w.cell? ⟨b, 1, none⟩ = some u1
  c2 : w.cell? ⟨b, 2, none⟩ = some u2
theorem CellV.lt {w : World} {b : Nat} {u0 u1 u2 : Value} (h : CellV w b u0 u1 u2) : b < w.heap.size := block_lt_of_cell h.c0
theorem CellV.below {w w' : World} {b : Nat} {u0 u1 u2 : Value} (h : CellV w b u0 u1 u2) (hb : Below w.heap.size w w') : CellV w' b u0 u1 u2 :=
  ⟨cellB hb h.c0, cellB hb h.c1, cellB hb h.c2⟩

set_option maxRecDepth 100000 in
set_option maxHeartbeats 3200000 in
theorem rooms_w (a : Option Addr) (n c : Nat) (L : List It) (x y k : Int) (w : World) (h : SlO w a n L) (hc : n ≤ c) (hm : c ≤ maxLen) :
    Calls Try.prog 11 #[.slice a n c, .agg #[.int .i64 x, .int .i64 y, .int .i64 k]] w fun e w' => e = .returned (.bool true) ∧ Below w.heap.size w w' := by
  have _ := hc
  have _ := hm
  have self := fun x : Int => (show (x != x) = false by simp)
  have selfe := fun x : Int => (show (x == x) = true by simp)
  have selfb := fun x : Bool => (show (x != x) = false by simp)
  have selfc := fun x : Bool => (show (x == x) = true by simp)
  have hn9 : n ≤ 9223372036854775807 := by unfold maxLen at hm; omega
  cases hl : longB n
  case true =>
    go_enter Try.func11, Try.ntmps11
    go_wp2_with fail
    refine (Long_c _ _ _ _).mono ?_
    rintro e w1 ⟨rfl, hb1⟩
    have ha1 : Below w.heap.size w w1 := btr ((Below.refl _ _).alloc (Nat.le_refl _) _) hb1
    have D0 : CellV w1 w.heap.size (.int .i64 x) (.int .i64 y) (.int .i64 k) := CellV.below (w := w.alloc (.cells #[.int .i64 x, .int .i64 y, .int .i64 k] 67)) ⟨by simp [go_sem], by simp [go_sem], by simp [go_sem]⟩ hb1
    have B1 : Below w.heap.size w w1 := btr ((Below.refl w.heap.size w).alloc (Nat.le_refl _) _) hb1
    simp only [hl]
    have D00 := D0.c0
    have D01 := D0.c1
    have D02 := D0.c2
    go_wp2_with fail
    refine (known_c _).mono ?_
    rintro e w2 ⟨rfl, hb2⟩
    clear D00 D01 D02
    have B2 : Below w.heap.size w w2 := btr B1 hb2
    replace D0 := D0.below hb2
    have D00 := D0.c0
    have D01 := D0.c1
    have D02 := D0.c2
    go_wp2_with fail
    go_ret
    exact ⟨rfl, B2⟩
  case false =>
    go_enter Try.func11, Try.ntmps11
    go_wp2_with fail
    refine (Long_c _ _ _ _).mono ?_
    rintro e w1 ⟨rfl, hb1⟩
    have ha1 : Below w.heap.size w w1 := btr ((Below.refl _ _).alloc (Nat.le_refl _) _) hb1
    have D0 : CellV w1 w.heap.size (.int .i64 x) (.int .i64 y) (.int .i64 k) := CellV.below (w := w.alloc (.cells #[.int .i64 x, .int .i64 y, .int .i64 k] 67)) ⟨by simp [go_sem], by simp [go_sem], by simp [go_sem]⟩ hb1
    have B1 : Below w.heap.size w w1 := btr ((Below.refl w.heap.size w).alloc (Nat.le_refl _) _) hb1
    simp only [hl]
    have D00 := D0.c0
    have D01 := D0.c1
    have D02 := D0.c2
    go_wp2_with fail
    refine (Room_c _ _ _ L x y k _ (h.below B1 (Nat.le_refl _)) hn9).mono ?_
    rintro e w2 ⟨rfl, hb2⟩
    clear D00 D01 D02
    have B2 : Below w.heap.size w w2 := btr B1 hb2
    replace D0 := D0.below hb2
    have D00 := D0.c0
    have D01 := D0.c1
    have D02 := D0.c2
    go_wp2_with fail
    refine (rRoom_c _ _ _ L x y k _ (h.below B2 (Nat.le_refl _)) hn9).mono ?_
    rintro e w3 ⟨rfl, hb3⟩
    clear D00 D01 D02
    have B3 : Below w.heap.size w w3 := btr B2 hb3
    replace D0 := D0.below hb3
    have D00 := D0.c0
    have D01 := D0.c1
    have D02 := D0.c2
    go_wp2_with fail
    refine (known_c _).mono ?_
    rintro e w4 ⟨rfl, hb4⟩
    clear D00 D01 D02
    have B4 : Below w.heap.size w w4 := btr B3 hb4
    replace D0 := D0.below hb4
    have D00 := D0.c0
    have D01 := D0.c1
    have D02 := D0.c2
    go_wp2_with fail
    go_ret
    exact ⟨rfl, B4⟩
end Go.Proofs.Ytplindidegmlkaa
