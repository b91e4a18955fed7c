/- TopBudgets: the first ways out: the walk. -/
import Derived.Test.YtplindidegmlkaaTq
namespace Go.Proofs.Ytplindidegmlkaa
open Go.RowKit Go.Sort

set_option maxRecDepth 100000 in
set_option maxHeartbeats 6400000 in
theorem top_long (a : Option Addr) (n c : Nat) (L : List It) (fa : Option Addr) (m fc : Nat) (F : List Fx) (x y : Int) (w : World) (h : SlO w a n L) (hc : n ≤ c) (hm : c ≤ maxLen) (hf : FlO w fa m F) (hc2 : m ≤ fc) (hm2 : fc ≤ maxLen) (hl : longB n = true) :
    Calls Try.prog 3 #[.slice a n c, .slice fa m fc, .agg #[.int .i64 x, .int .i64 y]] w fun e w' => e = .returned (.bool true) ∧ Below w.heap.size w w' := by
  have _ := h
  have _ := hf
  have _ := hc
  have _ := hm
  have _ := hc2
  have _ := hm2
  have self := fun x : Int => (show (x != x) = false by simp)
  have selfe := fun x : Int => (show (x == x) = true by simp)
  have selfb := fun x : Bool => (show (x != x) = false by simp)
  have selfc := fun x : Bool => (show (x == x) = true by simp)
  have hmm : m ≤ 9223372036854775807 := by unfold maxLen at hm2; omega
  go_enter Try.func3, Try.ntmps3
  have hal : Below w.heap.size w (w.alloc (.cells #[.int .i64 x, .int .i64 y] 25)) := (Below.refl _ _).alloc (Nat.le_refl _) _
  have D0 : Cell2 (w.alloc (.cells #[.int .i64 x, .int .i64 y] 25)) w.heap.size x y := ⟨by simp [go_sem], by simp [go_sem], by simp [go_sem], by simp [go_sem]⟩
  have BF : Below w.heap.size w (w.alloc (.cells #[.int .i64 x, .int .i64 y] 25)) := ((Below.refl w.heap.size w).alloc (Nat.le_refl _) _)
  have D00 := D0.c0
  have D01 := D0.c1
  go_wp2_with fail
  refine (WorstEx_c (w.alloc (.cells #[.int .i64 x, .int .i64 y] 25)) _ (by simp)).mono ?_
  rintro e w1 ⟨b1, o1, c1, rfl, r1, hb1⟩
  clear D00 D01
  have B1 : Below w.heap.size w w1 := btr BF hb1
  replace D0 := D0.below hb1
  clear BF hal
  have D00 := D0.c0
  have D01 := D0.c1
  go_wp2_with fail
  refine (Long_c _ _ _ _).mono ?_
  rintro e w2 ⟨rfl, hb2⟩
  clear D00 D01
  have B2 : Below w.heap.size w w2 := btr B1 hb2
  replace D0 := D0.below hb2
  simp only [hl]
  clear r1
  have D00 := D0.c0
  have D01 := D0.c1
  go_wp2_with fail
  go_ret
  exact ⟨rfl, B2⟩

set_option maxRecDepth 100000 in
set_option maxHeartbeats 6400000 in
theorem top_50 (a : Option Addr) (n c : Nat) (L : List It) (fa : Option Addr) (m fc : Nat) (F : List Fx) (x y : Int) (w : World) (h : SlO w a n L) (hc : n ≤ c) (hm : c ≤ maxLen) (hf : FlO w fa m F) (hc2 : m ≤ fc) (hm2 : fc ≤ maxLen) (hl : longB n = false) (h50' : (50 : Int) < m) :
    Calls Try.prog 3 #[.slice a n c, .slice fa m fc, .agg #[.int .i64 x, .int .i64 y]] w fun e w' => e = .returned (.bool true) ∧ Below w.heap.size w w' := by
  have _ := h
  have _ := hf
  have _ := hc
  have _ := hm
  have _ := hc2
  have _ := hm2
  have self := fun x : Int => (show (x != x) = false by simp)
  have selfe := fun x : Int => (show (x == x) = true by simp)
  have selfb := fun x : Bool => (show (x != x) = false by simp)
  have selfc := fun x : Bool => (show (x == x) = true by simp)
  have hmm : m ≤ 9223372036854775807 := by unfold maxLen at hm2; omega
  go_enter Try.func3, Try.ntmps3
  have hal : Below w.heap.size w (w.alloc (.cells #[.int .i64 x, .int .i64 y] 25)) := (Below.refl _ _).alloc (Nat.le_refl _) _
  have D0 : Cell2 (w.alloc (.cells #[.int .i64 x, .int .i64 y] 25)) w.heap.size x y := ⟨by simp [go_sem], by simp [go_sem], by simp [go_sem], by simp [go_sem]⟩
  have BF : Below w.heap.size w (w.alloc (.cells #[.int .i64 x, .int .i64 y] 25)) := ((Below.refl w.heap.size w).alloc (Nat.le_refl _) _)
  have D00 := D0.c0
  have D01 := D0.c1
  go_wp2_with fail
  refine (WorstEx_c (w.alloc (.cells #[.int .i64 x, .int .i64 y] 25)) _ (by simp)).mono ?_
  rintro e w1 ⟨b1, o1, c1, rfl, r1, hb1⟩
  clear D00 D01
  have B1 : Below w.heap.size w w1 := btr BF hb1
  replace D0 := D0.below hb1
  clear BF hal
  have D00 := D0.c0
  have D01 := D0.c1
  go_wp2_with fail
  refine (Long_c _ _ _ _).mono ?_
  rintro e w2 ⟨rfl, hb2⟩
  clear D00 D01
  have B2 : Below w.heap.size w w2 := btr B1 hb2
  replace D0 := D0.below hb2
  simp only [hl]
  clear r1
  have D00 := D0.c0
  have D01 := D0.c1
  go_wp2_with fail
  go_ret
  exact ⟨rfl, B2⟩

set_option maxRecDepth 100000 in
set_option maxHeartbeats 6400000 in
theorem top_bad (a : Option Addr) (n c : Nat) (L : List It) (fa : Option Addr) (m fc : Nat) (F : List Fx) (x y : Int) (w : World) (h : SlO w a n L) (hc : n ≤ c) (hm : c ≤ maxLen) (hf : FlO w fa m F) (hc2 : m ≤ fc) (hm2 : fc ≤ maxLen) (hl : longB n = false) (h50' : ¬ (50 : Int) < m) (hz : (vErr L != 0) = true) :
    Calls Try.prog 3 #[.slice a n c, .slice fa m fc, .agg #[.int .i64 x, .int .i64 y]] w fun e w' => e = .returned (.bool true) ∧ Below w.heap.size w w' := by
  have _ := h
  have _ := hf
  have _ := hc
  have _ := hm
  have _ := hc2
  have _ := hm2
  have self := fun x : Int => (show (x != x) = false by simp)
  have selfe := fun x : Int => (show (x == x) = true by simp)
  have selfb := fun x : Bool => (show (x != x) = false by simp)
  have selfc := fun x : Bool => (show (x == x) = true by simp)
  have hmm : m ≤ 9223372036854775807 := by unfold maxLen at hm2; omega
  go_enter Try.func3, Try.ntmps3
  have hal : Below w.heap.size w (w.alloc (.cells #[.int .i64 x, .int .i64 y] 25)) := (Below.refl _ _).alloc (Nat.le_refl _) _
  have D0 : Cell2 (w.alloc (.cells #[.int .i64 x, .int .i64 y] 25)) w.heap.size x y := ⟨by simp [go_sem], by simp [go_sem], by simp [go_sem], by simp [go_sem]⟩
  have BF : Below w.heap.size w (w.alloc (.cells #[.int .i64 x, .int .i64 y] 25)) := ((Below.refl w.heap.size w).alloc (Nat.le_refl _) _)
  have D00 := D0.c0
  have D01 := D0.c1
  go_wp2_with fail
  refine (WorstEx_c (w.alloc (.cells #[.int .i64 x, .int .i64 y] 25)) _ (by simp)).mono ?_
  rintro e w1 ⟨b1, o1, c1, rfl, r1, hb1⟩
  clear D00 D01
  have B1 : Below w.heap.size w w1 := btr BF hb1
  replace D0 := D0.below hb1
  clear BF hal
  have D00 := D0.c0
  have D01 := D0.c1
  go_wp2_with fail
  refine (Long_c _ _ _ _).mono ?_
  rintro e w2 ⟨rfl, hb2⟩
  clear D00 D01
  have B2 : Below w.heap.size w w2 := btr B1 hb2
  replace D0 := D0.below hb2
  simp only [hl]
  clear r1
  have D00 := D0.c0
  have D01 := D0.c1
  go_wp2_with fail
  refine (Total_c _ _ _ L _ (h.below B2 (Nat.le_refl _))).mono ?_
  rintro e w3 ⟨rfl, hb3⟩
  clear D00 D01
  have B3 : Below w.heap.size w w3 := btr B2 hb3
  replace D0 := D0.below hb3
  have D00 := D0.c0
  have D01 := D0.c1
  have D0l := D0.lt
  go_wp2_with fail
  refine (Validate_c _ _ _ L _ (h.below (B3.alloc B3.size _) (Nat.le_refl _))).mono ?_
  rintro e w4 ⟨rfl, hb4⟩
  clear D00 D01 D0l
  have ha4 : Below w3.heap.size w3 w4 := btr ((Below.refl _ _).alloc (Nat.le_refl _) _) hb4
  have T : Cell2 w4 w3.heap.size (totN L) (totD L) := Cell2.below (w := w3.alloc (.cells #[.int .i64 (totN L), .int .i64 (totD L)] 25)) ⟨by simp [go_sem], by simp [go_sem], by simp [go_sem], by simp [go_sem]⟩ hb4
  have B4 : Below w.heap.size w w4 := btr (B3.alloc B3.size _) hb4
  replace D0 := D0.below ha4
  have D00 := D0.c0
  have D01 := D0.c1
  have T0 := T.c0
  have T1 := T.c1
  go_wp2_with fail
  go_ret
  exact ⟨rfl, B4⟩
end Go.Proofs.Ytplindidegmlkaa
