/- BudgetChecks: the walk. -/
import Derived.Test.YtplindidegmlkaaLawCheapest
namespace Go.Proofs.Ytplindidegmlkaa
open Go.RowKit Go.Sort

/-- A block of three values. -/
structure CellV (w : World) (b : Nat) (u0 u1 u2 : Value) : Prop where
  c0 : w.cell? ⟨b, 0, none⟩ = some u0
  c1 : w.cell? ⟨b, 1, none⟩ = some u1
  c2 : w.cell? ⟨b, 2, none⟩ = some u2
theorem CellV.lt {w : World} {b : Nat} {u0 u1 u2 : Value} (h : CellV w b u0 u1 u2) : b < w.heap.size := block_lt_of_cell h.c0
theorem CellV.below {w w' : World} {b : Nat} {u0 u1 u2 : Value} (h : CellV w b u0 u1 u2) (hb : Below w.heap.size w w') : CellV w' b u0 u1 u2 :=
  ⟨cellB hb h.c0, cellB hb h.c1, cellB hb h.c2⟩

theorem ck_facts {L : List It} {F : List Fx} {x y : Int} {ch : List Int} (h : ckErr L F x y ch = 0) : fiErr L F x y = 0 ∧ (chO L F x y).some = true ∧ (chO L F x y).least ≤ ckC L F x y ch := by
  obtain ⟨h0, h1, h2⟩ := ckErr_zero.1 h
  have e : ckC L F x y ch = wcL F ch := if_pos h
  rw [chO_ok h0, e]
  rcases che_best L F x y with ⟨_, h3⟩ | ⟨a1, a2, a3, a4, a5⟩
  · have h4 : cdB L F x y ch = true := h2
    rw [h3 ch h1] at h4; cases h4
  · refine ⟨h0, a1, ?_⟩
    have := a5 ch h1 h2
    omega

set_option maxRecDepth 100000 in
set_option maxHeartbeats 3200000 in
theorem checks_w (a : Option Addr) (n c : Nat) (L : List It) (fa : Option Addr) (m fc : Nat) (F : List Fx) (x y : Int) (ca : Option Addr) (p cc : Nat) (ch : List Int) (w : World) (h : SlO w a n L) (hc : n ≤ c) (hm : c ≤ maxLen) (hf : FlO w fa m F) (hc2 : m ≤ fc) (hm2 : fc ≤ maxLen) (hch : IsO w ca p ch) (hc3 : p ≤ cc) (hm3 : cc ≤ maxLen) :
    Calls Try.prog 15 #[.slice a n c, .slice fa m fc, .agg #[.int .i64 x, .int .i64 y, .slice ca p cc]] w fun e w' => e = .returned (.bool true) ∧ Below w.heap.size w w' := by
  have _ := hc
  have _ := hm
  have _ := hc2
  have _ := hm2
  have _ := hc3
  have _ := hm3
  have self := fun x : Int => (show (x != x) = false by simp)
  have selfe := fun x : Int => (show (x == x) = true by simp)
  have selfb := fun x : Bool => (show (x != x) = false by simp)
  have selfc := fun x : Bool => (show (x == x) = true by simp)
  have hmm : m ≤ 9223372036854775807 := by unfold maxLen at hm2; omega
  cases hl : longB n
  case true =>
    go_enter Try.func15, Try.ntmps15
    go_wp2_with fail
    refine (Long_c _ _ _ _).mono ?_
    rintro e w1 ⟨rfl, hb1⟩
    have ha1 : Below w.heap.size w w1 := btr ((Below.refl _ _).alloc (Nat.le_refl _) _) hb1
    have D0 : CellV w1 w.heap.size (.int .i64 x) (.int .i64 y) (.slice ca p cc) := CellV.below (w := w.alloc (.cells #[.int .i64 x, .int .i64 y, .slice ca p cc] 72)) ⟨by simp [go_sem], by simp [go_sem], by simp [go_sem]⟩ hb1
    have B1 : Below w.heap.size w w1 := btr ((Below.refl w.heap.size w).alloc (Nat.le_refl _) _) hb1
    simp only [hl]
    have D00 := D0.c0
    have D01 := D0.c1
    have D02 := D0.c2
    go_wp2_with fail
    refine (known_c _).mono ?_
    rintro e w2 ⟨rfl, hb2⟩
    clear D00 D01 D02
    have B2 : Below w.heap.size w w2 := btr B1 hb2
    replace D0 := D0.below hb2
    have D00 := D0.c0
    have D01 := D0.c1
    have D02 := D0.c2
    go_wp2_with fail
    go_ret
    exact ⟨rfl, B2⟩
  case false =>
    by_cases h50 : 50 < m
    · have h50' : (50 : Int) < m := by omega
      go_enter Try.func15, Try.ntmps15
      go_wp2_with fail
      refine (Long_c _ _ _ _).mono ?_
      rintro e w1 ⟨rfl, hb1⟩
      have ha1 : Below w.heap.size w w1 := btr ((Below.refl _ _).alloc (Nat.le_refl _) _) hb1
      have D0 : CellV w1 w.heap.size (.int .i64 x) (.int .i64 y) (.slice ca p cc) := CellV.below (w := w.alloc (.cells #[.int .i64 x, .int .i64 y, .slice ca p cc] 72)) ⟨by simp [go_sem], by simp [go_sem], by simp [go_sem]⟩ hb1
      have B1 : Below w.heap.size w w1 := btr ((Below.refl w.heap.size w).alloc (Nat.le_refl _) _) hb1
      simp only [hl]
      have D00 := D0.c0
      have D01 := D0.c1
      have D02 := D0.c2
      go_wp2_with fail
      refine (known_c _).mono ?_
      rintro e w2 ⟨rfl, hb2⟩
      clear D00 D01 D02
      have B2 : Below w.heap.size w w2 := btr B1 hb2
      replace D0 := D0.below hb2
      have D00 := D0.c0
      have D01 := D0.c1
      have D02 := D0.c2
      go_wp2_with fail
      go_ret
      exact ⟨rfl, B2⟩
    · have h50' : ¬ (50 : Int) < m := by omega
      by_cases h51 : 50 < p
      · have h51' : (50 : Int) < p := by omega
        go_enter Try.func15, Try.ntmps15
        go_wp2_with fail
        refine (Long_c _ _ _ _).mono ?_
        rintro e w1 ⟨rfl, hb1⟩
        have ha1 : Below w.heap.size w w1 := btr ((Below.refl _ _).alloc (Nat.le_refl _) _) hb1
        have D0 : CellV w1 w.heap.size (.int .i64 x) (.int .i64 y) (.slice ca p cc) := CellV.below (w := w.alloc (.cells #[.int .i64 x, .int .i64 y, .slice ca p cc] 72)) ⟨by simp [go_sem], by simp [go_sem], by simp [go_sem]⟩ hb1
        have B1 : Below w.heap.size w w1 := btr ((Below.refl w.heap.size w).alloc (Nat.le_refl _) _) hb1
        simp only [hl]
        have D00 := D0.c0
        have D01 := D0.c1
        have D02 := D0.c2
        go_wp2_with fail
        refine (known_c _).mono ?_
        rintro e w2 ⟨rfl, hb2⟩
        clear D00 D01 D02
        have B2 : Below w.heap.size w w2 := btr B1 hb2
        replace D0 := D0.below hb2
        have D00 := D0.c0
        have D01 := D0.c1
        have D02 := D0.c2
        go_wp2_with fail
        go_ret
        exact ⟨rfl, B2⟩
      · have h51' : ¬ (50 : Int) < p := by omega
        by_cases h0 : ckErr L F x y ch = 0
        · have hz : (ckErr L F x y ch != 0) = false := by simp [h0]
          obtain ⟨hfi, hso, hle⟩ := ck_facts h0
          have HFI := Lib.hid hfi
          have HSO := Lib.hid hso
          have hle' : decide ((chO L F x y).least ≤ ckC L F x y ch) = true := decT hle
          clear h0 hfi hso
          go_enter Try.func15, Try.ntmps15
          go_wp2_with fail
          refine (Long_c _ _ _ _).mono ?_
          rintro e w1 ⟨rfl, hb1⟩
          have ha1 : Below w.heap.size w w1 := btr ((Below.refl _ _).alloc (Nat.le_refl _) _) hb1
          have D0 : CellV w1 w.heap.size (.int .i64 x) (.int .i64 y) (.slice ca p cc) := CellV.below (w := w.alloc (.cells #[.int .i64 x, .int .i64 y, .slice ca p cc] 72)) ⟨by simp [go_sem], by simp [go_sem], by simp [go_sem]⟩ hb1
          have B1 : Below w.heap.size w w1 := btr ((Below.refl w.heap.size w).alloc (Nat.le_refl _) _) hb1
          simp only [hl]
          have D00 := D0.c0
          have D01 := D0.c1
          have D02 := D0.c2
          go_wp2_with fail
          refine (CheckChoice_c _ _ _ L _ _ _ F x y _ _ _ ch _ (h.below B1 (Nat.le_refl _)) (hf.below B1 (Nat.le_refl _)) (hch.below B1 (Nat.le_refl _)) hmm (by omega)).mono ?_
          rintro e w2 ⟨rfl, hb2⟩
          clear D00 D01 D02
          have B2 : Below w.heap.size w w2 := btr B1 hb2
          replace D0 := D0.below hb2
          have D00 := D0.c0
          have D01 := D0.c1
          have D02 := D0.c2
          go_wp2_with fail
          refine (rCheckChoice_c _ _ _ L _ _ _ F x y _ _ _ ch _ (h.below B2 (Nat.le_refl _)) (hf.below B2 (Nat.le_refl _)) (hch.below B2 (Nat.le_refl _)) hmm (by omega)).mono ?_
          rintro e w3 ⟨rfl, hb3⟩
          clear D00 D01 D02
          have B3 : Below w.heap.size w w3 := btr B2 hb3
          replace D0 := D0.below hb3
          have D00 := D0.c0
          have D01 := D0.c1
          have D02 := D0.c2
          go_wp2_with fail
          refine (Cheapest_c _ _ _ L _ _ _ F x y _ (h.below B3 (Nat.le_refl _)) (hf.below B3 (Nat.le_refl _)) hmm).mono ?_
          rintro e w4 ⟨rfl, hb4⟩
          clear D00 D01 D02
          have B4 : Below w.heap.size w w4 := btr B3 hb4
          replace D0 := D0.below hb4
          rw [HFI.out, HSO.out]
          have D00 := D0.c0
          have D01 := D0.c1
          have D02 := D0.c2
          go_wp2_with fail
          refine (known_c _).mono ?_
          rintro e w5 ⟨rfl, hb5⟩
          clear D00 D01 D02
          have B5 : Below w.heap.size w w5 := btr B4 hb5
          replace D0 := D0.below hb5
          have D00 := D0.c0
          have D01 := D0.c1
          have D02 := D0.c2
          go_wp2_with fail
          go_ret
          exact ⟨rfl, B5⟩
        · have hz : (ckErr L F x y ch != 0) = true := by simp [h0]
          clear h0
          go_enter Try.func15, Try.ntmps15
          go_wp2_with fail
          refine (Long_c _ _ _ _).mono ?_
          rintro e w1 ⟨rfl, hb1⟩
          have ha1 : Below w.heap.size w w1 := btr ((Below.refl _ _).alloc (Nat.le_refl _) _) hb1
          have D0 : CellV w1 w.heap.size (.int .i64 x) (.int .i64 y) (.slice ca p cc) := CellV.below (w := w.alloc (.cells #[.int .i64 x, .int .i64 y, .slice ca p cc] 72)) ⟨by simp [go_sem], by simp [go_sem], by simp [go_sem]⟩ hb1
          have B1 : Below w.heap.size w w1 := btr ((Below.refl w.heap.size w).alloc (Nat.le_refl _) _) hb1
          simp only [hl]
          have D00 := D0.c0
          have D01 := D0.c1
          have D02 := D0.c2
          go_wp2_with fail
          refine (CheckChoice_c _ _ _ L _ _ _ F x y _ _ _ ch _ (h.below B1 (Nat.le_refl _)) (hf.below B1 (Nat.le_refl _)) (hch.below B1 (Nat.le_refl _)) hmm (by omega)).mono ?_
          rintro e w2 ⟨rfl, hb2⟩
          clear D00 D01 D02
          have B2 : Below w.heap.size w w2 := btr B1 hb2
          replace D0 := D0.below hb2
          have D00 := D0.c0
          have D01 := D0.c1
          have D02 := D0.c2
          go_wp2_with fail
          refine (rCheckChoice_c _ _ _ L _ _ _ F x y _ _ _ ch _ (h.below B2 (Nat.le_refl _)) (hf.below B2 (Nat.le_refl _)) (hch.below B2 (Nat.le_refl _)) hmm (by omega)).mono ?_
          rintro e w3 ⟨rfl, hb3⟩
          clear D00 D01 D02
          have B3 : Below w.heap.size w w3 := btr B2 hb3
          replace D0 := D0.below hb3
          have D00 := D0.c0
          have D01 := D0.c1
          have D02 := D0.c2
          go_wp2_with fail
          refine (Cheapest_c _ _ _ L _ _ _ F x y _ (h.below B3 (Nat.le_refl _)) (hf.below B3 (Nat.le_refl _)) hmm).mono ?_
          rintro e w4 ⟨rfl, hb4⟩
          clear D00 D01 D02
          have B4 : Below w.heap.size w w4 := btr B3 hb4
          replace D0 := D0.below hb4
          have D00 := D0.c0
          have D01 := D0.c1
          have D02 := D0.c2
          go_wp2_with fail
          refine (known_c _).mono ?_
          rintro e w5 ⟨rfl, hb5⟩
          clear D00 D01 D02
          have B5 : Below w.heap.size w w5 := btr B4 hb5
          replace D0 := D0.below hb5
          have D00 := D0.c0
          have D01 := D0.c1
          have D02 := D0.c2
          go_wp2_with fail
          go_ret
          exact ⟨rfl, B5⟩
end Go.Proofs.Ytplindidegmlkaa
