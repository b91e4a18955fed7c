/- BudgetCheapest: the walk. -/
import Derived.Test.YtplindidegmlkaaJ
import Derived.Test.YtplindidegmlkaaQ
import Derived.Test.YtplindidegmlkaaK
namespace Go.Proofs.Ytplindidegmlkaa
open Go.RowKit Go.Sort

theorem che_facts {L : List It} {F : List Fx} {x y : Int} (_h : fiErr L F x y = 0) (hs : (che L F x y).some = true) : OkC F (che L F x y).best ∧ clB (wiL L F (che L F x y).best) x y = true ∧ (che L F x y).least = wcL F (che L F x y).best ∧ ∀ c, OkC F c → clB (wiL L F c) x y = true → (che L F x y).least ≤ wcL F c := by
  rcases che_best L F x y with ⟨h1, _⟩ | ⟨a1, a2, a3, a4, a5⟩
  · rw [h1] at hs; cases hs
  · refine ⟨a2, a3, a4, fun c hc hcl => ?_⟩
    have := a5 c hc hcl
    omega
theorem chO_no {L : List It} {F : List Fx} {x y : Int} (h : (chO L F x y).some = false) : (chO L F x y).best = [] := by
  by_cases h0 : fiErr L F x y = 0
  · rw [chO_ok h0] at h ⊢
    rcases che_best L F x y with ⟨h1, _⟩ | ⟨a1, _⟩
    · rw [h1]; rfl
    · rw [a1] at h; cases h
  · rw [chO_bad h0]; rfl
theorem chO_yes {L : List It} {F : List Fx} {x y : Int} (h : (chO L F x y).some = true) : fiErr L F x y = 0 ∧ ckErr L F x y (chO L F x y).best = 0 ∧ ckC L F x y (chO L F x y).best = (chO L F x y).least ∧ (chO L F x y).best.length ≤ 8 := by
  have h0 : fiErr L F x y = 0 := by
    apply Classical.byContradiction
    intro hn
    rw [chO_bad hn] at h; cases h
  rw [chO_ok h0] at h ⊢
  obtain ⟨a, b, c, _⟩ := che_facts h0 h
  have e := ckErr_zero.2 ⟨h0, a, b⟩
  refine ⟨h0, e, ?_, ?_⟩
  · unfold ckC; rw [if_pos e, c]
  · have := a.1.len
    have := (fiErr_zero.1 h0).1.le
    omega
theorem chO_len {L : List It} {F : List Fx} {x y : Int} : (chO L F x y).best.length ≤ 8 := by
  cases h : (chO L F x y).some
  · rw [chO_no h]; simp
  · exact (chO_yes h).2.2.2

set_option maxRecDepth 100000 in
set_option maxHeartbeats 3200000 in
theorem cheapest_w (a : Option Addr) (n c : Nat) (L : List It) (fa : Option Addr) (m fc : Nat) (F : List Fx) (x y : Int) (w : World) (h : SlO w a n L) (hc : n ≤ c) (hm : c ≤ maxLen) (hf : FlO w fa m F) (hc2 : m ≤ fc) (hm2 : fc ≤ maxLen) :
    Calls Try.prog 17 #[.slice a n c, .slice fa m fc, .agg #[.int .i64 x, .int .i64 y]] w fun e w' => e = .returned (.bool true) ∧ Below w.heap.size w w' := by
  have _ := hc
  have _ := hm
  have _ := hc2
  have _ := hm2
  have self := fun x : Int => (show (x != x) = false by simp)
  have selfe := fun x : Int => (show (x == x) = true by simp)
  have selfb := fun x : Bool => (show (x != x) = false by simp)
  have selfc := fun x : Bool => (show (x == x) = true by simp)
  have hmm : m ≤ 9223372036854775807 := by unfold maxLen at hm2; omega
  have h8 := chO_len (L := L) (F := F) (x := x) (y := y)
  cases hl : longB n
  case true =>
    go_enter Try.func17, Try.ntmps17
    go_wp2_with fail
    refine (Long_c _ _ _ _).mono ?_
    rintro e w1 ⟨rfl, hb1⟩
    have ha1 : Below w.heap.size w w1 := btr ((Below.refl _ _).alloc (Nat.le_refl _) _) hb1
    have D0 : Cell2 w1 w.heap.size x y := Cell2.below (w := w.alloc (.cells #[.int .i64 x, .int .i64 y] 25)) ⟨by simp [go_sem], by simp [go_sem], by simp [go_sem], by simp [go_sem]⟩ hb1
    have B1 : Below w.heap.size w w1 := btr ((Below.refl w.heap.size w).alloc (Nat.le_refl _) _) hb1
    simp only [hl]
    have D00 := D0.c0
    have D01 := D0.c1
    go_wp2_with fail
    refine (known_c _).mono ?_
    rintro e w2 ⟨rfl, hb2⟩
    clear D00 D01
    have B2 : Below w.heap.size w w2 := btr B1 hb2
    replace D0 := D0.below hb2
    have D00 := D0.c0
    have D01 := D0.c1
    go_wp2_with fail
    go_ret
    exact ⟨rfl, B2⟩
  case false =>
    by_cases h50 : 50 < m
    · have h50' : (50 : Int) < m := by omega
      go_enter Try.func17, Try.ntmps17
      go_wp2_with fail
      refine (Long_c _ _ _ _).mono ?_
      rintro e w1 ⟨rfl, hb1⟩
      have ha1 : Below w.heap.size w w1 := btr ((Below.refl _ _).alloc (Nat.le_refl _) _) hb1
      have D0 : Cell2 w1 w.heap.size x y := Cell2.below (w := w.alloc (.cells #[.int .i64 x, .int .i64 y] 25)) ⟨by simp [go_sem], by simp [go_sem], by simp [go_sem], by simp [go_sem]⟩ hb1
      have B1 : Below w.heap.size w w1 := btr ((Below.refl w.heap.size w).alloc (Nat.le_refl _) _) hb1
      simp only [hl]
      have D00 := D0.c0
      have D01 := D0.c1
      go_wp2_with fail
      refine (known_c _).mono ?_
      rintro e w2 ⟨rfl, hb2⟩
      clear D00 D01
      have B2 : Below w.heap.size w w2 := btr B1 hb2
      replace D0 := D0.below hb2
      have D00 := D0.c0
      have D01 := D0.c1
      go_wp2_with fail
      go_ret
      exact ⟨rfl, B2⟩
    · have h50' : ¬ (50 : Int) < m := by omega
      cases hs : (chO L F x y).some
      · have hbe : (chO L F x y).best.length = 0 := by rw [chO_no hs]; rfl
        have HBE := Lib.hid hbe
        clear hbe
        go_enter Try.func17, Try.ntmps17
        go_wp2_with fail
        refine (Long_c _ _ _ _).mono ?_
        rintro e w1 ⟨rfl, hb1⟩
        have ha1 : Below w.heap.size w w1 := btr ((Below.refl _ _).alloc (Nat.le_refl _) _) hb1
        have D0 : Cell2 w1 w.heap.size x y := Cell2.below (w := w.alloc (.cells #[.int .i64 x, .int .i64 y] 25)) ⟨by simp [go_sem], by simp [go_sem], by simp [go_sem], by simp [go_sem]⟩ hb1
        have B1 : Below w.heap.size w w1 := btr ((Below.refl w.heap.size w).alloc (Nat.le_refl _) _) hb1
        simp only [hl]
        have D00 := D0.c0
        have D01 := D0.c1
        go_wp2_with fail
        refine (Cheapest_c _ _ _ L _ _ _ F x y _ (h.below B1 (Nat.le_refl _)) (hf.below B1 (Nat.le_refl _)) hmm).mono ?_
        rintro e w2 ⟨rfl, hb2⟩
        clear D00 D01
        have B2 : Below w.heap.size w w2 := btr B1 hb2
        replace D0 := D0.below hb2
        have D00 := D0.c0
        have D01 := D0.c1
        go_wp2_with fail
        refine (rCheapest_c _ _ _ L _ _ _ F x y _ (h.below B2 (Nat.le_refl _)) (hf.below B2 (Nat.le_refl _)) hmm).mono ?_
        rintro e w3 ⟨rfl, hb3⟩
        clear D00 D01
        have B3 : Below w.heap.size w w3 := btr B2 hb3
        replace D0 := D0.below hb3
        have D00 := D0.c0
        have D01 := D0.c1
        go_wp2_with fail
        refine (Choice_c _ _ _ L _ _ _ F x y _ (h.below B3 (Nat.le_refl _)) (hf.below B3 (Nat.le_refl _)) hmm).mono ?_
        rintro e w4 ⟨v4, rfl, hv4, hb4⟩
        clear D00 D01
        have B4 : Below w.heap.size w w4 := btr B3 hb4
        replace D0 := D0.below hb4
        obtain ⟨a4, c4, e4, i4, l4, m4, q4⟩ := hv4
        rw [e4]
        clear e4 q4
        have D00 := D0.c0
        have D01 := D0.c1
        go_wp2_with fail
        refine (rChoice_c _ _ _ L _ _ _ F x y _ (h.below B4 (Nat.le_refl _)) (hf.below B4 (Nat.le_refl _)) hmm).mono ?_
        rintro e w5 ⟨v5, rfl, hv5, hb5⟩
        clear D00 D01
        have B5 : Below w.heap.size w w5 := btr B4 hb5
        replace i4 := i4.below hb5 (Nat.le_refl _)
        replace D0 := D0.below hb5
        obtain ⟨a5, c5, e5, i5, l5, m5, q5⟩ := hv5
        rw [e5]
        clear e5 q5
        rw [hs]
        have D00 := D0.c0
        have D01 := D0.c1
        go_wp2_with fail
        refine (SameInts_c _ _ _ _ _ (chO L F x y).best _ i4 i5 (by omega)).mono ?_
        rintro e w6 ⟨rfl, hb6⟩
        clear D00 D01
        have B6 : Below w.heap.size w w6 := btr B5 hb6
        replace i4 := i4.below hb6 (Nat.le_refl _)
        replace i5 := i5.below hb6 (Nat.le_refl _)
        replace D0 := D0.below hb6
        clear i5
        have hbe := HBE.out
        have D00 := D0.c0
        have D01 := D0.c1
        clear D00 D01
        have D00 := D0.c0
        have D01 := D0.c1
        go_wp2_with fail
        refine (known_c _).mono ?_
        rintro e w7 ⟨rfl, hb7⟩
        clear D00 D01
        have B7 : Below w.heap.size w w7 := btr B6 hb7
        replace i4 := i4.below hb7 (Nat.le_refl _)
        replace D0 := D0.below hb7
        have D00 := D0.c0
        have D01 := D0.c1
        go_wp2_with fail
        go_ret
        exact ⟨rfl, B7⟩
      · obtain ⟨hfi, hck, hcc, -⟩ := chO_yes hs
        have HFI := Lib.hid hfi
        have HCK := Lib.hid hck
        have HCC := Lib.hid hcc
        clear hfi hck hcc
        go_enter Try.func17, Try.ntmps17
        go_wp2_with fail
        refine (Long_c _ _ _ _).mono ?_
        rintro e w1 ⟨rfl, hb1⟩
        have ha1 : Below w.heap.size w w1 := btr ((Below.refl _ _).alloc (Nat.le_refl _) _) hb1
        have D0 : Cell2 w1 w.heap.size x y := Cell2.below (w := w.alloc (.cells #[.int .i64 x, .int .i64 y] 25)) ⟨by simp [go_sem], by simp [go_sem], by simp [go_sem], by simp [go_sem]⟩ hb1
        have B1 : Below w.heap.size w w1 := btr ((Below.refl w.heap.size w).alloc (Nat.le_refl _) _) hb1
        simp only [hl]
        have D00 := D0.c0
        have D01 := D0.c1
        go_wp2_with fail
        refine (Cheapest_c _ _ _ L _ _ _ F x y _ (h.below B1 (Nat.le_refl _)) (hf.below B1 (Nat.le_refl _)) hmm).mono ?_
        rintro e w2 ⟨rfl, hb2⟩
        clear D00 D01
        have B2 : Below w.heap.size w w2 := btr B1 hb2
        replace D0 := D0.below hb2
        have D00 := D0.c0
        have D01 := D0.c1
        go_wp2_with fail
        refine (rCheapest_c _ _ _ L _ _ _ F x y _ (h.below B2 (Nat.le_refl _)) (hf.below B2 (Nat.le_refl _)) hmm).mono ?_
        rintro e w3 ⟨rfl, hb3⟩
        clear D00 D01
        have B3 : Below w.heap.size w w3 := btr B2 hb3
        replace D0 := D0.below hb3
        have D00 := D0.c0
        have D01 := D0.c1
        go_wp2_with fail
        refine (Choice_c _ _ _ L _ _ _ F x y _ (h.below B3 (Nat.le_refl _)) (hf.below B3 (Nat.le_refl _)) hmm).mono ?_
        rintro e w4 ⟨v4, rfl, hv4, hb4⟩
        clear D00 D01
        have B4 : Below w.heap.size w w4 := btr B3 hb4
        replace D0 := D0.below hb4
        obtain ⟨a4, c4, e4, i4, l4, m4, q4⟩ := hv4
        rw [e4]
        clear e4 q4
        have D00 := D0.c0
        have D01 := D0.c1
        go_wp2_with fail
        refine (rChoice_c _ _ _ L _ _ _ F x y _ (h.below B4 (Nat.le_refl _)) (hf.below B4 (Nat.le_refl _)) hmm).mono ?_
        rintro e w5 ⟨v5, rfl, hv5, hb5⟩
        clear D00 D01
        have B5 : Below w.heap.size w w5 := btr B4 hb5
        replace i4 := i4.below hb5 (Nat.le_refl _)
        replace D0 := D0.below hb5
        obtain ⟨a5, c5, e5, i5, l5, m5, q5⟩ := hv5
        rw [e5]
        clear e5 q5
        rw [hs, HFI.out]
        have D00 := D0.c0
        have D01 := D0.c1
        go_wp2_with fail
        refine (SameInts_c _ _ _ _ _ (chO L F x y).best _ i4 i5 (by omega)).mono ?_
        rintro e w6 ⟨rfl, hb6⟩
        clear D00 D01
        have B6 : Below w.heap.size w w6 := btr B5 hb6
        replace i4 := i4.below hb6 (Nat.le_refl _)
        replace i5 := i5.below hb6 (Nat.le_refl _)
        replace D0 := D0.below hb6
        clear i5
        have D00 := D0.c0
        have D01 := D0.c1
        go_wp2_with fail
        refine (CheckChoice_c _ _ _ L _ _ _ F x y _ _ _ (chO L F x y).best _ (h.below B6 (Nat.le_refl _)) (hf.below B6 (Nat.le_refl _)) i4 hmm (by omega)).mono ?_
        rintro e w7 ⟨rfl, hb7⟩
        clear D00 D01
        have B7 : Below w.heap.size w w7 := btr B6 hb7
        replace i4 := i4.below hb7 (Nat.le_refl _)
        replace D0 := D0.below hb7
        rw [HCK.out, HCC.out]
        have D00 := D0.c0
        have D01 := D0.c1
        go_wp2_with fail
        refine (known_c _).mono ?_
        rintro e w8 ⟨rfl, hb8⟩
        clear D00 D01
        have B8 : Below w.heap.size w w8 := btr B7 hb8
        replace i4 := i4.below hb8 (Nat.le_refl _)
        replace D0 := D0.below hb8
        have D00 := D0.c0
        have D01 := D0.c1
        go_wp2_with fail
        go_ret
        exact ⟨rfl, B8⟩
end Go.Proofs.Ytplindidegmlkaa
