/- BudgetPays: the walk. -/
import Derived.Test.YtplindidegmlkaaBst
import Derived.Test.YtplindidegmlkaaK
namespace Go.Proofs.Ytplindidegmlkaa
open Go.RowKit Go.Sort

theorem cl_red {L : List It} {v : Int} : clB L (redN v 2520) (redD v 2520) = decide (parts L ≤ v) := by
  unfold clB
  rw [decide_eq_decide, red_le (n := v) (d := 2520) (x := parts L) (y := 2520) (by decide)]
  omega
theorem wi_nil (L : List It) (F : List Fx) : wiL L F [] = L ∧ wcL F [] = 0 := ⟨rfl, rfl⟩
theorem wcL_bd {L : List It} {F : List Fx} (hv : ValidF L F) {ch : List Int} (hc : OkC F ch) : 0 ≤ wcL F ch ∧ wcL F ch ≤ 792 := by
  have := wcK_bd hv (hc.1.inR rfl) ch.length (Nat.le_refl _)
  have h2 := hc.1.len
  have h3 := hv.le
  unfold wcL; omega
/-- What che tells. -/
theorem che_some {L : List It} {F : List Fx} {x y : Int} {ch : List Int} (hc : OkC F ch) (hd : clB (wiL L F ch) x y = true) :
    (che L F x y).some = true ∧ OkC F (che L F x y).best ∧ clB (wiL L F (che L F x y).best) x y = true ∧ (che L F x y).least = wcL F (che L F x y).best ∧ (che L F x y).least ≤ wcL F ch := by
  rcases che_best L F x y with ⟨_, h1⟩ | ⟨a1, a2, a3, a4, a5⟩
  · have : cdB L F x y ch = true := hd
    rw [h1 ch hc] at this; cases this
  · refine ⟨a1, a2, a3, a4, ?_⟩
    have := a5 ch hc hd
    omega
theorem che_yes {L : List It} {F : List Fx} {x y : Int} (h : (che L F x y).some = true) :
    OkC F (che L F x y).best ∧ clB (wiL L F (che L F x y).best) x y = true ∧ (che L F x y).least = wcL F (che L F x y).best := by
  rcases che_best L F x y with ⟨h1, _⟩ | ⟨a1, a2, a3, a4, a5⟩
  · rw [h1] at h; cases h
  · exact ⟨a2, a3, a4⟩

theorem pays_facts {L : List It} {F : List Fx} {cost : Int} (h : beErr L F cost = 0) :
    (0 ≤ beN L F cost ∧ beN L F cost ≤ 134217728 ∧ 1 ≤ beD L F cost ∧ beD L F cost ≤ 134217728) ∧ fiErr L F (beN L F cost) (beD L F cost) = 0 ∧ (chO L F (beN L F cost) (beD L F cost)).some = true ∧ (0 ≤ (chO L F (beN L F cost) (beD L F cost)).least ∧ (chO L F (beN L F cost) (beD L F cost)).least ≤ 792) ∧ (chO L F (beN L F cost) (beD L F cost)).least ≤ cost ∧
    ((chO L F (beN L F cost) (beD L F cost)).least ≠ 0 → beErr L F ((chO L F (beN L F cost) (beD L F cost)).least - 1) = 0 ∧ beN L F cost * beD L F ((chO L F (beN L F cost) (beD L F cost)).least - 1) < beN L F ((chO L F (beN L F cost) (beD L F cost)).least - 1) * beD L F cost) := by
  obtain ⟨hv, hc0, hc1⟩ := beErr_zero.1 h
  obtain ⟨e1, e2⟩ := beND_ok h
  obtain ⟨p1, p2⟩ := bestP_bd (cost := cost) hv
  obtain ⟨f1, f2, f3, f4⟩ := frac_bd p1 p2
  have hl := bestP_low L F cost
  have hfi : fiErr L F (redN (bestP L F cost) 2520) (redD (bestP L F cost) 2520) = 0 := fiErr_zero.2 ⟨hv, limB_true.2 (by omega)⟩
  rw [e1, e2, chO_ok hfi]
  have hex : ∃ ch, OkC F ch ∧ wcL F ch ≤ cost ∧ parts (wiL L F ch) ≤ bestP L F cost := by
    rcases hl.one with e | ⟨c, h1, h2, e⟩
    · exact ⟨[], OkC.nil F, by rw [(wi_nil L F).2]; exact hc0, by rw [(wi_nil L F).1, ← e]; exact Int.le_refl _⟩
    · exact ⟨c, h1, h2, by rw [← e]; exact Int.le_refl _⟩
  obtain ⟨ch, c1, c2, c3⟩ := hex
  obtain ⟨a1, a2, a3, a4, a5⟩ := che_some (L := L) (x := redN (bestP L F cost) 2520) (y := redD (bestP L F cost) 2520) c1 (by rw [cl_red]; exact decT c3)
  have hb := wcL_bd hv a2
  refine ⟨by omega, hfi, a1, by omega, by omega, fun hn => ?_⟩
  generalize hN : (che L F (redN (bestP L F cost) 2520) (redD (bestP L F cost) 2520)).least = N at *
  have hbe : beErr L F (N - 1) = 0 := beErr_zero.2 ⟨hv, by omega, by omega⟩
  obtain ⟨e3, e4⟩ := beND_ok hbe
  refine ⟨hbe, ?_⟩
  rw [e3, e4, red_cmp]
  have hno : ∀ c, OkC F c → wcL F c ≤ N - 1 → bestP L F cost < parts (wiL L F c) := by
    intro c hc hcc
    apply Int.not_le.1
    intro hle
    have := (che_some (L := L) (x := redN (bestP L F cost) 2520) (y := redD (bestP L F cost) 2520) hc (by rw [cl_red]; exact decT hle)).2.2.2.2
    omega
  rcases (bestP_low L F (N - 1)).one with e | ⟨c, h1, h2, e⟩
  · rw [e]
    have := hno [] (OkC.nil F) (by rw [(wi_nil L F).2]; omega)
    rwa [(wi_nil L F).1] at this
  · rw [e]; exact hno c h1 h2

set_option maxRecDepth 100000 in
set_option maxHeartbeats 3200000 in
theorem pays_w (a : Option Addr) (n c : Nat) (L : List It) (fa : Option Addr) (m fc : Nat) (F : List Fx) (cost : Int) (w : World) (h : SlO w a n L) (hc : n ≤ c) (hm : c ≤ maxLen) (hf : FlO w fa m F) (hc2 : m ≤ fc) (hm2 : fc ≤ maxLen) :
    Calls Try.prog 9 #[.slice a n c, .slice fa m fc, .int .i64 cost] w fun e w' => e = .returned (.bool true) ∧ Below w.heap.size w w' := by
  have _ := hc
  have _ := hm
  have _ := hc2
  have _ := hm2
  have self := fun x : Int => (show (x != x) = false by simp)
  have selfe := fun x : Int => (show (x == x) = true by simp)
  have selfb := fun x : Bool => (show (x != x) = false by simp)
  have selfc := fun x : Bool => (show (x == x) = true by simp)
  have hmm : m ≤ 9223372036854775807 := by unfold maxLen at hm2; omega
  cases hl : longB n
  case true =>
    go_enter Try.func9, Try.ntmps9
    go_wp2_with fail
    refine (Long_c _ _ _ _).mono ?_
    rintro e w1 ⟨rfl, hb1⟩
    have B1 : Below w.heap.size w w1 := btr (Below.refl _ _) hb1
    simp only [hl]
    go_wp2_with fail
    refine (known_c _).mono ?_
    rintro e w2 ⟨rfl, hb2⟩
    have B2 : Below w.heap.size w w2 := btr B1 hb2
    go_wp2_with fail
    go_ret
    exact ⟨rfl, B2⟩
  case false =>
    by_cases h50 : 50 < m
    · have h50' : (50 : Int) < m := by omega
      go_enter Try.func9, Try.ntmps9
      go_wp2_with fail
      refine (Long_c _ _ _ _).mono ?_
      rintro e w1 ⟨rfl, hb1⟩
      have B1 : Below w.heap.size w w1 := btr (Below.refl _ _) hb1
      simp only [hl]
      go_wp2_with fail
      refine (known_c _).mono ?_
      rintro e w2 ⟨rfl, hb2⟩
      have B2 : Below w.heap.size w w2 := btr B1 hb2
      go_wp2_with fail
      go_ret
      exact ⟨rfl, B2⟩
    · have h50' : ¬ (50 : Int) < m := by omega
      by_cases h0 : beErr L F cost = 0
      · have hz : (beErr L F cost != 0) = false := by simp [h0]
        obtain ⟨⟨f1, f2, f3, f4⟩, hfi, hso, ⟨n1, n2⟩, hle, hmore⟩ := pays_facts h0
        have HFI := Lib.hid hfi
        have HSO := Lib.hid hso
        have HMO := Lib.hid hmore
        have HE := Lib.hid h0
        clear h0 hfi hso hmore
        generalize hx : beN L F cost = x at *
        generalize hy : beD L F cost = y at *
        have HX := Lib.hid hx
        have HY := Lib.hid hy
        clear hx hy
        by_cases hn : (chO L F x y).least = 0
        · have hn1 : ((chO L F x y).least == 0) = true := by simp [hn]
          have HN := Lib.hid hn
          clear HMO hn
          have hno : ¬ cost < (chO L F x y).least := by omega
          go_enter Try.func9, Try.ntmps9
          go_wp2_with fail
          refine (Long_c _ _ _ _).mono ?_
          rintro e w1 ⟨rfl, hb1⟩
          have B1 : Below w.heap.size w w1 := btr (Below.refl _ _) hb1
          simp only [hl]
          go_wp2_with fail
          refine (Best_c _ _ _ L _ _ _ F cost _ (h.below B1 (Nat.le_refl _)) (hf.below B1 (Nat.le_refl _)) hmm).mono ?_
          rintro e w2 ⟨rfl, hb2⟩
          have B2 : Below w.heap.size w w2 := btr B1 hb2
          rw [HX.out, HY.out]
          go_wp2_with fail
          refine (Cheapest_c _ _ _ L _ _ _ F x y _ (h.below (B2.alloc B2.size _) (Nat.le_refl _)) (hf.below (B2.alloc B2.size _) (Nat.le_refl _)) hmm).mono ?_
          rintro e w3 ⟨rfl, hb3⟩
          have ha3 : Below w2.heap.size w2 w3 := btr ((Below.refl _ _).alloc (Nat.le_refl _) _) hb3
          have D2 : Cell2 w3 w2.heap.size x y := Cell2.below (w := w2.alloc (.cells #[.int .i64 x, .int .i64 y] 25)) ⟨by simp [go_sem], by simp [go_sem], by simp [go_sem], by simp [go_sem]⟩ hb3
          have B3 : Below w.heap.size w w3 := btr (B2.alloc B2.size _) hb3
          rw [HFI.out, HSO.out]
          have D20 := D2.c0
          have D21 := D2.c1
          go_wp2_with fail
          refine (known_c _).mono ?_
          rintro e w4 ⟨rfl, hb4⟩
          clear D20 D21
          have B4 : Below w.heap.size w w4 := btr B3 hb4
          replace D2 := D2.below hb4
          have D20 := D2.c0
          have D21 := D2.c1
          go_wp2_with fail
          go_ret
          exact ⟨rfl, B4⟩
        · have hn1 : ((chO L F x y).least == 0) = false := by simp [hn]
          have hno : ¬ cost < (chO L F x y).least := by omega
          obtain ⟨hbe, hlt⟩ := HMO.out hn
          obtain ⟨⟨g1, g2, g3, g4⟩, -⟩ := pays_facts hbe
          have HBE := Lib.hid hbe
          have HLT := Lib.hid (decT hlt)
          clear hbe hlt HMO hn
          generalize hN : (chO L F x y).least = N at *
          have HNN := Lib.hid hN
          clear hN
          go_enter Try.func9, Try.ntmps9
          go_wp2_with fail
          refine (Long_c _ _ _ _).mono ?_
          rintro e w1 ⟨rfl, hb1⟩
          have B1 : Below w.heap.size w w1 := btr (Below.refl _ _) hb1
          simp only [hl]
          go_wp2_with fail
          refine (Best_c _ _ _ L _ _ _ F cost _ (h.below B1 (Nat.le_refl _)) (hf.below B1 (Nat.le_refl _)) hmm).mono ?_
          rintro e w2 ⟨rfl, hb2⟩
          have B2 : Below w.heap.size w w2 := btr B1 hb2
          rw [HX.out, HY.out]
          go_wp2_with fail
          refine (Cheapest_c _ _ _ L _ _ _ F x y _ (h.below (B2.alloc B2.size _) (Nat.le_refl _)) (hf.below (B2.alloc B2.size _) (Nat.le_refl _)) hmm).mono ?_
          rintro e w3 ⟨rfl, hb3⟩
          have ha3 : Below w2.heap.size w2 w3 := btr ((Below.refl _ _).alloc (Nat.le_refl _) _) hb3
          have D2 : Cell2 w3 w2.heap.size x y := Cell2.below (w := w2.alloc (.cells #[.int .i64 x, .int .i64 y] 25)) ⟨by simp [go_sem], by simp [go_sem], by simp [go_sem], by simp [go_sem]⟩ hb3
          have B3 : Below w.heap.size w w3 := btr (B2.alloc B2.size _) hb3
          rw [HFI.out, HSO.out, HNN.out]
          have D20 := D2.c0
          have D21 := D2.c1
          go_wp2_with fail
          refine (Best_c _ _ _ L _ _ _ F (N - 1) _ (h.below B3 (Nat.le_refl _)) (hf.below B3 (Nat.le_refl _)) hmm).mono ?_
          rintro e w4 ⟨rfl, hb4⟩
          clear D20 D21
          have B4 : Below w.heap.size w w4 := btr B3 hb4
          replace D2 := D2.below hb4
          rw [HBE.out]
          have D20 := D2.c0
          have D21 := D2.c1
          have D2l := D2.lt
          go_wp2_with fail
          refine (fair_c x y _ ⟨f1, f2, f3, f4⟩).mono ?_
          rintro e w5 ⟨rfl, hb5⟩
          clear D20 D21 D2l
          have ha5 : Below w4.heap.size w4 w5 := btr ((Below.refl _ _).alloc (Nat.le_refl _) _) hb5
          have D4 : Cell2 w5 w4.heap.size (beN L F (N - 1)) (beD L F (N - 1)) := Cell2.below (w := w4.alloc (.cells #[.int .i64 (beN L F (N - 1)), .int .i64 (beD L F (N - 1))] 25)) ⟨by simp [go_sem], by simp [go_sem], by simp [go_sem], by simp [go_sem]⟩ hb5
          have B5 : Below w.heap.size w w5 := btr (B4.alloc B4.size _) hb5
          replace D2 := D2.below ha5
          have D20 := D2.c0
          have D21 := D2.c1
          have D40 := D4.c0
          have D41 := D4.c1
          go_wp2_with fail
          refine (fair_c _ _ _ ⟨g1, g2, g3, g4⟩).mono ?_
          rintro e w6 ⟨rfl, hb6⟩
          clear D20 D21 D40 D41
          have B6 : Below w.heap.size w w6 := btr B5 hb6
          replace D2 := D2.below hb6
          replace D4 := D4.below hb6
          have D20 := D2.c0
          have D21 := D2.c1
          have D40 := D4.c0
          have D41 := D4.c1
          go_wp2_with fail
          refine (Calls.val (less_c x y (beN L F (N - 1)) (beD L F (N - 1)) _ ⟨f1, by omega, by omega, by omega⟩ ⟨g1, by omega, by omega, by omega⟩) (vb HLT.out)).mono ?_
          rintro e w7 ⟨rfl, hb7⟩
          clear D20 D21 D40 D41
          have B7 : Below w.heap.size w w7 := btr B6 hb7
          replace D2 := D2.below hb7
          replace D4 := D4.below hb7
          have D20 := D2.c0
          have D21 := D2.c1
          have D40 := D4.c0
          have D41 := D4.c1
          go_wp2_with fail
          refine (known_c _).mono ?_
          rintro e w8 ⟨rfl, hb8⟩
          clear D20 D21 D40 D41
          have B8 : Below w.heap.size w w8 := btr B7 hb8
          replace D2 := D2.below hb8
          replace D4 := D4.below hb8
          have D20 := D2.c0
          have D21 := D2.c1
          have D40 := D4.c0
          have D41 := D4.c1
          go_wp2_with fail
          go_ret
          exact ⟨rfl, B8⟩
      · have hz : (beErr L F cost != 0) = true := by simp [h0]
        clear h0
        go_enter Try.func9, Try.ntmps9
        go_wp2_with fail
        refine (Long_c _ _ _ _).mono ?_
        rintro e w1 ⟨rfl, hb1⟩
        have B1 : Below w.heap.size w w1 := btr (Below.refl _ _) hb1
        simp only [hl]
        go_wp2_with fail
        refine (Best_c _ _ _ L _ _ _ F cost _ (h.below B1 (Nat.le_refl _)) (hf.below B1 (Nat.le_refl _)) hmm).mono ?_
        rintro e w2 ⟨rfl, hb2⟩
        have B2 : Below w.heap.size w w2 := btr B1 hb2
        go_wp2_with fail
        refine (known_c _).mono ?_
        rintro e w3 ⟨rfl, hb3⟩
        have ha3 : Below w2.heap.size w2 w3 := btr ((Below.refl _ _).alloc (Nat.le_refl _) _) hb3
        have D2 : Cell2 w3 w2.heap.size (beN L F cost) (beD L F cost) := Cell2.below (w := w2.alloc (.cells #[.int .i64 (beN L F cost), .int .i64 (beD L F cost)] 25)) ⟨by simp [go_sem], by simp [go_sem], by simp [go_sem], by simp [go_sem]⟩ hb3
        have B3 : Below w.heap.size w w3 := btr (B2.alloc B2.size _) hb3
        have D20 := D2.c0
        have D21 := D2.c1
        go_wp2_with fail
        go_ret
        exact ⟨rfl, B3⟩
end Go.Proofs.Ytplindidegmlkaa
