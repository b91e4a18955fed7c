/- BudgetWorst: the walk. -/
import Derived.Test.YtplindidegmlkaaWs
import Derived.Test.YtplindidegmlkaaQ
import Derived.Test.YtplindidegmlkaaK
namespace Go.Proofs.Ytplindidegmlkaa
open Go.RowKit Go.Sort

theorem ws_facts {L : List It} (h : vErr L = 0) : (wsL L).length ≤ 6 ∧ (0 < (wsL L).length ↔ 0 < L.length) := by
  have hv := vErr_zero.1 h
  rw [ws_ok h]
  have h1 := hasM_len L (mx L L.length) L.length
  refine ⟨by have := hv.le; omega, fun h2 => by omega, fun h2 => ?_⟩
  obtain ⟨i, hi, e⟩ := mx_hit hv L.length h2 (Nat.le_refl _)
  exact hasM_pos hi e
theorem ws_len {L : List It} : (wsL L).length ≤ 6 := by
  by_cases h : vErr L = 0
  · exact (ws_facts h).1
  · rw [ws_bad h]; simp

set_option maxRecDepth 100000 in
set_option maxHeartbeats 3200000 in
theorem worst_w (a : Option Addr) (n c : Nat) (L : List It) (w : World) (h : SlO w a n L) (hc : n ≤ c) (hm : c ≤ maxLen) :
    Calls Try.prog 13 #[.slice a n c] w fun e w' => e = .returned (.bool true) ∧ Below w.heap.size w w' := by
  have _ := hc
  have _ := hm
  have self := fun x : Int => (show (x != x) = false by simp)
  have selfe := fun x : Int => (show (x == x) = true by simp)
  have selfb := fun x : Bool => (show (x != x) = false by simp)
  have selfc := fun x : Bool => (show (x == x) = true by simp)
  have hn9 : n ≤ 9223372036854775807 := by unfold maxLen at hm; omega
  have HLn := Lib.hid h.1
  have h6 := ws_len (L := L)
  cases hl : longB n
  case true =>
    go_enter Try.func13, Try.ntmps13
    go_wp2_with fail
    refine (Long_c _ _ _ _).mono ?_
    rintro e w1 ⟨rfl, hb1⟩
    have B1 : Below w.heap.size w w1 := btr (Below.refl _ _) hb1
    simp only [hl]
    go_wp2_with fail
    refine (known_c _).mono ?_
    rintro e w2 ⟨rfl, hb2⟩
    have B2 : Below w.heap.size w w2 := btr B1 hb2
    go_wp2_with fail
    go_ret
    exact ⟨rfl, B2⟩
  case false =>
    by_cases h0 : vErr L = 0
    · have hz : (vErr L != 0) = false := by simp [h0]
      have hw := (ws_facts h0).2
      rw [← HLn.out] at hw
      by_cases hn0 : 0 < n
      · have hk0 := hw.2 hn0
        clear h0 hw
        go_enter Try.func13, Try.ntmps13
        go_wp2_with fail
        refine (Long_c _ _ _ _).mono ?_
        rintro e w1 ⟨rfl, hb1⟩
        have B1 : Below w.heap.size w w1 := btr (Below.refl _ _) hb1
        simp only [hl]
        go_wp2_with fail
        refine (Worst_c _ _ _ L _ (h.below B1 (Nat.le_refl _)) hn9).mono ?_
        rintro e w2 ⟨v2, rfl, hv2, hb2⟩
        have B2 : Below w.heap.size w w2 := btr B1 hb2
        obtain ⟨a2, c2, e2, i2, l2, m2, q2⟩ := hv2
        rw [e2]
        clear e2 q2
        go_wp2_with fail
        refine (rWorst_c _ _ _ L _ (h.below B2 (Nat.le_refl _)) hc).mono ?_
        rintro e w3 ⟨v3, rfl, hv3, hb3⟩
        have B3 : Below w.heap.size w w3 := btr B2 hb3
        replace i2 := i2.below hb3 (Nat.le_refl _)
        obtain ⟨a3, c3, e3, i3, l3, m3, q3⟩ := hv3
        rw [e3]
        clear e3 q3
        generalize hK : (wsL L).length = K at *
        clear hK
        go_wp2_with fail
        refine (SameInts_c _ _ _ _ _ (wsL L) _ i2 i3 (by omega)).mono ?_
        rintro e w4 ⟨rfl, hb4⟩
        have B4 : Below w.heap.size w w4 := btr B3 hb4
        replace i2 := i2.below hb4 (Nat.le_refl _)
        replace i3 := i3.below hb4 (Nat.le_refl _)
        clear i3 i2
        go_wp2_with fail
        refine (known_c _).mono ?_
        rintro e w5 ⟨rfl, hb5⟩
        have B5 : Below w.heap.size w w5 := btr B4 hb5
        go_wp2_with fail
        go_ret
        exact ⟨rfl, B5⟩
      · have hk0 : ¬ 0 < (wsL L).length := fun hh => hn0 (hw.1 hh)
        clear h0 hw
        go_enter Try.func13, Try.ntmps13
        go_wp2_with fail
        refine (Long_c _ _ _ _).mono ?_
        rintro e w1 ⟨rfl, hb1⟩
        have B1 : Below w.heap.size w w1 := btr (Below.refl _ _) hb1
        simp only [hl]
        go_wp2_with fail
        refine (Worst_c _ _ _ L _ (h.below B1 (Nat.le_refl _)) hn9).mono ?_
        rintro e w2 ⟨v2, rfl, hv2, hb2⟩
        have B2 : Below w.heap.size w w2 := btr B1 hb2
        obtain ⟨a2, c2, e2, i2, l2, m2, q2⟩ := hv2
        rw [e2]
        clear e2 q2
        go_wp2_with fail
        refine (rWorst_c _ _ _ L _ (h.below B2 (Nat.le_refl _)) hc).mono ?_
        rintro e w3 ⟨v3, rfl, hv3, hb3⟩
        have B3 : Below w.heap.size w w3 := btr B2 hb3
        replace i2 := i2.below hb3 (Nat.le_refl _)
        obtain ⟨a3, c3, e3, i3, l3, m3, q3⟩ := hv3
        rw [e3]
        clear e3 q3
        generalize hK : (wsL L).length = K at *
        clear hK
        go_wp2_with fail
        refine (SameInts_c _ _ _ _ _ (wsL L) _ i2 i3 (by omega)).mono ?_
        rintro e w4 ⟨rfl, hb4⟩
        have B4 : Below w.heap.size w w4 := btr B3 hb4
        replace i2 := i2.below hb4 (Nat.le_refl _)
        replace i3 := i3.below hb4 (Nat.le_refl _)
        clear i3 i2
        go_wp2_with fail
        refine (known_c _).mono ?_
        rintro e w5 ⟨rfl, hb5⟩
        have B5 : Below w.heap.size w w5 := btr B4 hb5
        go_wp2_with fail
        go_ret
        exact ⟨rfl, B5⟩
    · have hz : (vErr L != 0) = true := by simp [h0]
      clear h0
      go_enter Try.func13, Try.ntmps13
      go_wp2_with fail
      refine (Long_c _ _ _ _).mono ?_
      rintro e w1 ⟨rfl, hb1⟩
      have B1 : Below w.heap.size w w1 := btr (Below.refl _ _) hb1
      simp only [hl]
      go_wp2_with fail
      refine (Worst_c _ _ _ L _ (h.below B1 (Nat.le_refl _)) hn9).mono ?_
      rintro e w2 ⟨v2, rfl, hv2, hb2⟩
      have B2 : Below w.heap.size w w2 := btr B1 hb2
      obtain ⟨a2, c2, e2, i2, l2, m2, q2⟩ := hv2
      rw [e2]
      clear e2 q2
      go_wp2_with fail
      refine (rWorst_c _ _ _ L _ (h.below B2 (Nat.le_refl _)) hc).mono ?_
      rintro e w3 ⟨v3, rfl, hv3, hb3⟩
      have B3 : Below w.heap.size w w3 := btr B2 hb3
      replace i2 := i2.below hb3 (Nat.le_refl _)
      obtain ⟨a3, c3, e3, i3, l3, m3, q3⟩ := hv3
      rw [e3]
      clear e3 q3
      generalize hK : (wsL L).length = K at *
      clear hK
      go_wp2_with fail
      refine (SameInts_c _ _ _ _ _ (wsL L) _ i2 i3 (by omega)).mono ?_
      rintro e w4 ⟨rfl, hb4⟩
      have B4 : Below w.heap.size w w4 := btr B3 hb4
      replace i2 := i2.below hb4 (Nat.le_refl _)
      replace i3 := i3.below hb4 (Nat.le_refl _)
      clear i3 i2
      go_wp2_with fail
      refine (known_c _).mono ?_
      rintro e w5 ⟨rfl, hb5⟩
      have B5 : Below w.heap.size w w5 := btr B4 hb5
      go_wp2_with fail
      go_ret
      exact ⟨rfl, B5⟩
end Go.Proofs.Ytplindidegmlkaa
