/- DriftWithout: the walk. -/
import Derived.Test.YtgbdcemlnklmoaaL
import Derived.Test.YtgbdcemlnklmoaaW
namespace Go.Proofs.Ytgbdcemlnklmoaa
open Go.RowKit Go.Sort
theorem wo_facts {L : List Rd} {k r t : Int} (h : woErr L k = 0) (ht : tErr L r t = 0) (ho : bOk L r t = true) :
    tErr (woR L k) r t = 0 ∧ bOk (woR L k) r t = true ∧ decide (bLo (woR L k) r t ≤ bLo L r t) = true ∧ decide (bHi L r t ≤ bHi (woR L k) r t) = true := by
  obtain ⟨hv, ⟨hk0, hk1⟩, h1⟩ := woErr_zero.1 h
  have e : woR L k = lessL L k.toNat := if_pos h
  have hk : k.toNat < L.length := by omega
  have ha := (bOk_true.1 ho).2
  have ht' : tErr (lessL L k.toNat) r t = 0 := tErr_zero.2 ⟨⟨less_valid hv hk h1, (tErr_zero.1 ht).1.2⟩, (tErr_zero.1 ht).2⟩
  have ha' := less_agree hv hk h1 ha
  obtain ⟨_, q1, q2⟩ := bOk_yes ht ha
  obtain ⟨p0, p1, p2⟩ := bOk_yes ht' ha'
  have hb := less_bounds (r := r) (t := t) hv hk h1
  rw [e, p0, p1, p2, q1, q2]
  exact ⟨ht', rfl, by simpa using hb.1, by simpa using hb.2⟩

set_option maxRecDepth 100000 in
set_option maxHeartbeats 3200000 in
theorem without_w (a : Option Addr) (n c : Nat) (L : List Rd) (k x y : Int) (w : World) (h : SlO w a n L) (hc : n ≤ c) (hm : c ≤ maxLen) :
    Calls Try.prog 15 #[.slice a n c, .int .i64 k, .agg #[.int .i64 x, .int .i64 y]] w fun e w' => e = .returned (.bool true) ∧ Below w.heap.size w w' := by
  have hn : n ≤ 9223372036854775807 := by unfold maxLen at hm; omega
  have self := fun x : Int => (show (x != x) = false by simp)
  have selfe := fun x : Int => (show (x == x) = true by simp)
  by_cases hl : longB n = true
  · go_enter Try.func15, Try.ntmps15
    go_wp2_with fail
    refine (Long_c _ _ _ _).mono ?_
    rintro e w1 ⟨rfl, hb1⟩
    have x0 := cellB hb1 (a := ⟨w.heap.size, 0, none⟩) (v := .int .i64 x) (by simp [go_sem])
    have x1 := cellB hb1 (a := ⟨w.heap.size, 1, none⟩) (v := .int .i64 y) (by simp [go_sem])
    have B1 : Below w.heap.size w w1 := btr ((Below.refl _ _).alloc (Nat.le_refl _) _) hb1
    simp only [hl]
    go_wp2_with fail
    refine (known_c _).mono ?_
    rintro e w2 ⟨rfl, hb2⟩
    have B2 : Below w.heap.size w w2 := btr B1 hb2
    have x0 := cellB hb2 x0
    have x1 := cellB hb2 x1
    go_wp2_with fail
    go_ret
    exact ⟨rfl, B2⟩
  · replace hl : longB n = false := by simpa using hl
    by_cases hk : woErr L k = 0
    · have hne : (woErr L k != 0) = false := by simp [hk]
      by_cases ht : tErr L x y = 0
      · have hte : (tErr L x y != 0) = false := by simp [ht]
        by_cases ho : bOk L x y = true
        · obtain ⟨f1, f2, f3, f4⟩ := wo_facts hk ht ho
          have F1 := Lib.hid f1
          have F2 := Lib.hid f2
          clear hk ht f1 f2
          go_enter Try.func15, Try.ntmps15
          go_wp2_with fail
          refine (Long_c _ _ _ _).mono ?_
          rintro e w1 ⟨rfl, hb1⟩
          have x0 := cellB hb1 (a := ⟨w.heap.size, 0, none⟩) (v := .int .i64 x) (by simp [go_sem])
          have x1 := cellB hb1 (a := ⟨w.heap.size, 1, none⟩) (v := .int .i64 y) (by simp [go_sem])
          have B1 : Below w.heap.size w w1 := btr ((Below.refl _ _).alloc (Nat.le_refl _) _) hb1
          simp only [hl]
          go_wp2_with fail
          refine (Without_c _ _ _ _ _ _ (h.below B1 (Nat.le_refl _)) hn).mono ?_
          rintro e w2 ⟨v2, rfl, hv2, hb2⟩
          have B2 : Below w.heap.size w w2 := btr B1 hb2
          have x0 := cellB hb2 x0
          have x1 := cellB hb2 x1
          obtain ⟨a2, c2, hvv2, hs2, lc2, lm2, -⟩ := hv2
          rw [hvv2]
          clear hvv2
          go_wp2_with fail
          refine (rWithout_c _ _ _ _ _ _ (h.below B2 (Nat.le_refl _)) hc hn).mono ?_
          rintro e w3 ⟨v3, rfl, hv3, hb3⟩
          have B3 : Below w.heap.size w w3 := btr B2 hb3
          have x0 := cellB hb3 x0
          have x1 := cellB hb3 x1
          replace hs2 := hs2.below hb3 (Nat.le_refl _)
          obtain ⟨a3, c3, hvv3, hs3, lc3, lm3, -⟩ := hv3
          rw [hvv3]
          clear hvv3
          go_wp2_with fail
          refine (Same_c _ _ _ _ _ _ _ _ _ hs2 hs3 (Nat.le_trans lc2 (Nat.le_trans lm2 (by decide)))).mono ?_
          rintro e w4 ⟨rfl, hb4⟩
          have B4 : Below w.heap.size w w4 := btr B3 hb4
          have x0 := cellB hb4 x0
          have x1 := cellB hb4 x1
          rw [sameB_self]
          replace hs2 := hs2.below hb4 (Nat.le_refl _)
          replace hs3 := hs3.below hb4 (Nat.le_refl _)
          go_wp2_with fail
          refine (Bounds_c _ _ _ _ _ _ _ (h.below B4 (Nat.le_refl _)) hc hm).mono ?_
          rintro e w5 ⟨rfl, hb5⟩
          have B5 : Below w.heap.size w w5 := btr B4 hb5
          have x0 := cellB hb5 x0
          have x1 := cellB hb5 x1
          simp only [ho]
          replace hs2 := hs2.below hb5 (Nat.le_refl _)
          replace hs3 := hs3.below hb5 (Nat.le_refl _)
          go_wp2_with fail
          refine (Bounds_c _ _ _ _ _ _ _ hs2 lc2 lm2).mono ?_
          rintro e w6 ⟨rfl, hb6⟩
          have B6 : Below w.heap.size w w6 := btr B5 hb6
          have x0 := cellB hb6 x0
          have x1 := cellB hb6 x1
          rw [F1.out, F2.out]
          replace hs2 := hs2.below hb6 (Nat.le_refl _)
          replace hs3 := hs3.below hb6 (Nat.le_refl _)
          go_wp2_with fail
          refine (known_c _).mono ?_
          rintro e w7 ⟨rfl, hb7⟩
          have B7 : Below w.heap.size w w7 := btr B6 hb7
          have x0 := cellB hb7 x0
          have x1 := cellB hb7 x1
          go_wp2_with fail
          go_ret
          exact ⟨rfl, B7⟩
        · replace ho : bOk L x y = false := by simpa using ho
          clear hk ht
          go_enter Try.func15, Try.ntmps15
          go_wp2_with fail
          refine (Long_c _ _ _ _).mono ?_
          rintro e w1 ⟨rfl, hb1⟩
          have x0 := cellB hb1 (a := ⟨w.heap.size, 0, none⟩) (v := .int .i64 x) (by simp [go_sem])
          have x1 := cellB hb1 (a := ⟨w.heap.size, 1, none⟩) (v := .int .i64 y) (by simp [go_sem])
          have B1 : Below w.heap.size w w1 := btr ((Below.refl _ _).alloc (Nat.le_refl _) _) hb1
          simp only [hl]
          go_wp2_with fail
          refine (Without_c _ _ _ _ _ _ (h.below B1 (Nat.le_refl _)) hn).mono ?_
          rintro e w2 ⟨v2, rfl, hv2, hb2⟩
          have B2 : Below w.heap.size w w2 := btr B1 hb2
          have x0 := cellB hb2 x0
          have x1 := cellB hb2 x1
          obtain ⟨a2, c2, hvv2, hs2, lc2, lm2, -⟩ := hv2
          rw [hvv2]
          clear hvv2
          go_wp2_with fail
          refine (rWithout_c _ _ _ _ _ _ (h.below B2 (Nat.le_refl _)) hc hn).mono ?_
          rintro e w3 ⟨v3, rfl, hv3, hb3⟩
          have B3 : Below w.heap.size w w3 := btr B2 hb3
          have x0 := cellB hb3 x0
          have x1 := cellB hb3 x1
          replace hs2 := hs2.below hb3 (Nat.le_refl _)
          obtain ⟨a3, c3, hvv3, hs3, lc3, lm3, -⟩ := hv3
          rw [hvv3]
          clear hvv3
          go_wp2_with fail
          refine (Same_c _ _ _ _ _ _ _ _ _ hs2 hs3 (Nat.le_trans lc2 (Nat.le_trans lm2 (by decide)))).mono ?_
          rintro e w4 ⟨rfl, hb4⟩
          have B4 : Below w.heap.size w w4 := btr B3 hb4
          have x0 := cellB hb4 x0
          have x1 := cellB hb4 x1
          rw [sameB_self]
          replace hs2 := hs2.below hb4 (Nat.le_refl _)
          replace hs3 := hs3.below hb4 (Nat.le_refl _)
          go_wp2_with fail
          refine (Bounds_c _ _ _ _ _ _ _ (h.below B4 (Nat.le_refl _)) hc hm).mono ?_
          rintro e w5 ⟨rfl, hb5⟩
          have B5 : Below w.heap.size w w5 := btr B4 hb5
          have x0 := cellB hb5 x0
          have x1 := cellB hb5 x1
          simp only [ho]
          replace hs2 := hs2.below hb5 (Nat.le_refl _)
          replace hs3 := hs3.below hb5 (Nat.le_refl _)
          go_wp2_with fail
          refine (Bounds_c _ _ _ _ _ _ _ hs2 lc2 lm2).mono ?_
          rintro e w6 ⟨rfl, hb6⟩
          have B6 : Below w.heap.size w w6 := btr B5 hb6
          have x0 := cellB hb6 x0
          have x1 := cellB hb6 x1
          replace hs2 := hs2.below hb6 (Nat.le_refl _)
          replace hs3 := hs3.below hb6 (Nat.le_refl _)
          go_wp2_with fail
          refine (known_c _).mono ?_
          rintro e w7 ⟨rfl, hb7⟩
          have B7 : Below w.heap.size w w7 := btr B6 hb7
          have x0 := cellB hb7 x0
          have x1 := cellB hb7 x1
          go_wp2_with fail
          go_ret
          exact ⟨rfl, B7⟩
      · have hte : (tErr L x y != 0) = true := by simp [ht]
        clear hk ht
        go_enter Try.func15, Try.ntmps15
        go_wp2_with fail
        refine (Long_c _ _ _ _).mono ?_
        rintro e w1 ⟨rfl, hb1⟩
        have x0 := cellB hb1 (a := ⟨w.heap.size, 0, none⟩) (v := .int .i64 x) (by simp [go_sem])
        have x1 := cellB hb1 (a := ⟨w.heap.size, 1, none⟩) (v := .int .i64 y) (by simp [go_sem])
        have B1 : Below w.heap.size w w1 := btr ((Below.refl _ _).alloc (Nat.le_refl _) _) hb1
        simp only [hl]
        go_wp2_with fail
        refine (Without_c _ _ _ _ _ _ (h.below B1 (Nat.le_refl _)) hn).mono ?_
        rintro e w2 ⟨v2, rfl, hv2, hb2⟩
        have B2 : Below w.heap.size w w2 := btr B1 hb2
        have x0 := cellB hb2 x0
        have x1 := cellB hb2 x1
        obtain ⟨a2, c2, hvv2, hs2, lc2, lm2, -⟩ := hv2
        rw [hvv2]
        clear hvv2
        go_wp2_with fail
        refine (rWithout_c _ _ _ _ _ _ (h.below B2 (Nat.le_refl _)) hc hn).mono ?_
        rintro e w3 ⟨v3, rfl, hv3, hb3⟩
        have B3 : Below w.heap.size w w3 := btr B2 hb3
        have x0 := cellB hb3 x0
        have x1 := cellB hb3 x1
        replace hs2 := hs2.below hb3 (Nat.le_refl _)
        obtain ⟨a3, c3, hvv3, hs3, lc3, lm3, -⟩ := hv3
        rw [hvv3]
        clear hvv3
        go_wp2_with fail
        refine (Same_c _ _ _ _ _ _ _ _ _ hs2 hs3 (Nat.le_trans lc2 (Nat.le_trans lm2 (by decide)))).mono ?_
        rintro e w4 ⟨rfl, hb4⟩
        have B4 : Below w.heap.size w w4 := btr B3 hb4
        have x0 := cellB hb4 x0
        have x1 := cellB hb4 x1
        rw [sameB_self]
        replace hs2 := hs2.below hb4 (Nat.le_refl _)
        replace hs3 := hs3.below hb4 (Nat.le_refl _)
        go_wp2_with fail
        refine (Bounds_c _ _ _ _ _ _ _ (h.below B4 (Nat.le_refl _)) hc hm).mono ?_
        rintro e w5 ⟨rfl, hb5⟩
        have B5 : Below w.heap.size w w5 := btr B4 hb5
        have x0 := cellB hb5 x0
        have x1 := cellB hb5 x1
        replace hs2 := hs2.below hb5 (Nat.le_refl _)
        replace hs3 := hs3.below hb5 (Nat.le_refl _)
        go_wp2_with fail
        refine (Bounds_c _ _ _ _ _ _ _ hs2 lc2 lm2).mono ?_
        rintro e w6 ⟨rfl, hb6⟩
        have B6 : Below w.heap.size w w6 := btr B5 hb6
        have x0 := cellB hb6 x0
        have x1 := cellB hb6 x1
        replace hs2 := hs2.below hb6 (Nat.le_refl _)
        replace hs3 := hs3.below hb6 (Nat.le_refl _)
        go_wp2_with fail
        refine (known_c _).mono ?_
        rintro e w7 ⟨rfl, hb7⟩
        have B7 : Below w.heap.size w w7 := btr B6 hb7
        have x0 := cellB hb7 x0
        have x1 := cellB hb7 x1
        go_wp2_with fail
        go_ret
        exact ⟨rfl, B7⟩
    · have hne : (woErr L k != 0) = true := by simp [hk]
      clear hk
      go_enter Try.func15, Try.ntmps15
      go_wp2_with fail
      refine (Long_c _ _ _ _).mono ?_
      rintro e w1 ⟨rfl, hb1⟩
      have x0 := cellB hb1 (a := ⟨w.heap.size, 0, none⟩) (v := .int .i64 x) (by simp [go_sem])
      have x1 := cellB hb1 (a := ⟨w.heap.size, 1, none⟩) (v := .int .i64 y) (by simp [go_sem])
      have B1 : Below w.heap.size w w1 := btr ((Below.refl _ _).alloc (Nat.le_refl _) _) hb1
      simp only [hl]
      go_wp2_with fail
      refine (Without_c _ _ _ _ _ _ (h.below B1 (Nat.le_refl _)) hn).mono ?_
      rintro e w2 ⟨v2, rfl, hv2, hb2⟩
      have B2 : Below w.heap.size w w2 := btr B1 hb2
      have x0 := cellB hb2 x0
      have x1 := cellB hb2 x1
      obtain ⟨a2, c2, hvv2, hs2, lc2, lm2, -⟩ := hv2
      rw [hvv2]
      clear hvv2
      go_wp2_with fail
      refine (rWithout_c _ _ _ _ _ _ (h.below B2 (Nat.le_refl _)) hc hn).mono ?_
      rintro e w3 ⟨v3, rfl, hv3, hb3⟩
      have B3 : Below w.heap.size w w3 := btr B2 hb3
      have x0 := cellB hb3 x0
      have x1 := cellB hb3 x1
      replace hs2 := hs2.below hb3 (Nat.le_refl _)
      obtain ⟨a3, c3, hvv3, hs3, lc3, lm3, -⟩ := hv3
      rw [hvv3]
      clear hvv3
      go_wp2_with fail
      refine (Same_c _ _ _ _ _ _ _ _ _ hs2 hs3 (Nat.le_trans lc2 (Nat.le_trans lm2 (by decide)))).mono ?_
      rintro e w4 ⟨rfl, hb4⟩
      have B4 : Below w.heap.size w w4 := btr B3 hb4
      have x0 := cellB hb4 x0
      have x1 := cellB hb4 x1
      rw [sameB_self]
      replace hs2 := hs2.below hb4 (Nat.le_refl _)
      replace hs3 := hs3.below hb4 (Nat.le_refl _)
      go_wp2_with fail
      refine (Bounds_c _ _ _ _ _ _ _ (h.below B4 (Nat.le_refl _)) hc hm).mono ?_
      rintro e w5 ⟨rfl, hb5⟩
      have B5 : Below w.heap.size w w5 := btr B4 hb5
      have x0 := cellB hb5 x0
      have x1 := cellB hb5 x1
      replace hs2 := hs2.below hb5 (Nat.le_refl _)
      replace hs3 := hs3.below hb5 (Nat.le_refl _)
      go_wp2_with fail
      refine (Bounds_c _ _ _ _ _ _ _ hs2 lc2 lm2).mono ?_
      rintro e w6 ⟨rfl, hb6⟩
      have B6 : Below w.heap.size w w6 := btr B5 hb6
      have x0 := cellB hb6 x0
      have x1 := cellB hb6 x1
      replace hs2 := hs2.below hb6 (Nat.le_refl _)
      replace hs3 := hs3.below hb6 (Nat.le_refl _)
      go_wp2_with fail
      refine (known_c _).mono ?_
      rintro e w7 ⟨rfl, hb7⟩
      have B7 : Below w.heap.size w w7 := btr B6 hb7
      have x0 := cellB hb7 x0
      have x1 := cellB hb7 x1
      go_wp2_with fail
      go_ret
      exact ⟨rfl, B7⟩
end Go.Proofs.Ytgbdcemlnklmoaa
