/- DriftTurns: the walk. -/
import Derived.Test.YtgbdcemlnklmoaaM
import Derived.Test.YtgbdcemlnklmoaaH
import Derived.Test.YtgbdcemlnklmoaaP
namespace Go.Proofs.Ytgbdcemlnklmoaa
open Go.RowKit Go.Sort
theorem tu_err {L : List Rd} {r : Int} (h : vErr L = 0) : aOk (tuR L) r = aOk L r ∧ rErr (tuR L) r = rErr L r := by
  have h3 : tuR L = turnL L := if_pos h
  rw [h3]
  exact turn_agree (vErr_zero.1 h)
theorem run_append_zero (w : World) (ty : TypeId) (a : Addr) (base : Option Addr) (c : Nat) : (Builtin.append_ #[22, 22] ty #[.slice (some a) 0 0, .slice base 0 c]).run Try.prog w = .ok (.slice (some a) 0 0) w := by
  obtain ⟨i0, hi, hz0, hz1, hz2⟩ := info_parts info54
  cases base <;> simp [Builtin.append_, run_underlying Try.underlying22, sizeOf, typeInfo, hi, Builtin.lenOf, Builtin.firstCells, storeCells, loadCells, loadCellsFrom]
set_option maxRecDepth 100000 in
set_option maxHeartbeats 3200000 in
theorem turns_w (a : Option Addr) (n c : Nat) (L : List Rd) (r : Int) (w : World) (h : SlO w a n L) (hc : n ≤ c) (hm : c ≤ maxLen) :
    Calls Try.prog 10 #[.slice a n c, .int .i64 r] w fun e w' => e = .returned (.bool true) ∧ Below w.heap.size w w' := by
  have _ := hc
  have _ := hm
  have self := fun x : Int => (show (x != x) = false by simp)
  have selfe := fun x : Int => (show (x == x) = true by simp)
  obtain ⟨i0, hi, hz0, hz1, hz2⟩ := info_parts info54
  by_cases hl : longB n = true
  · go_enter Try.func10, Try.ntmps10
    go_wp2_with fail
    refine (Long_c _ _ _ _).mono ?_
    rintro e w1 ⟨rfl, hb1⟩
    have B1 : Below w.heap.size w w1 := hb1
    simp only [hl]
    go_wp2_with fail
    refine (known_c _).mono ?_
    rintro e w2 ⟨rfl, hb2⟩
    have B2 : Below w.heap.size w w2 := btr B1 hb2
    go_wp2_with fail
    go_ret
    exact ⟨rfl, B2⟩
  · replace hl : longB n = false := by simpa using hl
    have hn : n ≤ 100 := by unfold longB at hl; simpa using hl
    have hLn := Lib.hid h.1
    rcases a with _ | ad
    · have h0 : n = 0 := by
        rcases h.2 with h0 | ⟨b, o, h', _⟩
        · exact h0
        · cases h'
      subst h0
      have hL0 : L = [] := List.eq_nil_of_length_eq_zero hLn.out.symm
      have hne : (vErr L != 0) = true := by rw [hL0]; rfl
      have hap := fun w ty q => run_append_zero w ty q none c
      clear hL0
      go_enter Try.func10, Try.ntmps10
      go_wp2_with fail
      refine (Long_c _ _ _ _).mono ?_
      rintro e w1 ⟨rfl, hb1⟩
      have B1 : Below w.heap.size w w1 := hb1
      simp only [hl]
      go_wp2_with fail
      have hb2 : Below w.heap.size w (w1.alloc (.cells #[] 54)) := B1.alloc B1.size _
      have hs2 : SlO (w1.alloc (.cells #[] 54)) (some ⟨w1.heap.size, 0, none⟩) 0 L := ⟨hLn.out, .inl rfl⟩
      have hm2 : 0 ≤ 0 := Nat.le_refl _
      have B2 := hb2
      generalize (some ⟨w1.heap.size, 0, none⟩ : Option Addr) = a2 at *
      generalize w1.alloc (.cells #[] 54) = w2 at *
      have HS2 := Lib.hid hs2
      have hln2 : 0 ≤ 9223372036854775807 := by decide
      go_wp2_with fail
      refine (Turn_c _ _ _ _ _ hs2).mono ?_
      rintro e w3 ⟨v3, rfl, hown3, hb3⟩
      have B3 : Below w.heap.size w w3 := btr B2 hb3
      replace hs2 := hs2.below hb3 (Nat.le_refl _)
      obtain ⟨a3, c3, hvv3, hs3, lc3, lm3, -⟩ := ownsRow_rd hown3
      rw [hvv3] at hown3 ⊢
      clear hvv3
      have HOWN := Lib.hid hown3
      clear hown3
      go_wp2_with fail
      refine (rTurn_c _ _ _ _ _ (h.below B3 (Nat.le_refl _))).mono ?_
      rintro e w4 ⟨v4, rfl, hv4, hb4⟩
      have B4 : Below w.heap.size w w4 := btr B3 hb4
      replace hs2 := hs2.below hb4 (Nat.le_refl _)
      replace hs3 := hs3.below hb4 (Nat.le_refl _)
      obtain ⟨a4, c4, hvv4, hs4, lc4, lm4, -⟩ := hv4
      rw [hvv4]
      clear hvv4
      go_wp2_with fail
      refine (Same_c _ _ _ _ _ _ _ _ _ hs3 hs4 (Nat.le_trans lc3 (Nat.le_trans lm3 (by decide)))).mono ?_
      rintro e w5 ⟨rfl, hb5⟩
      have B5 : Below w.heap.size w w5 := btr B4 hb5
      rw [sameB_self]
      replace hs2 := hs2.below hb5 (Nat.le_refl _)
      replace hs3 := hs3.below hb5 (Nat.le_refl _)
      replace hs4 := hs4.below hb5 (Nat.le_refl _)
      go_wp2_with fail
      refine (Agree_c _ _ _ _ _ _ (h.below B5 (Nat.le_refl _))).mono ?_
      rintro e w6 ⟨rfl, hb6⟩
      have B6 : Below w.heap.size w w6 := btr B5 hb6
      replace hs2 := hs2.below hb6 (Nat.le_refl _)
      replace hs3 := hs3.below hb6 (Nat.le_refl _)
      replace hs4 := hs4.below hb6 (Nat.le_refl _)
      go_wp2_with fail
      refine (Agree_c _ _ _ _ _ _ hs3).mono ?_
      rintro e w7 ⟨rfl, hb7⟩
      have B7 : Below w.heap.size w w7 := btr B6 hb7
      replace hs2 := hs2.below hb7 (Nat.le_refl _)
      replace hs3 := hs3.below hb7 (Nat.le_refl _)
      replace hs4 := hs4.below hb7 (Nat.le_refl _)
      go_wp2_with fail
      have hb27 : Below w2.heap.size w2 w7 := btr (btr (btr (btr hb3 hb4) hb5) hb6) hb7
      have hb37 : Below w3.heap.size w3 w7 := btr (btr (btr hb4 hb5) hb6) hb7
      have HO7 := Lib.hid (ownsRow_below HOWN.out hb37)
      have HB27 := Lib.hid hb27
      have hmm : (tuR L).length ≤ 9223372036854775807 := Nat.le_trans lc3 (Nat.le_trans lm3 (by decide))
      generalize (tuR L).length = m at *
      clear hb27 hb37 HOWN hb3 hb4 hb5 hb6 hb7 B3 B4 B5 B6 B7 hs4 lc4 lm4 hs3 hs2 lc3 lm3
      go_loopw [15] (fun i wr => ∃ k : Nat, ∃ xs, k ≤ m ∧ i = .int .i64 k ∧ Below w2.heap.size w2 wr ∧ wr.ownsRow w2.heap.size 54 3 (.slice a3 m c3) m xs) (fun i _ => m - (intOf i).toNat)
      case atStart => exact ⟨0, _, Nat.zero_le _, rfl, HB27.out, HO7.out⟩
      case round =>
        obtain ⟨k, xs, hk, rfl, hb', hown⟩ := hrel
        clear HO7 HB27
        by_cases hlt : k < m
        · obtain ⟨g, cap, hv, hg0⟩ : ∃ g cap, (Value.slice a3 m c3) = .slice (some ⟨g, 0, none⟩) m cap ∧ w2.heap.size ≤ g := by
            rcases hown.2 with ⟨_, h0⟩ | ⟨g, cap, cur, h', hb, _⟩
            · omega
            · exact ⟨g, cap, h', hb⟩
          cases hv
          have hx1 := hown.1
          have q0 : (wr.cell? ⟨g, k * 3, none⟩) = some (xs.getD (k * 3) (.bool false)) := by
            rw [hown.cellAt _ (by omega), List.getD_eq_getElem?_getD, List.getElem?_eq_getElem (by omega)]; rfl
          have f0 := hown.frozenAt (k * 3)
          have HST := Lib.hid (hown.stored (k * 3) (.int .i64 (-1))).1
          clear hown
          go_wp2_with fail
          exact ⟨⟨k + 1, _, by omega, by go_num, hb'.setCell hg0 _, HST.out⟩, by simp [intOf]; omega⟩
        · have hd : ¬ (k : Int) < m := by omega
          have hsz := B2.size
          clear hlt
          go_wp2_with fail
          refine (Same_c _ _ _ _ _ _ _ _ _ (HS2.out.below hb' (Nat.le_refl _)) (h.below (btr B2 hb') (Nat.le_refl _)) hln2).mono ?_
          rintro e w8 ⟨rfl, hb8⟩
          rw [sameB_self]
          go_wp2_with fail
          refine (known_c _).mono ?_
          rintro e w9 ⟨rfl, hb9⟩
          go_wp2_with fail
          go_ret
          exact ⟨rfl, btr (btr (btr B2 hb') hb8) hb9⟩
    · have HC : Hid (∀ t u, (rdCells L)[t]? = some u → w.cell? (ad.add t) = some u) := by
        rcases h.2 with h0 | ⟨b, o, h', hS⟩
        · intro t u hu
          have hL0 : L = [] := List.eq_nil_of_length_eq_zero (by have := hLn.out; omega)
          rw [hL0] at hu
          simp [rdCells] at hu
        · cases h'
          exact rdCells_cells hS
      by_cases hk : vErr L = 0
      · have hne : (vErr L != 0) = false := by simp [hk]
        have HT := Lib.hid (tu_err (r := r) hk)
        have selfb : (aOk L r == aOk L r) = true := by simp
        clear hk
        go_enter Try.func10, Try.ntmps10
        go_wp2_with fail
        refine (Long_c _ _ _ _).mono ?_
        rintro e w1 ⟨rfl, hb1⟩
        have B1 : Below w.heap.size w w1 := hb1
        simp only [hl]
        go_wp2_with (at_builtin; refine wpList_append_own _ rfl _ _ 22 rfl w1.heap.size 54 i0 (.agg #[.int .i64 0, .int .i64 0, .int .i64 0]) 3 24 Try.underlying22 hi hz0 hz1 hz2 rfl (by decide) _ 0 [] rfl (World.ownsRow_lit w1 #[] 0 (Nat.le_refl _) (by decide) rfl) ad n c (rdCells L) rfl (by rw [rdCells_length, hLn.out]) (fun t u hu => cellB ((Below.refl _ _).alloc (Nat.le_refl _) _) (cellB B1 (HC.out t u hu))) (rdCells_one _) (by unfold maxLen; omega) (by omega) (by simp) ?_)
        intro v2 w2 hown2 hg2 _
        have hb2 : Below w1.heap.size w1 w2 := ((Below.refl w1.heap.size w1).alloc (Nat.le_refl _) _).grown hg2 (by simp) (fun q hq => by cases hq; exact Nat.le_refl _)
        have B2 : Below w.heap.size w w2 := btr B1 hb2
        obtain ⟨a2, c2, hvv2, hs2, lc2, lm2, -⟩ := ownsRow_rd hown2
        rw [hvv2]
        clear hvv2 hown2 hg2
        have HS2 := Lib.hid hs2
        have hln2 : L.length ≤ 9223372036854775807 := by rw [← hLn.out]; omega
        go_wp2_with fail
        refine (Turn_c _ _ _ _ _ hs2).mono ?_
        rintro e w3 ⟨v3, rfl, hown3, hb3⟩
        have B3 : Below w.heap.size w w3 := btr B2 hb3
        replace hs2 := hs2.below hb3 (Nat.le_refl _)
        obtain ⟨a3, c3, hvv3, hs3, lc3, lm3, -⟩ := ownsRow_rd hown3
        rw [hvv3] at hown3 ⊢
        clear hvv3
        have HOWN := Lib.hid hown3
        clear hown3
        go_wp2_with fail
        refine (rTurn_c _ _ _ _ _ (h.below B3 (Nat.le_refl _))).mono ?_
        rintro e w4 ⟨v4, rfl, hv4, hb4⟩
        have B4 : Below w.heap.size w w4 := btr B3 hb4
        replace hs2 := hs2.below hb4 (Nat.le_refl _)
        replace hs3 := hs3.below hb4 (Nat.le_refl _)
        obtain ⟨a4, c4, hvv4, hs4, lc4, lm4, -⟩ := hv4
        rw [hvv4]
        clear hvv4
        go_wp2_with fail
        refine (Same_c _ _ _ _ _ _ _ _ _ hs3 hs4 (Nat.le_trans lc3 (Nat.le_trans lm3 (by decide)))).mono ?_
        rintro e w5 ⟨rfl, hb5⟩
        have B5 : Below w.heap.size w w5 := btr B4 hb5
        rw [sameB_self]
        replace hs2 := hs2.below hb5 (Nat.le_refl _)
        replace hs3 := hs3.below hb5 (Nat.le_refl _)
        replace hs4 := hs4.below hb5 (Nat.le_refl _)
        go_wp2_with fail
        refine (Agree_c _ _ _ _ _ _ (h.below B5 (Nat.le_refl _))).mono ?_
        rintro e w6 ⟨rfl, hb6⟩
        have B6 : Below w.heap.size w w6 := btr B5 hb6
        replace hs2 := hs2.below hb6 (Nat.le_refl _)
        replace hs3 := hs3.below hb6 (Nat.le_refl _)
        replace hs4 := hs4.below hb6 (Nat.le_refl _)
        go_wp2_with fail
        refine (Agree_c _ _ _ _ _ _ hs3).mono ?_
        rintro e w7 ⟨rfl, hb7⟩
        have B7 : Below w.heap.size w w7 := btr B6 hb7
        rw [HT.out.1, HT.out.2]
        replace hs2 := hs2.below hb7 (Nat.le_refl _)
        replace hs3 := hs3.below hb7 (Nat.le_refl _)
        replace hs4 := hs4.below hb7 (Nat.le_refl _)
        go_wp2_with fail
        have hb27 : Below w2.heap.size w2 w7 := btr (btr (btr (btr hb3 hb4) hb5) hb6) hb7
        have hb37 : Below w3.heap.size w3 w7 := btr (btr (btr hb4 hb5) hb6) hb7
        have HO7 := Lib.hid (ownsRow_below HOWN.out hb37)
        have HB27 := Lib.hid hb27
        have hmm : (tuR L).length ≤ 9223372036854775807 := Nat.le_trans lc3 (Nat.le_trans lm3 (by decide))
        generalize (tuR L).length = m at *
        clear hb27 hb37 HOWN hb3 hb4 hb5 hb6 hb7 B3 B4 B5 B6 B7 hs4 lc4 lm4 hs3 hs2 lc3 lm3
        go_loopw [15] (fun i wr => ∃ k : Nat, ∃ xs, k ≤ m ∧ i = .int .i64 k ∧ Below w2.heap.size w2 wr ∧ wr.ownsRow w2.heap.size 54 3 (.slice a3 m c3) m xs) (fun i _ => m - (intOf i).toNat)
        case atStart => exact ⟨0, _, Nat.zero_le _, rfl, HB27.out, HO7.out⟩
        case round =>
          obtain ⟨k, xs, hk, rfl, hb', hown⟩ := hrel
          clear HO7 HB27
          by_cases hlt : k < m
          · obtain ⟨g, cap, hv, hg0⟩ : ∃ g cap, (Value.slice a3 m c3) = .slice (some ⟨g, 0, none⟩) m cap ∧ w2.heap.size ≤ g := by
              rcases hown.2 with ⟨_, h0⟩ | ⟨g, cap, cur, h', hb, _⟩
              · omega
              · exact ⟨g, cap, h', hb⟩
            cases hv
            have hx1 := hown.1
            have q0 : (wr.cell? ⟨g, k * 3, none⟩) = some (xs.getD (k * 3) (.bool false)) := by
              rw [hown.cellAt _ (by omega), List.getD_eq_getElem?_getD, List.getElem?_eq_getElem (by omega)]; rfl
            have f0 := hown.frozenAt (k * 3)
            have HST := Lib.hid (hown.stored (k * 3) (.int .i64 (-1))).1
            clear hown
            go_wp2_with fail
            exact ⟨⟨k + 1, _, by omega, by go_num, hb'.setCell hg0 _, HST.out⟩, by simp [intOf]; omega⟩
          · have hd : ¬ (k : Int) < m := by omega
            have hsz := B2.size
            clear hlt
            go_wp2_with fail
            refine (Same_c _ _ _ _ _ _ _ _ _ (HS2.out.below hb' (Nat.le_refl _)) (h.below (btr B2 hb') (Nat.le_refl _)) hln2).mono ?_
            rintro e w8 ⟨rfl, hb8⟩
            rw [sameB_self]
            go_wp2_with fail
            refine (known_c _).mono ?_
            rintro e w9 ⟨rfl, hb9⟩
            go_wp2_with fail
            go_ret
            exact ⟨rfl, btr (btr (btr B2 hb') hb8) hb9⟩
      · have hne : (vErr L != 0) = true := by simp [hk]
        clear hk
        go_enter Try.func10, Try.ntmps10
        go_wp2_with fail
        refine (Long_c _ _ _ _).mono ?_
        rintro e w1 ⟨rfl, hb1⟩
        have B1 : Below w.heap.size w w1 := hb1
        simp only [hl]
        go_wp2_with (at_builtin; refine wpList_append_own _ rfl _ _ 22 rfl w1.heap.size 54 i0 (.agg #[.int .i64 0, .int .i64 0, .int .i64 0]) 3 24 Try.underlying22 hi hz0 hz1 hz2 rfl (by decide) _ 0 [] rfl (World.ownsRow_lit w1 #[] 0 (Nat.le_refl _) (by decide) rfl) ad n c (rdCells L) rfl (by rw [rdCells_length, hLn.out]) (fun t u hu => cellB ((Below.refl _ _).alloc (Nat.le_refl _) _) (cellB B1 (HC.out t u hu))) (rdCells_one _) (by unfold maxLen; omega) (by omega) (by simp) ?_)
        intro v2 w2 hown2 hg2 _
        have hb2 : Below w1.heap.size w1 w2 := ((Below.refl w1.heap.size w1).alloc (Nat.le_refl _) _).grown hg2 (by simp) (fun q hq => by cases hq; exact Nat.le_refl _)
        have B2 : Below w.heap.size w w2 := btr B1 hb2
        obtain ⟨a2, c2, hvv2, hs2, lc2, lm2, -⟩ := ownsRow_rd hown2
        rw [hvv2]
        clear hvv2 hown2 hg2
        have HS2 := Lib.hid hs2
        have hln2 : L.length ≤ 9223372036854775807 := by rw [← hLn.out]; omega
        go_wp2_with fail
        refine (Turn_c _ _ _ _ _ hs2).mono ?_
        rintro e w3 ⟨v3, rfl, hown3, hb3⟩
        have B3 : Below w.heap.size w w3 := btr B2 hb3
        replace hs2 := hs2.below hb3 (Nat.le_refl _)
        obtain ⟨a3, c3, hvv3, hs3, lc3, lm3, -⟩ := ownsRow_rd hown3
        rw [hvv3] at hown3 ⊢
        clear hvv3
        have HOWN := Lib.hid hown3
        clear hown3
        go_wp2_with fail
        refine (rTurn_c _ _ _ _ _ (h.below B3 (Nat.le_refl _))).mono ?_
        rintro e w4 ⟨v4, rfl, hv4, hb4⟩
        have B4 : Below w.heap.size w w4 := btr B3 hb4
        replace hs2 := hs2.below hb4 (Nat.le_refl _)
        replace hs3 := hs3.below hb4 (Nat.le_refl _)
        obtain ⟨a4, c4, hvv4, hs4, lc4, lm4, -⟩ := hv4
        rw [hvv4]
        clear hvv4
        go_wp2_with fail
        refine (Same_c _ _ _ _ _ _ _ _ _ hs3 hs4 (Nat.le_trans lc3 (Nat.le_trans lm3 (by decide)))).mono ?_
        rintro e w5 ⟨rfl, hb5⟩
        have B5 : Below w.heap.size w w5 := btr B4 hb5
        rw [sameB_self]
        replace hs2 := hs2.below hb5 (Nat.le_refl _)
        replace hs3 := hs3.below hb5 (Nat.le_refl _)
        replace hs4 := hs4.below hb5 (Nat.le_refl _)
        go_wp2_with fail
        refine (Agree_c _ _ _ _ _ _ (h.below B5 (Nat.le_refl _))).mono ?_
        rintro e w6 ⟨rfl, hb6⟩
        have B6 : Below w.heap.size w w6 := btr B5 hb6
        replace hs2 := hs2.below hb6 (Nat.le_refl _)
        replace hs3 := hs3.below hb6 (Nat.le_refl _)
        replace hs4 := hs4.below hb6 (Nat.le_refl _)
        go_wp2_with fail
        refine (Agree_c _ _ _ _ _ _ hs3).mono ?_
        rintro e w7 ⟨rfl, hb7⟩
        have B7 : Below w.heap.size w w7 := btr B6 hb7
        replace hs2 := hs2.below hb7 (Nat.le_refl _)
        replace hs3 := hs3.below hb7 (Nat.le_refl _)
        replace hs4 := hs4.below hb7 (Nat.le_refl _)
        go_wp2_with fail
        have hb27 : Below w2.heap.size w2 w7 := btr (btr (btr (btr hb3 hb4) hb5) hb6) hb7
        have hb37 : Below w3.heap.size w3 w7 := btr (btr (btr hb4 hb5) hb6) hb7
        have HO7 := Lib.hid (ownsRow_below HOWN.out hb37)
        have HB27 := Lib.hid hb27
        have hmm : (tuR L).length ≤ 9223372036854775807 := Nat.le_trans lc3 (Nat.le_trans lm3 (by decide))
        generalize (tuR L).length = m at *
        clear hb27 hb37 HOWN hb3 hb4 hb5 hb6 hb7 B3 B4 B5 B6 B7 hs4 lc4 lm4 hs3 hs2 lc3 lm3
        go_loopw [15] (fun i wr => ∃ k : Nat, ∃ xs, k ≤ m ∧ i = .int .i64 k ∧ Below w2.heap.size w2 wr ∧ wr.ownsRow w2.heap.size 54 3 (.slice a3 m c3) m xs) (fun i _ => m - (intOf i).toNat)
        case atStart => exact ⟨0, _, Nat.zero_le _, rfl, HB27.out, HO7.out⟩
        case round =>
          obtain ⟨k, xs, hk, rfl, hb', hown⟩ := hrel
          clear HO7 HB27
          by_cases hlt : k < m
          · obtain ⟨g, cap, hv, hg0⟩ : ∃ g cap, (Value.slice a3 m c3) = .slice (some ⟨g, 0, none⟩) m cap ∧ w2.heap.size ≤ g := by
              rcases hown.2 with ⟨_, h0⟩ | ⟨g, cap, cur, h', hb, _⟩
              · omega
              · exact ⟨g, cap, h', hb⟩
            cases hv
            have hx1 := hown.1
            have q0 : (wr.cell? ⟨g, k * 3, none⟩) = some (xs.getD (k * 3) (.bool false)) := by
              rw [hown.cellAt _ (by omega), List.getD_eq_getElem?_getD, List.getElem?_eq_getElem (by omega)]; rfl
            have f0 := hown.frozenAt (k * 3)
            have HST := Lib.hid (hown.stored (k * 3) (.int .i64 (-1))).1
            clear hown
            go_wp2_with fail
            exact ⟨⟨k + 1, _, by omega, by go_num, hb'.setCell hg0 _, HST.out⟩, by simp [intOf]; omega⟩
          · have hd : ¬ (k : Int) < m := by omega
            have hsz := B2.size
            clear hlt
            go_wp2_with fail
            refine (Same_c _ _ _ _ _ _ _ _ _ (HS2.out.below hb' (Nat.le_refl _)) (h.below (btr B2 hb') (Nat.le_refl _)) hln2).mono ?_
            rintro e w8 ⟨rfl, hb8⟩
            rw [sameB_self]
            go_wp2_with fail
            refine (known_c _).mono ?_
            rintro e w9 ⟨rfl, hb9⟩
            go_wp2_with fail
            go_ret
            exact ⟨rfl, btr (btr (btr B2 hb') hb8) hb9⟩
end Go.Proofs.Ytgbdcemlnklmoaa
