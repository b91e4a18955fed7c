/- ClockTurns: the walk. -/
import Derived.Test.YtbmbogaejmgloaaK
import Derived.Test.YtbmbogaejmgloaaC
import Derived.Test.YtbmbogaejmgloaaG2
import Derived.Laws.AppendOwnNone
namespace Go.Proofs.Ytbmbogaejmgloaa
open Go.RowKit Go.Sort
theorem jbCells_cells {w : World} {b o n : Nat} {L : List Jb} (h : Sl w b o n L) : ∀ j u, (jbCells L)[j]? = some u → w.cell? ((⟨b, o, none⟩ : Addr).add j) = some u := by
  intro j u hj
  have hlt : j < (jbCells L).length := (List.getElem?_eq_some_iff.1 hj).1
  rw [jbCells_length] at hlt
  have ha : (⟨b, o, none⟩ : Addr).add j = ⟨b, o + j, none⟩ := by
    unfold Addr.add
    split
    · rename_i h0; rw [h0, Nat.add_zero]
    · rfl
  rw [ha]
  have hi : j / 3 < L.length := by omega
  have hin : j / 3 < n := by rw [h.len]; exact hi
  obtain ⟨r0, r1, r2⟩ := jbCells_at L (j / 3) hi
  have hm : j % 3 = 0 ∨ j % 3 = 1 ∨ j % 3 = 2 := by omega
  rcases hm with hm | hm | hm
  · have e : j = j / 3 * 3 := by omega
    rw [← e] at r0
    rw [hj] at r0
    rw [show o + j = o + j / 3 * 3 by omega, h.c0 _ hin, r0]
  · have e : j = j / 3 * 3 + 1 := by omega
    rw [← e] at r1
    rw [hj] at r1
    rw [show o + j = o + j / 3 * 3 + 1 by omega, h.c1 _ hin, r1]
  · have e : j = j / 3 * 3 + 2 := by omega
    rw [← e] at r2
    rw [hj] at r2
    rw [show o + j = o + j / 3 * 3 + 2 by omega, h.c2 _ hin, r2]
theorem jbCells_one (L : List Jb) : ∀ u ∈ jbCells L, u.oneCell' = true := by
  intro u hu
  simp only [jbCells, List.mem_flatMap, List.mem_cons, List.not_mem_nil, or_false] at hu
  obtain ⟨x, _, rfl | rfl | rfl⟩ := hu <;> rfl
theorem own_open {w : World} {base : Nat} {e : TypeId} {size : Nat} {v : Value} {n : Nat} {xs : List Value} (h : w.ownsRow base e size v n xs) (hn : n ≠ 0) :
    ∃ g cap, v = .slice (some ⟨g, 0, none⟩) n cap ∧ base ≤ g ∧ g < w.heap.size ∧ w.ownsRow base e size (.slice (some ⟨g, 0, none⟩) n cap) n xs := by
  have h0 := h
  obtain ⟨h1, h2⟩ := h
  rcases h2 with ⟨_, h3⟩ | ⟨g, cap, cur, hv, hg, hh, _⟩
  · exact absurd h3 hn
  · exact ⟨g, cap, hv, hg, (Array.getElem?_eq_some_iff.1 hh).1, hv ▸ h0⟩
theorem calls_world {P : Program} {f : FuncId} {args : Array Value} {w : World} {Q : Ending → World → Prop} (h : ∀ w1, w1 = w → Calls P f args w1 Q) : Calls P f args w Q := h w rfl
theorem turns_facts {L : List Jb} (h : vErr L = 0) : vErr (turnL L) = 0 ∧ slackJ (turnL L) = slackJ L ∧ someJ (turnL L) = someJ L ∧ speedJ (turnL L) = speedJ L ∧ ckB (turnL L) = ckB L := by
  have hv := vErr_zero.1 h
  have e : turnL L = turned L := if_pos h
  have h2 := vErr_zero.2 (turned_valid hv)
  rw [e]
  exact ⟨h2, (turned_slack hv).1, (turned_slack hv).2, turned_speed hv, by unfold ckB; rw [h, h2, turned_lateJ hv]⟩
theorem turnL_len (L : List Jb) : vErr L = 0 → (turnL L).length = L.length := fun h => by unfold turnL; rw [if_pos h, turned_length]

set_option maxRecDepth 100000 in
set_option maxHeartbeats 3200000 in
theorem turns_w (a : Option Addr) (n c : Nat) (L : List Jb) (w : World) (h : SlO w a n L) (hc : n ≤ c) (hm : c ≤ maxLen) (hz : a = none → c = 0) :
    Calls Try.prog 11 #[.slice a n c] w fun e w' => e = .returned (.bool true) ∧ Below w.heap.size w w' := by
  have _ := hc
  have _ := hm
  have self := fun x : Int => (show (x != x) = false by simp)
  have selfe := fun x : Int => (show (x == x) = true by simp)
  have selfb := fun x : Bool => (show (x != x) = false by simp)
  have selfc := fun x : Bool => (show (x == x) = true by simp)
  have hn47 : n ≤ 9223372036854775807 := Nat.le_trans hc (Nat.le_trans hm (by decide))
  cases hl : longB n
  case true =>
    go_enter Try.func11, Try.ntmps11
    go_wp2_with fail
    refine (Long_c _ _ _ _).mono ?_
    rintro e w1 ⟨rfl, hb1⟩
    have B1 : Below w.heap.size w w1 := btr (Below.refl _ _) hb1
    simp only [hl]
    go_wp2_with fail
    refine (known_c _).mono ?_
    rintro e w2 ⟨rfl, hb2⟩
    have B2 : Below w.heap.size w w2 := btr B1 hb2
    go_wp2_with fail
    go_ret
    exact ⟨rfl, B2⟩
  case false =>
    have h40 : n ≤ 40 := by simp [longB] at hl; exact hl
    have HLn : Hid (n = L.length) := Lib.hid h.1
    obtain ⟨i0, hi, hz0, hz1, hz2⟩ := info_parts info30
    cases ha : a with
    | none =>
      subst ha
      have hc0 := hz rfl
      have hn0 : n = 0 := by omega
      subst hn0 hc0
      have HJN : Hid (jbCells L = []) := Lib.hid (by rw [List.eq_nil_of_length_eq_zero HLn.out.symm]; rfl)
      by_cases h0 : vErr L = 0
      case neg =>
        have hne : (vErr L != 0) = true := by simpa using h0
        clear h0
        go_enter Try.func11, Try.ntmps11
        go_wp2_with fail
        refine (Long_c _ _ _ _).mono ?_
        rintro e w1 ⟨rfl, hb1⟩
        have B1 : Below w.heap.size w w1 := btr (Below.refl _ _) hb1
        simp only [hl]
        go_wp2_with (at_builtin; refine wpList_append_own_none rfl _ _ 22 rfl w1.heap.size 30 i0 3 Try.underlying22 hi _ 0 [] rfl (World.ownsRow_made _ #[] 0 (Nat.le_refl _) (Nat.zero_le _) rfl) rfl ?_)
        refine calls_world ?_
        intro w0 hw0
        have b10 : Below w1.heap.size w1 w0 := by rw [hw0]; exact (Below.refl _ _).alloc (Nat.le_refl _) _
        have hO : w0.ownsRow w1.heap.size 30 3 (.slice (some ⟨w1.heap.size, 0, none⟩) 0 0) 0 (jbCells L) := by rw [hw0, HJN.out]; exact World.ownsRow_made _ #[] 0 (Nat.le_refl _) (Nat.zero_le _) rfl
        clear hw0
        have B0 : Below w.heap.size w w0 := btr B1 b10
        obtain ⟨a0, c0, e0, i0', l0, m0, q0⟩ := ownsRow_jb hO
        rw [← HLn.out] at e0 i0' l0
        rw [e0]
        clear e0 q0 hO b10
        go_wp2_with fail
        refine (Turn_o _ _ _ _ _ i0').mono ?_
        rintro e w2 ⟨v2, rfl, hv2, hb2⟩
        have B2 : Below w.heap.size w w2 := btr B0 hb2
        have i0t := i0'
        replace i0' := i0'.below hb2 (Nat.le_refl _)
        have HTO := Lib.hid hv2
        obtain ⟨a2, c2, e2, i2, l2, m2, q2⟩ := ownsRow_jb hv2
        rw [e2] at HTO ⊢
        clear hv2 e2
        go_wp2_with fail
        refine (rTurn_c _ _ _ _ _ (h.below B2 (Nat.le_refl _))).mono ?_
        rintro e w3 ⟨v3, rfl, hv3, hb3⟩
        have B3 : Below w.heap.size w w3 := btr B2 hb3
        replace i0' := i0'.below hb3 (Nat.le_refl _)
        replace i2 := i2.below hb3 (Nat.le_refl _)
        obtain ⟨a3, c3, e3, i3, l3, m3, q3⟩ := hv3
        rw [e3]
        clear e3 q3
        go_wp2_with fail
        refine (Same_c _ _ _ _ _ _ _ _ _ i2 i3 (Nat.le_trans l2 (Nat.le_trans m2 (by decide)))).mono ?_
        rintro e w4 ⟨rfl, hb4⟩
        have B4 : Below w.heap.size w w4 := btr B3 hb4
        replace i0' := i0'.below hb4 (Nat.le_refl _)
        replace i2 := i2.below hb4 (Nat.le_refl _)
        replace i3 := i3.below hb4 (Nat.le_refl _)
        rw [sameB_self]
        go_wp2_with fail
        refine (known_c _).mono ?_
        rintro e w5 ⟨rfl, hb5⟩
        have B5 : Below w.heap.size w w5 := btr B4 hb5
        replace i0' := i0'.below hb5 (Nat.le_refl _)
        replace i2 := i2.below hb5 (Nat.le_refl _)
        replace i3 := i3.below hb5 (Nat.le_refl _)
        go_wp2_with fail
        go_ret
        exact ⟨rfl, B5⟩
      have hne : (vErr L != 0) = false := by simp [h0]
      have HE := Lib.hid h0
      obtain ⟨f1, f2, f3, f4, f5⟩ := turns_facts h0
      have hln := turnL_len L h0
      rw [← HLn.out] at hln
      have F1 := Lib.hid f1
      have F2 := Lib.hid f2
      have F3 := Lib.hid f3
      have F4 := Lib.hid f4
      have F5 := Lib.hid f5
      have FLN := Lib.hid hln
      clear h0 f1 f2 f3 f4 f5 hln
      go_enter Try.func11, Try.ntmps11
      go_wp2_with fail
      refine (Long_c _ _ _ _).mono ?_
      rintro e w1 ⟨rfl, hb1⟩
      have B1 : Below w.heap.size w w1 := btr (Below.refl _ _) hb1
      simp only [hl]
      go_wp2_with (at_builtin; refine wpList_append_own_none rfl _ _ 22 rfl w1.heap.size 30 i0 3 Try.underlying22 hi _ 0 [] rfl (World.ownsRow_made _ #[] 0 (Nat.le_refl _) (Nat.zero_le _) rfl) rfl ?_)
      refine calls_world ?_
      intro w0 hw0
      have b10 : Below w1.heap.size w1 w0 := by rw [hw0]; exact (Below.refl _ _).alloc (Nat.le_refl _) _
      have hO : w0.ownsRow w1.heap.size 30 3 (.slice (some ⟨w1.heap.size, 0, none⟩) 0 0) 0 (jbCells L) := by rw [hw0, HJN.out]; exact World.ownsRow_made _ #[] 0 (Nat.le_refl _) (Nat.zero_le _) rfl
      clear hw0
      have B0 : Below w.heap.size w w0 := btr B1 b10
      obtain ⟨a0, c0, e0, i0', l0, m0, q0⟩ := ownsRow_jb hO
      rw [← HLn.out] at e0 i0' l0
      rw [e0]
      clear e0 q0 hO b10
      go_wp2_with fail
      refine (Turn_o _ _ _ _ _ i0').mono ?_
      rintro e w2 ⟨v2, rfl, hv2, hb2⟩
      have B2 : Below w.heap.size w w2 := btr B0 hb2
      have i0t := i0'
      replace i0' := i0'.below hb2 (Nat.le_refl _)
      have HTO := Lib.hid hv2
      obtain ⟨a2, c2, e2, i2, l2, m2, q2⟩ := ownsRow_jb hv2
      rw [e2] at HTO ⊢
      clear hv2 e2
      rw [FLN.out] at HTO i2 l2 ⊢
      go_wp2_with fail
      refine (rTurn_c _ _ _ _ _ (h.below B2 (Nat.le_refl _))).mono ?_
      rintro e w3 ⟨v3, rfl, hv3, hb3⟩
      have B3 : Below w.heap.size w w3 := btr B2 hb3
      replace i0' := i0'.below hb3 (Nat.le_refl _)
      replace i2 := i2.below hb3 (Nat.le_refl _)
      obtain ⟨a3, c3, e3, i3, l3, m3, q3⟩ := hv3
      rw [e3]
      clear e3 q3
      go_wp2_with fail
      refine (Same_c _ _ _ _ _ _ _ _ _ i2 i3 (by omega)).mono ?_
      rintro e w4 ⟨rfl, hb4⟩
      have B4 : Below w.heap.size w w4 := btr B3 hb4
      replace i0' := i0'.below hb4 (Nat.le_refl _)
      replace i2 := i2.below hb4 (Nat.le_refl _)
      replace i3 := i3.below hb4 (Nat.le_refl _)
      rw [sameB_self]
      clear i3 l3 m3
      go_wp2_with fail
      refine (Slack_c _ _ _ _ _ i2).mono ?_
      rintro e w5 ⟨rfl, hb5⟩
      have B5 : Below w.heap.size w w5 := btr B4 hb5
      replace i0' := i0'.below hb5 (Nat.le_refl _)
      replace i2 := i2.below hb5 (Nat.le_refl _)
      rw [F1.out, F2.out, F3.out]
      go_wp2_with fail
      refine (Slack_c _ _ _ _ _ (h.below B5 (Nat.le_refl _))).mono ?_
      rintro e w6 ⟨rfl, hb6⟩
      have B6 : Below w.heap.size w w6 := btr B5 hb6
      replace i0' := i0'.below hb6 (Nat.le_refl _)
      replace i2 := i2.below hb6 (Nat.le_refl _)
      rw [HE.out]
      go_wp2_with fail
      refine (Speed_c _ _ _ _ _ i2).mono ?_
      rintro e w7 ⟨rfl, hb7⟩
      have B7 : Below w.heap.size w w7 := btr B6 hb7
      replace i0' := i0'.below hb7 (Nat.le_refl _)
      replace i2 := i2.below hb7 (Nat.le_refl _)
      rw [F1.out, F4.out]
      go_wp2_with fail
      refine (Speed_c _ _ _ _ _ (h.below (B7.alloc B7.size _) (Nat.le_refl _))).mono ?_
      rintro e w8 ⟨rfl, hb8⟩
      have ha8 : Below w7.heap.size w7 w8 := btr ((Below.refl _ _).alloc (Nat.le_refl _) _) hb8
      have hs : Cell2 w8 w7.heap.size (speedJ L).1 (speedJ L).2 := Cell2.below (w := w7.alloc (.cells #[.int .i64 (speedJ L).1, .int .i64 (speedJ L).2] 44)) ⟨by simp [go_sem], by simp [go_sem], by simp [go_sem], by simp [go_sem]⟩ hb8
      have B8 : Below w.heap.size w w8 := btr (B7.alloc B7.size _) hb8
      replace i0' := i0'.below ha8 (Nat.le_refl _)
      replace i2 := i2.below ha8 (Nat.le_refl _)
      rw [HE.out]
      have hs0 := hs.c0
      have hs1 := hs.c1
      have hsl := hs.lt
      go_wp2_with fail
      refine (CanKeep_c _ _ _ _ _ (i2.below ((Below.refl _ _).alloc (Nat.le_refl _) _) (Nat.le_refl _))).mono ?_
      rintro e w9 ⟨rfl, hb9⟩
      clear hs0 hs1 hsl
      have ha9 : Below w8.heap.size w8 w9 := btr ((Below.refl _ _).alloc (Nat.le_refl _) _) hb9
      have ht : Cell2 w9 w8.heap.size (speedJ L).1 (speedJ L).2 := Cell2.below (w := w8.alloc (.cells #[.int .i64 (speedJ L).1, .int .i64 (speedJ L).2] 44)) ⟨by simp [go_sem], by simp [go_sem], by simp [go_sem], by simp [go_sem]⟩ hb9
      have B9 : Below w.heap.size w w9 := btr (B8.alloc B8.size _) hb9
      replace i0' := i0'.below ha9 (Nat.le_refl _)
      replace i2 := i2.below ha9 (Nat.le_refl _)
      replace hs := hs.below ha9
      rw [F1.out, F5.out]
      have hs0 := hs.c0
      have hs1 := hs.c1
      have ht0 := ht.c0
      have ht1 := ht.c1
      go_wp2_with fail
      refine (CanKeep_c _ _ _ _ _ (h.below B9 (Nat.le_refl _))).mono ?_
      rintro e w10 ⟨rfl, hb10⟩
      clear hs0 hs1 ht0 ht1
      have B10 : Below w.heap.size w w10 := btr B9 hb10
      replace i0' := i0'.below hb10 (Nat.le_refl _)
      replace i2 := i2.below hb10 (Nat.le_refl _)
      replace hs := hs.below hb10
      replace ht := ht.below hb10
      rw [HE.out]
      have BT := btr (btr (btr (btr (btr (btr (btr hb3 hb4) hb5) hb6) hb7) ha8) ha9) hb10
      have B010 : Below w0.heap.size w0 w10 := btr hb2 BT
      have HTB := Lib.hid (ownsRow_below HTO.out BT)
      have hg7 : w2.heap.size ≤ w7.heap.size := (btr (btr (btr (btr hb3 hb4) hb5) hb6) hb7).size
      have hg8 : w2.heap.size ≤ w8.heap.size := (btr (btr (btr (btr (btr hb3 hb4) hb5) hb6) hb7) ha8).size
      have HS := Lib.hid hs
      have HT := Lib.hid ht
      have I0 := Lib.hid i0t
      generalize w7.heap.size = G7 at *
      generalize w8.heap.size = G8 at *
      clear hb1 hb2 hb3 hb4 hb5 hb6 hb7 hb8 hb9 hb10 ha8 ha9 B2 B3 B4 B5 B6 B7 B8 B9 B10 BT i2 i0' i0t hs ht
      go_wp2_with fail
      go_loopw [22] (fun i wr => ∃ (k : Nat) (cs : List Value), k ≤ 0 ∧ i = .int .i64 k ∧ Below w0.heap.size w0 wr ∧ wr.ownsRow w0.heap.size 30 3 (.slice a2 0 c2) 0 cs ∧ Cell2 wr G7 (speedJ L).1 (speedJ L).2 ∧ Cell2 wr G8 (speedJ L).1 (speedJ L).2) (fun i _ => 0 - (intOf i).toNat)
      case atStart => exact ⟨0, _, Nat.zero_le _, rfl, B010, HTB.out, HS.out, HT.out⟩
      case round =>
        obtain ⟨k, cs, hk, rfl, hb, hown, hs, ht⟩ := hrel
        have HOW := Lib.hid hown
        have HS2 := Lib.hid hs
        have HT2 := Lib.hid ht
        clear hown hs ht HTB HS HT B010
        by_cases hlt : k < 0
        · exact absurd hlt (Nat.not_lt_zero _)
        · have hd : ¬ (k : Int) < ((0 : Nat) : Int) := by omega
          have hs0 := HS2.out.c0
          have hs1 := HS2.out.c1
          have ht0 := HT2.out.c0
          have ht1 := HT2.out.c1
          clear hlt
          go_wp2_with fail
          refine (Same_c _ _ _ _ _ _ _ _ _ (I0.out.below hb (Nat.le_refl _)) (h.below (btr B0 hb) (Nat.le_refl _)) (by omega)).mono ?_
          rintro e wa ⟨rfl, hba⟩
          rw [sameB_self]
          clear hs0 hs1 ht0 ht1
          go_wp2_with fail
          refine (known_c _).mono ?_
          rintro e wb ⟨rfl, hbb⟩
          go_wp2_with fail
          go_ret
          exact ⟨rfl, btr (btr (btr B0 hb) hba) hbb⟩
    | some ad =>
      subst ha
      have hce : ∀ W, Below w.heap.size w W → ∀ j u, (jbCells L)[j]? = some u → W.cell? (ad.add j) = some u := fun W hb => by
        rcases h.2 with h' | ⟨b, o, hbo, hS⟩
        · have hL : L = [] := List.eq_nil_of_length_eq_zero (by have := h.1; omega)
          subst hL
          intro j u hu
          simp [jbCells] at hu
        · cases hbo
          exact jbCells_cells (hS.below hb (Nat.le_refl _))
      have HCE := Lib.hid hce
      clear hce hz
      by_cases h0 : vErr L = 0
      case neg =>
        have hne : (vErr L != 0) = true := by simpa using h0
        clear h0
        go_enter Try.func11, Try.ntmps11
        go_wp2_with fail
        refine (Long_c _ _ _ _).mono ?_
        rintro e w1 ⟨rfl, hb1⟩
        have B1 : Below w.heap.size w w1 := btr (Below.refl _ _) hb1
        simp only [hl]
        have HB1 := Lib.hid B1
        go_wp2_with (at_builtin; refine wpList_append_own _ rfl _ _ 22 rfl w1.heap.size 30 i0 (.agg #[.int .i64 0, .int .i64 0, .int .i64 0]) 3 24 Try.underlying22 hi hz0 hz1 hz2 rfl (by decide) _ _ _ rfl (World.ownsRow_made _ #[] 0 (Nat.le_refl _) (Nat.zero_le _) rfl) ad n c (jbCells L) rfl (by rw [jbCells_length, ← HLn.out]) (HCE.out _ ((btr HB1.out ((Below.refl _ _).alloc (Nat.le_refl _) _)))) (jbCells_one L) (by unfold maxLen; omega) (by omega) (by simp) ?_)
        intro v0 w0 hown0 hg0 _
        have b10 : Below w1.heap.size w1 w0 := ((Below.refl _ _).alloc (Nat.le_refl _) _).grown hg0 (by simp) (fun q hq => by cases hq; exact Nat.le_refl _)
        have hO : w0.ownsRow w1.heap.size 30 3 v0 n (jbCells L) := by simpa using hown0
        clear hown0 hg0 HB1
        have B0 : Below w.heap.size w w0 := btr B1 b10
        obtain ⟨a0, c0, e0, i0', l0, m0, q0⟩ := ownsRow_jb hO
        rw [← HLn.out] at e0 i0' l0
        rw [e0]
        clear e0 q0 hO b10
        go_wp2_with fail
        refine (Turn_o _ _ _ _ _ i0').mono ?_
        rintro e w2 ⟨v2, rfl, hv2, hb2⟩
        have B2 : Below w.heap.size w w2 := btr B0 hb2
        have i0t := i0'
        replace i0' := i0'.below hb2 (Nat.le_refl _)
        have HTO := Lib.hid hv2
        obtain ⟨a2, c2, e2, i2, l2, m2, q2⟩ := ownsRow_jb hv2
        rw [e2] at HTO ⊢
        clear hv2 e2
        go_wp2_with fail
        refine (rTurn_c _ _ _ _ _ (h.below B2 (Nat.le_refl _))).mono ?_
        rintro e w3 ⟨v3, rfl, hv3, hb3⟩
        have B3 : Below w.heap.size w w3 := btr B2 hb3
        replace i0' := i0'.below hb3 (Nat.le_refl _)
        replace i2 := i2.below hb3 (Nat.le_refl _)
        obtain ⟨a3, c3, e3, i3, l3, m3, q3⟩ := hv3
        rw [e3]
        clear e3 q3
        go_wp2_with fail
        refine (Same_c _ _ _ _ _ _ _ _ _ i2 i3 (Nat.le_trans l2 (Nat.le_trans m2 (by decide)))).mono ?_
        rintro e w4 ⟨rfl, hb4⟩
        have B4 : Below w.heap.size w w4 := btr B3 hb4
        replace i0' := i0'.below hb4 (Nat.le_refl _)
        replace i2 := i2.below hb4 (Nat.le_refl _)
        replace i3 := i3.below hb4 (Nat.le_refl _)
        rw [sameB_self]
        go_wp2_with fail
        refine (known_c _).mono ?_
        rintro e w5 ⟨rfl, hb5⟩
        have B5 : Below w.heap.size w w5 := btr B4 hb5
        replace i0' := i0'.below hb5 (Nat.le_refl _)
        replace i2 := i2.below hb5 (Nat.le_refl _)
        replace i3 := i3.below hb5 (Nat.le_refl _)
        go_wp2_with fail
        go_ret
        exact ⟨rfl, B5⟩
      have hne : (vErr L != 0) = false := by simp [h0]
      have HE := Lib.hid h0
      obtain ⟨f1, f2, f3, f4, f5⟩ := turns_facts h0
      have hln := turnL_len L h0
      rw [← HLn.out] at hln
      have F1 := Lib.hid f1
      have F2 := Lib.hid f2
      have F3 := Lib.hid f3
      have F4 := Lib.hid f4
      have F5 := Lib.hid f5
      have FLN := Lib.hid hln
      clear h0 f1 f2 f3 f4 f5 hln
      go_enter Try.func11, Try.ntmps11
      go_wp2_with fail
      refine (Long_c _ _ _ _).mono ?_
      rintro e w1 ⟨rfl, hb1⟩
      have B1 : Below w.heap.size w w1 := btr (Below.refl _ _) hb1
      simp only [hl]
      have HB1 := Lib.hid B1
      go_wp2_with (at_builtin; refine wpList_append_own _ rfl _ _ 22 rfl w1.heap.size 30 i0 (.agg #[.int .i64 0, .int .i64 0, .int .i64 0]) 3 24 Try.underlying22 hi hz0 hz1 hz2 rfl (by decide) _ _ _ rfl (World.ownsRow_made _ #[] 0 (Nat.le_refl _) (Nat.zero_le _) rfl) ad n c (jbCells L) rfl (by rw [jbCells_length, ← HLn.out]) (HCE.out _ ((btr HB1.out ((Below.refl _ _).alloc (Nat.le_refl _) _)))) (jbCells_one L) (by unfold maxLen; omega) (by omega) (by simp) ?_)
      intro v0 w0 hown0 hg0 _
      have b10 : Below w1.heap.size w1 w0 := ((Below.refl _ _).alloc (Nat.le_refl _) _).grown hg0 (by simp) (fun q hq => by cases hq; exact Nat.le_refl _)
      have hO : w0.ownsRow w1.heap.size 30 3 v0 n (jbCells L) := by simpa using hown0
      clear hown0 hg0 HB1
      have B0 : Below w.heap.size w w0 := btr B1 b10
      obtain ⟨a0, c0, e0, i0', l0, m0, q0⟩ := ownsRow_jb hO
      rw [← HLn.out] at e0 i0' l0
      rw [e0]
      clear e0 q0 hO b10
      go_wp2_with fail
      refine (Turn_o _ _ _ _ _ i0').mono ?_
      rintro e w2 ⟨v2, rfl, hv2, hb2⟩
      have B2 : Below w.heap.size w w2 := btr B0 hb2
      have i0t := i0'
      replace i0' := i0'.below hb2 (Nat.le_refl _)
      have HTO := Lib.hid hv2
      obtain ⟨a2, c2, e2, i2, l2, m2, q2⟩ := ownsRow_jb hv2
      rw [e2] at HTO ⊢
      clear hv2 e2
      rw [FLN.out] at HTO i2 l2 ⊢
      go_wp2_with fail
      refine (rTurn_c _ _ _ _ _ (h.below B2 (Nat.le_refl _))).mono ?_
      rintro e w3 ⟨v3, rfl, hv3, hb3⟩
      have B3 : Below w.heap.size w w3 := btr B2 hb3
      replace i0' := i0'.below hb3 (Nat.le_refl _)
      replace i2 := i2.below hb3 (Nat.le_refl _)
      obtain ⟨a3, c3, e3, i3, l3, m3, q3⟩ := hv3
      rw [e3]
      clear e3 q3
      go_wp2_with fail
      refine (Same_c _ _ _ _ _ _ _ _ _ i2 i3 (by omega)).mono ?_
      rintro e w4 ⟨rfl, hb4⟩
      have B4 : Below w.heap.size w w4 := btr B3 hb4
      replace i0' := i0'.below hb4 (Nat.le_refl _)
      replace i2 := i2.below hb4 (Nat.le_refl _)
      replace i3 := i3.below hb4 (Nat.le_refl _)
      rw [sameB_self]
      clear i3 l3 m3
      go_wp2_with fail
      refine (Slack_c _ _ _ _ _ i2).mono ?_
      rintro e w5 ⟨rfl, hb5⟩
      have B5 : Below w.heap.size w w5 := btr B4 hb5
      replace i0' := i0'.below hb5 (Nat.le_refl _)
      replace i2 := i2.below hb5 (Nat.le_refl _)
      rw [F1.out, F2.out, F3.out]
      go_wp2_with fail
      refine (Slack_c _ _ _ _ _ (h.below B5 (Nat.le_refl _))).mono ?_
      rintro e w6 ⟨rfl, hb6⟩
      have B6 : Below w.heap.size w w6 := btr B5 hb6
      replace i0' := i0'.below hb6 (Nat.le_refl _)
      replace i2 := i2.below hb6 (Nat.le_refl _)
      rw [HE.out]
      go_wp2_with fail
      refine (Speed_c _ _ _ _ _ i2).mono ?_
      rintro e w7 ⟨rfl, hb7⟩
      have B7 : Below w.heap.size w w7 := btr B6 hb7
      replace i0' := i0'.below hb7 (Nat.le_refl _)
      replace i2 := i2.below hb7 (Nat.le_refl _)
      rw [F1.out, F4.out]
      go_wp2_with fail
      refine (Speed_c _ _ _ _ _ (h.below (B7.alloc B7.size _) (Nat.le_refl _))).mono ?_
      rintro e w8 ⟨rfl, hb8⟩
      have ha8 : Below w7.heap.size w7 w8 := btr ((Below.refl _ _).alloc (Nat.le_refl _) _) hb8
      have hs : Cell2 w8 w7.heap.size (speedJ L).1 (speedJ L).2 := Cell2.below (w := w7.alloc (.cells #[.int .i64 (speedJ L).1, .int .i64 (speedJ L).2] 44)) ⟨by simp [go_sem], by simp [go_sem], by simp [go_sem], by simp [go_sem]⟩ hb8
      have B8 : Below w.heap.size w w8 := btr (B7.alloc B7.size _) hb8
      replace i0' := i0'.below ha8 (Nat.le_refl _)
      replace i2 := i2.below ha8 (Nat.le_refl _)
      rw [HE.out]
      have hs0 := hs.c0
      have hs1 := hs.c1
      have hsl := hs.lt
      go_wp2_with fail
      refine (CanKeep_c _ _ _ _ _ (i2.below ((Below.refl _ _).alloc (Nat.le_refl _) _) (Nat.le_refl _))).mono ?_
      rintro e w9 ⟨rfl, hb9⟩
      clear hs0 hs1 hsl
      have ha9 : Below w8.heap.size w8 w9 := btr ((Below.refl _ _).alloc (Nat.le_refl _) _) hb9
      have ht : Cell2 w9 w8.heap.size (speedJ L).1 (speedJ L).2 := Cell2.below (w := w8.alloc (.cells #[.int .i64 (speedJ L).1, .int .i64 (speedJ L).2] 44)) ⟨by simp [go_sem], by simp [go_sem], by simp [go_sem], by simp [go_sem]⟩ hb9
      have B9 : Below w.heap.size w w9 := btr (B8.alloc B8.size _) hb9
      replace i0' := i0'.below ha9 (Nat.le_refl _)
      replace i2 := i2.below ha9 (Nat.le_refl _)
      replace hs := hs.below ha9
      rw [F1.out, F5.out]
      have hs0 := hs.c0
      have hs1 := hs.c1
      have ht0 := ht.c0
      have ht1 := ht.c1
      go_wp2_with fail
      refine (CanKeep_c _ _ _ _ _ (h.below B9 (Nat.le_refl _))).mono ?_
      rintro e w10 ⟨rfl, hb10⟩
      clear hs0 hs1 ht0 ht1
      have B10 : Below w.heap.size w w10 := btr B9 hb10
      replace i0' := i0'.below hb10 (Nat.le_refl _)
      replace i2 := i2.below hb10 (Nat.le_refl _)
      replace hs := hs.below hb10
      replace ht := ht.below hb10
      rw [HE.out]
      have BT := btr (btr (btr (btr (btr (btr (btr hb3 hb4) hb5) hb6) hb7) ha8) ha9) hb10
      have B010 : Below w0.heap.size w0 w10 := btr hb2 BT
      have HTB := Lib.hid (ownsRow_below HTO.out BT)
      have hg7 : w2.heap.size ≤ w7.heap.size := (btr (btr (btr (btr hb3 hb4) hb5) hb6) hb7).size
      have hg8 : w2.heap.size ≤ w8.heap.size := (btr (btr (btr (btr (btr hb3 hb4) hb5) hb6) hb7) ha8).size
      have HS := Lib.hid hs
      have HT := Lib.hid ht
      have I0 := Lib.hid i0t
      generalize w7.heap.size = G7 at *
      generalize w8.heap.size = G8 at *
      clear hb1 hb2 hb3 hb4 hb5 hb6 hb7 hb8 hb9 hb10 ha8 ha9 B2 B3 B4 B5 B6 B7 B8 B9 B10 BT i2 i0' i0t hs ht
      go_wp2_with fail
      go_loopw [22] (fun i wr => ∃ (k : Nat) (cs : List Value), k ≤ n ∧ i = .int .i64 k ∧ Below w0.heap.size w0 wr ∧ wr.ownsRow w0.heap.size 30 3 (.slice a2 n c2) n cs ∧ Cell2 wr G7 (speedJ L).1 (speedJ L).2 ∧ Cell2 wr G8 (speedJ L).1 (speedJ L).2) (fun i _ => n - (intOf i).toNat)
      case atStart => exact ⟨0, _, Nat.zero_le _, rfl, B010, HTB.out, HS.out, HT.out⟩
      case round =>
        obtain ⟨k, cs, hk, rfl, hb, hown, hs, ht⟩ := hrel
        have HOW := Lib.hid hown
        have HS2 := Lib.hid hs
        have HT2 := Lib.hid ht
        clear hown hs ht HTB HS HT B010
        by_cases hlt : k < n
        · obtain ⟨g, cap, hv, hg1, hg2, hown2⟩ := own_open HOW.out (by omega)
          cases hv
          have hgl : g < w2.heap.size := (HTO.out.lt g rfl).2
          have hn7 : G7 ≠ g := by omega
          have hn8 : G8 ≠ g := by omega
          have hj : k * 3 + 2 < cs.length := by have := hown2.1; omega
          have cx := hown2.cellAt (k * 3 + 2) (by omega)
          rw [List.getElem?_eq_getElem hj] at cx
          have cz := hown2.frozenAt (k * 3 + 2)
          have HO2 := Lib.hid (hown2.stored (k * 3 + 2) (.int .i64 (-1))).1
          clear hown2 hg2
          generalize cs[k * 3 + 2] = cv at *
          go_wp2_with fail
          exact ⟨⟨k + 1, _, by omega, by go_num, hb.setCell hg1 _, HO2.out, HS2.out.set hn7, HT2.out.set hn8⟩, by simp [intOf]; omega⟩
        · have hd : ¬ (k : Int) < n := by omega
          have hs0 := HS2.out.c0
          have hs1 := HS2.out.c1
          have ht0 := HT2.out.c0
          have ht1 := HT2.out.c1
          clear hlt
          go_wp2_with fail
          refine (Same_c _ _ _ _ _ _ _ _ _ (I0.out.below hb (Nat.le_refl _)) (h.below (btr B0 hb) (Nat.le_refl _)) (by omega)).mono ?_
          rintro e wa ⟨rfl, hba⟩
          rw [sameB_self]
          clear hs0 hs1 ht0 ht1
          go_wp2_with fail
          refine (known_c _).mono ?_
          rintro e wb ⟨rfl, hbb⟩
          go_wp2_with fail
          go_ret
          exact ⟨rfl, btr (btr (btr B0 hb) hba) hbb⟩
end Go.Proofs.Ytbmbogaejmgloaa
