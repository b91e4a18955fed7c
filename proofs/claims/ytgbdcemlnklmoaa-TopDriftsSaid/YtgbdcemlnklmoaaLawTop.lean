/- TopDrifts: the walk. -/
import Derived.Test.YtgbdcemlnklmoaaMath7
import Derived.Test.YtgbdcemlnklmoaaQ
import Derived.Test.YtgbdcemlnklmoaaM
import Derived.Test.YtgbdcemlnklmoaaH
import Derived.Test.YtgbdcemlnklmoaaS
import Derived.Test.YtgbdcemlnklmoaaT
import Derived.Test.YtgbdcemlnklmoaaD
import Derived.Test.YtgbdcemlnklmoaaE
import Derived.Test.YtgbdcemlnklmoaaP
import Derived.Test.YtgbdcemlnklmoaaU
import Derived.Test.YtgbdcemlnklmoaaW
import Derived.Test.YtgbdcemlnklmoaaL
namespace Go.Proofs.Ytgbdcemlnklmoaa
open Go.RowKit Go.Sort
theorem zero_len {α : Type} {l : List α} (h : l = []) : (((l.length : Nat) : Int) == 0) = true := by subst h; rfl
theorem cells_grown {w w' : World} {row : Option Nat} (hg : w.grownBy w' row) {b : Nat} (hb : b < w.heap.size) (hne : row ≠ some b) {news : List Value} (h : ∀ j u, news[j]? = some u → w.cell? ((⟨b, 0, none⟩ : Addr).add j) = some u) :
    ∀ j u, news[j]? = some u → w'.cell? ((⟨b, 0, none⟩ : Addr).add j) = some u := by
  intro j u hu
  have := h j u hu
  rw [Addr.add_lit] at this ⊢
  rw [World.cell?_of_block (w := w) (w' := w') (a := ⟨b, 0 + j, none⟩) (hg.block b hb (fun e => hne e.symm))]
  exact this
theorem own_slO {w : World} {base g cap n : Nat} {e : TypeId} {L : List Rd} (h : w.ownsRow base e 3 (.slice (some ⟨g, 0, none⟩) n cap) n (rdCells L)) : SlO w (some ⟨g, 0, none⟩) n L := by
  obtain ⟨a, c, e, h1, _⟩ := ownsRow_rd h
  simp only [Value.slice.injEq] at e
  obtain ⟨rfl, rfl, _⟩ := e
  exact h1
theorem ins_cells {L : List Rd} {k : Nat} {t x : Int} : rdCells (insL L k t x) = rdCells (L.take k) ++ [.int .i64 t, .int .i64 x, .int .i64 x] ++ rdCells (L.drop k) := by
  unfold insL
  rw [rdCells_app, rdCells_app]; rfl
theorem set_mid {α : Type} {A B : List α} {t x y z : α} {n : Nat} (h : A.length = n) : ((A ++ [t, x, x] ++ B).set (n + 1) y).set (n + 2) z = A ++ [t, y, z] ++ B := by
  subst h
  rw [List.append_assoc, List.set_append_right _ _ (by omega), List.set_append_right _ _ (by omega), List.append_assoc]
  simp
theorem ins_set {L : List Rd} {k : Nat} {t x y : Int} (h : k ≤ L.length) : ((rdCells (insL L k t x)).set (k * 3 + 1) (.int .i64 y)).set (k * 3 + 2) (.int .i64 y) = rdCells (insL L k t y) := by
  rw [ins_cells, ins_cells]
  exact set_mid (by rw [rdCells_length, List.length_take]; show _ = _; omega)
theorem ins_err {L : List Rd} {p : Nat} {t n r : Int} (hr : rErr L r = 0) (h : Fits L p t) (h8 : L.length ≠ 8) (t0 : 0 ≤ t) (t1 : t ≤ 1000) (n0 : -1000 ≤ n) (n1 : n ≤ 1000) (ha : agreeB L r = true) :
    rErr (insL L p t n) r = 0 ∧ aOk (insL L p t n) r = (decide (loB L r t ≤ n) && decide (n ≤ hiB L r t)) := by
  obtain ⟨hv, h1, h2⟩ := rErr_zero.1 hr
  have e := rErr_zero.2 ⟨ins_valid hv h h8 t0 t1 n0 n1, h1, h2⟩
  refine ⟨e, ?_⟩
  unfold aOk
  rw [decT e, Bool.true_and, Bool.eq_iff_iff, ins_agree hv h h8 t0 t1 n0 n1 ha]
  simp
set_option maxRecDepth 100000 in
set_option maxHeartbeats 3200000 in
theorem top_w (a : Option Addr) (n c : Nat) (L : List Rd) (r t : Int) (w : World) (h : SlO w a n L) (hc : n ≤ c) (hm : c ≤ maxLen) :
    Calls Try.prog 12 #[.slice a n c, .int .i64 r, .int .i64 t] w fun e w' => e = .returned (.bool true) ∧ Below w.heap.size w w' := by
  have hn : n ≤ 9223372036854775807 := by unfold maxLen at hm; omega
  have HXW : Hid (Below w.heap.size w (w.alloc (.cells #[.int .i64 0, .int .i64 0, .int .i64 1, .int .i64 4, .int .i64 9, .int .i64 10] 54))) := (Below.refl _ _).alloc (Nat.le_refl _) _
  have HX : Hid (SlO (w.alloc (.cells #[.int .i64 0, .int .i64 0, .int .i64 1, .int .i64 4, .int .i64 9, .int .i64 10] 54)) (some ⟨w.heap.size, 0, none⟩) 2 exR) := SlO.of ⟨rfl, by simp, fun k hk => by
    have hk' : k = 0 ∨ k = 1 := by omega
    rcases hk' with rfl | rfl <;> simp [go_sem, at_, exR], fun k hk => by
    have hk' : k = 0 ∨ k = 1 := by omega
    rcases hk' with rfl | rfl <;> simp [go_sem, at_, exR], fun k hk => by
    have hk' : k = 0 ∨ k = 1 := by omega
    rcases hk' with rfl | rfl <;> simp [go_sem, at_, exR]⟩
  obtain ⟨x1, x2, x3⟩ := ex_steep
  have X1 := Lib.hid x1
  have X2 := Lib.hid x2
  have X3 := Lib.hid x3
  have HSelf := fun x : Int => (show (x == x) = true by simp)
  have self := fun x : Int => (show (x != x) = false by simp)
  have selfb := fun x : Bool => (show (x != x) = false by simp)
  clear x1 x2 x3
  go_enter Try.func12, Try.ntmps12
  go_wp2_with fail
  refine (Steepest_c _ _ _ exR _ HX.out).mono ?_
  rintro e w1 ⟨rfl, hb1⟩
  rw [X1.out, X2.out, X3.out]
  have B1 : Below w.heap.size w w1 := btr HXW.out hb1
  clear hb1 HX HXW X1 X2 X3
  go_wp2_with fail
  refine (Long_c _ _ _ _).mono ?_
  rintro e w2 ⟨rfl, hb2⟩
  have B2 : Below w.heap.size w w2 := btr (B1.alloc B1.size _) hb2
  cases hl : longB n
  case true =>
    go_wp2_with fail
    go_ret
    exact ⟨rfl, B2⟩
  go_wp2_with fail
  refine (Agree_c _ _ _ _ _ _ (h.below B2 (Nat.le_refl _))).mono ?_
  rintro e w3 ⟨rfl, hb3⟩
  have B3 : Below w.heap.size w w3 := btr B2 hb3
  by_cases h0 : rErr L r = 0
  case neg =>
    have hne : (rErr L r != 0) = true := by simpa using h0
    have ha : aOk L r = false := by simp [aOk, h0]
    have hlen : ((((tgR L r).length : Nat) : Int) == 0) = true := zero_len (by unfold tgR; rw [ha]; rfl)
    simp only [ha]
    clear h0
    go_wp2_with fail
    refine (Tight_c _ _ _ _ _ _ (h.below B3 (Nat.le_refl _)) hc hm).mono ?_
    rintro e w4 ⟨v4, rfl, hv4, hb4⟩
    obtain ⟨a4, c4, e4, -⟩ := hv4
    rw [e4]
    simp only [ha]
    clear e4
    go_wp2_with fail
    go_ret
    exact ⟨rfl, btr B3 hb4⟩
  have hne : (rErr L r != 0) = false := by simp [h0]
  have hv := (rErr_zero.1 h0).1
  have hvv : (vErr L != 0) = false := by simp [vErr_zero.2 hv]
  have HV := Lib.hid hv
  have HR := Lib.hid h0
  have hr := (rErr_zero.1 h0).2
  have HTS := Lib.hid (top_slow h0)
  have HCO := Lib.hid (aOk_cO h0)
  have HCC := Lib.hid (clash_cc h0)
  clear hv h0
  go_wp2_with fail
  refine (Slowest_c _ _ _ _ _ (h.below B3 (Nat.le_refl _))).mono ?_
  rintro e w4 ⟨rfl, hb4⟩
  have B4 : Below w.heap.size w w4 := btr B3 hb4
  go_wp2_with fail
  refine (Clash_c _ _ _ _ _ _ (h.below B4 (Nat.le_refl _))).mono ?_
  rintro e w5 ⟨rfl, hb5⟩
  have B5 : Below w.heap.size w w5 := btr B4 hb5
  cases ha : aOk L r
  case false =>
    have hcs : (cO L r).isSome = true := by
      have := HCO.out
      rw [ha] at this
      cases hh : (cO L r).isSome
      · rw [hh] at this; cases this
      · rfl
    have hcc := HCC.out hcs
    have HC0 := Lib.hid hcc
    have hxy : (false != ((slowO L).isSome && decide (oN (slowO L) ≤ r))) = false := by rw [← HTS.out, ha]; rfl
    have hlt : ((((tgR L r).length : Nat) : Int) == 0) = true := zero_len (by unfold tgR; rw [ha]; rfl)
    have hlk : ((((trackR L r).length : Nat) : Int) == 0) = true := zero_len (by unfold trackR; rw [ha]; rfl)
    simp only [hcs]
    clear hcc
    cases his : (slowO L).isSome
    case false =>
      go_wp2_with fail
      refine (CheckClash_c _ _ _ _ _ _ _ _ (h.below B5 (Nat.le_refl _)) hn).mono ?_
      rintro e w6 ⟨rfl, hb6⟩
      have B6 : Below w.heap.size w w6 := btr B5 hb6
      rw [HC0.out]
      go_wp2_with fail
      refine (Track_c _ _ _ _ _ _ (h.below B6 (Nat.le_refl _)) hc hm).mono ?_
      rintro e w7 ⟨v7, rfl, hv7, hb7⟩
      have B7 : Below w.heap.size w w7 := btr B6 hb7
      obtain ⟨a7, c7, hvv7, hs7, lc7, lm7, -⟩ := hv7
      rw [hvv7]
      clear hvv7
      simp only [ha]
      go_wp2_with fail
      refine (Tight_c _ _ _ _ _ _ (h.below B7 (Nat.le_refl _)) hc hm).mono ?_
      rintro e w8 ⟨v8, rfl, hv8, hb8⟩
      have B8 : Below w.heap.size w w8 := btr B7 hb8
      replace hs7 := hs7.below hb8 (Nat.le_refl _)
      obtain ⟨a8, c8, hvv8, hs8, lc8, lm8, -⟩ := hv8
      rw [hvv8]
      clear hvv8
      simp only [ha]
      go_wp2_with fail
      go_ret
      exact ⟨rfl, B8⟩
    case true =>
      have hq : decide (oN (slowO L) ≤ r) = false := by
        have := HTS.out
        rw [ha, his] at this
        simpa using this.symm
      go_wp2_with fail
      refine (CheckClash_c _ _ _ _ _ _ _ _ (h.below B5 (Nat.le_refl _)) hn).mono ?_
      rintro e w6 ⟨rfl, hb6⟩
      have B6 : Below w.heap.size w w6 := btr B5 hb6
      rw [HC0.out]
      go_wp2_with fail
      refine (Track_c _ _ _ _ _ _ (h.below B6 (Nat.le_refl _)) hc hm).mono ?_
      rintro e w7 ⟨v7, rfl, hv7, hb7⟩
      have B7 : Below w.heap.size w w7 := btr B6 hb7
      obtain ⟨a7, c7, hvv7, hs7, lc7, lm7, -⟩ := hv7
      rw [hvv7]
      clear hvv7
      simp only [ha]
      go_wp2_with fail
      refine (Tight_c _ _ _ _ _ _ (h.below B7 (Nat.le_refl _)) hc hm).mono ?_
      rintro e w8 ⟨v8, rfl, hv8, hb8⟩
      have B8 : Below w.heap.size w w8 := btr B7 hb8
      replace hs7 := hs7.below hb8 (Nat.le_refl _)
      obtain ⟨a8, c8, hvv8, hs8, lc8, lm8, -⟩ := hv8
      rw [hvv8]
      clear hvv8
      simp only [ha]
      go_wp2_with fail
      go_ret
      exact ⟨rfl, B8⟩
  have hcs : (cO L r).isSome = false := by
    have := HCO.out
    rw [ha] at this
    cases hh : (cO L r).isSome
    · rfl
    · rw [hh] at this; cases this
  obtain ⟨his, hq⟩ : (slowO L).isSome = true ∧ decide (oN (slowO L) ≤ r) = true := by
    have := HTS.out
    rw [ha] at this
    simpa using this.symm
  have hxy : (true != ((slowO L).isSome && decide (oN (slowO L) ≤ r))) = false := by rw [his, hq]; rfl
  obtain ⟨_, k1, k2⟩ := track_tight ha
  have K1 := Lib.hid k1
  have K2 := Lib.hid k2
  have HLn := Lib.hid h.1
  have HTG := Lib.hid (tg_facts ha).1
  have HTL : Hid ((tgR L r).length = n) := Lib.hid (by rw [HTG.out, tight_length, ← HLn.out])
  have hn0 : ((n : Int) == 0) = false := by have := HV.out.pos; have := h.1; simp; omega
  have HAg := Lib.hid (aOk_true.1 ha).2
  simp only [hcs, his]
  clear hcs k1 k2
  go_wp2_with fail
  refine (Track_c _ _ _ _ _ _ (h.below B5 (Nat.le_refl _)) hc hm).mono ?_
  rintro e w6 ⟨v6, rfl, hv6, hb6⟩
  have B6 : Below w.heap.size w w6 := btr B5 hb6
  obtain ⟨a6, c6, hvv6, hs6, lc6, lm6, -⟩ := hv6
  rw [hvv6]
  clear hvv6
  simp only [ha]
  have hm6 : c6 ≤ 9223372036854775807 := by unfold maxLen at lm6; omega
  clear lm6
  obtain ⟨TR, hTR⟩ : ∃ TR, TR = trackR L r := ⟨_, rfl⟩
  rw [← hTR] at hs6 lc6 K1 K2 ⊢
  clear hTR
  go_wp2_with fail
  refine (Tight_c _ _ _ _ _ _ (h.below B6 (Nat.le_refl _)) hc hm).mono ?_
  rintro e w7 ⟨v7, rfl, hv7, hb7⟩
  have B7 : Below w.heap.size w w7 := btr B6 hb7
  replace hs6 := hs6.below hb7 (Nat.le_refl _)
  obtain ⟨a7, c7, hvv7, hs7, lc7, lm7, -⟩ := hv7
  rw [hvv7]
  clear hvv7
  simp only [ha]
  rw [HTL.out] at hs7 lc7 ⊢
  go_wp2_with fail
  refine (CheckTrack_c _ _ _ _ _ _ _ _ _ _ (h.below B7 (Nat.le_refl _)) hs6 lc6 hm6).mono ?_
  rintro e w8 ⟨rfl, hb8⟩
  have B8 : Below w.heap.size w w8 := btr B7 hb8
  rw [K1.out]
  replace hs6 := hs6.below hb8 (Nat.le_refl _)
  replace hs7 := hs7.below hb8 (Nat.le_refl _)
  go_wp2_with fail
  refine (CheckTrack_c _ _ _ _ _ _ _ _ _ _ hs7 hs6 lc6 hm6).mono ?_
  rintro e w9 ⟨rfl, hb9⟩
  have B9 : Below w.heap.size w w9 := btr B8 hb9
  rw [K2.out]
  replace hs6 := hs6.below hb9 (Nat.le_refl _)
  replace hs7 := hs7.below hb9 (Nat.le_refl _)
  go_wp2_with fail
  refine (Bounds_c _ _ _ _ _ _ _ (h.below B9 (Nat.le_refl _)) hc hm).mono ?_
  rintro e w10 ⟨rfl, hb10⟩
  have B10 : Below w.heap.size w w10 := btr B9 hb10
  replace hs6 := hs6.below hb10 (Nat.le_refl _)
  replace hs7 := hs7.below hb10 (Nat.le_refl _)
  by_cases ht : tErr L r t = 0
  case neg =>
    have hte : (tErr L r t != 0) = true := by simpa using ht
    have hbo : bOk L r t = false := by simp [bOk, ht]
    simp only [hbo]
    clear ht
    go_wp2_with fail
    go_ret
    exact ⟨rfl, B10⟩
  have hte : (tErr L r t != 0) = false := by simp [ht]
  obtain ⟨hbo, hb1', hb2'⟩ := bOk_yes ht HAg.out
  have HT := Lib.hid ht
  have hord : decide (bHi L r t < bLo L r t) = false := by have := bLo_le_bHi L r t; simpa using this
  have HBO := Lib.hid hbo
  have HLO := Lib.hid hb1'
  have HHI := Lib.hid hb2'
  simp only [hbo]
  have ht01 := (tErr_zero.1 ht).2
  clear ht hbo hb1' hb2'
  by_cases ht1 : 1000 < t
  · have hd : decide (1000 < t) = true := decT ht1
    go_wp2_with fail
    go_ret
    exact ⟨rfl, B10⟩
  have hd : decide (1000 < t) = false := decF ht1
  clear hs6 lc6 hm6 B2 B3 B4 B5 B6 B7 B8 B9
  obtain ⟨b, o, rfl, hS⟩ : ∃ b o, a = some ⟨b, o, none⟩ ∧ Sl w b o n L := by
    rcases h.2 with h' | h'
    · have := HV.out.pos; have := h.1; omega
    · exact h'
  have hLn1 : 1 ≤ n := by have := HV.out.pos; have := h.1; omega
  have hLn8 : n ≤ 8 := by have := HV.out.le; have := h.1; omega
  have HS := Lib.hid hS
  have HS7 := Lib.hid hs7
  clear hS hs7
  go_wp2_with fail
  go_loopw [27] (fun i wr => ∃ k : Nat, k ≤ n ∧ i = .int .i64 k ∧ w10 = wr ∧ (∀ j, j < k → (at_ L j).t < t)) (fun i _ => n - (intOf i).toNat)
  case atStart => exact ⟨0, Nat.zero_le _, rfl, rfl, fun j hj => absurd hj (Nat.not_lt_zero _)⟩
  case round =>
    obtain ⟨k, hk, rfl, rfl, hbf⟩ := hrel
    have HBF := Lib.hid hbf
    clear hbf
    by_cases hlt : k < n
    · have c0 := (HS.out.below B10 (Nat.le_refl _)).c0 k hlt
      by_cases hb : (at_ L k).t < t
      · have db := decT hb
        have HN : Hid (∀ j, j < k + 1 → (at_ L j).t < t) := Lib.hid (fun j hj => by
          rcases Nat.lt_or_ge j k with h' | h'
          · exact HBF.out j h'
          · obtain rfl : j = k := by omega
            exact hb)
        clear hb
        go_wp2_with fail
        exact ⟨⟨k + 1, by omega, by go_num, trivial, HN.out⟩, by simp [intOf]; omega⟩
      · have db := decF hb
        by_cases he : (at_ L k).t = t
        · have de : ((at_ L k).t == t) = true := by rw [beq_iff_eq]; exact he
          have hk7 : k < L.length := by have := HLn.out; omega
          have HAT : Hid (at_ (tgR L r) k = ⟨t, bLo L r t, bHi L r t⟩) := Lib.hid (by
            rw [HTG.out, tight_at hk7, HLO.out, HHI.out]
            unfold tiF; rw [he])
          obtain ⟨b7, o7, rfl, hS7⟩ : ∃ b o, a7 = some ⟨b, o, none⟩ ∧ Sl w10 b o n (tgR L r) := by
            rcases HS7.out.2 with h' | h'
            · omega
            · exact h'
          have e0 := hS7.c0 k hlt
          have e1 := hS7.c1 k hlt
          have e2 := hS7.c2 k hlt
          rw [HAT.out] at e0 e1 e2
          dsimp only at e0 e1 e2
          clear hb he hS7
          go_wp2_with fail
          go_ret
          exact ⟨rfl, B10⟩
        · have de : ((at_ L k).t == t) = false := by rw [beq_eq_false_iff_ne]; exact he
          have HF : Hid (Fits L k t) := Lib.hid ⟨by have := HLn.out; omega, HBF.out, fun _ => by omega⟩
          clear hb he
          go_wp2_with fail
          go_loopw [28] (fun i wr => ∃ q : Nat, q ≤ 2 ∧ i = .int .i64 q ∧ Below w10.heap.size w10 wr) (fun i _ => 2 - (intOf i).toNat)
          case atStart => exact ⟨0, by decide, rfl, Below.refl _ _⟩
          case round =>
            obtain ⟨q, hq, rfl, hbq⟩ := hrel
            have BQ : Below w.heap.size w wr := btr B10 hbq
            by_cases hq2 : q < 2
            · obtain ⟨x, HX⟩ : ∃ x, Hid ((q = 0 ∧ x = bLo L r t) ∨ (q = 1 ∧ x = bHi L r t)) := by
                by_cases h' : q = 0
                · exact ⟨bLo L r t, Lib.hid (.inl ⟨h', rfl⟩)⟩
                · exact ⟨bHi L r t, Lib.hid (.inr ⟨by omega, rfl⟩)⟩
              have hix : ∀ w : World, (Instr.index 57 (.agg #[.int .i64 (bLo L r t), .int .i64 (bHi L r t)]) (.int .i64 q)).run Try.prog w = .ok (.int .i64 x) w := by
                intro w
                rcases HX.out with ⟨rfl, rfl⟩ | ⟨rfl, rfl⟩
                · kernel_rfl
                · kernel_rfl
              have go_on : Hid (∀ k' : Nat, k' = q → k' + 1 ≤ 2) := Lib.hid (fun k' h' => by omega)
              by_cases c8 : n = 8
              · have d8 : ((n : Int) == 8) = true := by rw [beq_iff_eq]; omega
                clear c8
                go_wp2_with fail
                exact ⟨⟨q + 1, by omega, by go_num, hbq⟩, by simp [intOf]; omega⟩
              have d8 : ((n : Int) == 8) = false := by rw [beq_eq_false_iff_ne]; omega
              by_cases x1 : x < -999
              · have dx := decT x1
                go_wp2_with fail
                exact ⟨⟨q + 1, by omega, by go_num, hbq⟩, by simp [intOf]; omega⟩
              have dx := decF x1
              by_cases x2 : 999 < x
              · have dx2 := decT x2
                go_wp2_with fail
                exact ⟨⟨q + 1, by omega, by go_num, hbq⟩, by simp [intOf]; omega⟩
              have dx2 := decF x2
              obtain ⟨y, hy⟩ : ∃ y, x + 2 * (q : Int) - 1 = y := ⟨_, rfl⟩
              have hkL : k ≤ L.length := by have := HLn.out; omega
              have HSW := Lib.hid (HS.out.below BQ (Nat.le_refl _))
              obtain ⟨i0, hi, hz0, hz1, hz2⟩ := info_parts info54
              have e8 : L.length ≠ 8 := by have := HLn.out; omega
              have hlohi := bLo_le_bHi L r t
              have F1 := Lib.hid (ins_err (n := x) HR.out HF.out e8 ht01.1 (by omega) (by omega) (by omega) HAg.out)
              have F2 := Lib.hid (ins_err (n := y) HR.out HF.out e8 ht01.1 (by omega) (by have := HX.out; omega) (by have := HX.out; omega) HAg.out)
              have G1 : Hid (aOk (insL L k t x) r = true) := Lib.hid (by
                rw [F1.out.2, ← HLO.out, ← HHI.out, decT (by have := HX.out; omega), decT (by have := HX.out; omega)]; rfl)
              have G2 : Hid (aOk (insL L k t y) r = false) := Lib.hid (by
                rw [F2.out.2, ← HLO.out, ← HHI.out]
                rcases HX.out with ⟨h1, h2⟩ | ⟨h1, h2⟩
                · rw [decF (show ¬ bLo L r t ≤ y by omega)]; rfl
                · rw [decF (show ¬ y ≤ bHi L r t by omega)]; simp)
              have HCells : Hid (∀ j u, (rdCells L)[j]? = some u → wr.cell? ((⟨b, o, none⟩ : Addr).add j) = some u) := Lib.hid (rdCells_cells HSW.out)
              have C1 : Hid (∀ t u, (rdCells (L.take k))[t]? = some u → wr.cell? ((⟨b, o, none⟩ : Addr).add t) = some u) := Lib.hid (by
                intro t u hu
                rw [← rdCells_take _ _ hkL] at hu
                exact HCells.out t u (by
                  have h1 := (List.getElem?_eq_some_iff.1 hu).1
                  rw [List.length_take] at h1
                  rw [List.getElem?_take_of_lt (by omega)] at hu
                  exact hu))
              obtain ⟨A, hA, C2⟩ : ∃ A : Addr, (if c = k then some (⟨b, o, none⟩ : Addr) else some ⟨b, o + k * 3, none⟩) = some A ∧ Hid (∀ t u, (rdCells (L.drop k))[t]? = some u → wr.cell? (A.add t) = some u) := by
                by_cases hh : c = k
                · refine ⟨⟨b, o, none⟩, by simp [hh], fun t u hu => ?_⟩
                  have h0 : (rdCells (L.drop k)).length = 0 := by rw [rdCells_length, List.length_drop]; have := HLn.out; omega
                  rw [List.length_eq_zero_iff.1 h0] at hu
                  simp at hu
                · refine ⟨⟨b, o + k * 3, none⟩, by simp [hh], fun t u hu => ?_⟩
                  rw [← rdCells_drop _ _ hkL, List.getElem?_drop] at hu
                  have := HCells.out _ _ hu
                  rw [Addr.add_lit] at this ⊢
                  rw [← this, show o + k * 3 + t = o + (k * 3 + t) by omega]
              have L1 : Hid ((rdCells (L.take k)).length = k * 3) := Lib.hid (by rw [rdCells_length, List.length_take]; show _ = _; omega)
              have L2 : Hid ((rdCells (L.drop k)).length = (n - k) * 3) := Lib.hid (by rw [rdCells_length, List.length_drop, HLn.out])
              have hkc : k ≤ c := by omega
              have HKL := Lib.hid hkL
              clear hlohi e8 hkL
              go_wp2_with fail
              go_region_law (first | (refine step_own rfl (.tmp 274) (.tmp 277) 22 rfl wr.heap.size 54 i0 (.agg #[.int .i64 0, .int .i64 0, .int .i64 0]) 3 24 Try.underlying22 hi hz0 hz1 hz2 rfl (by decide) (.slice (some ⟨wr.heap.size, 0, none⟩) 0 0) 0 _ (by simp [Act.eval]) (World.ownsRow_lit wr.drew #[] 0 (Nat.le_refl _) (by decide) rfl) ⟨b, o, none⟩ k c (rdCells (L.take k)) (by simp [Act.eval]) L1.out (fun j u hu => cellB ((Below.refl wr.heap.size wr).drew.alloc (Nat.le_refl _) (.cells #[] 54)) (C1.out j u hu)) (rdCells_one _) (by unfold maxLen; omega) (by omega) (((Below.refl wr.heap.size wr).drew.alloc (Nat.le_refl _) (.cells #[] 54))).size ?_; intro v21 w21 hown1 hg1; have hb21 := (((Below.refl wr.heap.size wr).drew.alloc (Nat.le_refl _) (.cells #[] 54))).grown hg1 (by simp) (fun q hq => by cases hq; simp)) | (refine step_own rfl (.tmp 274) (.tmp 277) 22 rfl wr.heap.size 54 i0 (.agg #[.int .i64 0, .int .i64 0, .int .i64 0]) 3 24 Try.underlying22 hi hz0 hz1 hz2 rfl (by decide) (.slice (some ⟨wr.heap.size, 0, none⟩) 0 0) 0 _ (by simp [Act.eval]) ((World.ownsRow_lit wr.drew #[] 0 (Nat.le_refl _) (by decide) rfl).alloc _) ⟨b, o, none⟩ k c (rdCells (L.take k)) (by simp [Act.eval]) L1.out (fun j u hu => cellB (((Below.refl wr.heap.size wr).drew.alloc (Nat.le_refl _) (.cells #[] 54)).alloc (by simp) (.cells #[.int .i64 t, .int .i64 x, .int .i64 x] 54)) (C1.out j u hu)) (rdCells_one _) (by unfold maxLen; omega) (by omega) ((((Below.refl wr.heap.size wr).drew.alloc (Nat.le_refl _) (.cells #[] 54)).alloc (by simp) (.cells #[.int .i64 t, .int .i64 x, .int .i64 x] 54))).size ?_; intro v21 w21 hown1 hg1; have hb21 := ((((Below.refl wr.heap.size wr).drew.alloc (Nat.le_refl _) (.cells #[] 54)).alloc (by simp) (.cells #[.int .i64 t, .int .i64 x, .int .i64 x] 54))).grown hg1 (by simp; omega) (fun q hq => by cases hq; simp); have hm21 := cells_grown hg1 (by simp) (by simp [Value.ownBlock]) (cells3_new (wr.drew.alloc (.cells #[] 54)) (.int .i64 t) (.int .i64 x) (.int .i64 x) 54)) | (refine step_own rfl (.tmp 274) (.tmp 277) 22 rfl wr.heap.size 54 i0 (.agg #[.int .i64 0, .int .i64 0, .int .i64 0]) 3 24 Try.underlying22 hi hz0 hz1 hz2 rfl (by decide) (.slice (some ⟨(wr.drew.alloc (.cells #[.int .i64 t, .int .i64 x, .int .i64 x] 54)).heap.size, 0, none⟩) 0 0) 0 _ (by simp [Act.eval]) (World.ownsRow_lit (wr.drew.alloc (.cells #[.int .i64 t, .int .i64 x, .int .i64 x] 54)) #[] 0 (by simp) (by decide) rfl) ⟨b, o, none⟩ k c (rdCells (L.take k)) (by simp [Act.eval]) L1.out (fun j u hu => cellB (((Below.refl wr.heap.size wr).drew.alloc (Nat.le_refl _) (.cells #[.int .i64 t, .int .i64 x, .int .i64 x] 54)).alloc (by simp) (.cells #[] 54)) (C1.out j u hu)) (rdCells_one _) (by unfold maxLen; omega) (by omega) ((((Below.refl wr.heap.size wr).drew.alloc (Nat.le_refl _) (.cells #[.int .i64 t, .int .i64 x, .int .i64 x] 54)).alloc (by simp) (.cells #[] 54))).size ?_; intro v21 w21 hown1 hg1; have hb21 := ((((Below.refl wr.heap.size wr).drew.alloc (Nat.le_refl _) (.cells #[.int .i64 t, .int .i64 x, .int .i64 x] 54)).alloc (by simp) (.cells #[] 54))).grown hg1 (by simp; omega) (fun q hq => by cases hq; simp); have hm21 := cells_grown hg1 (by simp; omega) (by simp [Value.ownBlock]) (fun j u hu => cellB ((Below.refl _ _).alloc (Nat.le_refl _) (.cells #[] 54)) (cells3_new wr.drew (.int .i64 t) (.int .i64 x) (.int .i64 x) 54 j u hu))) | (refine step_own rfl (.tmp 278) (.tmp 283) 22 rfl wr.heap.size 54 i0 (.agg #[.int .i64 0, .int .i64 0, .int .i64 0]) 3 24 Try.underlying22 hi hz0 hz1 hz2 rfl (by decide) v21 (0 + k) _ (by simp [Act.eval]) (hown1.alloc _) ⟨w21.heap.size, 0, none⟩ 1 1 [.int .i64 t, .int .i64 x, .int .i64 x] (by simp [Act.eval]) rfl (cells3_new _ _ _ _ _) (one3 _ _ _) (by unfold maxLen; omega) (by omega) (hb21.alloc hb21.size (.cells #[.int .i64 t, .int .i64 x, .int .i64 x] 54)).size ?_; intro v22 w22 hown2 hg2; have hb22 := (hb21.alloc hb21.size (.cells #[.int .i64 t, .int .i64 x, .int .i64 x] 54)).grown hg2 (hb21.alloc hb21.size (.cells #[.int .i64 t, .int .i64 x, .int .i64 x] 54)).size (fun q hq => (hown1.lt q hq).1)) | (refine step_own rfl (.tmp 278) (.tmp 283) 22 rfl wr.heap.size 54 i0 (.agg #[.int .i64 0, .int .i64 0, .int .i64 0]) 3 24 Try.underlying22 hi hz0 hz1 hz2 rfl (by decide) v21 (0 + k) _ (by simp [Act.eval]) hown1 ⟨(wr.drew.alloc (.cells #[] 54)).heap.size, 0, none⟩ 1 1 [.int .i64 t, .int .i64 x, .int .i64 x] (by simp [Act.eval]) rfl hm21 (one3 _ _ _) (by unfold maxLen; omega) (by omega) (hb21).size ?_; intro v22 w22 hown2 hg2; have hb22 := (hb21).grown hg2 (hb21).size (fun q hq => (hown1.lt q hq).1)) | (refine step_own rfl (.tmp 278) (.tmp 283) 22 rfl wr.heap.size 54 i0 (.agg #[.int .i64 0, .int .i64 0, .int .i64 0]) 3 24 Try.underlying22 hi hz0 hz1 hz2 rfl (by decide) v21 (0 + k) _ (by simp [Act.eval]) hown1 ⟨wr.drew.heap.size, 0, none⟩ 1 1 [.int .i64 t, .int .i64 x, .int .i64 x] (by simp [Act.eval]) rfl hm21 (one3 _ _ _) (by unfold maxLen; omega) (by omega) (hb21).size ?_; intro v22 w22 hown2 hg2; have hb22 := (hb21).grown hg2 (hb21).size (fun q hq => (hown1.lt q hq).1)) | (refine step_own rfl (.tmp 284) (.tmp 287) 22 rfl wr.heap.size 54 i0 (.agg #[.int .i64 0, .int .i64 0, .int .i64 0]) 3 24 Try.underlying22 hi hz0 hz1 hz2 rfl (by decide) v22 (0 + k + 1) _ (by simp [Act.eval]) hown2 A (n - k) (c - k) (rdCells (L.drop k)) (by simp [Act.eval]) L2.out (fun j u hu => cellB hb22 (C2.out j u hu)) (rdCells_one _) (by unfold maxLen; omega) (by omega) hb22.size ?_; intro v23 w23 hown3 hg3; have hb23 := hb22.grown hg3 hb22.size (fun q hq => (hown2.lt q hq).1)))
              all_goals
                rw [List.nil_append, ← ins_cells, show 0 + k + 1 + (n - k) = n + 1 by omega] at hown3
                have HO3 := Lib.hid hown3
                have B3 : Below wr.heap.size wr w23 := hb23
                clear hown1 hown2 hown3 hg1 hg2 hg3 hb21 hb22 hb23 hA
                obtain ⟨g, cap, hv, hg1, hg2, hown⟩ := own_open HO3.out (by omega)
                cases hv
                have HG1 := Lib.hid hg1
                have hlen : (rdCells (insL L k t x)).length = (n + 1) * 3 := by rw [rdCells_length, ins_length HKL.out, ← HLn.out]
                have hat : at_ (insL L k t x) k = ⟨t, x, x⟩ := by rw [ins_at HKL.out, if_neg (Nat.lt_irrefl _), if_pos rfl]
                obtain ⟨_, j1, j2⟩ := rdCells_at (insL L k t x) k (by rw [ins_length HKL.out, ← HLn.out]; omega)
                rw [hat] at j1 j2
                dsimp only at j1 j2
                have J1 := Lib.hid j1
                have J2 := Lib.hid j2
                have HLEN := Lib.hid hlen
                have HOW := Lib.hid hown
                clear j1 j2 hlen hat hg1 hown
                go_wp2_with fail
                refine (Agree_c _ _ _ (insL L k t x) _ _ (own_slO HOW.out)).mono ?_
                rintro e w24 ⟨rfl, hb24⟩
                rw [G1.out, F1.out.1]
                have hown4 := ownsRow_below HOW.out hb24
                have s1 := (hown4.stored (k * 3 + 1) (.int .i64 y)).1
                have s2 := (s1.stored (k * 3 + 2) (.int .i64 y)).1
                rw [ins_set HKL.out] at s2
                have f1 := hown4.frozenAt (k * 3 + 1)
                have g1 : w24.cell? ⟨g, k * 3 + 1, none⟩ = some (.int .i64 x) := (hown4.cellAt _ (by omega)).trans J1.out
                have f2 := s1.frozenAt (k * 3 + 2)
                have g2a : (w24.setCell ⟨g, k * 3 + 1, none⟩ (.int .i64 y)).cell? ⟨g, k * 3 + 1, none⟩ = some (.int .i64 y) := by
                  rw [s1.cellAt _ (by omega), List.getElem?_set_self (by rw [HLEN.out]; omega)]
                have g2 : (w24.setCell ⟨g, k * 3 + 1, none⟩ (.int .i64 y)).cell? ⟨g, k * 3 + 2, none⟩ = some (.int .i64 x) := by
                  rw [s1.cellAt _ (by omega), List.getElem?_set_ne (by omega)]; exact J2.out
                have B24 : Below w10.heap.size w10 w24 := btr (btr hbq B3) hb24
                have hge : w10.heap.size ≤ g := Nat.le_trans hbq.size HG1.out
                have HB5 := Lib.hid ((B24.setCell (p := ⟨g, k * 3 + 1, none⟩) hge (.int .i64 y)).setCell (p := ⟨g, k * 3 + 2, none⟩) hge (.int .i64 y))
                have HO5 := Lib.hid s2
                have hgw : g < w24.heap.size := (hown4.lt g rfl).2
                clear hown4 s1 s2 hge
                go_wp2_with fail
                refine (Agree_c _ _ _ (insL L k t y) _ _ (own_slO HO5.out)).mono ?_
                rintro e w25 ⟨rfl, hb25⟩
                rw [G2.out, F2.out.1]
                go_wp2_with fail
                exact ⟨⟨q + 1, by omega, by go_num, btr HB5.out hb25⟩, by simp [intOf]; omega⟩
            · obtain rfl : q = 2 := by omega
              have TT := Lib.hid (top_turn HT.out HBO.out (by omega))
              have TO := Lib.hid (top_opp HT.out HBO.out)
              have hvz := Lib.hid (vErr_zero.2 HV.out)
              have b1 := bLo_bd L r t
              have b2 := bHi_bd L r t
              go_wp2_with fail
              refine (Turn_c _ _ _ _ _ (h.below BQ (Nat.le_refl _))).mono ?_
              rintro e w31 ⟨v31, rfl, hv31, hb31⟩
              obtain ⟨a31, c31, e31, s31, lc31, lm31, -⟩ := ownsRow_rd hv31
              rw [e31, hvz.out]
              have B31 : Below w.heap.size w w31 := btr BQ hb31
              clear e31 hv31 hb31
              go_wp2_with fail
              refine (Bounds_c _ _ _ _ _ _ _ s31 lc31 lm31).mono ?_
              rintro e w32 ⟨rfl, hb32⟩
              rw [TT.out.2.2.1, TT.out.2.2.2, TT.out.2.1, TT.out.1]
              have B32 : Below w.heap.size w w32 := btr B31 hb32
              clear hb32 s31 lc31 lm31
              go_wp2_with fail
              refine (Opposite_c _ _ _ _ _ (h.below B32 (Nat.le_refl _))).mono ?_
              rintro e w33 ⟨v33, rfl, hv33, hb33⟩
              obtain ⟨a33, c33, e33, s33, lc33, lm33, -⟩ := hv33
              rw [e33, hvz.out]
              have B33 : Below w.heap.size w w33 := btr B32 hb33
              clear e33 hb33
              go_wp2_with fail
              refine (Bounds_c _ _ _ _ _ _ _ s33 lc33 lm33).mono ?_
              rintro e w34 ⟨rfl, hb34⟩
              rw [TO.out.2.2.1, TO.out.2.2.2, TO.out.2.1, TO.out.1]
              have B34 : Below w.heap.size w w34 := btr B33 hb34
              clear hb34 s33 lc33 lm33
              go_wp2_with fail
              go_ret
              exact ⟨rfl, B34⟩
    · have hd : ¬ (k : Int) < n := by omega
      have HF : Hid (Fits L k t) := Lib.hid ⟨by have := HLn.out; omega, HBF.out, fun h' => by have := HLn.out; omega⟩
      clear hlt
      go_wp2_with fail
      go_loopw [28] (fun i wr => ∃ q : Nat, q ≤ 2 ∧ i = .int .i64 q ∧ Below w10.heap.size w10 wr) (fun i _ => 2 - (intOf i).toNat)
      case atStart => exact ⟨0, by decide, rfl, Below.refl _ _⟩
      case round =>
        obtain ⟨q, hq, rfl, hbq⟩ := hrel
        have BQ : Below w.heap.size w wr := btr B10 hbq
        by_cases hq2 : q < 2
        · obtain ⟨x, HX⟩ : ∃ x, Hid ((q = 0 ∧ x = bLo L r t) ∨ (q = 1 ∧ x = bHi L r t)) := by
            by_cases h' : q = 0
            · exact ⟨bLo L r t, Lib.hid (.inl ⟨h', rfl⟩)⟩
            · exact ⟨bHi L r t, Lib.hid (.inr ⟨by omega, rfl⟩)⟩
          have hix : ∀ w : World, (Instr.index 57 (.agg #[.int .i64 (bLo L r t), .int .i64 (bHi L r t)]) (.int .i64 q)).run Try.prog w = .ok (.int .i64 x) w := by
            intro w
            rcases HX.out with ⟨rfl, rfl⟩ | ⟨rfl, rfl⟩
            · kernel_rfl
            · kernel_rfl
          have go_on : Hid (∀ k' : Nat, k' = q → k' + 1 ≤ 2) := Lib.hid (fun k' h' => by omega)
          by_cases c8 : n = 8
          · have d8 : ((n : Int) == 8) = true := by rw [beq_iff_eq]; omega
            clear c8
            go_wp2_with fail
            exact ⟨⟨q + 1, by omega, by go_num, hbq⟩, by simp [intOf]; omega⟩
          have d8 : ((n : Int) == 8) = false := by rw [beq_eq_false_iff_ne]; omega
          by_cases x1 : x < -999
          · have dx := decT x1
            go_wp2_with fail
            exact ⟨⟨q + 1, by omega, by go_num, hbq⟩, by simp [intOf]; omega⟩
          have dx := decF x1
          by_cases x2 : 999 < x
          · have dx2 := decT x2
            go_wp2_with fail
            exact ⟨⟨q + 1, by omega, by go_num, hbq⟩, by simp [intOf]; omega⟩
          have dx2 := decF x2
          obtain ⟨y, hy⟩ : ∃ y, x + 2 * (q : Int) - 1 = y := ⟨_, rfl⟩
          have hkL : k ≤ L.length := by have := HLn.out; omega
          have HSW := Lib.hid (HS.out.below BQ (Nat.le_refl _))
          obtain ⟨i0, hi, hz0, hz1, hz2⟩ := info_parts info54
          have e8 : L.length ≠ 8 := by have := HLn.out; omega
          have hlohi := bLo_le_bHi L r t
          have F1 := Lib.hid (ins_err (n := x) HR.out HF.out e8 ht01.1 (by omega) (by omega) (by omega) HAg.out)
          have F2 := Lib.hid (ins_err (n := y) HR.out HF.out e8 ht01.1 (by omega) (by have := HX.out; omega) (by have := HX.out; omega) HAg.out)
          have G1 : Hid (aOk (insL L k t x) r = true) := Lib.hid (by
            rw [F1.out.2, ← HLO.out, ← HHI.out, decT (by have := HX.out; omega), decT (by have := HX.out; omega)]; rfl)
          have G2 : Hid (aOk (insL L k t y) r = false) := Lib.hid (by
            rw [F2.out.2, ← HLO.out, ← HHI.out]
            rcases HX.out with ⟨h1, h2⟩ | ⟨h1, h2⟩
            · rw [decF (show ¬ bLo L r t ≤ y by omega)]; rfl
            · rw [decF (show ¬ y ≤ bHi L r t by omega)]; simp)
          have HCells : Hid (∀ j u, (rdCells L)[j]? = some u → wr.cell? ((⟨b, o, none⟩ : Addr).add j) = some u) := Lib.hid (rdCells_cells HSW.out)
          have C1 : Hid (∀ t u, (rdCells (L.take k))[t]? = some u → wr.cell? ((⟨b, o, none⟩ : Addr).add t) = some u) := Lib.hid (by
            intro t u hu
            rw [← rdCells_take _ _ hkL] at hu
            exact HCells.out t u (by
              have h1 := (List.getElem?_eq_some_iff.1 hu).1
              rw [List.length_take] at h1
              rw [List.getElem?_take_of_lt (by omega)] at hu
              exact hu))
          obtain ⟨A, hA, C2⟩ : ∃ A : Addr, (if c = k then some (⟨b, o, none⟩ : Addr) else some ⟨b, o + k * 3, none⟩) = some A ∧ Hid (∀ t u, (rdCells (L.drop k))[t]? = some u → wr.cell? (A.add t) = some u) := by
            by_cases hh : c = k
            · refine ⟨⟨b, o, none⟩, by simp [hh], fun t u hu => ?_⟩
              have h0 : (rdCells (L.drop k)).length = 0 := by rw [rdCells_length, List.length_drop]; have := HLn.out; omega
              rw [List.length_eq_zero_iff.1 h0] at hu
              simp at hu
            · refine ⟨⟨b, o + k * 3, none⟩, by simp [hh], fun t u hu => ?_⟩
              rw [← rdCells_drop _ _ hkL, List.getElem?_drop] at hu
              have := HCells.out _ _ hu
              rw [Addr.add_lit] at this ⊢
              rw [← this, show o + k * 3 + t = o + (k * 3 + t) by omega]
          have L1 : Hid ((rdCells (L.take k)).length = k * 3) := Lib.hid (by rw [rdCells_length, List.length_take]; show _ = _; omega)
          have L2 : Hid ((rdCells (L.drop k)).length = (n - k) * 3) := Lib.hid (by rw [rdCells_length, List.length_drop, HLn.out])
          have hkc : k ≤ c := by omega
          have HKL := Lib.hid hkL
          clear hlohi e8 hkL
          go_wp2_with fail
          go_region_law (first | (refine step_own rfl (.tmp 274) (.tmp 277) 22 rfl wr.heap.size 54 i0 (.agg #[.int .i64 0, .int .i64 0, .int .i64 0]) 3 24 Try.underlying22 hi hz0 hz1 hz2 rfl (by decide) (.slice (some ⟨wr.heap.size, 0, none⟩) 0 0) 0 _ (by simp [Act.eval]) (World.ownsRow_lit wr.drew #[] 0 (Nat.le_refl _) (by decide) rfl) ⟨b, o, none⟩ k c (rdCells (L.take k)) (by simp [Act.eval]) L1.out (fun j u hu => cellB ((Below.refl wr.heap.size wr).drew.alloc (Nat.le_refl _) (.cells #[] 54)) (C1.out j u hu)) (rdCells_one _) (by unfold maxLen; omega) (by omega) (((Below.refl wr.heap.size wr).drew.alloc (Nat.le_refl _) (.cells #[] 54))).size ?_; intro v21 w21 hown1 hg1; have hb21 := (((Below.refl wr.heap.size wr).drew.alloc (Nat.le_refl _) (.cells #[] 54))).grown hg1 (by simp) (fun q hq => by cases hq; simp)) | (refine step_own rfl (.tmp 274) (.tmp 277) 22 rfl wr.heap.size 54 i0 (.agg #[.int .i64 0, .int .i64 0, .int .i64 0]) 3 24 Try.underlying22 hi hz0 hz1 hz2 rfl (by decide) (.slice (some ⟨wr.heap.size, 0, none⟩) 0 0) 0 _ (by simp [Act.eval]) ((World.ownsRow_lit wr.drew #[] 0 (Nat.le_refl _) (by decide) rfl).alloc _) ⟨b, o, none⟩ k c (rdCells (L.take k)) (by simp [Act.eval]) L1.out (fun j u hu => cellB (((Below.refl wr.heap.size wr).drew.alloc (Nat.le_refl _) (.cells #[] 54)).alloc (by simp) (.cells #[.int .i64 t, .int .i64 x, .int .i64 x] 54)) (C1.out j u hu)) (rdCells_one _) (by unfold maxLen; omega) (by omega) ((((Below.refl wr.heap.size wr).drew.alloc (Nat.le_refl _) (.cells #[] 54)).alloc (by simp) (.cells #[.int .i64 t, .int .i64 x, .int .i64 x] 54))).size ?_; intro v21 w21 hown1 hg1; have hb21 := ((((Below.refl wr.heap.size wr).drew.alloc (Nat.le_refl _) (.cells #[] 54)).alloc (by simp) (.cells #[.int .i64 t, .int .i64 x, .int .i64 x] 54))).grown hg1 (by simp; omega) (fun q hq => by cases hq; simp); have hm21 := cells_grown hg1 (by simp) (by simp [Value.ownBlock]) (cells3_new (wr.drew.alloc (.cells #[] 54)) (.int .i64 t) (.int .i64 x) (.int .i64 x) 54)) | (refine step_own rfl (.tmp 274) (.tmp 277) 22 rfl wr.heap.size 54 i0 (.agg #[.int .i64 0, .int .i64 0, .int .i64 0]) 3 24 Try.underlying22 hi hz0 hz1 hz2 rfl (by decide) (.slice (some ⟨(wr.drew.alloc (.cells #[.int .i64 t, .int .i64 x, .int .i64 x] 54)).heap.size, 0, none⟩) 0 0) 0 _ (by simp [Act.eval]) (World.ownsRow_lit (wr.drew.alloc (.cells #[.int .i64 t, .int .i64 x, .int .i64 x] 54)) #[] 0 (by simp) (by decide) rfl) ⟨b, o, none⟩ k c (rdCells (L.take k)) (by simp [Act.eval]) L1.out (fun j u hu => cellB (((Below.refl wr.heap.size wr).drew.alloc (Nat.le_refl _) (.cells #[.int .i64 t, .int .i64 x, .int .i64 x] 54)).alloc (by simp) (.cells #[] 54)) (C1.out j u hu)) (rdCells_one _) (by unfold maxLen; omega) (by omega) ((((Below.refl wr.heap.size wr).drew.alloc (Nat.le_refl _) (.cells #[.int .i64 t, .int .i64 x, .int .i64 x] 54)).alloc (by simp) (.cells #[] 54))).size ?_; intro v21 w21 hown1 hg1; have hb21 := ((((Below.refl wr.heap.size wr).drew.alloc (Nat.le_refl _) (.cells #[.int .i64 t, .int .i64 x, .int .i64 x] 54)).alloc (by simp) (.cells #[] 54))).grown hg1 (by simp; omega) (fun q hq => by cases hq; simp); have hm21 := cells_grown hg1 (by simp; omega) (by simp [Value.ownBlock]) (fun j u hu => cellB ((Below.refl _ _).alloc (Nat.le_refl _) (.cells #[] 54)) (cells3_new wr.drew (.int .i64 t) (.int .i64 x) (.int .i64 x) 54 j u hu))) | (refine step_own rfl (.tmp 278) (.tmp 283) 22 rfl wr.heap.size 54 i0 (.agg #[.int .i64 0, .int .i64 0, .int .i64 0]) 3 24 Try.underlying22 hi hz0 hz1 hz2 rfl (by decide) v21 (0 + k) _ (by simp [Act.eval]) (hown1.alloc _) ⟨w21.heap.size, 0, none⟩ 1 1 [.int .i64 t, .int .i64 x, .int .i64 x] (by simp [Act.eval]) rfl (cells3_new _ _ _ _ _) (one3 _ _ _) (by unfold maxLen; omega) (by omega) (hb21.alloc hb21.size (.cells #[.int .i64 t, .int .i64 x, .int .i64 x] 54)).size ?_; intro v22 w22 hown2 hg2; have hb22 := (hb21.alloc hb21.size (.cells #[.int .i64 t, .int .i64 x, .int .i64 x] 54)).grown hg2 (hb21.alloc hb21.size (.cells #[.int .i64 t, .int .i64 x, .int .i64 x] 54)).size (fun q hq => (hown1.lt q hq).1)) | (refine step_own rfl (.tmp 278) (.tmp 283) 22 rfl wr.heap.size 54 i0 (.agg #[.int .i64 0, .int .i64 0, .int .i64 0]) 3 24 Try.underlying22 hi hz0 hz1 hz2 rfl (by decide) v21 (0 + k) _ (by simp [Act.eval]) hown1 ⟨(wr.drew.alloc (.cells #[] 54)).heap.size, 0, none⟩ 1 1 [.int .i64 t, .int .i64 x, .int .i64 x] (by simp [Act.eval]) rfl hm21 (one3 _ _ _) (by unfold maxLen; omega) (by omega) (hb21).size ?_; intro v22 w22 hown2 hg2; have hb22 := (hb21).grown hg2 (hb21).size (fun q hq => (hown1.lt q hq).1)) | (refine step_own rfl (.tmp 278) (.tmp 283) 22 rfl wr.heap.size 54 i0 (.agg #[.int .i64 0, .int .i64 0, .int .i64 0]) 3 24 Try.underlying22 hi hz0 hz1 hz2 rfl (by decide) v21 (0 + k) _ (by simp [Act.eval]) hown1 ⟨wr.drew.heap.size, 0, none⟩ 1 1 [.int .i64 t, .int .i64 x, .int .i64 x] (by simp [Act.eval]) rfl hm21 (one3 _ _ _) (by unfold maxLen; omega) (by omega) (hb21).size ?_; intro v22 w22 hown2 hg2; have hb22 := (hb21).grown hg2 (hb21).size (fun q hq => (hown1.lt q hq).1)) | (refine step_own rfl (.tmp 284) (.tmp 287) 22 rfl wr.heap.size 54 i0 (.agg #[.int .i64 0, .int .i64 0, .int .i64 0]) 3 24 Try.underlying22 hi hz0 hz1 hz2 rfl (by decide) v22 (0 + k + 1) _ (by simp [Act.eval]) hown2 A (n - k) (c - k) (rdCells (L.drop k)) (by simp [Act.eval]) L2.out (fun j u hu => cellB hb22 (C2.out j u hu)) (rdCells_one _) (by unfold maxLen; omega) (by omega) hb22.size ?_; intro v23 w23 hown3 hg3; have hb23 := hb22.grown hg3 hb22.size (fun q hq => (hown2.lt q hq).1)))
          all_goals
            rw [List.nil_append, ← ins_cells, show 0 + k + 1 + (n - k) = n + 1 by omega] at hown3
            have HO3 := Lib.hid hown3
            have B3 : Below wr.heap.size wr w23 := hb23
            clear hown1 hown2 hown3 hg1 hg2 hg3 hb21 hb22 hb23 hA
            obtain ⟨g, cap, hv, hg1, hg2, hown⟩ := own_open HO3.out (by omega)
            cases hv
            have HG1 := Lib.hid hg1
            have hlen : (rdCells (insL L k t x)).length = (n + 1) * 3 := by rw [rdCells_length, ins_length HKL.out, ← HLn.out]
            have hat : at_ (insL L k t x) k = ⟨t, x, x⟩ := by rw [ins_at HKL.out, if_neg (Nat.lt_irrefl _), if_pos rfl]
            obtain ⟨_, j1, j2⟩ := rdCells_at (insL L k t x) k (by rw [ins_length HKL.out, ← HLn.out]; omega)
            rw [hat] at j1 j2
            dsimp only at j1 j2
            have J1 := Lib.hid j1
            have J2 := Lib.hid j2
            have HLEN := Lib.hid hlen
            have HOW := Lib.hid hown
            clear j1 j2 hlen hat hg1 hown
            go_wp2_with fail
            refine (Agree_c _ _ _ (insL L k t x) _ _ (own_slO HOW.out)).mono ?_
            rintro e w24 ⟨rfl, hb24⟩
            rw [G1.out, F1.out.1]
            have hown4 := ownsRow_below HOW.out hb24
            have s1 := (hown4.stored (k * 3 + 1) (.int .i64 y)).1
            have s2 := (s1.stored (k * 3 + 2) (.int .i64 y)).1
            rw [ins_set HKL.out] at s2
            have f1 := hown4.frozenAt (k * 3 + 1)
            have g1 : w24.cell? ⟨g, k * 3 + 1, none⟩ = some (.int .i64 x) := (hown4.cellAt _ (by omega)).trans J1.out
            have f2 := s1.frozenAt (k * 3 + 2)
            have g2a : (w24.setCell ⟨g, k * 3 + 1, none⟩ (.int .i64 y)).cell? ⟨g, k * 3 + 1, none⟩ = some (.int .i64 y) := by
              rw [s1.cellAt _ (by omega), List.getElem?_set_self (by rw [HLEN.out]; omega)]
            have g2 : (w24.setCell ⟨g, k * 3 + 1, none⟩ (.int .i64 y)).cell? ⟨g, k * 3 + 2, none⟩ = some (.int .i64 x) := by
              rw [s1.cellAt _ (by omega), List.getElem?_set_ne (by omega)]; exact J2.out
            have B24 : Below w10.heap.size w10 w24 := btr (btr hbq B3) hb24
            have hge : w10.heap.size ≤ g := Nat.le_trans hbq.size HG1.out
            have HB5 := Lib.hid ((B24.setCell (p := ⟨g, k * 3 + 1, none⟩) hge (.int .i64 y)).setCell (p := ⟨g, k * 3 + 2, none⟩) hge (.int .i64 y))
            have HO5 := Lib.hid s2
            have hgw : g < w24.heap.size := (hown4.lt g rfl).2
            clear hown4 s1 s2 hge
            go_wp2_with fail
            refine (Agree_c _ _ _ (insL L k t y) _ _ (own_slO HO5.out)).mono ?_
            rintro e w25 ⟨rfl, hb25⟩
            rw [G2.out, F2.out.1]
            go_wp2_with fail
            exact ⟨⟨q + 1, by omega, by go_num, btr HB5.out hb25⟩, by simp [intOf]; omega⟩
        · obtain rfl : q = 2 := by omega
          have TT := Lib.hid (top_turn HT.out HBO.out (by omega))
          have TO := Lib.hid (top_opp HT.out HBO.out)
          have hvz := Lib.hid (vErr_zero.2 HV.out)
          have b1 := bLo_bd L r t
          have b2 := bHi_bd L r t
          go_wp2_with fail
          refine (Turn_c _ _ _ _ _ (h.below BQ (Nat.le_refl _))).mono ?_
          rintro e w31 ⟨v31, rfl, hv31, hb31⟩
          obtain ⟨a31, c31, e31, s31, lc31, lm31, -⟩ := ownsRow_rd hv31
          rw [e31, hvz.out]
          have B31 : Below w.heap.size w w31 := btr BQ hb31
          clear e31 hv31 hb31
          go_wp2_with fail
          refine (Bounds_c _ _ _ _ _ _ _ s31 lc31 lm31).mono ?_
          rintro e w32 ⟨rfl, hb32⟩
          rw [TT.out.2.2.1, TT.out.2.2.2, TT.out.2.1, TT.out.1]
          have B32 : Below w.heap.size w w32 := btr B31 hb32
          clear hb32 s31 lc31 lm31
          go_wp2_with fail
          refine (Opposite_c _ _ _ _ _ (h.below B32 (Nat.le_refl _))).mono ?_
          rintro e w33 ⟨v33, rfl, hv33, hb33⟩
          obtain ⟨a33, c33, e33, s33, lc33, lm33, -⟩ := hv33
          rw [e33, hvz.out]
          have B33 : Below w.heap.size w w33 := btr B32 hb33
          clear e33 hb33
          go_wp2_with fail
          refine (Bounds_c _ _ _ _ _ _ _ s33 lc33 lm33).mono ?_
          rintro e w34 ⟨rfl, hb34⟩
          rw [TO.out.2.2.1, TO.out.2.2.2, TO.out.2.1, TO.out.1]
          have B34 : Below w.heap.size w w34 := btr B33 hb34
          clear hb34 s33 lc33 lm33
          go_wp2_with fail
          go_ret
          exact ⟨rfl, B34⟩
end Go.Proofs.Ytgbdcemlnklmoaa
