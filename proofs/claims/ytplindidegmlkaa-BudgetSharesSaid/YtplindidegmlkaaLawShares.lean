/- BudgetShares: the walk. -/
import Derived.Test.YtplindidegmlkaaS
namespace Go.Proofs.Ytplindidegmlkaa
open Go.RowKit Go.Sort

theorem shO_len {L : List It} : (shO L).length ≤ 6 := by
  by_cases h : vErr L = 0
  · rw [shO_ok h, shL_length]; exact (vErr_zero.1 h).le
  · rw [shO_bad h]; simp
theorem sh_facts {L : List It} (h : vErr L = 0) {k : Nat} (hk : k < (shO L).length) : (0 ≤ (pr (shO L) k).1 ∧ (pr (shO L) k).1 ≤ 134217728 ∧ 1 ≤ (pr (shO L) k).2 ∧ (pr (shO L) k).2 ≤ 134217728) ∧ (0 ≤ totN L ∧ totN L ≤ 134217728 ∧ 1 ≤ totD L ∧ totD L ≤ 134217728) ∧ ¬ (totN L * (pr (shO L) k).2 < (pr (shO L) k).1 * totD L) := by
  rw [shO_ok h] at hk ⊢
  rw [shL_length] at hk
  have hv := vErr_zero.1 h
  rw [pr_shL hk]
  have e3 : totN L = toN L L.length := if_pos h
  have e4 : totD L = toD L L.length := if_pos h
  have b1 := to_bd hv (Nat.le_refl L.length)
  have b2 := sh_bd (hv.ok k hk)
  have b3 := sh_le hv hk
  rw [e3, e4]
  unfold shF
  dsimp only
  omega

set_option maxRecDepth 100000 in
set_option maxHeartbeats 3200000 in
theorem shares_w (a : Option Addr) (n c : Nat) (L : List It) (w : World) (h : SlO w a n L) (hc : n ≤ c) (hm : c ≤ maxLen) :
    Calls Try.prog 6 #[.slice a n c] w fun e w' => e = .returned (.bool true) ∧ Below w.heap.size w w' := by
  have _ := hc
  have _ := hm
  have self := fun x : Int => (show (x != x) = false by simp)
  have selfe := fun x : Int => (show (x == x) = true by simp)
  have selfb := fun x : Bool => (show (x != x) = false by simp)
  have selfc := fun x : Bool => (show (x == x) = true by simp)
  cases hl : longB n
  case true =>
    go_enter Try.func6, Try.ntmps6
    go_wp2_with fail
    refine (Long_c _ _ _ _).mono ?_
    rintro e w1 ⟨rfl, hb1⟩
    have B1 : Below w.heap.size w w1 := btr (Below.refl _ _) hb1
    simp only [hl]
    go_wp2_with fail
    refine (known_c _).mono ?_
    rintro e w2 ⟨rfl, hb2⟩
    have B2 : Below w.heap.size w w2 := btr B1 hb2
    go_wp2_with fail
    go_ret
    exact ⟨rfl, B2⟩
  case false =>
    have h6 := shO_len (L := L)
    go_enter Try.func6, Try.ntmps6
    go_wp2_with fail
    refine (Long_c _ _ _ _).mono ?_
    rintro e w1 ⟨rfl, hb1⟩
    have B1 : Below w.heap.size w w1 := btr (Below.refl _ _) hb1
    simp only [hl]
    go_wp2_with fail
    refine (Shares_c _ _ _ L _ (h.below B1 (Nat.le_refl _))).mono ?_
    rintro e w2 ⟨v2, rfl, hv2, hb2⟩
    have B2 : Below w.heap.size w w2 := btr B1 hb2
    obtain ⟨a2, c2, e2, i2, l2, m2, q2⟩ := hv2
    rw [e2]
    clear e2 q2
    go_wp2_with fail
    refine (rShares_c _ _ _ L _ (h.below B2 (Nat.le_refl _))).mono ?_
    rintro e w3 ⟨v3, rfl, hv3, hb3⟩
    have B3 : Below w.heap.size w w3 := btr B2 hb3
    replace i2 := i2.below hb3 (Nat.le_refl _)
    obtain ⟨a3, c3, e3, i3, l3, m3, q3⟩ := hv3
    rw [e3]
    clear e3 q3
    go_wp2_with fail
    refine (Total_c _ _ _ L _ (h.below B3 (Nat.le_refl _))).mono ?_
    rintro e w4 ⟨rfl, hb4⟩
    have B4 : Below w.heap.size w w4 := btr B3 hb4
    replace i2 := i2.below hb4 (Nat.le_refl _)
    replace i3 := i3.below hb4 (Nat.le_refl _)
    go_wp2_with fail
    refine (rTotal_c _ _ _ L _ (h.below (B4.alloc B4.size _) (Nat.le_refl _))).mono ?_
    rintro e w5 ⟨rfl, hb5⟩
    have ha5 : Below w4.heap.size w4 w5 := btr ((Below.refl _ _).alloc (Nat.le_refl _) _) hb5
    have D5 : Cell2 w5 w4.heap.size (totN L) (totD L) := Cell2.below (w := w4.alloc (.cells #[.int .i64 (totN L), .int .i64 (totD L)] 25)) ⟨by simp [go_sem], by simp [go_sem], by simp [go_sem], by simp [go_sem]⟩ hb5
    have B5 : Below w.heap.size w w5 := btr (B4.alloc B4.size _) hb5
    replace i2 := i2.below ha5 (Nat.le_refl _)
    replace i3 := i3.below ha5 (Nat.le_refl _)
    have D50 := D5.c0
    have D51 := D5.c1
    have D5l := D5.lt
    go_wp2_with fail
    refine (Validate_c _ _ _ L _ (h.below (B5.alloc B5.size _) (Nat.le_refl _))).mono ?_
    rintro e w6 ⟨rfl, hb6⟩
    clear D50 D51 D5l
    have ha6 : Below w5.heap.size w5 w6 := btr ((Below.refl _ _).alloc (Nat.le_refl _) _) hb6
    have D6 : Cell2 w6 w5.heap.size (totN L) (totD L) := Cell2.below (w := w5.alloc (.cells #[.int .i64 (totN L), .int .i64 (totD L)] 25)) ⟨by simp [go_sem], by simp [go_sem], by simp [go_sem], by simp [go_sem]⟩ hb6
    have B6 : Below w.heap.size w w6 := btr (B5.alloc B5.size _) hb6
    replace i2 := i2.below ha6 (Nat.le_refl _)
    replace i3 := i3.below ha6 (Nat.le_refl _)
    replace D5 := D5.below ha6
    have D50 := D5.c0
    have D51 := D5.c1
    have D60 := D6.c0
    have D61 := D6.c1
    go_wp2_with fail
    refine (rValidate_c _ _ _ L _ (h.below B6 (Nat.le_refl _))).mono ?_
    rintro e w7 ⟨rfl, hb7⟩
    clear D50 D51 D60 D61
    have B7 : Below w.heap.size w w7 := btr B6 hb7
    replace i2 := i2.below hb7 (Nat.le_refl _)
    replace i3 := i3.below hb7 (Nat.le_refl _)
    replace D5 := D5.below hb7
    replace D6 := D6.below hb7
    have D50 := D5.c0
    have D51 := D5.c1
    have D60 := D6.c0
    have D61 := D6.c1
    go_wp2_with fail
    refine (SameRats_c _ _ _ _ _ (shO L) _ i2 i3 (by omega)).mono ?_
    rintro e w8 ⟨rfl, hb8⟩
    clear D50 D51 D60 D61
    have B8 : Below w.heap.size w w8 := btr B7 hb8
    replace i2 := i2.below hb8 (Nat.le_refl _)
    replace i3 := i3.below hb8 (Nat.le_refl _)
    replace D5 := D5.below hb8
    replace D6 := D6.below hb8
    clear i3
    have D50 := D5.c0
    have D51 := D5.c1
    have D60 := D6.c0
    have D61 := D6.c1
    go_wp2_with fail
    clear D60 D61 D50 D51 D6
    have I2 := Lib.hid i2
    have D5' := Lib.hid D5
    have BB := Lib.hid B8
    clear i2 D5
    generalize w8 = wk at *
    go_loopw [11] (fun i wr => ∃ k : Nat, k ≤ (shO L).length ∧ i = .int .i64 k ∧ Below wk.heap.size wk wr) (fun i _ => (shO L).length - (intOf i).toNat)
    case atStart => exact ⟨0, Nat.zero_le _, rfl, Below.refl _ _⟩
    case round =>
      obtain ⟨k, hk, rfl, hb⟩ := hrel
      by_cases hlt : k < (shO L).length
      · have h0 : vErr L = 0 := by
          apply Classical.byContradiction
          intro hn
          rw [shO_bad hn] at hlt
          simp at hlt
        obtain ⟨⟨f1, f2, f3, f4⟩, ⟨g1, g2, g3, g4⟩, hls⟩ := sh_facts h0 hlt
        have HLS := Lib.hid (decF hls)
        clear h0 hls
        obtain ⟨b, o, rfl, hS⟩ : ∃ b o, a2 = some ⟨b, o, none⟩ ∧ P2 wk b o (shO L).length (shO L) := by
          rcases I2.out.2 with h' | h'
          · omega
          · exact h'
        have hS' := hS.below hb (Nat.le_refl _)
        have k0 := cell_regrown (hS'.c0 k hlt)
        have k1 := cell_regrown (hS'.c1 k hlt)
        have k2 := cell_regrown (D5'.out.below hb).c0
        have k3 := cell_regrown (D5'.out.below hb).c1
        generalize (pr (shO L) k).1 = p at *
        generalize (pr (shO L) k).2 = q at *
        have cA := fun d os => Calls.regrown_of (fair_c p q (grow (redrawn wr d) os) ⟨f1, f2, f3, f4⟩)
        have cB := fun d os => Calls.regrown_of (fair_c (totN L) (totD L) (grow (redrawn wr d) os) ⟨g1, g2, g3, g4⟩)
        have cC := fun d os => Calls.regrown_of (Calls.val (less_c (totN L) (totD L) p q (grow (redrawn wr d) os) ⟨g1, by omega, by omega, by omega⟩ ⟨f1, by omega, by omega, by omega⟩) (vb HLS.out))
        clear hS hS'
        go_wp2_with fail
        refine wp_region_B (by kernel_rfl) (by kernel_rfl) ?_
        repeat (go_big_quiet_step (first | with_reducible exact cA _ _ | with_reducible exact cB _ _ | with_reducible exact cC _ _))
        refine wpQuiet_nil ?_
        intro w2 hb2
        go_wp2_with fail
        exact ⟨⟨k + 1, by omega, by go_num, btr hb hb2⟩, by simp [intOf]; omega⟩
      · have hd : ¬ (k : Int) < (shO L).length := by omega
        clear hlt
        go_wp2_with fail
        refine (known_c _).mono ?_
        rintro e w2 ⟨rfl, hb2⟩
        go_wp2_with fail
        go_ret
        exact ⟨rfl, btr (btr BB.out hb) hb2⟩
end Go.Proofs.Ytplindidegmlkaa
