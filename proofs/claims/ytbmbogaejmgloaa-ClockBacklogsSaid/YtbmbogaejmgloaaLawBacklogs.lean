/- ClockBacklogs: the walk. -/
import Derived.Test.YtbmbogaejmgloaaK
import Derived.Test.YtbmbogaejmgloaaBL
namespace Go.Proofs.Ytbmbogaejmgloaa
open Go.RowKit Go.Sort
theorem bkL_length {xs : List Int} {dn : Int} : (bkL xs dn).length = if bkErr xs dn = 0 then xs.length else 0 := by
  unfold bkL; split <;> simp
theorem back_facts {xs : List Int} {dn : Int} {t : Nat} (h : t + 1 < (bkL xs dn).length) : 0 ≤ gi (bkL xs dn) (t + 1) ∧ gi (bkL xs dn) (t + 1) ≤ 10000 ∧ 0 ≤ gi (bkL xs dn) t ∧ gi (bkL xs dn) t ≤ 10000 ∧ gi (bkL xs dn) t - dn ≤ gi (bkL xs dn) (t + 1) ∧ 0 ≤ dn ∧ dn ≤ 60 := by
  by_cases h0 : bkErr xs dn = 0
  · obtain ⟨h1, ⟨h2, h2'⟩, h3⟩ := bkErr_zero.1 h0
    have hl : (bkL xs dn).length = xs.length := by rw [bkL_length, if_pos h0]
    rw [hl] at h
    rw [gi_bkL h0 (t := t) (by omega), gi_bkL h0 (t := t + 1) (by omega)]
    have b1 := waF_bd (f := gi xs) (dn := dn) h2 (t := t + 1) (fun i hi => h3 i (by omega))
    have b2 := waF_bd (f := gi xs) (dn := dn) h2 (t := t + 2) (fun i hi => h3 i (by omega))
    have b3 := h3 (t + 1) h
    have e : waF (gi xs) dn (t + 2) = max 0 (waF (gi xs) dn (t + 1) + gi xs (t + 1) - dn) := rfl
    have e2 : waF (gi xs) dn (t + 1 + 1) = waF (gi xs) dn (t + 2) := rfl
    refine ⟨by omega, by omega, by omega, by omega, by omega, h2, h2'⟩
  · rw [bkL_length, if_neg h0] at h; omega

set_option maxRecDepth 100000 in
set_option maxHeartbeats 3200000 in
theorem backlogs_w (a : Option Addr) (n c : Nat) (xs : List Int) (dn : Int) (w : World) (h : IsO w a n xs) (hc : n ≤ c) (hm : c ≤ maxLen) :
    Calls Try.prog 10 #[.slice a n c, .int .i64 dn] w fun e w' => e = .returned (.bool true) ∧ Below w.heap.size w w' := by
  have _ := hc
  have _ := hm
  have self := fun x : Int => (show (x != x) = false by simp)
  have selfe := fun x : Int => (show (x == x) = true by simp)
  have selfb := fun x : Bool => (show (x != x) = false by simp)
  have selfc := fun x : Bool => (show (x == x) = true by simp)
  have hn : n ≤ 9223372036854775807 := Nat.le_trans hc (Nat.le_trans hm (by decide))
  by_cases ht : 1000 < n
  · have dt : decide (1000 < n) = true := decT ht
    go_enter Try.func10, Try.ntmps10
    go_wp2_with fail
    refine (known_c _).mono ?_
    rintro e w1 ⟨rfl, hb1⟩
    have B1 : Below w.heap.size w w1 := btr (Below.refl _ _) hb1
    go_wp2_with fail
    go_ret
    exact ⟨rfl, B1⟩
  · have dt : decide (1000 < n) = false := decF ht
    go_enter Try.func10, Try.ntmps10
    go_wp2_with fail
    refine (Backlog_c _ _ _ _ _ _ (h.below (Below.refl _ _) (Nat.le_refl _)) hn).mono ?_
    rintro e w1 ⟨v1, rfl, hv1, hb1⟩
    have B1 : Below w.heap.size w w1 := btr (Below.refl _ _) hb1
    obtain ⟨a1, c1, e1, i1, l1, m1, q1⟩ := hv1
    rw [e1]
    clear e1 q1
    go_wp2_with fail
    refine (rBacklog_c _ _ _ _ _ _ (h.below B1 (Nat.le_refl _)) hn).mono ?_
    rintro e w2 ⟨v2, rfl, hv2, hb2⟩
    have B2 : Below w.heap.size w w2 := btr B1 hb2
    replace i1 := i1.below hb2 (Nat.le_refl _)
    obtain ⟨a2, c2, e2, i2, l2, m2, q2⟩ := hv2
    rw [e2]
    clear e2 q2
    go_wp2_with fail
    refine (SameInts_c _ _ _ _ _ _ _ _ _ i1 i2 (Nat.le_trans l1 (Nat.le_trans m1 (by decide)))).mono ?_
    rintro e w3 ⟨rfl, hb3⟩
    have B3 : Below w.heap.size w w3 := btr B2 hb3
    replace i1 := i1.below hb3 (Nat.le_refl _)
    replace i2 := i2.below hb3 (Nat.le_refl _)
    rw [sameI_self]
    have HF := Lib.hid (fun t (h : t + 1 < (bkL xs dn).length) => back_facts h)
    generalize bkL xs dn = ys at *
    have I1 := Lib.hid i1
    have hy : ys.length ≤ 9223372036854775807 := Nat.le_trans l1 (Nat.le_trans m1 (by decide))
    clear i1 i2 hb1 hb2 hb3 l1 l2 m1 m2 h
    go_wp2_with fail
    go_loopw [9] (fun i wr => ∃ k : Nat, (k ≤ ys.length ∨ k = 1) ∧ 1 ≤ k ∧ i = .int .i64 k ∧ Below w3.heap.size w3 wr) (fun i _ => ys.length + 1 - (intOf i).toNat)
    case atStart => exact ⟨1, .inr rfl, Nat.le_refl _, rfl, Below.refl _ _⟩
    case round =>
      obtain ⟨k, hk, hk1, rfl, hb⟩ := hrel
      by_cases hlt : k < ys.length
      · obtain ⟨b, o, hab, hI⟩ : ∃ b o, a1 = some ⟨b, o, none⟩ ∧ Is w3 b o ys.length ys := by
          rcases I1.out.2 with h' | h'
          · omega
          · exact h'
        subst hab
        obtain ⟨t, rfl⟩ : ∃ t, k = t + 1 := ⟨k - 1, by omega⟩
        obtain ⟨f1, f2, f3, f4, f5, f6, f7⟩ := HF.out t hlt
        have k1 := cell_regrown ((hI.below hb (Nat.le_refl _)).c0 (t + 1) hlt)
        have k0 := cell_regrown ((hI.below hb (Nat.le_refl _)).c0 t (by omega))
        have d1 : decide (gi ys (t + 1) < 0) = false := decF (by omega)
        have d2 : decide (10000 < gi ys (t + 1)) = false := decF (by omega)
        have d3 : decide (10000 < gi ys t) = false := decF (by omega)
        have d4 : decide (gi ys (t + 1) < gi ys t - dn) = false := decF (by omega)
        have e1 : (((t + 1 : Nat) : Int) - 1) = (t : Int) := by omega
        have hs1 : IntKind.i64.wrap (gi ys t - dn) = gi ys t - dn := IntWalk.i64_in _ (by omega)
        have ht1 : ((t : Int) + 1).toNat = t + 1 := by omega
        have ht0 : 0 ≤ (t : Int) + 1 := by omega
        have ht2 : (t : Int) + 1 < ys.length := by omega
        have ht3 : (t : Int) < ys.length := by omega
        have ht4 : IntKind.i64.wrap ((t : Int) + 1 - 1) = t := by rw [Int.add_sub_cancel]; exact IntWalk.i64_in _ (by omega)
        clear hI
        go_wp2_with fail
        refine wp_region_B (by kernel_rfl) (by kernel_rfl) ?_
        repeat (go_big_quiet_step (fail))
        refine wpQuiet_nil ?_
        intro w4 hb4
        clear k0 k1 hs1 ht4 e1 d4 ht1
        go_wp2_with fail
        exact ⟨⟨t + 2, by omega, by omega, by go_num, btr hb hb4⟩, by simp [intOf]; omega⟩
      · have hd : ¬ (k : Int) < ys.length := by omega
        clear hlt
        go_wp2_with fail
        refine (known_c _).mono ?_
        rintro e w5 ⟨rfl, hb5⟩
        go_wp2_with fail
        go_ret
        exact ⟨rfl, btr B3 (btr hb hb5)⟩
end Go.Proofs.Ytbmbogaejmgloaa
