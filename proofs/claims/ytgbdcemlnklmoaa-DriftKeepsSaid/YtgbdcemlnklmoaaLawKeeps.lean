/- DriftKeeps: the walk. -/
import Derived.Test.YtgbdcemlnklmoaaD
namespace Go.Proofs.Ytgbdcemlnklmoaa
open Go.RowKit Go.Sort
set_option maxRecDepth 100000 in
set_option maxHeartbeats 3200000 in
theorem keeps_w (a : Option Addr) (n c : Nat) (L : List Rd) (r : Int) (a2 : Option Addr) (n2 c2 : Nat) (xs : List Int) (w : World) (h : SlO w a n L) (hc : n ≤ c) (hm : c ≤ maxLen) (h2 : IsO w a2 n2 xs) (hc2 : n2 ≤ c2) (hm2 : c2 ≤ maxLen) :
    Calls Try.prog 11 #[.slice a n c, .int .i64 r, .slice a2 n2 c2] w fun e w' => e = .returned (.bool true) ∧ Below w.heap.size w w' := by
  unfold maxLen at hm2
  by_cases hl : longB n = true
  · go_enter Try.func11, Try.ntmps11
    go_wp2_with fail
    refine (Long_c _ _ _ _).mono ?_
    rintro e w1 ⟨rfl, hb1⟩
    have B1 : Below w.heap.size w w1 := hb1
    simp only [hl]
    go_wp2_with fail
    refine (known_c _).mono ?_
    rintro e w2 ⟨rfl, hb2⟩
    have B2 : Below w.heap.size w w2 := btr B1 hb2
    go_wp2_with fail
    go_ret
    exact ⟨rfl, B2⟩
  · replace hl : longB n = false := by simpa using hl
    by_cases h11 : 1100 < n2
    · have g1 : decide ((1100 : Int) < (n2 : Int)) = true := decT (by omega)
      have g2 : decide (1100 < n2) = true := decT h11
      go_enter Try.func11, Try.ntmps11
      go_wp2_with fail
      refine (Long_c _ _ _ _).mono ?_
      rintro e w1 ⟨rfl, hb1⟩
      have B1 : Below w.heap.size w w1 := hb1
      simp only [hl]
      go_wp2_with fail
      refine (known_c _).mono ?_
      rintro e w2 ⟨rfl, hb2⟩
      have B2 : Below w.heap.size w w2 := btr B1 hb2
      go_wp2_with fail
      go_ret
      exact ⟨rfl, B2⟩
    · have g1 : ¬ (1100 : Int) < (n2 : Int) := by omega
      by_cases hk : ckErr L r xs = 0
      · have hne : (ckErr L r xs != 0) = false := by simp [hk]
        obtain ⟨h0, hlen, _⟩ := ckErr_zero.1 hk
        obtain ⟨hv, hr, hr9⟩ := rErr_zero.1 h0
        have ha := keeps_agree hk
        have hag := (aOk_true.1 ha).2
        have hp := hv.pos
        have hn := h.1
        have hn2 := h2.1
        obtain ⟨l1, l2⟩ := lastT_bd hv
        have hf0 : 0 ≤ (at_ L 0).t := (hv.bd (i := 0) (by omega)).1.1
        have hf1 : (at_ L 0).t ≤ 1000 := (hv.bd (i := 0) (by omega)).1.2
        have hfT : firstT L = (at_ L 0).t := rfl
        have HB : Hid (∀ i : Nat, i < n2 → tErr L r ((at_ L 0).t + i) = 0 ∧ bOk L r ((at_ L 0).t + i) = true ∧ bLo L r ((at_ L 0).t + i) ≤ gi xs i ∧ gi xs i ≤ bHi L r ((at_ L 0).t + i)) := Lib.hid (by
          intro i hi
          have ht : tErr L r ((at_ L 0).t + i) = 0 := tErr_zero.2 ⟨⟨hv, hr, hr9⟩, by omega, by rw [hfT] at hlen; omega⟩
          obtain ⟨e1, e2, e3⟩ := bOk_yes ht hag
          have hw := keeps_within hk (i := i) (by omega)
          rw [hfT] at hw
          exact ⟨ht, e1, by rw [e2]; exact hw.1, by rw [e3]; exact hw.2⟩)
        obtain ⟨b, o, rfl, hS⟩ : ∃ b o, a = some ⟨b, o, none⟩ ∧ Sl w b o n L := by
          rcases h.2 with h' | h'
          · omega
          · exact h'
        have hn1 : 1 ≤ n := by omega
        have hn8 : n ≤ 8 := by have := hv.le; omega
        have HS := Lib.hid hS
        have hff := (times_bd hv (i := 0) (by omega)).2
        have hn22 : 1 ≤ n2 := by rw [hfT] at hlen; omega
        obtain ⟨b2, o2, rfl, hI⟩ : ∃ b o, a2 = some ⟨b, o, none⟩ ∧ Is w b o n2 xs := by
          rcases h2.2 with h' | h'
          · omega
          · exact h'
        have HI := Lib.hid hI
        have HA := Lib.hid ha
        have HE := Lib.hid h0
        clear hS hI ha hag hv hp hn hn2 hlen hfT h0 h11 hff
        go_enter Try.func11, Try.ntmps11
        go_wp2_with fail
        refine (Long_c _ _ _ _).mono ?_
        rintro e w1 ⟨rfl, hb1⟩
        have B1 : Below w.heap.size w w1 := hb1
        simp only [hl]
        go_wp2_with fail
        refine (CheckTrack_c _ _ _ _ _ _ _ _ _ _ (h.below B1 (Nat.le_refl _)) (h2.below B1 (Nat.le_refl _)) hc2 hm2).mono ?_
        rintro e w2 ⟨rfl, hb2⟩
        have B2 : Below w.heap.size w w2 := btr B1 hb2
        go_wp2_with fail
        refine (rCheckTrack_c _ _ _ _ _ _ _ _ _ _ (h.below B2 (Nat.le_refl _)) (h2.below B2 (Nat.le_refl _)) (by omega)).mono ?_
        rintro e w3 ⟨rfl, hb3⟩
        have B3 : Below w.heap.size w w3 := btr B2 hb3
        go_wp2_with fail
        have B3' := Lib.hid B3
        clear B3 B1 B2 hb1 hb2 hb3 hk hne
        go_loopw [8] (fun i wr => ∃ k : Nat, k ≤ n2 ∧ k ≤ 30 ∧ i = .int .i64 k ∧ Below w.heap.size w wr) (fun i _ => n2 - (intOf i).toNat)
        case atStart => exact ⟨0, Nat.zero_le _, by omega, rfl, B3'.out⟩
        case round =>
          obtain ⟨k, hk, hk30, rfl, hb⟩ := hrel
          clear B3'
          by_cases hlt : k < n2
          · have d1 : decide (k < n2) = true := decT hlt
            by_cases hlt2 : k < 30
            · have d2 : decide ((k : Int) < 30) = true := decT (by omega)
              have d3 : decide (0 < n) = true := decT (by omega)
              obtain ⟨t1, t2, t3, t4⟩ := HB.out k hlt
              have T1 := Lib.hid t1
              have T2 := Lib.hid t2
              have s1 := (HS.out.below hb (Nat.le_refl _)).c0 0 (by omega)
              simp only [Nat.zero_mul, Nat.add_zero] at s1
              clear t1 t2
              go_wp2_with fail
              refine (Bounds_c _ _ _ _ _ _ _ (SlO.of (HS.out.below hb (Nat.le_refl _))) hc hm).mono ?_
              rintro e w4 ⟨rfl, hb4⟩
              rw [T1.out, T2.out]
              have i1 := (HI.out.below (btr hb hb4) (Nat.le_refl _)).c0 k hlt
              have q1 : decide (gi xs k < bLo L r ((at_ L 0).t + (k : Int))) = false := decF (by omega)
              have q2 : decide (bHi L r ((at_ L 0).t + (k : Int)) < gi xs k) = false := decF (by omega)
              generalize bLo L r ((at_ L 0).t + (k : Int)) = bl at *
              generalize bHi L r ((at_ L 0).t + (k : Int)) = bh at *
              clear s1
              go_wp2_with fail
              exact ⟨⟨k + 1, by omega, by omega, by go_num, btr hb hb4⟩, by simp [intOf]; omega⟩
            · have d2 : decide ((k : Int) < 30) = false := decF (by omega)
              have HA1 := HA.out
              have HE1 := HE.out
              go_wp2_with fail
              refine (Agree_c _ _ _ _ _ _ (SlO.of (HS.out.below hb (Nat.le_refl _)))).mono ?_
              rintro e w4 ⟨rfl, hb4⟩
              simp only [HA1, HE1]
              go_wp2_with fail
              refine (known_c _).mono ?_
              rintro e w5 ⟨rfl, hb5⟩
              go_wp2_with fail
              go_ret
              exact ⟨rfl, btr (btr hb hb4) hb5⟩
          · have d1 : decide (k < n2) = false := decF hlt
            have HA1 := HA.out
            have HE1 := HE.out
            go_wp2_with fail
            refine (Agree_c _ _ _ _ _ _ (SlO.of (HS.out.below hb (Nat.le_refl _)))).mono ?_
            rintro e w4 ⟨rfl, hb4⟩
            simp only [HA1, HE1]
            go_wp2_with fail
            refine (known_c _).mono ?_
            rintro e w5 ⟨rfl, hb5⟩
            go_wp2_with fail
            go_ret
            exact ⟨rfl, btr (btr hb hb4) hb5⟩
      · have hne : (ckErr L r xs != 0) = true := by simp [hk]
        clear hk
        go_enter Try.func11, Try.ntmps11
        go_wp2_with fail
        refine (Long_c _ _ _ _).mono ?_
        rintro e w1 ⟨rfl, hb1⟩
        have B1 : Below w.heap.size w w1 := hb1
        simp only [hl]
        go_wp2_with fail
        refine (CheckTrack_c _ _ _ _ _ _ _ _ _ _ (h.below B1 (Nat.le_refl _)) (h2.below B1 (Nat.le_refl _)) hc2 hm2).mono ?_
        rintro e w2 ⟨rfl, hb2⟩
        have B2 : Below w.heap.size w w2 := btr B1 hb2
        go_wp2_with fail
        refine (rCheckTrack_c _ _ _ _ _ _ _ _ _ _ (h.below B2 (Nat.le_refl _)) (h2.below B2 (Nat.le_refl _)) (by omega)).mono ?_
        rintro e w3 ⟨rfl, hb3⟩
        have B3 : Below w.heap.size w w3 := btr B2 hb3
        go_wp2_with fail
        refine (known_c _).mono ?_
        rintro e w4 ⟨rfl, hb4⟩
        have B4 : Below w.heap.size w w4 := btr B3 hb4
        go_wp2_with fail
        go_ret
        exact ⟨rfl, B4⟩
end Go.Proofs.Ytgbdcemlnklmoaa
