/- ClockKeeps: the walk. -/
import Derived.Test.YtbmbogaejmgloaaK
import Derived.Test.YtbmbogaejmgloaaC
namespace Go.Proofs.Ytbmbogaejmgloaa
open Go.RowKit Go.Sort
theorem zero_len {α : Type} {l : List α} (h : l = []) : (((l.length : Nat) : Int) == 0) = true := by subst h; rfl
theorem keep_facts {L : List Jb} (h : ckB L = true) : ckErr L (taR L) = 0 := by
  have e : taR L = tbl (edf L) L := if_pos h
  rw [e]
  simp only [ckB, Bool.and_eq_true, decide_eq_true_iff] at h
  exact late_keeps (vErr_zero.1 h.1) h.2

set_option maxRecDepth 100000 in
set_option maxHeartbeats 3200000 in
theorem keeps_w (a : Option Addr) (n c : Nat) (L : List Jb) (w : World) (h : SlO w a n L) (hc : n ≤ c) (hm : c ≤ maxLen) :
    Calls Try.prog 7 #[.slice a n c] w fun e w' => e = .returned (.bool true) ∧ Below w.heap.size w w' := by
  have _ := hc
  have _ := hm
  have self := fun x : Int => (show (x != x) = false by simp)
  have selfe := fun x : Int => (show (x == x) = true by simp)
  have selfb := fun x : Bool => (show (x != x) = false by simp)
  have selfc := fun x : Bool => (show (x == x) = true by simp)
  cases hl : longB n
  case true =>
    go_enter Try.func7, Try.ntmps7
    go_wp2_with fail
    refine (Long_c _ _ _ _).mono ?_
    rintro e w1 ⟨rfl, hb1⟩
    have B1 : Below w.heap.size w w1 := btr (Below.refl _ _) hb1
    simp only [hl]
    go_wp2_with fail
    refine (known_c _).mono ?_
    rintro e w2 ⟨rfl, hb2⟩
    have B2 : Below w.heap.size w w2 := btr B1 hb2
    go_wp2_with fail
    go_ret
    exact ⟨rfl, B2⟩
  case false =>
    cases hk : ckB L with
    | false =>
      have hz := zero_len (show taR L = [] by unfold taR; rw [hk]; rfl)
      go_enter Try.func7, Try.ntmps7
      go_wp2_with fail
      refine (Long_c _ _ _ _).mono ?_
      rintro e w1 ⟨rfl, hb1⟩
      have B1 : Below w.heap.size w w1 := btr (Below.refl _ _) hb1
      simp only [hl]
      go_wp2_with fail
      refine (CanKeep_c _ _ _ _ _ (h.below B1 (Nat.le_refl _))).mono ?_
      rintro e w2 ⟨rfl, hb2⟩
      have B2 : Below w.heap.size w w2 := btr B1 hb2
      simp only [hk]
      go_wp2_with fail
      refine (rCanKeep_c _ _ _ _ _ (h.below B2 (Nat.le_refl _))).mono ?_
      rintro e w3 ⟨rfl, hb3⟩
      have B3 : Below w.heap.size w w3 := btr B2 hb3
      simp only [hk]
      go_wp2_with fail
      refine (Table_c _ _ _ _ _ (h.below B3 (Nat.le_refl _))).mono ?_
      rintro e w4 ⟨v4, rfl, hv4, hb4⟩
      have B4 : Below w.heap.size w w4 := btr B3 hb4
      obtain ⟨a4, c4, e4, i4, l4, m4, q4⟩ := hv4
      rw [e4]
      clear e4 q4
      simp only [hk]
      go_wp2_with fail
      refine (known_c _).mono ?_
      rintro e w5 ⟨rfl, hb5⟩
      have B5 : Below w.heap.size w w5 := btr B4 hb5
      replace i4 := i4.below hb5 (Nat.le_refl _)
      go_wp2_with fail
      go_ret
      exact ⟨rfl, B5⟩
    | true =>
      have HK := Lib.hid (keep_facts hk)
      go_enter Try.func7, Try.ntmps7
      go_wp2_with fail
      refine (Long_c _ _ _ _).mono ?_
      rintro e w1 ⟨rfl, hb1⟩
      have B1 : Below w.heap.size w w1 := btr (Below.refl _ _) hb1
      simp only [hl]
      go_wp2_with fail
      refine (CanKeep_c _ _ _ _ _ (h.below B1 (Nat.le_refl _))).mono ?_
      rintro e w2 ⟨rfl, hb2⟩
      have B2 : Below w.heap.size w w2 := btr B1 hb2
      simp only [hk]
      go_wp2_with fail
      refine (rCanKeep_c _ _ _ _ _ (h.below B2 (Nat.le_refl _))).mono ?_
      rintro e w3 ⟨rfl, hb3⟩
      have B3 : Below w.heap.size w w3 := btr B2 hb3
      simp only [hk]
      go_wp2_with fail
      refine (Table_c _ _ _ _ _ (h.below B3 (Nat.le_refl _))).mono ?_
      rintro e w4 ⟨v4, rfl, hv4, hb4⟩
      have B4 : Below w.heap.size w w4 := btr B3 hb4
      obtain ⟨a4, c4, e4, i4, l4, m4, q4⟩ := hv4
      rw [e4]
      clear e4 q4
      simp only [hk]
      go_wp2_with fail
      refine (rCheckTable_c _ _ _ _ _ _ _ _ _ (h.below B4 (Nat.le_refl _)) i4 (Nat.le_trans l4 (Nat.le_trans m4 (by decide)))).mono ?_
      rintro e w5 ⟨rfl, hb5⟩
      have B5 : Below w.heap.size w w5 := btr B4 hb5
      replace i4 := i4.below hb5 (Nat.le_refl _)
      rw [HK.out]
      go_wp2_with fail
      refine (known_c _).mono ?_
      rintro e w6 ⟨rfl, hb6⟩
      have B6 : Below w.heap.size w w6 := btr B5 hb6
      replace i4 := i4.below hb6 (Nat.le_refl _)
      go_wp2_with fail
      go_ret
      exact ⟨rfl, B6⟩
end Go.Proofs.Ytbmbogaejmgloaa
