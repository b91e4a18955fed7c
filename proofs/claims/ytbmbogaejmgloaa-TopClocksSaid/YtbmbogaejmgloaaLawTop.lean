/- TopClocks: the walk. -/
import Derived.Test.YtbmbogaejmgloaaG2
import Derived.Test.YtbmbogaejmgloaaBL
import Derived.Test.YtbmbogaejmgloaaK
import Derived.Test.YtbmbogaejmgloaaC
namespace Go.Proofs.Ytbmbogaejmgloaa
open Go.RowKit Go.Sort
theorem back_val : bkL [3, 0, 2] 2 = [1, 0, 0] ∧ bkErr [3, 0, 2] 2 = 0 := by decide +kernel
structure TopF (L : List Jb) (n : Nat) (b : Bool) : Prop where
  la : decide (laR L ≤ 0) = b
  sl : decide (0 ≤ slackJ L) = b
  sp : decide ((speedJ L).1 ≤ (speedJ L).2) = b
  cr : (crO L).isSome = !b
  so : someJ L = decide (0 < n)
  te : vErr (turnL L) = 0
  tk : ckB (turnL L) = b
  tt : turnL (turnL L) = L
theorem top_facts {L : List Jb} {n : Nat} (h : vErr L = 0) (hn : n = L.length) : TopF L n (ckB L) := by
  have hv := vErr_zero.1 h
  have e : slackJ L = - lateJ L := if_pos h
  have e2 : laR L = lateJ L := if_pos h
  have hs := (speed_is hv).late hv
  have ek : ckB L = decide (lateJ L ≤ 0) := by unfold ckB; rw [decT h]; rfl
  have et : turnL L = turned L := if_pos h
  have h2 := vErr_zero.2 (turned_valid hv)
  refine ⟨by rw [ek, e2], ?_, ?_, by rw [ckB_cr h]; simp, ?_, by rw [et]; exact h2, ?_, ?_⟩
  · rw [ek, e, Bool.eq_iff_iff, decide_eq_true_iff, decide_eq_true_iff]; omega
  · rw [ek, Bool.eq_iff_iff, decide_eq_true_iff, decide_eq_true_iff]; omega
  · have : someJ L = decide (0 < L.length) := by unfold someJ; rw [decT h]; rfl
    rw [this, hn]
  · rw [et, ek]; unfold ckB; rw [h2, turned_lateJ hv]; rfl
  · rw [et]; exact (if_pos h2).trans (turned_turned L)
theorem top_ck {L : List Jb} (h : vErr L = 0) (hk : ckB L = true) : ckErr L (taR L) = 0 ∧ ckErr L (urR L) = 0 := by
  have e : taR L = tbl (edf L) L := if_pos hk
  have e2 : urR L = tbl (edf L) L := if_pos h
  rw [e, e2]
  simp only [ckB, Bool.and_eq_true, decide_eq_true_iff] at hk
  have := late_keeps (vErr_zero.1 h) hk.2
  exact ⟨this, this⟩
theorem top_cc {L : List Jb} (h : vErr L = 0) (hc : (crO L).isSome = true) : ccErr L (crA L) (crZ L) = 0 := by
  obtain ⟨p, hp⟩ := Option.isSome_iff_exists.1 hc
  obtain ⟨h1, h2, h3⟩ := crO_some hp
  have ea : crA L = p.1 := by unfold crA; rw [hp]; rfl
  have ez : crZ L = p.2 := by unfold crZ; rw [hp]; rfl
  have h0 : stErr L (crA L) (crZ L) = 0 := stErr_zero.2 ⟨vErr_zero.1 h, by omega, by omega, by omega⟩
  unfold ccErr
  rw [if_neg (by simp [h0]), ea, ez]
  simp only [crB, decide_eq_true_iff] at h3
  rw [if_neg (by omega)]
theorem top_no {L : List Jb} {xs : List Int} (h : ckErr L xs = 0) : ckB L = true := by
  have h1 := keeps_late h
  have hv := (ckErr_zero.1 h).1
  unfold ckB; rw [decT h1, decT (vErr_zero.2 hv)]; rfl
theorem top_relax {L : List Jb} {y : Int} (h : mvErr L 0 y = 0) (hn : 0 < L.length) : vErr (mvL L 0 y) = 0 ∧ laR (mvL L 0 y) = laR L - y ∧ -60 ≤ laR L ∧ laR L ≤ 540 ∧ -60 ≤ y ∧ y ≤ 60 := by
  obtain ⟨hv, hy, hv2, e⟩ := mvErr_zero h
  have hy := hy hn
  have h1 : laR L = lateJ L := if_pos (vErr_zero.2 hv)
  have h2 : laR (moved L 0 y) = lateJ (moved L 0 y) := if_pos (vErr_zero.2 hv2)
  have hb := lateJ_bd hv
  rw [e, h1, h2, moved_lateJ hv hv2 hn]
  exact ⟨vErr_zero.2 hv2, by omega, hb.1, hb.2, hy.1, hy.2⟩
theorem three_is (w : World) (x y z : Int) : IsO (w.alloc (.cells #[.int .i64 x, .int .i64 y, .int .i64 z] 3)) (some ⟨w.heap.size, 0, none⟩) 3 [x, y, z] := by
  refine IsO.of ⟨rfl, by simp [go_sem], fun i hi => ?_⟩
  rcases i with _ | _ | _ | i
  · simp [go_sem, gi]
  · simp [go_sem, gi]
  · simp [go_sem, gi]
  · omega

set_option maxRecDepth 100000 in
set_option maxHeartbeats 3200000 in
theorem top_long (a : Option Addr) (n c : Nat) (L : List Jb) (a2 : Option Addr) (n2 c2 : Nat) (xs : List Int) (y : Int) (w : World) (h : SlO w a n L) (hc : n ≤ c) (hm : c ≤ maxLen) (h2 : IsO w a2 n2 xs) (hc2 : n2 ≤ c2) (hm2 : c2 ≤ maxLen) (hl : longB n = true) :
    Calls Try.prog 5 #[.slice a n c, .slice a2 n2 c2, .int .i64 y] w fun e w' => e = .returned (.bool true) ∧ Below w.heap.size w w' := by
  have _ := hc
  have _ := hm
  have self := fun x : Int => (show (x != x) = false by simp)
  have selfe := fun x : Int => (show (x == x) = true by simp)
  have selfb := fun x : Bool => (show (x != x) = false by simp)
  have selfc := fun x : Bool => (show (x == x) = true by simp)
  have _ := hc2
  have _ := h2
  have hn2 : n2 ≤ 9223372036854775807 := Nat.le_trans hc2 (Nat.le_trans hm2 (by decide))
  have hnn : n ≤ 9223372036854775807 := Nat.le_trans hc (Nat.le_trans hm (by decide))
  have HLn : Hid (n = L.length) := Lib.hid h.1
  have HA : Hid (Below w.heap.size w (w.alloc (.cells #[.int .i64 3, .int .i64 0, .int .i64 2] 3))) := Lib.hid ((Below.refl _ _).alloc (Nat.le_refl _) _)
  have HI : Hid (IsO (w.alloc (.cells #[.int .i64 3, .int .i64 0, .int .i64 2] 3)) (some ⟨w.heap.size, 0, none⟩) 3 [3, 0, 2]) := Lib.hid (three_is w 3 0 2)
  go_enter Try.func5, Try.ntmps5
  go_wp2_with fail
  refine (Backlog_c _ _ _ _ _ _ HI.out (by decide)).mono ?_
  rintro e w1 ⟨v1, rfl, hv1, hb1⟩
  have B1 : Below w.heap.size w w1 := btr HA.out hb1
  clear HA HI hb1
  obtain ⟨a1, c1, e1, i1, l1, m1, q1⟩ := hv1
  rw [e1]
  clear e1 q1
  rw [back_val.1] at i1 l1 ⊢
  rw [back_val.2]
  have HI : Hid (IsO (w1.alloc (.cells #[.int .i64 1, .int .i64 0, .int .i64 0] 3)) (some ⟨w1.heap.size, 0, none⟩) 3 [1, 0, 0]) := Lib.hid (three_is w1 1 0 0)
  go_wp2_with fail
  refine (SameInts_c _ _ _ _ _ _ _ _ _ (i1.below ((Below.refl _ _).alloc (Nat.le_refl _) _) (Nat.le_refl _)) HI.out (by decide)).mono ?_
  rintro e w2 ⟨rfl, hb2⟩
  have B2 : Below w.heap.size w w2 := btr (B1.alloc B1.size _) hb2
  clear HI hb2 i1 l1 m1
  rw [sameI_self]
  go_wp2_with fail
  refine (Long_c _ _ _ _).mono ?_
  rintro e w3 ⟨rfl, hb3⟩
  have B3 : Below w.heap.size w w3 := btr B2 hb3
  simp only [hl]
  go_wp2_with fail
  go_ret
  exact ⟨rfl, B3⟩

set_option maxRecDepth 100000 in
set_option maxHeartbeats 3200000 in
theorem top_big (a : Option Addr) (n c : Nat) (L : List Jb) (a2 : Option Addr) (n2 c2 : Nat) (xs : List Int) (y : Int) (w : World) (h : SlO w a n L) (hc : n ≤ c) (hm : c ≤ maxLen) (h2 : IsO w a2 n2 xs) (hc2 : n2 ≤ c2) (hm2 : c2 ≤ maxLen) (hl : longB n = false) (ht : 1000 < n2) :
    Calls Try.prog 5 #[.slice a n c, .slice a2 n2 c2, .int .i64 y] w fun e w' => e = .returned (.bool true) ∧ Below w.heap.size w w' := by
  have _ := hc
  have _ := hm
  have self := fun x : Int => (show (x != x) = false by simp)
  have selfe := fun x : Int => (show (x == x) = true by simp)
  have selfb := fun x : Bool => (show (x != x) = false by simp)
  have selfc := fun x : Bool => (show (x == x) = true by simp)
  have _ := hc2
  have _ := h2
  have hn2 : n2 ≤ 9223372036854775807 := Nat.le_trans hc2 (Nat.le_trans hm2 (by decide))
  have hnn : n ≤ 9223372036854775807 := Nat.le_trans hc (Nat.le_trans hm (by decide))
  have HLn : Hid (n = L.length) := Lib.hid h.1
  have dt : decide (1000 < n2) = true := decT ht
  have HA : Hid (Below w.heap.size w (w.alloc (.cells #[.int .i64 3, .int .i64 0, .int .i64 2] 3))) := Lib.hid ((Below.refl _ _).alloc (Nat.le_refl _) _)
  have HI : Hid (IsO (w.alloc (.cells #[.int .i64 3, .int .i64 0, .int .i64 2] 3)) (some ⟨w.heap.size, 0, none⟩) 3 [3, 0, 2]) := Lib.hid (three_is w 3 0 2)
  go_enter Try.func5, Try.ntmps5
  go_wp2_with fail
  refine (Backlog_c _ _ _ _ _ _ HI.out (by decide)).mono ?_
  rintro e w1 ⟨v1, rfl, hv1, hb1⟩
  have B1 : Below w.heap.size w w1 := btr HA.out hb1
  clear HA HI hb1
  obtain ⟨a1, c1, e1, i1, l1, m1, q1⟩ := hv1
  rw [e1]
  clear e1 q1
  rw [back_val.1] at i1 l1 ⊢
  rw [back_val.2]
  have HI : Hid (IsO (w1.alloc (.cells #[.int .i64 1, .int .i64 0, .int .i64 0] 3)) (some ⟨w1.heap.size, 0, none⟩) 3 [1, 0, 0]) := Lib.hid (three_is w1 1 0 0)
  go_wp2_with fail
  refine (SameInts_c _ _ _ _ _ _ _ _ _ (i1.below ((Below.refl _ _).alloc (Nat.le_refl _) _) (Nat.le_refl _)) HI.out (by decide)).mono ?_
  rintro e w2 ⟨rfl, hb2⟩
  have B2 : Below w.heap.size w w2 := btr (B1.alloc B1.size _) hb2
  clear HI hb2 i1 l1 m1
  rw [sameI_self]
  go_wp2_with fail
  refine (Long_c _ _ _ _).mono ?_
  rintro e w3 ⟨rfl, hb3⟩
  have B3 : Below w.heap.size w w3 := btr B2 hb3
  simp only [hl]
  go_wp2_with fail
  go_ret
  exact ⟨rfl, B3⟩

set_option maxRecDepth 100000 in
set_option maxHeartbeats 3200000 in
theorem top_err (a : Option Addr) (n c : Nat) (L : List Jb) (a2 : Option Addr) (n2 c2 : Nat) (xs : List Int) (y : Int) (w : World) (h : SlO w a n L) (hc : n ≤ c) (hm : c ≤ maxLen) (h2 : IsO w a2 n2 xs) (hc2 : n2 ≤ c2) (hm2 : c2 ≤ maxLen) (hl : longB n = false) (ht : ¬ 1000 < n2) (h0 : vErr L ≠ 0) :
    Calls Try.prog 5 #[.slice a n c, .slice a2 n2 c2, .int .i64 y] w fun e w' => e = .returned (.bool true) ∧ Below w.heap.size w w' := by
  have _ := hc
  have _ := hm
  have self := fun x : Int => (show (x != x) = false by simp)
  have selfe := fun x : Int => (show (x == x) = true by simp)
  have selfb := fun x : Bool => (show (x != x) = false by simp)
  have selfc := fun x : Bool => (show (x == x) = true by simp)
  have _ := hc2
  have _ := h2
  have hn2 : n2 ≤ 9223372036854775807 := Nat.le_trans hc2 (Nat.le_trans hm2 (by decide))
  have hnn : n ≤ 9223372036854775807 := Nat.le_trans hc (Nat.le_trans hm (by decide))
  have HLn : Hid (n = L.length) := Lib.hid h.1
  have dt : decide (1000 < n2) = false := decF ht
  have hne : (vErr L != 0) = true := by simpa using h0
  clear h0
  have HA : Hid (Below w.heap.size w (w.alloc (.cells #[.int .i64 3, .int .i64 0, .int .i64 2] 3))) := Lib.hid ((Below.refl _ _).alloc (Nat.le_refl _) _)
  have HI : Hid (IsO (w.alloc (.cells #[.int .i64 3, .int .i64 0, .int .i64 2] 3)) (some ⟨w.heap.size, 0, none⟩) 3 [3, 0, 2]) := Lib.hid (three_is w 3 0 2)
  go_enter Try.func5, Try.ntmps5
  go_wp2_with fail
  refine (Backlog_c _ _ _ _ _ _ HI.out (by decide)).mono ?_
  rintro e w1 ⟨v1, rfl, hv1, hb1⟩
  have B1 : Below w.heap.size w w1 := btr HA.out hb1
  clear HA HI hb1
  obtain ⟨a1, c1, e1, i1, l1, m1, q1⟩ := hv1
  rw [e1]
  clear e1 q1
  rw [back_val.1] at i1 l1 ⊢
  rw [back_val.2]
  have HI : Hid (IsO (w1.alloc (.cells #[.int .i64 1, .int .i64 0, .int .i64 0] 3)) (some ⟨w1.heap.size, 0, none⟩) 3 [1, 0, 0]) := Lib.hid (three_is w1 1 0 0)
  go_wp2_with fail
  refine (SameInts_c _ _ _ _ _ _ _ _ _ (i1.below ((Below.refl _ _).alloc (Nat.le_refl _) _) (Nat.le_refl _)) HI.out (by decide)).mono ?_
  rintro e w2 ⟨rfl, hb2⟩
  have B2 : Below w.heap.size w w2 := btr (B1.alloc B1.size _) hb2
  clear HI hb2 i1 l1 m1
  rw [sameI_self]
  go_wp2_with fail
  refine (Long_c _ _ _ _).mono ?_
  rintro e w3 ⟨rfl, hb3⟩
  have B3 : Below w.heap.size w w3 := btr B2 hb3
  simp only [hl]
  go_wp2_with fail
  refine (CanKeep_c _ _ _ _ _ (h.below B3 (Nat.le_refl _))).mono ?_
  rintro e w4 ⟨rfl, hb4⟩
  have B4 : Below w.heap.size w w4 := btr B3 hb4
  go_wp2_with fail
  refine (Validate_c _ _ _ _ _ (h.below B4 (Nat.le_refl _))).mono ?_
  rintro e w5 ⟨rfl, hb5⟩
  have B5 : Below w.heap.size w w5 := btr B4 hb5
  go_wp2_with fail
  go_ret
  exact ⟨rfl, B5⟩

set_option maxRecDepth 100000 in
set_option maxHeartbeats 3200000 in
theorem top_a (a : Option Addr) (n c : Nat) (L : List Jb) (a2 : Option Addr) (n2 c2 : Nat) (xs : List Int) (y : Int) (w : World) (h : SlO w a n L) (hc : n ≤ c) (hm : c ≤ maxLen) (h2 : IsO w a2 n2 xs) (hc2 : n2 ≤ c2) (hm2 : c2 ≤ maxLen) (hl : longB n = false) (ht : ¬ 1000 < n2) (h0 : vErr L = 0) (hk : ckB L = true) (hx : ckErr L xs = 0) :
    Calls Try.prog 5 #[.slice a n c, .slice a2 n2 c2, .int .i64 y] w fun e w' => e = .returned (.bool true) ∧ Below w.heap.size w w' := by
  have _ := hc
  have _ := hm
  have self := fun x : Int => (show (x != x) = false by simp)
  have selfe := fun x : Int => (show (x == x) = true by simp)
  have selfb := fun x : Bool => (show (x != x) = false by simp)
  have selfc := fun x : Bool => (show (x == x) = true by simp)
  have _ := hc2
  have _ := h2
  have hn2 : n2 ≤ 9223372036854775807 := Nat.le_trans hc2 (Nat.le_trans hm2 (by decide))
  have hnn : n ≤ 9223372036854775807 := Nat.le_trans hc (Nat.le_trans hm (by decide))
  have HLn : Hid (n = L.length) := Lib.hid h.1
  have dt : decide (1000 < n2) = false := decF ht
  have h40 : n ≤ 40 := by simp [longB] at hl; exact hl
  have HE := Lib.hid h0
  have HK := Lib.hid hk
  have HT := Lib.hid (top_facts (n := n) h0 h.1)
  have HC := Lib.hid (top_ck h0 hk)
  have HX := Lib.hid hx
  clear hx
  have dla := HT.out.la
  have dsl := HT.out.sl
  have dsp := HT.out.sp
  have dcr := HT.out.cr
  have dtk := HT.out.tk
  rw [HK.out] at dla dsl dsp dcr dtk
  simp only [Bool.not_true] at dcr
  have HCR := Lib.hid dcr
  have HTK := Lib.hid dtk
  clear h0 hk dcr dtk
  have HA : Hid (Below w.heap.size w (w.alloc (.cells #[.int .i64 3, .int .i64 0, .int .i64 2] 3))) := Lib.hid ((Below.refl _ _).alloc (Nat.le_refl _) _)
  have HI : Hid (IsO (w.alloc (.cells #[.int .i64 3, .int .i64 0, .int .i64 2] 3)) (some ⟨w.heap.size, 0, none⟩) 3 [3, 0, 2]) := Lib.hid (three_is w 3 0 2)
  go_enter Try.func5, Try.ntmps5
  go_wp2_with fail
  refine (Backlog_c _ _ _ _ _ _ HI.out (by decide)).mono ?_
  rintro e w1 ⟨v1, rfl, hv1, hb1⟩
  have B1 : Below w.heap.size w w1 := btr HA.out hb1
  clear HA HI hb1
  obtain ⟨a1, c1, e1, i1, l1, m1, q1⟩ := hv1
  rw [e1]
  clear e1 q1
  rw [back_val.1] at i1 l1 ⊢
  rw [back_val.2]
  have HI : Hid (IsO (w1.alloc (.cells #[.int .i64 1, .int .i64 0, .int .i64 0] 3)) (some ⟨w1.heap.size, 0, none⟩) 3 [1, 0, 0]) := Lib.hid (three_is w1 1 0 0)
  go_wp2_with fail
  refine (SameInts_c _ _ _ _ _ _ _ _ _ (i1.below ((Below.refl _ _).alloc (Nat.le_refl _) _) (Nat.le_refl _)) HI.out (by decide)).mono ?_
  rintro e w2 ⟨rfl, hb2⟩
  have B2 : Below w.heap.size w w2 := btr (B1.alloc B1.size _) hb2
  clear HI hb2 i1 l1 m1
  rw [sameI_self]
  go_wp2_with fail
  refine (Long_c _ _ _ _).mono ?_
  rintro e w3 ⟨rfl, hb3⟩
  have B3 : Below w.heap.size w w3 := btr B2 hb3
  simp only [hl]
  go_wp2_with fail
  refine (CanKeep_c _ _ _ _ _ (h.below B3 (Nat.le_refl _))).mono ?_
  rintro e w4 ⟨rfl, hb4⟩
  have B4 : Below w.heap.size w w4 := btr B3 hb4
  rw [HK.out, HE.out]
  go_wp2_with fail
  refine (Table_c _ _ _ _ _ (h.below B4 (Nat.le_refl _))).mono ?_
  rintro e w5 ⟨v5, rfl, hv5, hb5⟩
  have B5 : Below w.heap.size w w5 := btr B4 hb5
  obtain ⟨a5, c5, e5, i5, l5, m5, q5⟩ := hv5
  rw [e5]
  clear e5 q5
  rw [HK.out, HE.out]
  go_wp2_with fail
  refine (Urgent_c _ _ _ _ _ (h.below B5 (Nat.le_refl _))).mono ?_
  rintro e w6 ⟨v6, rfl, hv6, hb6⟩
  have B6 : Below w.heap.size w w6 := btr B5 hb6
  replace i5 := i5.below hb6 (Nat.le_refl _)
  obtain ⟨a6, c6, e6, i6, l6, m6, q6⟩ := hv6
  rw [e6]
  clear e6 q6
  rw [HE.out]
  go_wp2_with fail
  refine (Late_c _ _ _ _ _ (h.below B6 (Nat.le_refl _))).mono ?_
  rintro e w7 ⟨rfl, hb7⟩
  have B7 : Below w.heap.size w w7 := btr B6 hb7
  replace i5 := i5.below hb7 (Nat.le_refl _)
  replace i6 := i6.below hb7 (Nat.le_refl _)
  rw [HE.out]
  go_wp2_with fail
  refine (Slack_c _ _ _ _ _ (h.below B7 (Nat.le_refl _))).mono ?_
  rintro e w8 ⟨rfl, hb8⟩
  have B8 : Below w.heap.size w w8 := btr B7 hb8
  replace i5 := i5.below hb8 (Nat.le_refl _)
  replace i6 := i6.below hb8 (Nat.le_refl _)
  rw [HE.out, HT.out.so]
  go_wp2_with fail
  refine (Speed_c _ _ _ _ _ (h.below B8 (Nat.le_refl _))).mono ?_
  rintro e w9 ⟨rfl, hb9⟩
  have B9 : Below w.heap.size w w9 := btr B8 hb9
  replace i5 := i5.below hb9 (Nat.le_refl _)
  replace i6 := i6.below hb9 (Nat.le_refl _)
  rw [HE.out]
  go_wp2_with fail
  refine (Crowded_c _ _ _ _ _ (h.below (B9.alloc B9.size _) (Nat.le_refl _))).mono ?_
  rintro e w10 ⟨rfl, hb10⟩
  have ha10 : Below w9.heap.size w9 w10 := btr ((Below.refl _ _).alloc (Nat.le_refl _) _) hb10
  have hs : Cell2 w10 w9.heap.size (speedJ L).1 (speedJ L).2 := Cell2.below (w := w9.alloc (.cells #[.int .i64 (speedJ L).1, .int .i64 (speedJ L).2] 44)) ⟨by simp [go_sem], by simp [go_sem], by simp [go_sem], by simp [go_sem]⟩ hb10
  have B10 : Below w.heap.size w w10 := btr (B9.alloc B9.size _) hb10
  replace i5 := i5.below ha10 (Nat.le_refl _)
  replace i6 := i6.below ha10 (Nat.le_refl _)
  rw [HCR.out, HE.out]
  have hs0 := hs.c0
  have hs1 := hs.c1
  go_wp2_with fail
  refine (CheckTable_c _ _ _ _ _ _ _ _ _ (h.below B10 (Nat.le_refl _)) i5 (Nat.le_trans l5 (Nat.le_trans m5 (by decide)))).mono ?_
  rintro e w11 ⟨rfl, hb11⟩
  clear hs0 hs1
  have B11 : Below w.heap.size w w11 := btr B10 hb11
  replace i5 := i5.below hb11 (Nat.le_refl _)
  replace i6 := i6.below hb11 (Nat.le_refl _)
  replace hs := hs.below hb11
  rw [HC.out.1]
  have hs0 := hs.c0
  have hs1 := hs.c1
  go_wp2_with fail
  refine (CheckTable_c _ _ _ _ _ _ _ _ _ (h.below B11 (Nat.le_refl _)) i6 (Nat.le_trans l6 (Nat.le_trans m6 (by decide)))).mono ?_
  rintro e w12 ⟨rfl, hb12⟩
  clear hs0 hs1
  have B12 : Below w.heap.size w w12 := btr B11 hb12
  replace i5 := i5.below hb12 (Nat.le_refl _)
  replace i6 := i6.below hb12 (Nat.le_refl _)
  replace hs := hs.below hb12
  rw [HC.out.2]
  have hs0 := hs.c0
  have hs1 := hs.c1
  go_wp2_with fail
  refine (CheckTable_c _ _ _ _ _ _ _ _ _ (h.below B12 (Nat.le_refl _)) (h2.below B12 (Nat.le_refl _)) hn2).mono ?_
  rintro e w13 ⟨rfl, hb13⟩
  clear hs0 hs1
  have B13 : Below w.heap.size w w13 := btr B12 hb13
  replace i5 := i5.below hb13 (Nat.le_refl _)
  replace i6 := i6.below hb13 (Nat.le_refl _)
  replace hs := hs.below hb13
  rw [HX.out]
  have hs0 := hs.c0
  have hs1 := hs.c1
  go_wp2_with fail
  refine (Turn_c _ _ _ _ _ (h.below B13 (Nat.le_refl _))).mono ?_
  rintro e w14 ⟨v14, rfl, hv14, hb14⟩
  clear hs0 hs1
  have B14 : Below w.heap.size w w14 := btr B13 hb14
  replace i5 := i5.below hb14 (Nat.le_refl _)
  replace i6 := i6.below hb14 (Nat.le_refl _)
  replace hs := hs.below hb14
  obtain ⟨a14, c14, e14, i14, l14, m14, q14⟩ := hv14
  rw [e14]
  clear e14 q14
  rw [HE.out]
  clear i5 l5 m5 i6 l6 m6
  clear hs
  go_wp2_with fail
  refine (CanKeep_c _ _ _ _ _ i14).mono ?_
  rintro e w15 ⟨rfl, hb15⟩
  have B15 : Below w.heap.size w w15 := btr B14 hb15
  replace i14 := i14.below hb15 (Nat.le_refl _)
  rw [HTK.out, HT.out.te]
  go_wp2_with fail
  refine (Turn_c _ _ _ _ _ i14).mono ?_
  rintro e w16 ⟨v16, rfl, hv16, hb16⟩
  have B16 : Below w.heap.size w w16 := btr B15 hb16
  replace i14 := i14.below hb16 (Nat.le_refl _)
  obtain ⟨a16, c16, e16, i16, l16, m16, q16⟩ := hv16
  rw [e16]
  clear e16 q16
  rw [HT.out.te]
  rw [HT.out.tt] at i16 l16 ⊢
  rw [← HLn.out] at i16 l16 ⊢
  clear i14 l14 m14
  have HIM := Lib.hid i16
  clear i16
  go_wp2_with fail
  go_loopw [30] (fun i wr => ∃ k : Nat, k ≤ n ∧ i = .int .i64 k ∧ Below w16.heap.size w16 wr) (fun i _ => n - (intOf i).toNat)
  case atStart => exact ⟨0, Nat.zero_le _, rfl, Below.refl _ _⟩
  case round =>
    obtain ⟨k, hk, rfl, hb⟩ := hrel
    have BB : Below w.heap.size w wr := btr B16 hb
    by_cases hlt : k < n
    · obtain ⟨b, o, rfl, hS⟩ : ∃ b o, a = some ⟨b, o, none⟩ ∧ Sl w b o n L := by
        rcases h.2 with h' | h'
        · omega
        · exact h'
      obtain ⟨bb, ob, rfl, hT⟩ : ∃ b o, a16 = some ⟨b, o, none⟩ ∧ Sl w16 b o n L := by
        rcases HIM.out.2 with h' | h'
        · omega
        · exact h'
      have hS' := hS.below BB (Nat.le_refl _)
      have k0 := cell_regrown (hS'.c0 k hlt)
      have k1 := cell_regrown (hS'.c1 k hlt)
      have k2 := cell_regrown (hS'.c2 k hlt)
      have hT' := hT.below hb (Nat.le_refl _)
      have m0 := cell_regrown (hT'.c0 k hlt)
      have m1' := cell_regrown (hT'.c1 k hlt)
      have m2' := cell_regrown (hT'.c2 k hlt)
      clear hS' hT' hS hT
      go_wp2_with fail
      refine wp_region_B (by kernel_rfl) (by kernel_rfl) ?_
      repeat (go_big_quiet_step (fail))
      refine wpQuiet_nil ?_
      intro w2 hb2
      go_wp2_with fail
      exact ⟨⟨k + 1, by omega, by go_num, btr hb hb2⟩, by simp [intOf]; omega⟩
    · have hd : ¬ (k : Int) < n := by omega
      clear HIM hlt l16 m16

      by_cases hq : mvErr L 0 y = 0
      case neg =>
        have hne : (mvErr L 0 y != 0) = true := by simpa using hq
        clear hq
        go_wp2_with fail
        refine (Relax_c _ _ _ _ _ _ (h.below BB (Nat.le_refl _))).mono ?_
        rintro e w21 ⟨v21, rfl, hv21, hb21⟩
        have B21 : Below w.heap.size w w21 := btr BB hb21
        obtain ⟨a21, c21, e21, i21, l21, m21, q21⟩ := hv21
        rw [e21]
        clear e21 q21
        go_wp2_with fail
        go_ret
        exact ⟨rfl, B21⟩
      have hne : (mvErr L 0 y != 0) = false := by simp [hq]
      by_cases hn : n = 0
      case pos =>
        have dn : ((n : Int) == 0) = true := by simp [hn]
        clear hq hn
        go_wp2_with fail
        refine (Relax_c _ _ _ _ _ _ (h.below BB (Nat.le_refl _))).mono ?_
        rintro e w21 ⟨v21, rfl, hv21, hb21⟩
        have B21 : Below w.heap.size w w21 := btr BB hb21
        obtain ⟨a21, c21, e21, i21, l21, m21, q21⟩ := hv21
        rw [e21]
        clear e21 q21
        go_wp2_with fail
        go_ret
        exact ⟨rfl, B21⟩
      have dn : ((n : Int) == 0) = false := by rw [beq_eq_false_iff_ne]; omega
      obtain ⟨f1, f2, f3, f4, f5, f6⟩ := top_relax hq (by have := HLn.out; omega)
      have F1 := Lib.hid f1
      have F2 := Lib.hid f2
      clear f1 f2 hq
      by_cases hy : y < 0
      case pos =>
        have dy : decide (y < 0) = true := decT hy
        go_wp2_with fail
        refine (Relax_c _ _ _ _ _ _ (h.below BB (Nat.le_refl _))).mono ?_
        rintro e w21 ⟨v21, rfl, hv21, hb21⟩
        have B21 : Below w.heap.size w w21 := btr BB hb21
        obtain ⟨a21, c21, e21, i21, l21, m21, q21⟩ := hv21
        rw [e21]
        clear e21 q21
        go_wp2_with fail
        go_ret
        exact ⟨rfl, B21⟩
      have dy : decide (y < 0) = false := decF hy
      have dy2 : decide (60 < y) = false := decF (by omega)
      go_wp2_with fail
      refine (Relax_c _ _ _ _ _ _ (h.below BB (Nat.le_refl _))).mono ?_
      rintro e w21 ⟨v21, rfl, hv21, hb21⟩
      have B21 : Below w.heap.size w w21 := btr BB hb21
      obtain ⟨a21, c21, e21, i21, l21, m21, q21⟩ := hv21
      rw [e21]
      clear e21 q21
      go_wp2_with fail
      refine (Late_c _ _ _ _ _ i21).mono ?_
      rintro e w22 ⟨rfl, hb22⟩
      have B22 : Below w.heap.size w w22 := btr B21 hb22
      replace i21 := i21.below hb22 (Nat.le_refl _)
      rw [F1.out, F2.out]
      go_wp2_with fail
      go_ret
      exact ⟨rfl, B22⟩

set_option maxRecDepth 100000 in
set_option maxHeartbeats 3200000 in
theorem top_b (a : Option Addr) (n c : Nat) (L : List Jb) (a2 : Option Addr) (n2 c2 : Nat) (xs : List Int) (y : Int) (w : World) (h : SlO w a n L) (hc : n ≤ c) (hm : c ≤ maxLen) (h2 : IsO w a2 n2 xs) (hc2 : n2 ≤ c2) (hm2 : c2 ≤ maxLen) (hl : longB n = false) (ht : ¬ 1000 < n2) (h0 : vErr L = 0) (hk : ckB L = true) (hx : ¬ ckErr L xs = 0) :
    Calls Try.prog 5 #[.slice a n c, .slice a2 n2 c2, .int .i64 y] w fun e w' => e = .returned (.bool true) ∧ Below w.heap.size w w' := by
  have _ := hc
  have _ := hm
  have self := fun x : Int => (show (x != x) = false by simp)
  have selfe := fun x : Int => (show (x == x) = true by simp)
  have selfb := fun x : Bool => (show (x != x) = false by simp)
  have selfc := fun x : Bool => (show (x == x) = true by simp)
  have _ := hc2
  have _ := h2
  have hn2 : n2 ≤ 9223372036854775807 := Nat.le_trans hc2 (Nat.le_trans hm2 (by decide))
  have hnn : n ≤ 9223372036854775807 := Nat.le_trans hc (Nat.le_trans hm (by decide))
  have HLn : Hid (n = L.length) := Lib.hid h.1
  have dt : decide (1000 < n2) = false := decF ht
  have h40 : n ≤ 40 := by simp [longB] at hl; exact hl
  have HE := Lib.hid h0
  have HK := Lib.hid hk
  have HT := Lib.hid (top_facts (n := n) h0 h.1)
  have HC := Lib.hid (top_ck h0 hk)
  have dx : (ckErr L xs == 0) = false := by rw [beq_eq_false_iff_ne]; exact hx
  clear hx
  have dla := HT.out.la
  have dsl := HT.out.sl
  have dsp := HT.out.sp
  have dcr := HT.out.cr
  have dtk := HT.out.tk
  rw [HK.out] at dla dsl dsp dcr dtk
  simp only [Bool.not_true] at dcr
  have HCR := Lib.hid dcr
  have HTK := Lib.hid dtk
  clear h0 hk dcr dtk
  have HA : Hid (Below w.heap.size w (w.alloc (.cells #[.int .i64 3, .int .i64 0, .int .i64 2] 3))) := Lib.hid ((Below.refl _ _).alloc (Nat.le_refl _) _)
  have HI : Hid (IsO (w.alloc (.cells #[.int .i64 3, .int .i64 0, .int .i64 2] 3)) (some ⟨w.heap.size, 0, none⟩) 3 [3, 0, 2]) := Lib.hid (three_is w 3 0 2)
  go_enter Try.func5, Try.ntmps5
  go_wp2_with fail
  refine (Backlog_c _ _ _ _ _ _ HI.out (by decide)).mono ?_
  rintro e w1 ⟨v1, rfl, hv1, hb1⟩
  have B1 : Below w.heap.size w w1 := btr HA.out hb1
  clear HA HI hb1
  obtain ⟨a1, c1, e1, i1, l1, m1, q1⟩ := hv1
  rw [e1]
  clear e1 q1
  rw [back_val.1] at i1 l1 ⊢
  rw [back_val.2]
  have HI : Hid (IsO (w1.alloc (.cells #[.int .i64 1, .int .i64 0, .int .i64 0] 3)) (some ⟨w1.heap.size, 0, none⟩) 3 [1, 0, 0]) := Lib.hid (three_is w1 1 0 0)
  go_wp2_with fail
  refine (SameInts_c _ _ _ _ _ _ _ _ _ (i1.below ((Below.refl _ _).alloc (Nat.le_refl _) _) (Nat.le_refl _)) HI.out (by decide)).mono ?_
  rintro e w2 ⟨rfl, hb2⟩
  have B2 : Below w.heap.size w w2 := btr (B1.alloc B1.size _) hb2
  clear HI hb2 i1 l1 m1
  rw [sameI_self]
  go_wp2_with fail
  refine (Long_c _ _ _ _).mono ?_
  rintro e w3 ⟨rfl, hb3⟩
  have B3 : Below w.heap.size w w3 := btr B2 hb3
  simp only [hl]
  go_wp2_with fail
  refine (CanKeep_c _ _ _ _ _ (h.below B3 (Nat.le_refl _))).mono ?_
  rintro e w4 ⟨rfl, hb4⟩
  have B4 : Below w.heap.size w w4 := btr B3 hb4
  rw [HK.out, HE.out]
  go_wp2_with fail
  refine (Table_c _ _ _ _ _ (h.below B4 (Nat.le_refl _))).mono ?_
  rintro e w5 ⟨v5, rfl, hv5, hb5⟩
  have B5 : Below w.heap.size w w5 := btr B4 hb5
  obtain ⟨a5, c5, e5, i5, l5, m5, q5⟩ := hv5
  rw [e5]
  clear e5 q5
  rw [HK.out, HE.out]
  go_wp2_with fail
  refine (Urgent_c _ _ _ _ _ (h.below B5 (Nat.le_refl _))).mono ?_
  rintro e w6 ⟨v6, rfl, hv6, hb6⟩
  have B6 : Below w.heap.size w w6 := btr B5 hb6
  replace i5 := i5.below hb6 (Nat.le_refl _)
  obtain ⟨a6, c6, e6, i6, l6, m6, q6⟩ := hv6
  rw [e6]
  clear e6 q6
  rw [HE.out]
  go_wp2_with fail
  refine (Late_c _ _ _ _ _ (h.below B6 (Nat.le_refl _))).mono ?_
  rintro e w7 ⟨rfl, hb7⟩
  have B7 : Below w.heap.size w w7 := btr B6 hb7
  replace i5 := i5.below hb7 (Nat.le_refl _)
  replace i6 := i6.below hb7 (Nat.le_refl _)
  rw [HE.out]
  go_wp2_with fail
  refine (Slack_c _ _ _ _ _ (h.below B7 (Nat.le_refl _))).mono ?_
  rintro e w8 ⟨rfl, hb8⟩
  have B8 : Below w.heap.size w w8 := btr B7 hb8
  replace i5 := i5.below hb8 (Nat.le_refl _)
  replace i6 := i6.below hb8 (Nat.le_refl _)
  rw [HE.out, HT.out.so]
  go_wp2_with fail
  refine (Speed_c _ _ _ _ _ (h.below B8 (Nat.le_refl _))).mono ?_
  rintro e w9 ⟨rfl, hb9⟩
  have B9 : Below w.heap.size w w9 := btr B8 hb9
  replace i5 := i5.below hb9 (Nat.le_refl _)
  replace i6 := i6.below hb9 (Nat.le_refl _)
  rw [HE.out]
  go_wp2_with fail
  refine (Crowded_c _ _ _ _ _ (h.below (B9.alloc B9.size _) (Nat.le_refl _))).mono ?_
  rintro e w10 ⟨rfl, hb10⟩
  have ha10 : Below w9.heap.size w9 w10 := btr ((Below.refl _ _).alloc (Nat.le_refl _) _) hb10
  have hs : Cell2 w10 w9.heap.size (speedJ L).1 (speedJ L).2 := Cell2.below (w := w9.alloc (.cells #[.int .i64 (speedJ L).1, .int .i64 (speedJ L).2] 44)) ⟨by simp [go_sem], by simp [go_sem], by simp [go_sem], by simp [go_sem]⟩ hb10
  have B10 : Below w.heap.size w w10 := btr (B9.alloc B9.size _) hb10
  replace i5 := i5.below ha10 (Nat.le_refl _)
  replace i6 := i6.below ha10 (Nat.le_refl _)
  rw [HCR.out, HE.out]
  have hs0 := hs.c0
  have hs1 := hs.c1
  go_wp2_with fail
  refine (CheckTable_c _ _ _ _ _ _ _ _ _ (h.below B10 (Nat.le_refl _)) i5 (Nat.le_trans l5 (Nat.le_trans m5 (by decide)))).mono ?_
  rintro e w11 ⟨rfl, hb11⟩
  clear hs0 hs1
  have B11 : Below w.heap.size w w11 := btr B10 hb11
  replace i5 := i5.below hb11 (Nat.le_refl _)
  replace i6 := i6.below hb11 (Nat.le_refl _)
  replace hs := hs.below hb11
  rw [HC.out.1]
  have hs0 := hs.c0
  have hs1 := hs.c1
  go_wp2_with fail
  refine (CheckTable_c _ _ _ _ _ _ _ _ _ (h.below B11 (Nat.le_refl _)) i6 (Nat.le_trans l6 (Nat.le_trans m6 (by decide)))).mono ?_
  rintro e w12 ⟨rfl, hb12⟩
  clear hs0 hs1
  have B12 : Below w.heap.size w w12 := btr B11 hb12
  replace i5 := i5.below hb12 (Nat.le_refl _)
  replace i6 := i6.below hb12 (Nat.le_refl _)
  replace hs := hs.below hb12
  rw [HC.out.2]
  have hs0 := hs.c0
  have hs1 := hs.c1
  go_wp2_with fail
  refine (CheckTable_c _ _ _ _ _ _ _ _ _ (h.below B12 (Nat.le_refl _)) (h2.below B12 (Nat.le_refl _)) hn2).mono ?_
  rintro e w13 ⟨rfl, hb13⟩
  clear hs0 hs1
  have B13 : Below w.heap.size w w13 := btr B12 hb13
  replace i5 := i5.below hb13 (Nat.le_refl _)
  replace i6 := i6.below hb13 (Nat.le_refl _)
  replace hs := hs.below hb13
  have hs0 := hs.c0
  have hs1 := hs.c1
  go_wp2_with fail
  refine (Turn_c _ _ _ _ _ (h.below B13 (Nat.le_refl _))).mono ?_
  rintro e w14 ⟨v14, rfl, hv14, hb14⟩
  clear hs0 hs1
  have B14 : Below w.heap.size w w14 := btr B13 hb14
  replace i5 := i5.below hb14 (Nat.le_refl _)
  replace i6 := i6.below hb14 (Nat.le_refl _)
  replace hs := hs.below hb14
  obtain ⟨a14, c14, e14, i14, l14, m14, q14⟩ := hv14
  rw [e14]
  clear e14 q14
  rw [HE.out]
  clear i5 l5 m5 i6 l6 m6
  clear hs
  go_wp2_with fail
  refine (CanKeep_c _ _ _ _ _ i14).mono ?_
  rintro e w15 ⟨rfl, hb15⟩
  have B15 : Below w.heap.size w w15 := btr B14 hb15
  replace i14 := i14.below hb15 (Nat.le_refl _)
  rw [HTK.out, HT.out.te]
  go_wp2_with fail
  refine (Turn_c _ _ _ _ _ i14).mono ?_
  rintro e w16 ⟨v16, rfl, hv16, hb16⟩
  have B16 : Below w.heap.size w w16 := btr B15 hb16
  replace i14 := i14.below hb16 (Nat.le_refl _)
  obtain ⟨a16, c16, e16, i16, l16, m16, q16⟩ := hv16
  rw [e16]
  clear e16 q16
  rw [HT.out.te]
  rw [HT.out.tt] at i16 l16 ⊢
  rw [← HLn.out] at i16 l16 ⊢
  clear i14 l14 m14
  have HIM := Lib.hid i16
  clear i16
  go_wp2_with fail
  go_loopw [30] (fun i wr => ∃ k : Nat, k ≤ n ∧ i = .int .i64 k ∧ Below w16.heap.size w16 wr) (fun i _ => n - (intOf i).toNat)
  case atStart => exact ⟨0, Nat.zero_le _, rfl, Below.refl _ _⟩
  case round =>
    obtain ⟨k, hk, rfl, hb⟩ := hrel
    have BB : Below w.heap.size w wr := btr B16 hb
    by_cases hlt : k < n
    · obtain ⟨b, o, rfl, hS⟩ : ∃ b o, a = some ⟨b, o, none⟩ ∧ Sl w b o n L := by
        rcases h.2 with h' | h'
        · omega
        · exact h'
      obtain ⟨bb, ob, rfl, hT⟩ : ∃ b o, a16 = some ⟨b, o, none⟩ ∧ Sl w16 b o n L := by
        rcases HIM.out.2 with h' | h'
        · omega
        · exact h'
      have hS' := hS.below BB (Nat.le_refl _)
      have k0 := cell_regrown (hS'.c0 k hlt)
      have k1 := cell_regrown (hS'.c1 k hlt)
      have k2 := cell_regrown (hS'.c2 k hlt)
      have hT' := hT.below hb (Nat.le_refl _)
      have m0 := cell_regrown (hT'.c0 k hlt)
      have m1' := cell_regrown (hT'.c1 k hlt)
      have m2' := cell_regrown (hT'.c2 k hlt)
      clear hS' hT' hS hT
      go_wp2_with fail
      refine wp_region_B (by kernel_rfl) (by kernel_rfl) ?_
      repeat (go_big_quiet_step (fail))
      refine wpQuiet_nil ?_
      intro w2 hb2
      go_wp2_with fail
      exact ⟨⟨k + 1, by omega, by go_num, btr hb hb2⟩, by simp [intOf]; omega⟩
    · have hd : ¬ (k : Int) < n := by omega
      clear HIM hlt l16 m16

      by_cases hq : mvErr L 0 y = 0
      case neg =>
        have hne : (mvErr L 0 y != 0) = true := by simpa using hq
        clear hq
        go_wp2_with fail
        refine (Relax_c _ _ _ _ _ _ (h.below BB (Nat.le_refl _))).mono ?_
        rintro e w21 ⟨v21, rfl, hv21, hb21⟩
        have B21 : Below w.heap.size w w21 := btr BB hb21
        obtain ⟨a21, c21, e21, i21, l21, m21, q21⟩ := hv21
        rw [e21]
        clear e21 q21
        go_wp2_with fail
        go_ret
        exact ⟨rfl, B21⟩
      have hne : (mvErr L 0 y != 0) = false := by simp [hq]
      by_cases hn : n = 0
      case pos =>
        have dn : ((n : Int) == 0) = true := by simp [hn]
        clear hq hn
        go_wp2_with fail
        refine (Relax_c _ _ _ _ _ _ (h.below BB (Nat.le_refl _))).mono ?_
        rintro e w21 ⟨v21, rfl, hv21, hb21⟩
        have B21 : Below w.heap.size w w21 := btr BB hb21
        obtain ⟨a21, c21, e21, i21, l21, m21, q21⟩ := hv21
        rw [e21]
        clear e21 q21
        go_wp2_with fail
        go_ret
        exact ⟨rfl, B21⟩
      have dn : ((n : Int) == 0) = false := by rw [beq_eq_false_iff_ne]; omega
      obtain ⟨f1, f2, f3, f4, f5, f6⟩ := top_relax hq (by have := HLn.out; omega)
      have F1 := Lib.hid f1
      have F2 := Lib.hid f2
      clear f1 f2 hq
      by_cases hy : y < 0
      case pos =>
        have dy : decide (y < 0) = true := decT hy
        go_wp2_with fail
        refine (Relax_c _ _ _ _ _ _ (h.below BB (Nat.le_refl _))).mono ?_
        rintro e w21 ⟨v21, rfl, hv21, hb21⟩
        have B21 : Below w.heap.size w w21 := btr BB hb21
        obtain ⟨a21, c21, e21, i21, l21, m21, q21⟩ := hv21
        rw [e21]
        clear e21 q21
        go_wp2_with fail
        go_ret
        exact ⟨rfl, B21⟩
      have dy : decide (y < 0) = false := decF hy
      have dy2 : decide (60 < y) = false := decF (by omega)
      go_wp2_with fail
      refine (Relax_c _ _ _ _ _ _ (h.below BB (Nat.le_refl _))).mono ?_
      rintro e w21 ⟨v21, rfl, hv21, hb21⟩
      have B21 : Below w.heap.size w w21 := btr BB hb21
      obtain ⟨a21, c21, e21, i21, l21, m21, q21⟩ := hv21
      rw [e21]
      clear e21 q21
      go_wp2_with fail
      refine (Late_c _ _ _ _ _ i21).mono ?_
      rintro e w22 ⟨rfl, hb22⟩
      have B22 : Below w.heap.size w w22 := btr B21 hb22
      replace i21 := i21.below hb22 (Nat.le_refl _)
      rw [F1.out, F2.out]
      go_wp2_with fail
      go_ret
      exact ⟨rfl, B22⟩

set_option maxRecDepth 100000 in
set_option maxHeartbeats 3200000 in
theorem top_c (a : Option Addr) (n c : Nat) (L : List Jb) (a2 : Option Addr) (n2 c2 : Nat) (xs : List Int) (y : Int) (w : World) (h : SlO w a n L) (hc : n ≤ c) (hm : c ≤ maxLen) (h2 : IsO w a2 n2 xs) (hc2 : n2 ≤ c2) (hm2 : c2 ≤ maxLen) (hl : longB n = false) (ht : ¬ 1000 < n2) (h0 : vErr L = 0) (hk : ckB L = false) :
    Calls Try.prog 5 #[.slice a n c, .slice a2 n2 c2, .int .i64 y] w fun e w' => e = .returned (.bool true) ∧ Below w.heap.size w w' := by
  have _ := hc
  have _ := hm
  have self := fun x : Int => (show (x != x) = false by simp)
  have selfe := fun x : Int => (show (x == x) = true by simp)
  have selfb := fun x : Bool => (show (x != x) = false by simp)
  have selfc := fun x : Bool => (show (x == x) = true by simp)
  have _ := hc2
  have _ := h2
  have hn2 : n2 ≤ 9223372036854775807 := Nat.le_trans hc2 (Nat.le_trans hm2 (by decide))
  have hnn : n ≤ 9223372036854775807 := Nat.le_trans hc (Nat.le_trans hm (by decide))
  have HLn : Hid (n = L.length) := Lib.hid h.1
  have dt : decide (1000 < n2) = false := decF ht
  have h40 : n ≤ 40 := by simp [longB] at hl; exact hl
  have HE := Lib.hid h0
  have HK := Lib.hid hk
  have HT := Lib.hid (top_facts (n := n) h0 h.1)
  have HC := Lib.hid (top_cc h0 (by rw [HT.out.cr, hk]; rfl))
  have dx : (ckErr L xs == 0) = false := by rw [beq_eq_false_iff_ne]; intro hx; rw [top_no hx] at hk; cases hk
  have dla := HT.out.la
  have dsl := HT.out.sl
  have dsp := HT.out.sp
  have dcr := HT.out.cr
  have dtk := HT.out.tk
  rw [HK.out] at dla dsl dsp dcr dtk
  simp only [Bool.not_false] at dcr
  have HCR := Lib.hid dcr
  have HTK := Lib.hid dtk
  clear h0 hk dcr dtk
  have HA : Hid (Below w.heap.size w (w.alloc (.cells #[.int .i64 3, .int .i64 0, .int .i64 2] 3))) := Lib.hid ((Below.refl _ _).alloc (Nat.le_refl _) _)
  have HI : Hid (IsO (w.alloc (.cells #[.int .i64 3, .int .i64 0, .int .i64 2] 3)) (some ⟨w.heap.size, 0, none⟩) 3 [3, 0, 2]) := Lib.hid (three_is w 3 0 2)
  go_enter Try.func5, Try.ntmps5
  go_wp2_with fail
  refine (Backlog_c _ _ _ _ _ _ HI.out (by decide)).mono ?_
  rintro e w1 ⟨v1, rfl, hv1, hb1⟩
  have B1 : Below w.heap.size w w1 := btr HA.out hb1
  clear HA HI hb1
  obtain ⟨a1, c1, e1, i1, l1, m1, q1⟩ := hv1
  rw [e1]
  clear e1 q1
  rw [back_val.1] at i1 l1 ⊢
  rw [back_val.2]
  have HI : Hid (IsO (w1.alloc (.cells #[.int .i64 1, .int .i64 0, .int .i64 0] 3)) (some ⟨w1.heap.size, 0, none⟩) 3 [1, 0, 0]) := Lib.hid (three_is w1 1 0 0)
  go_wp2_with fail
  refine (SameInts_c _ _ _ _ _ _ _ _ _ (i1.below ((Below.refl _ _).alloc (Nat.le_refl _) _) (Nat.le_refl _)) HI.out (by decide)).mono ?_
  rintro e w2 ⟨rfl, hb2⟩
  have B2 : Below w.heap.size w w2 := btr (B1.alloc B1.size _) hb2
  clear HI hb2 i1 l1 m1
  rw [sameI_self]
  go_wp2_with fail
  refine (Long_c _ _ _ _).mono ?_
  rintro e w3 ⟨rfl, hb3⟩
  have B3 : Below w.heap.size w w3 := btr B2 hb3
  simp only [hl]
  go_wp2_with fail
  refine (CanKeep_c _ _ _ _ _ (h.below B3 (Nat.le_refl _))).mono ?_
  rintro e w4 ⟨rfl, hb4⟩
  have B4 : Below w.heap.size w w4 := btr B3 hb4
  rw [HK.out, HE.out]
  go_wp2_with fail
  refine (Table_c _ _ _ _ _ (h.below B4 (Nat.le_refl _))).mono ?_
  rintro e w5 ⟨v5, rfl, hv5, hb5⟩
  have B5 : Below w.heap.size w w5 := btr B4 hb5
  obtain ⟨a5, c5, e5, i5, l5, m5, q5⟩ := hv5
  rw [e5]
  clear e5 q5
  rw [HK.out, HE.out]
  go_wp2_with fail
  refine (Urgent_c _ _ _ _ _ (h.below B5 (Nat.le_refl _))).mono ?_
  rintro e w6 ⟨v6, rfl, hv6, hb6⟩
  have B6 : Below w.heap.size w w6 := btr B5 hb6
  replace i5 := i5.below hb6 (Nat.le_refl _)
  obtain ⟨a6, c6, e6, i6, l6, m6, q6⟩ := hv6
  rw [e6]
  clear e6 q6
  rw [HE.out]
  go_wp2_with fail
  refine (Late_c _ _ _ _ _ (h.below B6 (Nat.le_refl _))).mono ?_
  rintro e w7 ⟨rfl, hb7⟩
  have B7 : Below w.heap.size w w7 := btr B6 hb7
  replace i5 := i5.below hb7 (Nat.le_refl _)
  replace i6 := i6.below hb7 (Nat.le_refl _)
  rw [HE.out]
  go_wp2_with fail
  refine (Slack_c _ _ _ _ _ (h.below B7 (Nat.le_refl _))).mono ?_
  rintro e w8 ⟨rfl, hb8⟩
  have B8 : Below w.heap.size w w8 := btr B7 hb8
  replace i5 := i5.below hb8 (Nat.le_refl _)
  replace i6 := i6.below hb8 (Nat.le_refl _)
  rw [HE.out, HT.out.so]
  go_wp2_with fail
  refine (Speed_c _ _ _ _ _ (h.below B8 (Nat.le_refl _))).mono ?_
  rintro e w9 ⟨rfl, hb9⟩
  have B9 : Below w.heap.size w w9 := btr B8 hb9
  replace i5 := i5.below hb9 (Nat.le_refl _)
  replace i6 := i6.below hb9 (Nat.le_refl _)
  rw [HE.out]
  go_wp2_with fail
  refine (Crowded_c _ _ _ _ _ (h.below (B9.alloc B9.size _) (Nat.le_refl _))).mono ?_
  rintro e w10 ⟨rfl, hb10⟩
  have ha10 : Below w9.heap.size w9 w10 := btr ((Below.refl _ _).alloc (Nat.le_refl _) _) hb10
  have hs : Cell2 w10 w9.heap.size (speedJ L).1 (speedJ L).2 := Cell2.below (w := w9.alloc (.cells #[.int .i64 (speedJ L).1, .int .i64 (speedJ L).2] 44)) ⟨by simp [go_sem], by simp [go_sem], by simp [go_sem], by simp [go_sem]⟩ hb10
  have B10 : Below w.heap.size w w10 := btr (B9.alloc B9.size _) hb10
  replace i5 := i5.below ha10 (Nat.le_refl _)
  replace i6 := i6.below ha10 (Nat.le_refl _)
  rw [HCR.out, HE.out]
  have hs0 := hs.c0
  have hs1 := hs.c1
  go_wp2_with fail
  refine (CheckCrowded_c _ _ _ _ _ _ _ (h.below B10 (Nat.le_refl _))).mono ?_
  rintro e w11 ⟨rfl, hb11⟩
  clear hs0 hs1
  have B11 : Below w.heap.size w w11 := btr B10 hb11
  replace i5 := i5.below hb11 (Nat.le_refl _)
  replace i6 := i6.below hb11 (Nat.le_refl _)
  replace hs := hs.below hb11
  rw [HC.out]
  have hs0 := hs.c0
  have hs1 := hs.c1
  go_wp2_with fail
  refine (CheckTable_c _ _ _ _ _ _ _ _ _ (h.below B11 (Nat.le_refl _)) (h2.below B11 (Nat.le_refl _)) hn2).mono ?_
  rintro e w12 ⟨rfl, hb12⟩
  clear hs0 hs1
  have B12 : Below w.heap.size w w12 := btr B11 hb12
  replace i5 := i5.below hb12 (Nat.le_refl _)
  replace i6 := i6.below hb12 (Nat.le_refl _)
  replace hs := hs.below hb12
  have hs0 := hs.c0
  have hs1 := hs.c1
  go_wp2_with fail
  refine (Turn_c _ _ _ _ _ (h.below B12 (Nat.le_refl _))).mono ?_
  rintro e w13 ⟨v13, rfl, hv13, hb13⟩
  clear hs0 hs1
  have B13 : Below w.heap.size w w13 := btr B12 hb13
  replace i5 := i5.below hb13 (Nat.le_refl _)
  replace i6 := i6.below hb13 (Nat.le_refl _)
  replace hs := hs.below hb13
  obtain ⟨a13, c13, e13, i13, l13, m13, q13⟩ := hv13
  rw [e13]
  clear e13 q13
  rw [HE.out]
  clear i5 l5 m5 i6 l6 m6
  clear hs
  go_wp2_with fail
  refine (CanKeep_c _ _ _ _ _ i13).mono ?_
  rintro e w14 ⟨rfl, hb14⟩
  have B14 : Below w.heap.size w w14 := btr B13 hb14
  replace i13 := i13.below hb14 (Nat.le_refl _)
  rw [HTK.out, HT.out.te]
  go_wp2_with fail
  refine (Turn_c _ _ _ _ _ i13).mono ?_
  rintro e w15 ⟨v15, rfl, hv15, hb15⟩
  have B15 : Below w.heap.size w w15 := btr B14 hb15
  replace i13 := i13.below hb15 (Nat.le_refl _)
  obtain ⟨a15, c15, e15, i15, l15, m15, q15⟩ := hv15
  rw [e15]
  clear e15 q15
  rw [HT.out.te]
  rw [HT.out.tt] at i15 l15 ⊢
  rw [← HLn.out] at i15 l15 ⊢
  clear i13 l13 m13
  have HIM := Lib.hid i15
  clear i15
  go_wp2_with fail
  go_loopw [30] (fun i wr => ∃ k : Nat, k ≤ n ∧ i = .int .i64 k ∧ Below w15.heap.size w15 wr) (fun i _ => n - (intOf i).toNat)
  case atStart => exact ⟨0, Nat.zero_le _, rfl, Below.refl _ _⟩
  case round =>
    obtain ⟨k, hk, rfl, hb⟩ := hrel
    have BB : Below w.heap.size w wr := btr B15 hb
    by_cases hlt : k < n
    · obtain ⟨b, o, rfl, hS⟩ : ∃ b o, a = some ⟨b, o, none⟩ ∧ Sl w b o n L := by
        rcases h.2 with h' | h'
        · omega
        · exact h'
      obtain ⟨bb, ob, rfl, hT⟩ : ∃ b o, a15 = some ⟨b, o, none⟩ ∧ Sl w15 b o n L := by
        rcases HIM.out.2 with h' | h'
        · omega
        · exact h'
      have hS' := hS.below BB (Nat.le_refl _)
      have k0 := cell_regrown (hS'.c0 k hlt)
      have k1 := cell_regrown (hS'.c1 k hlt)
      have k2 := cell_regrown (hS'.c2 k hlt)
      have hT' := hT.below hb (Nat.le_refl _)
      have m0 := cell_regrown (hT'.c0 k hlt)
      have m1' := cell_regrown (hT'.c1 k hlt)
      have m2' := cell_regrown (hT'.c2 k hlt)
      clear hS' hT' hS hT
      go_wp2_with fail
      refine wp_region_B (by kernel_rfl) (by kernel_rfl) ?_
      repeat (go_big_quiet_step (fail))
      refine wpQuiet_nil ?_
      intro w2 hb2
      go_wp2_with fail
      exact ⟨⟨k + 1, by omega, by go_num, btr hb hb2⟩, by simp [intOf]; omega⟩
    · have hd : ¬ (k : Int) < n := by omega
      clear HIM hlt l15 m15

      by_cases hq : mvErr L 0 y = 0
      case neg =>
        have hne : (mvErr L 0 y != 0) = true := by simpa using hq
        clear hq
        go_wp2_with fail
        refine (Relax_c _ _ _ _ _ _ (h.below BB (Nat.le_refl _))).mono ?_
        rintro e w21 ⟨v21, rfl, hv21, hb21⟩
        have B21 : Below w.heap.size w w21 := btr BB hb21
        obtain ⟨a21, c21, e21, i21, l21, m21, q21⟩ := hv21
        rw [e21]
        clear e21 q21
        go_wp2_with fail
        go_ret
        exact ⟨rfl, B21⟩
      have hne : (mvErr L 0 y != 0) = false := by simp [hq]
      by_cases hn : n = 0
      case pos =>
        have dn : ((n : Int) == 0) = true := by simp [hn]
        clear hq hn
        go_wp2_with fail
        refine (Relax_c _ _ _ _ _ _ (h.below BB (Nat.le_refl _))).mono ?_
        rintro e w21 ⟨v21, rfl, hv21, hb21⟩
        have B21 : Below w.heap.size w w21 := btr BB hb21
        obtain ⟨a21, c21, e21, i21, l21, m21, q21⟩ := hv21
        rw [e21]
        clear e21 q21
        go_wp2_with fail
        go_ret
        exact ⟨rfl, B21⟩
      have dn : ((n : Int) == 0) = false := by rw [beq_eq_false_iff_ne]; omega
      obtain ⟨f1, f2, f3, f4, f5, f6⟩ := top_relax hq (by have := HLn.out; omega)
      have F1 := Lib.hid f1
      have F2 := Lib.hid f2
      clear f1 f2 hq
      by_cases hy : y < 0
      case pos =>
        have dy : decide (y < 0) = true := decT hy
        go_wp2_with fail
        refine (Relax_c _ _ _ _ _ _ (h.below BB (Nat.le_refl _))).mono ?_
        rintro e w21 ⟨v21, rfl, hv21, hb21⟩
        have B21 : Below w.heap.size w w21 := btr BB hb21
        obtain ⟨a21, c21, e21, i21, l21, m21, q21⟩ := hv21
        rw [e21]
        clear e21 q21
        go_wp2_with fail
        go_ret
        exact ⟨rfl, B21⟩
      have dy : decide (y < 0) = false := decF hy
      have dy2 : decide (60 < y) = false := decF (by omega)
      go_wp2_with fail
      refine (Relax_c _ _ _ _ _ _ (h.below BB (Nat.le_refl _))).mono ?_
      rintro e w21 ⟨v21, rfl, hv21, hb21⟩
      have B21 : Below w.heap.size w w21 := btr BB hb21
      obtain ⟨a21, c21, e21, i21, l21, m21, q21⟩ := hv21
      rw [e21]
      clear e21 q21
      go_wp2_with fail
      refine (Late_c _ _ _ _ _ i21).mono ?_
      rintro e w22 ⟨rfl, hb22⟩
      have B22 : Below w.heap.size w w22 := btr B21 hb22
      replace i21 := i21.below hb22 (Nat.le_refl _)
      rw [F1.out, F2.out]
      go_wp2_with fail
      go_ret
      exact ⟨rfl, B22⟩

set_option maxRecDepth 100000 in
set_option maxHeartbeats 3200000 in
theorem top_w (a : Option Addr) (n c : Nat) (L : List Jb) (a2 : Option Addr) (n2 c2 : Nat) (xs : List Int) (y : Int) (w : World) (h : SlO w a n L) (hc : n ≤ c) (hm : c ≤ maxLen) (h2 : IsO w a2 n2 xs) (hc2 : n2 ≤ c2) (hm2 : c2 ≤ maxLen) :
    Calls Try.prog 5 #[.slice a n c, .slice a2 n2 c2, .int .i64 y] w fun e w' => e = .returned (.bool true) ∧ Below w.heap.size w w' := by
  cases hl : longB n
  case true => exact top_long a n c L a2 n2 c2 xs y w h hc hm h2 hc2 hm2 hl
  case false =>
    by_cases ht : 1000 < n2
    · exact top_big a n c L a2 n2 c2 xs y w h hc hm h2 hc2 hm2 hl ht
    · by_cases h0 : vErr L = 0
      · cases hk : ckB L
        · exact top_c a n c L a2 n2 c2 xs y w h hc hm h2 hc2 hm2 hl ht h0 hk
        · by_cases hx : ckErr L xs = 0
          · exact top_a a n c L a2 n2 c2 xs y w h hc hm h2 hc2 hm2 hl ht h0 hk hx
          · exact top_b a n c L a2 n2 c2 xs y w h hc hm h2 hc2 hm2 hl ht h0 hk hx
      · exact top_err a n c L a2 n2 c2 xs y w h hc hm h2 hc2 hm2 hl ht h0
end Go.Proofs.Ytbmbogaejmgloaa
