/- Whether jobs can be kept, the table that keeps them, which tables keep them: program and reference. -/
import Derived.Test.YtbmbogaejmgloaaE2
import Derived.Test.YtbmbogaejmgloaaD
namespace Go.Proofs.Ytbmbogaejmgloaa
open Go.RowKit Go.Sort

def ckB (L : List Jb) : Bool := decide (vErr L = 0) && decide (lateJ L ≤ 0)
def taR (L : List Jb) : List Int := if ckB L then tbl (edf L) L else []

theorem ckB_cr {L : List Jb} (h : vErr L = 0) : ckB L = !(crO L).isSome := by
  rw [crO_late (vErr_zero.1 h)]
  unfold ckB
  rw [decT h]
  by_cases h2 : lateJ L ≤ 0
  · rw [decT h2, decF (by omega)]; rfl
  · rw [decF h2, decT (by omega)]; rfl

/-- A bool and an error number come back. -/
def RetB (w : World) (L : List Jb) (e : Ending) (w' : World) : Prop :=
  e = .returned (.tuple #[.bool (ckB L), .int .i64 (vErr L)]) ∧ Below w.heap.size w w'

theorem CanKeep_c (a : Option Addr) (n c : Nat) (L : List Jb) (w : World) (h : SlO w a n L) : Calls Try.prog 25 #[.slice a n c] w (RetB w L) := by
  by_cases h0 : vErr L = 0
  · have hne : (vErr L != 0) = false := by simp [h0]
    have hv := vErr_zero.1 h0
    have HR : Hid (ckB L = decide (lateJ L ≤ 0)) := Lib.hid (by unfold ckB; rw [decT h0]; rfl)
    have HE := Lib.hid h0
    have hlb := lateJ_bd hv
    clear h0
    go_enter Try.func25, Try.ntmps25
    go_wp2_with fail
    refine (Validate_c _ _ _ _ _ h).mono ?_
    rintro e w1 ⟨rfl, hb⟩
    go_wp2_with fail
    refine (late_c _ _ _ _ _ (h.below hb (Nat.le_refl _)) hv).mono ?_
    rintro e w2 ⟨rfl, hb2⟩
    by_cases hl : lateJ L ≤ 0
    · have dl := decT hl
      have HL := Lib.hid dl
      go_wp2_with fail
      go_ret2
      exact ⟨by rw [HR.out, HE.out, HL.out]; rfl, btr hb hb2⟩
    · have dl := decF hl
      have HL := Lib.hid dl
      go_wp2_with fail
      go_ret2
      exact ⟨by rw [HR.out, HE.out, HL.out]; rfl, btr hb hb2⟩
  · have hne : (vErr L != 0) = true := by simpa using h0
    have HR : Hid (ckB L = false) := Lib.hid (by unfold ckB; rw [decF h0]; rfl)
    clear h0
    go_enter Try.func25, Try.ntmps25
    go_wp2_with fail
    refine (Validate_c _ _ _ _ _ h).mono ?_
    rintro e w1 ⟨rfl, hb⟩
    go_wp2_with fail
    go_ret2
    exact ⟨by rw [HR.out]; rfl, hb⟩

theorem rCanKeep_c (a : Option Addr) (n c : Nat) (L : List Jb) (w : World) (h : SlO w a n L) : Calls Try.prog 38 #[.slice a n c] w (RetB w L) := by
  by_cases h0 : vErr L = 0
  · have hne : (vErr L != 0) = false := by simp [h0]
    have HR : Hid (ckB L = (crO L).isNone) := Lib.hid (by rw [ckB_cr h0]; cases crO L <;> rfl)
    have HE := Lib.hid h0
    clear h0
    go_enter Try.func38, Try.ntmps38
    go_wp2_with fail
    refine (rValidate_c _ _ _ _ _ h).mono ?_
    rintro e w1 ⟨rfl, hb⟩
    go_wp2_with fail
    refine (rCrowded_c _ _ _ _ _ (h.below hb (Nat.le_refl _))).mono ?_
    rintro e w2 ⟨rfl, hb2⟩
    go_wp2_with fail
    go_ret2
    exact ⟨by rw [HR.out, HE.out]; rfl, btr hb hb2⟩
  · have hne : (vErr L != 0) = true := by simpa using h0
    have HR : Hid (ckB L = false) := Lib.hid (by unfold ckB; rw [decF h0]; rfl)
    clear h0
    go_enter Try.func38, Try.ntmps38
    go_wp2_with fail
    refine (rValidate_c _ _ _ _ _ h).mono ?_
    rintro e w1 ⟨rfl, hb⟩
    go_wp2_with fail
    go_ret2
    exact ⟨by rw [HR.out]; rfl, hb⟩

theorem Table_c (a : Option Addr) (n c : Nat) (L : List Jb) (w : World) (h : SlO w a n L) : Calls Try.prog 27 #[.slice a n c] w (RetIs w (taR L) (ckB L) (vErr L)) := by
  by_cases h0 : vErr L = 0
  · have hne : (vErr L != 0) = false := by simp [h0]
    have hv := vErr_zero.1 h0
    have HE := Lib.hid h0
    by_cases hl : lateJ L ≤ 0
    · have HR : Hid (ckB L = true) := Lib.hid (by unfold ckB; rw [decT h0, decT hl]; rfl)
      have HT : Hid (taR L = tbl (edf L) L) := Lib.hid (by unfold taR; rw [HR.out]; rfl)
      rw [HT.out, HR.out]
      have dl : decide (0 < lateJ L) = false := decF (by omega)
      clear h0
      go_enter Try.func27, Try.ntmps27
      go_wp2_with fail
      refine (Validate_c _ _ _ _ _ h).mono ?_
      rintro e w1 ⟨rfl, hb⟩
      have h1 := h.below hb (Nat.le_refl _)
      go_wp2_with fail
      refine (late_c _ _ _ _ _ h1 hv).mono ?_
      rintro e w2 ⟨rfl, hb2⟩
      have h2 := h1.below hb2 (Nat.le_refl _)
      have B2 := btr hb hb2
      go_wp2_with fail
      refine (urgent_c _ _ _ _ _ h2 hv).mono ?_
      rintro e w3 ⟨v3, rfl, hv3, hb3⟩
      go_wp2_with fail
      go_ret3
      exact ⟨v3, by rw [HE.out]; rfl, hv3.mono B2.size, btr B2 hb3⟩
    · have HR : Hid (ckB L = false) := Lib.hid (by unfold ckB; rw [decT h0, decF hl]; rfl)
      have HT : Hid (taR L = []) := Lib.hid (by unfold taR; rw [HR.out]; rfl)
      rw [HT.out, HR.out]
      have dl : decide (0 < lateJ L) = true := decT (by omega)
      clear h0
      go_enter Try.func27, Try.ntmps27
      go_wp2_with fail
      refine (Validate_c _ _ _ _ _ h).mono ?_
      rintro e w1 ⟨rfl, hb⟩
      have h1 := h.below hb (Nat.le_refl _)
      go_wp2_with fail
      refine (late_c _ _ _ _ _ h1 hv).mono ?_
      rintro e w2 ⟨rfl, hb2⟩
      go_wp2_with fail
      go_ret3
      exact ⟨_, by rw [HE.out]; rfl, IsV.nil _ _, btr hb hb2⟩
  · have hne : (vErr L != 0) = true := by simpa using h0
    have HR : Hid (ckB L = false) := Lib.hid (by unfold ckB; rw [decF h0]; rfl)
    have HT : Hid (taR L = []) := Lib.hid (by unfold taR; rw [HR.out]; rfl)
    rw [HT.out, HR.out]
    clear h0
    go_enter Try.func27, Try.ntmps27
    go_wp2_with fail
    refine (Validate_c _ _ _ _ _ h).mono ?_
    rintro e w1 ⟨rfl, hb⟩
    go_wp2_with fail
    go_ret3
    exact ⟨_, rfl, IsV.nil _ _, hb⟩

/-! ### slices.ContainsFunc -/

/-- The first index, or -1. -/
def iF (p : Nat → Bool) (n : Nat) : Int := match scanJ p n 0 with | some k => (k : Int) | none => -1
theorem iF_some {p : Nat → Bool} {n k : Nat} (h : scanJ p n 0 = some k) : iF p n = k := by simp [iF, h]
theorem iF_none {p : Nat → Bool} {n : Nat} (h : scanJ p n 0 = none) : iF p n = -1 := by simp [iF, h]
theorem iF_ge {p : Nat → Bool} {n : Nat} : decide (0 ≤ iF p n) = (scanJ p n 0).isSome := by
  unfold iF
  cases scanJ p n 0 <;> simp
theorem iF_bd {p : Nat → Bool} {n : Nat} : -1 ≤ iF p n := by
  unfold iF
  cases scanJ p n 0 <;> simp

theorem clo63 (x : Int) (B : Nat) (a : Option Addr) (n c : Nat) (w : World) (hc : w.cell? ⟨B, 0, none⟩ = some (.slice a n c)) :
    Calls Try.prog 63 #[.int .i64 x, .pointer (some ⟨B, 0, none⟩)] w fun e w' => e = .returned (.bool (!inB x (-1) ((n : Int) - 1))) ∧ Below w.heap.size w w' := by
  by_cases h1 : x < -1
  · have d1 := decT h1
    have hr : inB x (-1) ((n : Int) - 1) = false := inB_false.2 (by omega)
    rw [hr]; clear hr
    go_enter Try.func63, Try.ntmps63
    go_wp2_with fail
    go_ret
    exact ⟨rfl, Below.refl _ _⟩
  · have d1 := decF h1
    by_cases h2 : (n : Int) ≤ x
    · have d2 := decT h2
      have hr : inB x (-1) ((n : Int) - 1) = false := inB_false.2 (by omega)
      rw [hr]; clear hr
      go_enter Try.func63, Try.ntmps63
      go_wp2_with fail
      go_ret
      exact ⟨rfl, Below.refl _ _⟩
    · have d2 := decF h2
      have hr : inB x (-1) ((n : Int) - 1) = true := inB_true.2 (by omega)
      rw [hr]; clear hr
      go_enter Try.func63, Try.ntmps63
      go_wp2_with fail
      go_ret
      exact ⟨rfl, Below.refl _ _⟩

def badM (n : Nat) (xs : List Int) (i : Nat) : Bool := !inB (gi xs i) (-1) ((n : Int) - 1)

theorem idx_63 (a : Option Addr) (n c : Nat) (xs : List Int) (B : Nat) (a' : Option Addr) (n' c' : Nat) (w : World) (h : IsO w a n xs) (hn : n ≤ 9223372036854775807) (hc : w.cell? ⟨B, 0, none⟩ = some (.slice a' n' c')) : Calls Try.prog 77 #[.slice a n c, .func (.func 63) #[] #[.pointer (some ⟨B, 0, none⟩)]] w fun e w' => e = .returned (.int .i64 (iF (badM n' xs) n)) ∧ Below w.heap.size w w' := by
  have HH := Lib.hid h
  have HC := Lib.hid hc
  clear hc
  have HI : Hid (∀ k, scanJ (badM n' xs) n 0 = some k → iF (badM n' xs) n = k) := fun k hk => iF_some hk
  have HI2 : Hid (scanJ (badM n' xs) n 0 = none → iF (badM n' xs) n = -1) := fun hk => iF_none hk
  generalize iF (badM n' xs) n = R at *
  clear h
  go_enter Try.func77, Try.ntmps77
  go_wp2_with fail
  go_loopw [8] (fun i wr => ∃ k : Nat, k ≤ n ∧ i = .int .i64 k ∧ Below w.heap.size w wr ∧ scanJ (badM n' xs) n 0 = scanJ (badM n' xs) (n - k) k) (fun i _ => n - (intOf i).toNat)
  case atStart => exact ⟨0, Nat.zero_le _, rfl, Below.refl _ _, rfl⟩
  case round =>
    obtain ⟨k, hk, rfl, hb, hF⟩ := hrel
    have HF := Lib.hid hF
    clear hF
    by_cases hlt : k < n
    · obtain ⟨b, o, rfl, hS⟩ : ∃ b o, a = some ⟨b, o, none⟩ ∧ Is w b o n xs := by
        rcases HH.out.2 with h' | h'
        · omega
        · exact h'
      have c0 := (hS.below hb (Nat.le_refl _)).c0 k hlt
      have HLT := Lib.hid hlt
      clear hS
      go_wp2_with fail
      refine (clo63 _ _ _ _ _ _ (cellB hb HC.out)).mono ?_
      rintro e w2 ⟨rfl, hb2⟩
      have HP : Hid ((badM n' xs) k = (!inB (gi xs k) (-1) ((n' : Int) - 1))) := Lib.hid rfl
      cases hp : inB (gi xs k) (-1) ((n' : Int) - 1)
      · have HPP := Lib.hid hp
        clear hp
        go_wp2_with fail
        go_ret
        exact ⟨by rw [HI.out k (by rw [HF.out, scan_yes HLT.out (by rw [HP.out, HPP.out]; rfl)])]; rfl, btr hb hb2⟩
      · have HPP := Lib.hid hp
        clear hp
        go_wp2_with fail
        exact ⟨⟨k + 1, by omega, by go_num, btr hb hb2, by rw [HF.out, scan_no HLT.out (by rw [HP.out, HPP.out]; rfl)]⟩, by simp [intOf]; omega⟩
    · have HK := Lib.hid hlt
      have hd : ¬ (k : Int) < n := by omega
      clear hlt
      go_wp2_with fail
      go_ret
      exact ⟨by rw [HI2.out (by rw [HF.out, scan_end HK.out])]; rfl, hb⟩

theorem has_63 (a : Option Addr) (n c : Nat) (xs : List Int) (B : Nat) (a' : Option Addr) (n' c' : Nat) (w : World) (h : IsO w a n xs) (hn : n ≤ 9223372036854775807) (hc : w.cell? ⟨B, 0, none⟩ = some (.slice a' n' c')) : Calls Try.prog 58 #[.slice a n c, .func (.func 63) #[] #[.pointer (some ⟨B, 0, none⟩)]] w fun e w' => e = .returned (.bool (scanJ (badM n' xs) n 0).isSome) ∧ Below w.heap.size w w' := by
  rw [← iF_ge]
  have hR := iF_bd (p := badM n' xs) (n := n)
  have HX := Lib.hid (idx_63 a n c xs B a' n' c' w h hn hc)
  generalize iF (badM n' xs) n = R at *
  clear h hn hc
  go_enter Try.func58, Try.ntmps58
  go_wp2_with fail
  refine HX.out.mono ?_
  rintro e w1 ⟨rfl, hb⟩
  go_wp2_with fail
  go_ret
  exact ⟨rfl, hb⟩

section
variable {L : List Jb} {xs : List Int}
theorem kt_v (h0 : ¬ vErr L = 0) : ckErr L xs = vErr L := by unfold ckErr; rw [if_pos h0]
theorem kt_3 (h0 : vErr L = 0) (h1 : 60 < xs.length) : ckErr L xs = 3 := by unfold ckErr; rw [if_neg (by simp [h0]), if_pos h1]
theorem kt_1 (h0 : vErr L = 0) (h1 : ¬ 60 < xs.length) (h2 : (scanJ (badN L xs) xs.length 0).isSome = true) : ckErr L xs = 1 := by unfold ckErr; rw [if_neg (by simp [h0]), if_neg h1, if_pos h2]
theorem kt_8 (h0 : vErr L = 0) (h1 : ¬ 60 < xs.length) (h2 : (scanJ (badN L xs) xs.length 0).isSome = false) (h3 : (scanJ (badT L xs) xs.length 0).isSome = true) : ckErr L xs = 8 := by unfold ckErr; rw [if_neg (by simp [h0]), if_neg h1, if_neg (by simp [h2]), if_pos h3]
theorem kt_7 (h0 : vErr L = 0) (h1 : ¬ 60 < xs.length) (h2 : (scanJ (badN L xs) xs.length 0).isSome = false) (h3 : (scanJ (badT L xs) xs.length 0).isSome = false) (h4 : (scanJ (badD L xs) L.length 0).isSome = true) : ckErr L xs = 7 := by unfold ckErr; rw [if_neg (by simp [h0]), if_neg h1, if_neg (by simp [h2]), if_neg (by simp [h3]), if_pos h4]
theorem kt_0 (h0 : vErr L = 0) (h1 : ¬ 60 < xs.length) (h2 : (scanJ (badN L xs) xs.length 0).isSome = false) (h3 : (scanJ (badT L xs) xs.length 0).isSome = false) (h4 : (scanJ (badD L xs) L.length 0).isSome = false) : ckErr L xs = 0 := by unfold ckErr; rw [if_neg (by simp [h0]), if_neg h1, if_neg (by simp [h2]), if_neg (by simp [h3]), if_neg (by simp [h4])]
end
theorem badM_eq {L : List Jb} {xs : List Int} {n : Nat} (h : n = L.length) : badM n xs = badN L xs := by subst h; rfl

theorem cnt_upd {f : Nat → Int} {t j : Nat} (h : f t = (j : Int)) (i : Nat) : (if i = j then Value.int .i64 (cnt f t j + 1) else .int .i64 (cnt f t i)) = .int .i64 (cnt f (t + 1) i) := by
  by_cases hij : i = j
  · subst hij
    rw [if_pos rfl, cnt_yes h]
  · rw [if_neg hij, cnt_no (by rw [h]; omega)]
theorem cnt_keep {f : Nat → Int} {t : Nat} (h : f t < 0) (i : Nat) : cnt f t i = cnt f (t + 1) i := by rw [cnt_no (by omega)]

theorem badT_neg {L : List Jb} {xs : List Int} {t : Nat} (h : gi xs t < 0) : badT L xs t = false := by
  unfold badT; rw [decF (by omega)]; rfl
theorem badT_at {L : List Jb} {xs : List Int} {t j : Nat} (h : gi xs t = (j : Int)) : badT L xs t = (decide ((t : Int) < (at_ L j).s) || decide ((at_ L j).e ≤ t)) := by
  unfold badT; rw [h, decT (by omega)]; rfl

set_option maxRecDepth 100000 in
set_option maxHeartbeats 3200000 in
theorem CheckTable_c (a : Option Addr) (n c : Nat) (L : List Jb) (a2 : Option Addr) (n2 c2 : Nat) (xs : List Int) (w : World) (h : SlO w a n L) (h2 : IsO w a2 n2 xs) (hn2 : n2 ≤ 9223372036854775807) :
    Calls Try.prog 31 #[.slice a n c, .slice a2 n2 c2] w fun e w' => e = .returned (.int .i64 (ckErr L xs)) ∧ Below w.heap.size w w' := by
  have hA : Below w.heap.size w (w.alloc (.cells #[.slice a n c] 22)) := (Below.refl _ _).alloc (Nat.le_refl _) _
  have HA := Lib.hid hA
  have HA3 : Hid ((w.alloc (.cells #[.slice a n c] 22)).cell? ⟨w.heap.size, 0, none⟩ = some (.slice a n c)) := Lib.hid (by simp [go_sem])
  have HAL : Hid ((w.alloc (.cells #[.slice a n c] 22)).heap.size = w.heap.size + 1) := Lib.hid (by simp)
  clear hA
  by_cases h0 : vErr L = 0
  · have hne : (vErr L != 0) = false := by simp [h0]
    have hv := vErr_zero.1 h0
    have HV := Lib.hid hv
    have HE := Lib.hid h0
    have HLn : Hid (n = L.length) := Lib.hid h.1
    have HLx : Hid (n2 = xs.length) := Lib.hid h2.1
    have h8 : n ≤ 8 := by have := hv.le; have := h.1; omega
    clear h0 hv
    by_cases h60 : 60 < n2
    · have d60 : decide (60 < n2) = true := decT h60
      have hR : ckErr L xs = 3 := kt_3 HE.out (by rw [← HLx.out]; exact h60)
      rw [hR]
      clear hR
      go_enter Try.func31, Try.ntmps31
      go_wp2_with fail
      refine (Validate_c _ _ _ _ _ (h.below HA.out (Nat.le_refl _))).mono ?_
      rintro e w1 ⟨rfl, hb1⟩
      go_wp2_with fail
      go_ret
      exact ⟨rfl, btr HA.out hb1⟩
    · have d60 : decide (60 < n2) = false := decF h60
      have H60 : Hid (¬ 60 < xs.length) := Lib.hid (by rw [← HLx.out]; exact h60)
      have H2 := Lib.hid h2
      have H := Lib.hid h
      have HBM := Lib.hid (badM_eq (xs := xs) HLn.out)
      cases hbn : (scanJ (badN L xs) n2 0).isSome with
      | true =>
        have hR : ckErr L xs = 1 := kt_1 HE.out H60.out (by rw [← HLx.out]; exact hbn)
        rw [hR]
        clear hR
        go_enter Try.func31, Try.ntmps31
        go_wp2_with fail
        refine (Validate_c _ _ _ _ _ (H.out.below HA.out (Nat.le_refl _))).mono ?_
        rintro e w1 ⟨rfl, hb1⟩
        have C1 := cellB hb1 HA3.out
        have B1 := btr HA.out hb1
        go_wp2_with fail
        refine (has_63 _ _ _ _ _ _ _ _ _ (H2.out.below B1 (Nat.le_refl _)) hn2 C1).mono ?_
        rintro e w2 ⟨rfl, hb2⟩
        rw [HBM.out]
        simp only [hbn]
        go_wp2_with fail
        go_ret
        exact ⟨rfl, btr B1 hb2⟩
      | false =>
        have HBN : Hid ((scanJ (badN L xs) xs.length 0).isSome = false) := Lib.hid (by rw [← HLx.out]; exact hbn)
        have HIN : Hid (∀ k, k < n2 → -1 ≤ gi xs k ∧ gi xs k < n) := Lib.hid (fun k hk => by
          have := scan_none.1 HBN.out k (by rw [← HLx.out]; exact hk)
          simp [badN, inB] at this
          rw [HLn.out]; omega)
        have hml : ∀ w : World, (Instr.makeSlice 23 (.int .i64 (n : Int)) (.int .i64 (n : Int))).run Try.prog w = .ok (.slice (some ⟨w.heap.size, 0, none⟩) n n) (w.alloc (.cells (madeCells #[.int .i64 0] n) 3)) := run_make_row' (P := Try.prog) 23 3 (.int .i64 0) 8 Try.underlying23 info3 rfl .i64 .i64 n (by omega) (by omega)
        have HML := Lib.hid hml
        clear hml h h2
        go_enter Try.func31, Try.ntmps31
        go_wp2_with fail
        refine (Validate_c _ _ _ _ _ (H.out.below HA.out (Nat.le_refl _))).mono ?_
        rintro e w1 ⟨rfl, hb1⟩
        have C1 := cellB hb1 HA3.out
        have B1 := btr HA.out hb1
        go_wp2_with fail
        refine (has_63 _ _ _ _ _ _ _ _ _ (H2.out.below B1 (Nat.le_refl _)) hn2 C1).mono ?_
        rintro e w2 ⟨rfl, hb2⟩
        rw [HBM.out]
        simp only [hbn]
        have C2 := cellB hb2 C1
        have B2 := btr B1 hb2
        have hml := HML.out
        have hwl : w.heap.size < w2.heap.size := by have := HAL.out; have := (btr hb1 hb2).size; omega
        clear hb1 hb2 C1 B1 hbn
        go_wp2_with fail
        clear hml
        have hrow := World.rowIs_made w2 (.int .i64 0) n 3
        have HX : Hid (Below w2.heap.size w2 (w2.alloc (.cells (madeCells #[.int .i64 0] n) 3))) := Lib.hid ((Below.refl _ _).alloc (Nat.le_refl _) _)
        have HRW : Hid ((w2.alloc (.cells (madeCells #[.int .i64 0] n) 3)).rowIs w2.heap.size 3 n (fun j => .int .i64 (cnt (gi xs) 0 j))) := Lib.hid hrow
        have HC2 := Lib.hid C2
        clear hrow C2
        go_loopw [26] (fun i wr => ∃ k : Nat, k ≤ n2 ∧ i = .int .i64 k ∧ Below w2.heap.size w2 wr ∧ wr.rowIs w2.heap.size 3 n (fun j => .int .i64 (cnt (gi xs) k j)) ∧ scanJ (badT L xs) n2 0 = scanJ (badT L xs) (n2 - k) k) (fun i _ => n2 - (intOf i).toNat)
        case atStart => exact ⟨0, Nat.zero_le _, rfl, HX.out, HRW.out, rfl⟩
        case round =>
          obtain ⟨k, hk, rfl, hb, hrw, hF⟩ := hrel
          have HF := Lib.hid hF
          have HRW2 := Lib.hid hrw
          clear hrw HX HRW hF
          by_cases hlt : k < n2
          · obtain ⟨b2, o2, hab, hI⟩ : ∃ b o, a2 = some ⟨b, o, none⟩ ∧ Is w b o n2 xs := by
              rcases H2.out.2 with h' | h'
              · omega
              · exact h'
            subst hab
            have c0 := (hI.below (btr B2 hb) (Nat.le_refl _)).c0 k hlt
            have HLT := Lib.hid hlt
            have ha := HIN.out k hlt
            obtain ⟨g1, g2⟩ := ha
            have cc := cellB hb HC2.out
            clear hI
            by_cases h0 : 0 ≤ gi xs k
            · obtain ⟨j, hj⟩ : ∃ j : Nat, gi xs k = j := ⟨(gi xs k).toNat, by omega⟩
              have HJ := Lib.hid hj
              have HBT := Lib.hid (badT_at (L := L) hj)
              rw [hj] at c0 g1 g2 h0
              have hjn : j < n := by omega
              obtain ⟨b, o, hab, hS⟩ : ∃ b o, a = some ⟨b, o, none⟩ ∧ Sl w b o n L := by
                rcases H.out.2 with h' | h'
                · omega
                · exact h'
              subst hab
              have s0 := (hS.below (btr B2 hb) (Nat.le_refl _)).c0 j hjn
              have s1 := (hS.below (btr B2 hb) (Nat.le_refl _)).c1 j hjn
              have cr := HRW2.out.cell hjn
              have cz := HRW2.out.frozen j
              have hcb := cnt_bd (gi xs) j k
              obtain ⟨x1, x2⟩ := hcb
              have dj : decide ((j : Int) < 0) = false := decF (by omega)
              clear hj h0 hS
              by_cases t1 : (k : Int) < (at_ L j).s
              · have e1 := decT t1
                have HB : Hid (badT L xs k = true) := Lib.hid (by rw [HBT.out, e1]; rfl)
                clear t1
                go_wp2_with fail
                go_ret
                exact ⟨by rw [kt_8 HE.out H60.out HBN.out (by rw [← HLx.out, HF.out, scan_yes HLT.out HB.out]; rfl)]; rfl, btr B2 hb⟩
              · have e1 := decF t1
                by_cases t2 : (at_ L j).e ≤ k
                · have e2 := decT t2
                  have HB : Hid (badT L xs k = true) := Lib.hid (by rw [HBT.out, e1, e2]; rfl)
                  clear t1 t2
                  go_wp2_with fail
                  go_ret
                  exact ⟨by rw [kt_8 HE.out H60.out HBN.out (by rw [← HLx.out, HF.out, scan_yes HLT.out HB.out]; rfl)]; rfl, btr B2 hb⟩
                · have e2 := decF t2
                  have HB : Hid (badT L xs k = false) := Lib.hid (by rw [HBT.out, e1, e2]; rfl)
                  clear t1 t2
                  go_wp2_with fail
                  have hrw3 := HRW2.out.set j (.int .i64 (cnt (gi xs) k j + 1))
                  exact ⟨⟨k + 1, by omega, by go_num, hb.setCell (Nat.le_refl _) _, hrw3.congr fun i _ => cnt_upd HJ.out i, by rw [HF.out, scan_no HLT.out HB.out]⟩, by simp [intOf]; omega⟩
            · have d0 := decF h0
              have dn : decide (gi xs k < 0) = true := decT (by omega)
              have HG : Hid (gi xs k < 0) := Lib.hid (by omega)
              have HB := Lib.hid (badT_neg (L := L) HG.out)
              clear h0
              go_wp2_with fail
              exact ⟨⟨k + 1, by omega, by go_num, hb, HRW2.out.congr fun i _ => by show Value.int .i64 _ = .int .i64 _; rw [cnt_keep HG.out], by rw [HF.out, scan_no HLT.out HB.out]⟩, by simp [intOf]; omega⟩
          · have hkn : k = n2 := by omega
            have hd : ¬ (k : Int) < n2 := by omega
            have HK := Lib.hid hlt
            have HKN := Lib.hid hkn
            have HBT : Hid ((scanJ (badT L xs) xs.length 0).isSome = false) := Lib.hid (by rw [← HLx.out, HF.out, scan_end HK.out]; rfl)
            have HRW3 : Hid (wr.rowIs w2.heap.size 3 n (fun j => .int .i64 (cnt (gi xs) n2 j))) := Lib.hid (by rw [← HKN.out]; exact HRW2.out)
            have cc := cellB hb HC2.out
            clear hlt hkn
            go_wp2_with fail
            obtain ⟨w3, hw3⟩ : ∃ w3 : World, w3 = wr := ⟨_, rfl⟩
            rw [← hw3] at hb HRW3 cc ⊢
            clear hw3 HRW2 wr
            have B3 := btr B2 hb
            have HCC := Lib.hid cc
            clear hb hd cc
            go_loopw [58] (fun i wr => ∃ j : Nat, j ≤ n ∧ i = .int .i64 j ∧ Below w3.heap.size w3 wr ∧ scanJ (badD L xs) n 0 = scanJ (badD L xs) (n - j) j) (fun i _ => n - (intOf i).toNat)
            case atStart => exact ⟨0, Nat.zero_le _, rfl, Below.refl _ _, rfl⟩
            case round =>
              obtain ⟨j, hj, rfl, hb, hG⟩ := hrel
              have HG := Lib.hid hG
              clear hG
              by_cases hlt : j < n
              · obtain ⟨b, o, hab, hS⟩ : ∃ b o, a = some ⟨b, o, none⟩ ∧ Sl w b o n L := by
                  rcases H.out.2 with h' | h'
                  · omega
                  · exact h'
                subst hab
                have k2 := cell_regrown ((hS.below (btr B3 hb) (Nat.le_refl _)).c2 j hlt)
                have kr := cell_regrown ((rowIs_below HRW3.out hb).cell hlt)
                have cc := cellB hb HCC.out
                have kc := cell_regrown cc
                have HLT := Lib.hid hlt
                have HD0 : Hid (badD L xs j = decide (cnt (gi xs) n2 j ≠ nd L j)) := Lib.hid (by rw [HLx.out]; rfl)
                clear hS
                by_cases hq : cnt (gi xs) n2 j = (at_ L j).d
                · have dq : (cnt (gi xs) n2 j != (at_ L j).d) = false := by simp [hq]
                  have HB : Hid (badD L xs j = false) := Lib.hid (by rw [HD0.out]; exact decF (fun h => h hq))
                  clear hq
                  go_wp2_with fail
                  refine wp_region_B (by kernel_rfl) (by kernel_rfl) ?_
                  repeat (go_big_quiet_step (fail))
                  refine wpQuiet_nil ?_
                  intro w4 hb4
                  go_wp2_with fail
                  exact ⟨⟨j + 1, by omega, by go_num, btr hb hb4, by rw [HG.out, scan_no HLT.out HB.out]⟩, by simp [intOf]; omega⟩
                · have dq : (cnt (gi xs) n2 j != (at_ L j).d) = true := by simpa using hq
                  have HB : Hid (badD L xs j = true) := Lib.hid (by rw [HD0.out]; exact decT hq)
                  clear hq
                  go_wp2_with fail
                  refine wp_region_B (by kernel_rfl) (by kernel_rfl) ?_
                  repeat (go_big_quiet_step (fail))
                  refine wpQuiet_nil ?_
                  intro w4 hb4
                  go_wp2_with fail
                  go_ret
                  exact ⟨by rw [kt_7 HE.out H60.out HBN.out HBT.out (by rw [← HLn.out, HG.out, scan_yes HLT.out HB.out]; rfl)]; rfl, btr B3 (btr hb hb4)⟩
              · have hd : ¬ (j : Int) < n := by omega
                have HK2 := Lib.hid hlt
                have cc := cellB hb HCC.out
                clear hlt
                go_wp2_with fail
                go_ret
                exact ⟨by rw [kt_0 HE.out H60.out HBN.out HBT.out (by rw [← HLn.out, HG.out, scan_end HK2.out]; rfl)]; rfl, btr B3 hb⟩
  · have hne : (vErr L != 0) = true := by simpa using h0
    have hR := kt_v (xs := xs) h0
    rw [hR]
    clear hR h0
    go_enter Try.func31, Try.ntmps31
    go_wp2_with fail
    refine (Validate_c _ _ _ _ _ (h.below HA.out (Nat.le_refl _))).mono ?_
    rintro e w1 ⟨rfl, hb1⟩
    go_wp2_with fail
    go_ret
    exact ⟨rfl, btr HA.out hb1⟩

set_option maxRecDepth 100000 in
set_option maxHeartbeats 3200000 in
theorem rCheckTable_c (a : Option Addr) (n c : Nat) (L : List Jb) (a2 : Option Addr) (n2 c2 : Nat) (xs : List Int) (w : World) (h : SlO w a n L) (h2 : IsO w a2 n2 xs) (hn2 : n2 ≤ 9223372036854775807) :
    Calls Try.prog 39 #[.slice a n c, .slice a2 n2 c2] w fun e w' => e = .returned (.int .i64 (ckErr L xs)) ∧ Below w.heap.size w w' := by
  by_cases h0 : vErr L = 0
  · have hne : (vErr L != 0) = false := by simp [h0]
    have hv := vErr_zero.1 h0
    have HV := Lib.hid hv
    have HE := Lib.hid h0
    have HLn : Hid (n = L.length) := Lib.hid h.1
    have HLx : Hid (n2 = xs.length) := Lib.hid h2.1
    have h8 : n ≤ 8 := by have := hv.le; have := h.1; omega
    clear h0 hv
    by_cases h60 : 60 < n2
    · have d60 : decide (60 < n2) = true := decT h60
      have hR : ckErr L xs = 3 := kt_3 HE.out (by rw [← HLx.out]; exact h60)
      rw [hR]
      clear hR
      go_enter Try.func39, Try.ntmps39
      go_wp2_with fail
      refine (rValidate_c _ _ _ _ _ h).mono ?_
      rintro e w1 ⟨rfl, hb1⟩
      go_wp2_with fail
      go_ret
      exact ⟨rfl, btr (Below.refl _ _) hb1⟩
    · have d60 : decide (60 < n2) = false := decF h60
      have H60 : Hid (¬ 60 < xs.length) := Lib.hid (by rw [← HLx.out]; exact h60)
      have H2 := Lib.hid h2
      have H := Lib.hid h
      have hml : ∀ w : World, (Instr.makeSlice 23 (.int .i64 (n : Int)) (.int .i64 (n : Int))).run Try.prog w = .ok (.slice (some ⟨w.heap.size, 0, none⟩) n n) (w.alloc (.cells (madeCells #[.int .i64 0] n) 3)) := run_make_row' (P := Try.prog) 23 3 (.int .i64 0) 8 Try.underlying23 info3 rfl .i64 .i64 n (by omega) (by omega)
      have HML := Lib.hid hml
      clear hml h h2
      go_enter Try.func39, Try.ntmps39
      go_wp2_with fail
      refine (rValidate_c _ _ _ _ _ H.out).mono ?_
      rintro e w2 ⟨rfl, B2⟩
      go_wp2_with fail
      go_loopw [6] (fun i wr => ∃ k : Nat, k ≤ n2 ∧ i = .int .i64 k ∧ wr = w2 ∧ scanJ (badN L xs) n2 0 = scanJ (badN L xs) (n2 - k) k) (fun i _ => n2 - (intOf i).toNat)
      case atStart => exact ⟨0, Nat.zero_le _, rfl, rfl, rfl⟩
      case round =>
        obtain ⟨k, hk, rfl, rfl, hF⟩ := hrel
        have HF := Lib.hid hF
        clear hF
        by_cases hlt : k < n2
        · obtain ⟨b2, o2, rfl, hI⟩ : ∃ b o, a2 = some ⟨b, o, none⟩ ∧ Is w b o n2 xs := by
            rcases H2.out.2 with h' | h'
            · omega
            · exact h'
          have c0 := (hI.below B2 (Nat.le_refl _)).c0 k hlt
          have HLT := Lib.hid hlt
          have HBK : Hid (badN L xs k = !inB (gi xs k) (-1) ((n : Int) - 1)) := Lib.hid (by rw [HLn.out]; rfl)
          clear hI
          by_cases h1 : gi xs k < -1
          · have d1 := decT h1
            have HB : Hid (badN L xs k = true) := Lib.hid (by rw [HBK.out, inB_false.2 (by omega)]; rfl)
            clear h1
            go_wp2_with fail
            go_ret
            exact ⟨by rw [kt_1 HE.out H60.out (by rw [← HLx.out, HF.out, scan_yes HLT.out HB.out]; rfl)]; rfl, B2⟩
          · have d1 := decF h1
            by_cases h3 : (n : Int) ≤ gi xs k
            · have d3 := decT h3
              have HB : Hid (badN L xs k = true) := Lib.hid (by rw [HBK.out, inB_false.2 (by omega)]; rfl)
              clear h1 h3
              go_wp2_with fail
              go_ret
              exact ⟨by rw [kt_1 HE.out H60.out (by rw [← HLx.out, HF.out, scan_yes HLT.out HB.out]; rfl)]; rfl, B2⟩
            · have d3 := decF h3
              have HB : Hid (badN L xs k = false) := Lib.hid (by rw [HBK.out, inB_true.2 (by omega)]; rfl)
              clear h1 h3
              go_wp2_with fail
              exact ⟨⟨k + 1, by omega, by go_num, trivial, by rw [HF.out, scan_no HLT.out HB.out]⟩, by simp [intOf]; omega⟩
        · have hd : ¬ (k : Int) < n2 := by omega
          have HK := Lib.hid hlt
          have HBN : Hid ((scanJ (badN L xs) xs.length 0).isSome = false) := Lib.hid (by rw [← HLx.out, HF.out, scan_end HK.out]; rfl)
          have HIN : Hid (∀ k, k < n2 → -1 ≤ gi xs k ∧ gi xs k < n) := Lib.hid (fun k hk => by
            have := scan_none.1 HBN.out k (by rw [← HLx.out]; exact hk)
            simp [badN, inB] at this
            rw [HLn.out]; omega)
          have hml := HML.out
          clear hlt hk
          go_wp2_with fail
          clear hml
          obtain ⟨w2, hw2⟩ : ∃ w2 : World, w2 = wr := ⟨_, rfl⟩
          rw [← hw2] at B2 ⊢
          clear hw2
          have hwl : w.heap.size ≤ w2.heap.size := B2.size
          have hrow := World.rowIs_made w2 (.int .i64 0) n 3
          have HX : Hid (Below w2.heap.size w2 (w2.alloc (.cells (madeCells #[.int .i64 0] n) 3))) := Lib.hid ((Below.refl _ _).alloc (Nat.le_refl _) _)
          have HRW : Hid ((w2.alloc (.cells (madeCells #[.int .i64 0] n) 3)).rowIs w2.heap.size 3 n (fun j => .int .i64 (cnt (gi xs) 0 j))) := Lib.hid hrow
          clear hrow hd
          go_loopw [8] (fun i wr => ∃ k : Nat, k ≤ n2 ∧ i = .int .i64 k ∧ Below w2.heap.size w2 wr ∧ wr.rowIs w2.heap.size 3 n (fun j => .int .i64 (cnt (gi xs) k j)) ∧ scanJ (badT L xs) n2 0 = scanJ (badT L xs) (n2 - k) k) (fun i _ => n2 - (intOf i).toNat)
          case atStart => exact ⟨0, Nat.zero_le _, rfl, HX.out, HRW.out, rfl⟩
          case round =>
            obtain ⟨k, hk, rfl, hb, hrw, hF⟩ := hrel
            have HF := Lib.hid hF
            have HRW2 := Lib.hid hrw
            clear hrw HX HRW hF
            by_cases hlt : k < n2
            · obtain ⟨b2, o2, hab, hI⟩ : ∃ b o, a2 = some ⟨b, o, none⟩ ∧ Is w b o n2 xs := by
                rcases H2.out.2 with h' | h'
                · omega
                · exact h'
              subst hab
              have c0 := (hI.below (btr B2 hb) (Nat.le_refl _)).c0 k hlt
              have HLT := Lib.hid hlt
              have ha := HIN.out k hlt
              obtain ⟨g1, g2⟩ := ha
              clear hI
              by_cases h0 : 0 ≤ gi xs k
              · obtain ⟨j, hj⟩ : ∃ j : Nat, gi xs k = j := ⟨(gi xs k).toNat, by omega⟩
                have HJ := Lib.hid hj
                have HBT := Lib.hid (badT_at (L := L) hj)
                rw [hj] at c0 g1 g2 h0
                have hjn : j < n := by omega
                obtain ⟨b, o, hab, hS⟩ : ∃ b o, a = some ⟨b, o, none⟩ ∧ Sl w b o n L := by
                  rcases H.out.2 with h' | h'
                  · omega
                  · exact h'
                subst hab
                have s0 := (hS.below (btr B2 hb) (Nat.le_refl _)).c0 j hjn
                have s1 := (hS.below (btr B2 hb) (Nat.le_refl _)).c1 j hjn
                have cr := HRW2.out.cell hjn
                have cz := HRW2.out.frozen j
                have hcb := cnt_bd (gi xs) j k
                obtain ⟨x1, x2⟩ := hcb
                have dj : decide ((j : Int) < 0) = false := decF (by omega)
                clear hj h0 hS
                by_cases t1 : (k : Int) < (at_ L j).s
                · have e1 := decT t1
                  have HB : Hid (badT L xs k = true) := Lib.hid (by rw [HBT.out, e1]; rfl)
                  clear t1
                  go_wp2_with fail
                  go_ret
                  exact ⟨by rw [kt_8 HE.out H60.out HBN.out (by rw [← HLx.out, HF.out, scan_yes HLT.out HB.out]; rfl)]; rfl, btr B2 hb⟩
                · have e1 := decF t1
                  by_cases t2 : (at_ L j).e ≤ k
                  · have e2 := decT t2
                    have HB : Hid (badT L xs k = true) := Lib.hid (by rw [HBT.out, e1, e2]; rfl)
                    clear t1 t2
                    go_wp2_with fail
                    go_ret
                    exact ⟨by rw [kt_8 HE.out H60.out HBN.out (by rw [← HLx.out, HF.out, scan_yes HLT.out HB.out]; rfl)]; rfl, btr B2 hb⟩
                  · have e2 := decF t2
                    have HB : Hid (badT L xs k = false) := Lib.hid (by rw [HBT.out, e1, e2]; rfl)
                    clear t1 t2
                    go_wp2_with fail
                    have hrw3 := HRW2.out.set j (.int .i64 (cnt (gi xs) k j + 1))
                    exact ⟨⟨k + 1, by omega, by go_num, hb.setCell (Nat.le_refl _) _, hrw3.congr fun i _ => cnt_upd HJ.out i, by rw [HF.out, scan_no HLT.out HB.out]⟩, by simp [intOf]; omega⟩
              · have d0 := decF h0
                have dn : decide (gi xs k < 0) = true := decT (by omega)
                have HG : Hid (gi xs k < 0) := Lib.hid (by omega)
                have HB := Lib.hid (badT_neg (L := L) HG.out)
                clear h0
                go_wp2_with fail
                exact ⟨⟨k + 1, by omega, by go_num, hb, HRW2.out.congr fun i _ => by show Value.int .i64 _ = .int .i64 _; rw [cnt_keep HG.out], by rw [HF.out, scan_no HLT.out HB.out]⟩, by simp [intOf]; omega⟩
            · have hkn : k = n2 := by omega
              have hd : ¬ (k : Int) < n2 := by omega
              have HK := Lib.hid hlt
              have HKN := Lib.hid hkn
              have HBT : Hid ((scanJ (badT L xs) xs.length 0).isSome = false) := Lib.hid (by rw [← HLx.out, HF.out, scan_end HK.out]; rfl)
              have HRW3 : Hid (wr.rowIs w2.heap.size 3 n (fun j => .int .i64 (cnt (gi xs) n2 j))) := Lib.hid (by rw [← HKN.out]; exact HRW2.out)

              clear hlt hkn
              go_wp2_with fail
              obtain ⟨w3, hw3⟩ : ∃ w3 : World, w3 = wr := ⟨_, rfl⟩
              rw [← hw3] at hb HRW3 ⊢
              clear hw3 HRW2 wr
              have B3 := btr B2 hb

              clear hb hd
              go_loopw [10] (fun i wr => ∃ j : Nat, j ≤ n ∧ i = .int .i64 j ∧ Below w3.heap.size w3 wr ∧ scanJ (badD L xs) n 0 = scanJ (badD L xs) (n - j) j) (fun i _ => n - (intOf i).toNat)
              case atStart => exact ⟨0, Nat.zero_le _, rfl, Below.refl _ _, rfl⟩
              case round =>
                obtain ⟨j, hj, rfl, hb, hG⟩ := hrel
                have HG := Lib.hid hG
                clear hG
                by_cases hlt : j < n
                · obtain ⟨b, o, hab, hS⟩ : ∃ b o, a = some ⟨b, o, none⟩ ∧ Sl w b o n L := by
                    rcases H.out.2 with h' | h'
                    · omega
                    · exact h'
                  subst hab
                  have k2 := cell_regrown ((hS.below (btr B3 hb) (Nat.le_refl _)).c2 j hlt)
                  have kr := cell_regrown ((rowIs_below HRW3.out hb).cell hlt)

                  have HLT := Lib.hid hlt
                  have HD0 : Hid (badD L xs j = decide (cnt (gi xs) n2 j ≠ nd L j)) := Lib.hid (by rw [HLx.out]; rfl)
                  clear hS
                  by_cases hq : cnt (gi xs) n2 j = (at_ L j).d
                  · have dq : (cnt (gi xs) n2 j != (at_ L j).d) = false := by simp [hq]
                    have HB : Hid (badD L xs j = false) := Lib.hid (by rw [HD0.out]; exact decF (fun h => h hq))
                    clear hq
                    go_wp2_with fail
                    refine wp_region_B (by kernel_rfl) (by kernel_rfl) ?_
                    repeat (go_big_quiet_step (fail))
                    refine wpQuiet_nil ?_
                    intro w4 hb4
                    go_wp2_with fail
                    exact ⟨⟨j + 1, by omega, by go_num, btr hb hb4, by rw [HG.out, scan_no HLT.out HB.out]⟩, by simp [intOf]; omega⟩
                  · have dq : (cnt (gi xs) n2 j != (at_ L j).d) = true := by simpa using hq
                    have HB : Hid (badD L xs j = true) := Lib.hid (by rw [HD0.out]; exact decT hq)
                    clear hq
                    go_wp2_with fail
                    refine wp_region_B (by kernel_rfl) (by kernel_rfl) ?_
                    repeat (go_big_quiet_step (fail))
                    refine wpQuiet_nil ?_
                    intro w4 hb4
                    go_wp2_with fail
                    go_ret
                    exact ⟨by rw [kt_7 HE.out H60.out HBN.out HBT.out (by rw [← HLn.out, HG.out, scan_yes HLT.out HB.out]; rfl)]; rfl, btr B3 (btr hb hb4)⟩
                · have hd : ¬ (j : Int) < n := by omega
                  have HK2 := Lib.hid hlt

                  clear hlt
                  go_wp2_with fail
                  go_ret
                  exact ⟨by rw [kt_0 HE.out H60.out HBN.out HBT.out (by rw [← HLn.out, HG.out, scan_end HK2.out]; rfl)]; rfl, btr B3 hb⟩
  · have hne : (vErr L != 0) = true := by simpa using h0
    have hR := kt_v (xs := xs) h0
    rw [hR]
    clear hR h0
    go_enter Try.func39, Try.ntmps39
    go_wp2_with fail
    refine (rValidate_c _ _ _ _ _ h).mono ?_
    rintro e w1 ⟨rfl, hb1⟩
    go_wp2_with fail
    go_ret
    exact ⟨rfl, btr (Below.refl _ _) hb1⟩

end Go.Proofs.Ytbmbogaejmgloaa
