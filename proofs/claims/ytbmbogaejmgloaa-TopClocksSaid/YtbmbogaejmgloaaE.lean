/- When the jobs are done by urgency, and the greatest lateness: program and reference. -/
import Derived.Test.YtbmbogaejmgloaaR
namespace Go.Proofs.Ytbmbogaejmgloaa
open Go.RowKit Go.Sort

/-- When each job is done by a table. -/
def endL (L : List Jb) (xs : List Int) : List Int := (List.range L.length).map (fun k => enF (gi xs) xs.length k)
def endR (L : List Jb) : List Int := if vErr L = 0 then endL L (tbl (edf L) L) else []
def laR (L : List Jb) : Int := if vErr L = 0 then lateJ L else 0

theorem gi_endL {L : List Jb} {xs : List Int} {k : Nat} (h : k < L.length) : gi (endL L xs) k = enF (gi xs) xs.length k := by
  show ((List.range L.length).map (fun k => enF (gi xs) xs.length k)).getD k 0 = _
  simp [List.getD_eq_getElem?_getD, h]
theorem endL_length (L : List Jb) (xs : List Int) : (endL L xs).length = L.length := by simp [endL]

theorem enF_yes {f : Nat → Int} {t k : Nat} (h : f t = (k : Int)) : enF f (t + 1) k = ((t + 1 : Nat) : Int) := by rw [enF, if_pos h]
theorem enF_no {f : Nat → Int} {t k : Nat} (h : ¬ f t = (k : Int)) : enF f (t + 1) k = enF f t k := by rw [enF, if_neg h]

theorem late_end {L : List Jb} : mxT (fun k => gi (endL L (tbl (edf L) L)) k - (at_ L k).e) L.length = lateJ L :=
  mxT_congr fun k hk => by
    rw [gi_endL hk, tbl_length]
    show enF _ _ _ - _ = enF _ _ _ - _
    rw [enF_congr k _ (fun t ht => gi_tbl ht)]

theorem end_bd {L : List Jb} (hv : Valid L) {k : Nat} (hk : k < L.length) : 0 ≤ gi (endL L (tbl (edf L) L)) k ∧ gi (endL L (tbl (edf L) L)) k ≤ 540 := by
  rw [gi_endL hk]
  have h1 := enF_bd (gi (tbl (edf L) L)) k (tbl (edf L) L).length
  have h2 := (lenT_facts hv (edf_rule hv)).1
  rw [← tbl_length] at h2
  omega

theorem tbl_at {L : List Jb} (hv : Valid L) {t : Nat} (ht : t < (tbl (edf L) L).length) : -1 ≤ gi (tbl (edf L) L) t ∧ gi (tbl (edf L) L) t < L.length := by
  rw [tbl_length] at ht
  rw [gi_tbl ht]
  exact pickN_bd hv t

theorem tbl_le {L : List Jb} (hv : Valid L) : (tbl (edf L) L).length ≤ 540 := by rw [tbl_length]; exact (lenT_facts hv (edf_rule hv)).1

theorem end_upd {f : Nat → Int} {t j : Nat} (h : f t = (j : Int)) (i : Nat) : (if i = j then Value.int .i64 ((t : Int) + 1) else .int .i64 (enF f t i)) = .int .i64 (enF f (t + 1) i) := by
  by_cases hij : i = j
  · subst hij
    rw [if_pos rfl, enF_yes h]; rfl
  · rw [if_neg hij, enF_no (by rw [h]; omega)]
theorem end_keep {f : Nat → Int} {t : Nat} (h : f t < 0) (i : Nat) : enF f t i = enF f (t + 1) i := by rw [enF_no (by omega)]

theorem wrap_len {a : Option Addr} {n : Nat} {xs : List Int} {w : World} (h : IsO w a n xs) : n = xs.length := h.1

set_option maxRecDepth 100000 in
set_option maxHeartbeats 1600000 in
theorem ends_c (a : Option Addr) (n c : Nat) (L : List Jb) (a2 : Option Addr) (c2 : Nat) (w : World) (h : SlO w a n L) (h2 : IsO w a2 (tbl (edf L) L).length (tbl (edf L) L)) (hv : Valid L) :
    Calls Try.prog 56 #[.slice a n c, .slice a2 (tbl (edf L) L).length c2] w (RetI1 w (endL L (tbl (edf L) L))) := by
  have h8 : n ≤ 8 := by have := h.1; have := hv.le; omega
  have HLn : Hid (n = L.length) := Lib.hid h.1
  have ht5 := tbl_le hv
  have HA := Lib.hid (fun t ht => tbl_at hv (t := t) ht)
  have HE : Hid (endL L (tbl (edf L) L) = (List.range n).map (enF (gi (tbl (edf L) L)) (tbl (edf L) L).length)) := Lib.hid (by rw [HLn.out]; rfl)
  have hml : ∀ w : World, (Instr.makeSlice 23 (.int .i64 (n : Int)) (.int .i64 (n : Int))).run Try.prog w = .ok (.slice (some ⟨w.heap.size, 0, none⟩) n n) (w.alloc (.cells (madeCells #[.int .i64 0] n) 3)) := run_make_row' (P := Try.prog) 23 3 (.int .i64 0) 8 Try.underlying23 info3 rfl .i64 .i64 n (by omega) (by omega)
  rw [HE.out]
  generalize tbl (edf L) L = xs at *
  have H2 := Lib.hid h2
  clear h h2 hv
  go_enter Try.func56, Try.ntmps56
  go_wp2_with fail
  clear hml
  have hrow := World.rowIs_made w (.int .i64 0) n 3
  have HX : Hid (Below w.heap.size w (w.alloc (.cells (madeCells #[.int .i64 0] n) 3))) := Lib.hid ((Below.refl _ _).alloc (Nat.le_refl _) _)
  have HRW : Hid ((w.alloc (.cells (madeCells #[.int .i64 0] n) 3)).rowIs w.heap.size 3 n (fun j => .int .i64 (enF (gi xs) 0 j))) := Lib.hid hrow
  clear hrow
  go_loopw [13] (fun i wr => ∃ k : Nat, k ≤ xs.length ∧ i = .int .i64 k ∧ Below w.heap.size w wr ∧ wr.rowIs w.heap.size 3 n (fun j => .int .i64 (enF (gi xs) k j))) (fun i _ => xs.length - (intOf i).toNat)
  case atStart => exact ⟨0, Nat.zero_le _, rfl, HX.out, HRW.out⟩
  case round =>
    obtain ⟨k, hk, rfl, hb, hrw⟩ := hrel
    have HRW2 := Lib.hid hrw
    clear hrw HX HRW
    by_cases hlt : k < xs.length
    · obtain ⟨b, o, hab, hI⟩ : ∃ b o, a2 = some ⟨b, o, none⟩ ∧ Is w b o xs.length xs := by
        rcases H2.out.2 with h' | h'
        · omega
        · exact h'
      subst hab
      have c0 := (hI.below hb (Nat.le_refl _)).c0 k hlt
      have ha := HA.out k hlt
      rw [← HLn.out] at ha
      obtain ⟨g1, g2⟩ := ha
      clear hI
      by_cases h0 : 0 ≤ gi xs k
      · obtain ⟨j, hj⟩ : ∃ j : Nat, gi xs k = j := ⟨(gi xs k).toNat, by omega⟩
        have HJ := Lib.hid hj
        rw [hj] at c0 g1 g2 h0
        have hjn : j < n := by omega
        have cr := HRW2.out.cell hjn
        have cz := HRW2.out.frozen j
        clear hj h0
        go_wp2_with fail
        have hrw3 := HRW2.out.set j (.int .i64 ((k : Int) + 1))
        exact ⟨⟨k + 1, by omega, by go_num, hb.setCell (Nat.le_refl _) _, hrw3.congr fun i _ => end_upd HJ.out i⟩, by simp [intOf]; omega⟩
      · have d0 := decF h0
        have HG : Hid (gi xs k < 0) := Lib.hid (by omega)
        clear h0
        go_wp2_with fail
        exact ⟨⟨k + 1, by omega, by go_num, hb, HRW2.out.congr fun i _ => by show Value.int .i64 _ = .int .i64 _; rw [end_keep HG.out]⟩, by simp [intOf]; omega⟩
    · have hkn : k = xs.length := by omega
      have hd : ¬ (k : Int) < xs.length := by omega
      have HKN := Lib.hid hkn
      clear hkn hlt
      go_wp2_with fail
      go_ret
      refine ⟨_, rfl, ?_, hb⟩
      have := row_isV HRW2.out (Nat.le_refl _) (by unfold maxLen; omega)
      rw [HKN.out] at this
      exact this

theorem mx_step {f : Nat → Int} {n : Nat} (h : n = 0 ∨ mxT f n < f n) : mxT f (n + 1) = f n := by rw [mxT, if_pos h]
theorem mx_stay {f : Nat → Int} {n : Nat} (h : ¬ (n = 0 ∨ mxT f n < f n)) : mxT f (n + 1) = mxT f n := by rw [mxT, if_neg h]

/-- The lateness of job k. -/
def ltF (L : List Jb) (k : Nat) : Int := gi (endL L (tbl (edf L) L)) k - (at_ L k).e

set_option maxRecDepth 100000 in
set_option maxHeartbeats 1600000 in
theorem late_c (a : Option Addr) (n c : Nat) (L : List Jb) (w : World) (h : SlO w a n L) (hv : Valid L) :
    Calls Try.prog 54 #[.slice a n c] w fun e w' => e = .returned (.int .i64 (lateJ L)) ∧ Below w.heap.size w w' := by
  have h8 : n ≤ 8 := by have := h.1; have := hv.le; omega
  have HLn : Hid (n = L.length) := Lib.hid h.1
  have HV := Lib.hid hv
  have H := Lib.hid h
  have HL : Hid (lateJ L = mxT (ltF L) L.length) := Lib.hid late_end.symm
  have hel : (endL L (tbl (edf L) L)).length = n := by rw [endL_length, HLn.out]
  have HEL := Lib.hid hel
  rw [HL.out]
  clear h hv hel
  go_enter Try.func54, Try.ntmps54
  go_wp2_with fail
  refine (urgent_c _ _ _ _ _ H.out HV.out).mono ?_
  rintro e w1 ⟨v1, rfl, hv1, hb1⟩
  obtain ⟨a1, c1, e1, i1, l1, m1, -⟩ := hv1
  rw [e1]
  clear e1
  go_wp2_with fail
  refine (ends_c _ _ _ _ _ _ _ (H.out.below hb1 (Nat.le_refl _)) i1 HV.out).mono ?_
  rintro e w2 ⟨v2, rfl, hv2, hb2⟩
  have B2 := btr hb1 hb2
  obtain ⟨a2, c2, e2, i2, l2, m2, -⟩ := hv2
  rw [e2]
  rw [HEL.out] at i2 l2 ⊢
  have I2 := Lib.hid i2
  clear e2 hb1 hb2 i1 l1 m1 i2
  go_wp2_with fail
  go_loopw [3, 12] (fun s i wr => ∃ k : Nat, k ≤ n ∧ i = .int .i64 k ∧ s = .int .i64 (mxT (ltF L) k) ∧ wr = w2) (fun _ i _ => n - (intOf i).toNat)
  case atStart => exact ⟨0, Nat.zero_le _, rfl, rfl, rfl⟩
  case round =>
    obtain ⟨k, hk, rfl, rfl, rfl⟩ := hrel
    by_cases hlt : k < n
    · obtain ⟨b, o, rfl, hS⟩ : ∃ b o, a = some ⟨b, o, none⟩ ∧ Sl w b o n L := by
        rcases H.out.2 with h' | h'
        · omega
        · exact h'
      obtain ⟨b2, o2, rfl, hI⟩ : ∃ b o, a2 = some ⟨b, o, none⟩ ∧ Is wr b o n (endL L (tbl (edf L) L)) := by
        rcases I2.out.2 with h' | h'
        · omega
        · exact h'
      have k1 := (hS.below B2 (Nat.le_refl _)).c1 k hlt
      have k2 := hI.c0 k hlt
      have hbd := HV.out.bd (i := k) (by rw [← HLn.out]; exact hlt)
      obtain ⟨x1, x2, x3, x4, x5⟩ := hbd
      have hed := end_bd HV.out (k := k) (by rw [← HLn.out]; exact hlt)
      obtain ⟨x6, x7⟩ := hed
      have hF : ltF L k = gi (endL L (tbl (edf L) L)) k - (at_ L k).e := rfl
      have HF := Lib.hid hF
      clear hS hI hF
      by_cases h0 : k = 0
      · have d0 : ((k : Int) == 0) = true := by simp [h0]
        have HN := Lib.hid ((mx_step (f := ltF L) (n := k) (.inl h0)).trans HF.out)
        clear h0
        go_wp2_with fail
        exact ⟨⟨k + 1, by omega, by go_num, by rw [HN.out], trivial⟩, by simp [intOf]; omega⟩
      · have d0 : ((k : Int) == 0) = false := by simp; omega
        by_cases h1 : mxT (ltF L) k < gi (endL L (tbl (edf L) L)) k - (at_ L k).e
        · have d1 := decT h1
          have HN := Lib.hid ((mx_step (f := ltF L) (n := k) (.inr (by rw [HF.out]; exact h1))).trans HF.out)
          clear h1
          go_wp2_with fail
          exact ⟨⟨k + 1, by omega, by go_num, by rw [HN.out], trivial⟩, by simp [intOf]; omega⟩
        · have d1 := decF h1
          have HN := Lib.hid (mx_stay (f := ltF L) (n := k) (by rw [HF.out]; exact fun h => h.elim h0 h1))
          clear h1
          go_wp2_with fail
          exact ⟨⟨k + 1, by omega, by go_num, by rw [HN.out], trivial⟩, by simp [intOf]; omega⟩
    · have hkn : k = n := by omega
      have hd : ¬ (k : Int) < n := by omega
      have HKN := Lib.hid hkn
      clear hkn hlt
      go_wp2_with fail
      go_ret
      exact ⟨by rw [HKN.out, HLn.out]; rfl, B2⟩

theorem Late_c (a : Option Addr) (n c : Nat) (L : List Jb) (w : World) (h : SlO w a n L) :
    Calls Try.prog 18 #[.slice a n c] w fun e w' => e = .returned (.tuple #[.int .i64 (laR L), .int .i64 (vErr L)]) ∧ Below w.heap.size w w' := by
  by_cases hv0 : vErr L = 0
  · have hv := vErr_zero.1 hv0
    have hu : laR L = lateJ L := if_pos hv0
    have hne : (vErr L != 0) = false := by simp [hv0]
    rw [hu]
    have HE := Lib.hid hv0
    clear hu hv0
    go_enter Try.func18, Try.ntmps18
    go_wp2_with fail
    refine (Validate_c _ _ _ _ _ h).mono ?_
    rintro e w0 ⟨rfl, hb0⟩
    go_wp2_with fail
    refine (late_c _ _ _ _ _ (h.below hb0 (Nat.le_refl _)) hv).mono ?_
    rintro e w1 ⟨rfl, hb1⟩
    go_wp2_with fail
    go_ret2
    exact ⟨by rw [HE.out]; rfl, btr hb0 hb1⟩
  · have hu : laR L = 0 := if_neg hv0
    have hne : (vErr L != 0) = true := by simpa using hv0
    rw [hu]
    clear hu hv0
    go_enter Try.func18, Try.ntmps18
    go_wp2_with fail
    refine (Validate_c _ _ _ _ _ h).mono ?_
    rintro e w0 ⟨rfl, hb0⟩
    go_wp2_with fail
    go_ret2
    exact ⟨rfl, hb0⟩

theorem Ends_c (a : Option Addr) (n c : Nat) (L : List Jb) (w : World) (h : SlO w a n L) : Calls Try.prog 21 #[.slice a n c] w (RetI2 w (endR L) (vErr L)) := by
  by_cases hv0 : vErr L = 0
  · have hv := vErr_zero.1 hv0
    have hu : endR L = endL L (tbl (edf L) L) := if_pos hv0
    have hne : (vErr L != 0) = false := by simp [hv0]
    rw [hu]
    have HE := Lib.hid hv0
    clear hu hv0
    go_enter Try.func21, Try.ntmps21
    go_wp2_with fail
    refine (Validate_c _ _ _ _ _ h).mono ?_
    rintro e w0 ⟨rfl, hb0⟩
    have h' := h.below hb0 (Nat.le_refl _)
    go_wp2_with fail
    refine (urgent_c _ _ _ _ _ h' hv).mono ?_
    rintro e w1 ⟨v1, rfl, hv1, hb1⟩
    obtain ⟨a1, c1, e1, i1, l1, m1, -⟩ := hv1
    rw [e1]
    clear e1
    go_wp2_with fail
    refine (ends_c _ _ _ _ _ _ _ (h'.below hb1 (Nat.le_refl _)) i1 hv).mono ?_
    rintro e w2 ⟨v2, rfl, hv2, hb2⟩
    have B1 := btr hb0 hb1
    go_wp2_with fail
    go_ret2
    exact ⟨v2, by rw [HE.out]; rfl, hv2.mono B1.size, btr B1 hb2⟩
  · have hu : endR L = [] := if_neg hv0
    have hne : (vErr L != 0) = true := by simpa using hv0
    rw [hu]
    clear hu hv0
    go_enter Try.func21, Try.ntmps21
    go_wp2_with fail
    refine (Validate_c _ _ _ _ _ h).mono ?_
    rintro e w0 ⟨rfl, hb0⟩
    go_wp2_with fail
    go_ret2
    exact ⟨_, rfl, IsV.nil _ _, hb0⟩

end Go.Proofs.Ytbmbogaejmgloaa
