/- When the jobs are done, and the greatest lateness, by the reference; two lists compared; many jobs. -/
import Derived.Test.YtbmbogaejmgloaaE
namespace Go.Proofs.Ytbmbogaejmgloaa
open Go.RowKit Go.Sort

theorem length_of {a : Option Addr} {n : Nat} {L : List Jb} {w : World} (h : SlO w a n L) : n = L.length := h.1

set_option maxRecDepth 100000 in
set_option maxHeartbeats 1600000 in
theorem rends_in (a : Option Addr) (n c : Nat) (L : List Jb) (w : World) (h : SlO w a n L) (hv : Valid L) : Calls Try.prog 22 #[.slice a n c] w (RetI2 w (endL L (tbl (edf L) L)) 0) := by
  have h8 : n ≤ 8 := by have := h.1; have := hv.le; omega
  have HLn : Hid (n = L.length) := Lib.hid h.1
  have ht5 := tbl_le hv
  have HA := Lib.hid (fun t ht => tbl_at hv (t := t) ht)
  have HE : Hid (endL L (tbl (edf L) L) = (List.range n).map (enF (gi (tbl (edf L) L)) (tbl (edf L) L).length)) := Lib.hid (by rw [HLn.out]; rfl)
  have hml : ∀ w : World, (Instr.makeSlice 23 (.int .i64 (n : Int)) (.int .i64 (n : Int))).run Try.prog w = .ok (.slice (some ⟨w.heap.size, 0, none⟩) n n) (w.alloc (.cells (madeCells #[.int .i64 0] n) 3)) := run_make_row' (P := Try.prog) 23 3 (.int .i64 0) 8 Try.underlying23 info3 rfl .i64 .i64 n (by omega) (by omega)
  have HML := Lib.hid hml
  rw [HE.out]
  have hcon := rUrgent_c a n c L w h
  have hu : urR L = tbl (edf L) L := if_pos (vErr_zero.2 hv)
  rw [hu, vErr_zero.2 hv] at hcon
  have HCON := Lib.hid hcon
  clear hcon hu HE
  generalize tbl (edf L) L = xs at *
  clear h hv hml
  go_enter Try.func22, Try.ntmps22
  go_wp2_with fail
  refine HCON.out.mono ?_
  rintro e w1 ⟨v1, rfl, hv1, hb1⟩
  obtain ⟨a2, c2, e1, i1, l1, m1, -⟩ := hv1
  rw [e1]
  have H2 := Lib.hid i1
  have hml := HML.out
  clear e1 i1 HCON
  go_wp2_with fail
  clear hml
  have hrow := World.rowIs_made w1 (.int .i64 0) n 3
  have hwl : w.heap.size ≤ w1.heap.size := hb1.size
  have HX : Hid (Below w1.heap.size w1 (w1.alloc (.cells (madeCells #[.int .i64 0] n) 3))) := Lib.hid ((Below.refl _ _).alloc (Nat.le_refl _) _)
  have HRW : Hid ((w1.alloc (.cells (madeCells #[.int .i64 0] n) 3)).rowIs w1.heap.size 3 n (fun j => .int .i64 (enF (gi xs) 0 j))) := Lib.hid hrow
  clear hrow
  go_loopw [7] (fun i wr => ∃ k : Nat, k ≤ xs.length ∧ i = .int .i64 k ∧ Below w1.heap.size w1 wr ∧ wr.rowIs w1.heap.size 3 n (fun j => .int .i64 (enF (gi xs) k j))) (fun i _ => xs.length - (intOf i).toNat)
  case atStart => exact ⟨0, Nat.zero_le _, rfl, HX.out, HRW.out⟩
  case round =>
    obtain ⟨k, hk, rfl, hb, hrw⟩ := hrel
    have HRW2 := Lib.hid hrw
    clear hrw HX HRW
    by_cases hlt : k < xs.length
    · obtain ⟨b, o, hab, hI⟩ : ∃ b o, a2 = some ⟨b, o, none⟩ ∧ Is w1 b o xs.length xs := by
        rcases H2.out.2 with h' | h'
        · omega
        · exact h'
      subst hab
      have c0 := (hI.below hb (Nat.le_refl _)).c0 k hlt
      have ha := HA.out k hlt
      rw [← HLn.out] at ha
      obtain ⟨g1, g2⟩ := ha
      clear hI
      by_cases h0 : 0 ≤ gi xs k
      · obtain ⟨j, hj⟩ : ∃ j : Nat, gi xs k = j := ⟨(gi xs k).toNat, by omega⟩
        have HJ := Lib.hid hj
        rw [hj] at c0 g1 g2 h0
        have hjn : j < n := by omega
        have cr := HRW2.out.cell hjn
        have cz := HRW2.out.frozen j
        clear hj h0
        go_wp2_with fail
        have hrw3 := HRW2.out.set j (.int .i64 ((k : Int) + 1))
        exact ⟨⟨k + 1, by omega, by go_num, hb.setCell (Nat.le_refl _) _, hrw3.congr fun i _ => end_upd HJ.out i⟩, by simp [intOf]; omega⟩
      · have d0 := decF h0
        have HG : Hid (gi xs k < 0) := Lib.hid (by omega)
        clear h0
        go_wp2_with fail
        exact ⟨⟨k + 1, by omega, by go_num, hb, HRW2.out.congr fun i _ => by show Value.int .i64 _ = .int .i64 _; rw [end_keep HG.out]⟩, by simp [intOf]; omega⟩
    · have hkn : k = xs.length := by omega
      have hd : ¬ (k : Int) < xs.length := by omega
      have HKN := Lib.hid hkn
      clear hkn hlt
      go_wp2_with fail
      go_ret2
      refine ⟨_, rfl, ?_, btr hb1 hb⟩
      have := row_isV HRW2.out hwl (by unfold maxLen; omega)
      rw [HKN.out] at this
      exact this

theorem rEnds_c (a : Option Addr) (n c : Nat) (L : List Jb) (w : World) (h : SlO w a n L) : Calls Try.prog 22 #[.slice a n c] w (RetI2 w (endR L) (vErr L)) := by
  by_cases hv0 : vErr L = 0
  · have hu : endR L = endL L (tbl (edf L) L) := if_pos hv0
    rw [hu, hv0]
    exact rends_in a n c L w h (vErr_zero.1 hv0)
  · have hu : endR L = [] := if_neg hv0
    have hu2 : urR L = [] := if_neg hv0
    have hne : (vErr L != 0) = true := by simpa using hv0
    rw [hu]
    have hcon := rUrgent_c a n c L w h
    rw [hu2] at hcon
    have HCON := Lib.hid hcon
    clear hu hv0 hcon hu2
    go_enter Try.func22, Try.ntmps22
    go_wp2_with fail
    refine HCON.out.mono ?_
    rintro e w1 ⟨v1, rfl, hv1, hb1⟩
    go_wp2_with fail
    go_ret2
    exact ⟨_, rfl, IsV.nil _ _, hb1⟩

set_option maxRecDepth 100000 in
set_option maxHeartbeats 1600000 in
theorem rLate_c (a : Option Addr) (n c : Nat) (L : List Jb) (w : World) (h : SlO w a n L) :
    Calls Try.prog 51 #[.slice a n c] w fun e w' => e = .returned (.tuple #[.int .i64 (laR L), .int .i64 (vErr L)]) ∧ Below w.heap.size w w' := by
  by_cases hv0 : vErr L = 0
  · have hv := vErr_zero.1 hv0
    have hu : laR L = lateJ L := if_pos hv0
    have h8 : n ≤ 8 := by have := h.1; have := hv.le; omega
    have HLn : Hid (n = L.length) := Lib.hid h.1
    have HV := Lib.hid hv
    have H := Lib.hid h
    have HL : Hid (lateJ L = mxT (ltF L) L.length) := Lib.hid late_end.symm
    have hel : (endL L (tbl (edf L) L)).length = n := by rw [endL_length, HLn.out]
    have HEL := Lib.hid hel
    have hcon := rEnds_c a n c L w h
    have hu2 : endR L = endL L (tbl (edf L) L) := if_pos hv0
    rw [hu2, hv0] at hcon
    have HCON := Lib.hid hcon
    rw [hu, HL.out, hv0]
    clear h hv hel hu hu2 hcon hv0
    go_enter Try.func51, Try.ntmps51
    go_wp2_with fail
    refine HCON.out.mono ?_
    rintro e w2 ⟨v2, rfl, hv2, B2⟩
    obtain ⟨a2, c2, e2, i2, l2, m2, -⟩ := hv2
    rw [e2]
    rw [HEL.out] at i2 l2 ⊢
    have I2 := Lib.hid i2
    clear e2 i2 HCON
    go_wp2_with fail
    go_loopw [6, 7] (fun s i wr => ∃ k : Nat, k ≤ n ∧ i = .int .i64 k ∧ s = .int .i64 (mxT (ltF L) k) ∧ Below w2.heap.size w2 wr) (fun _ i _ => n - (intOf i).toNat)
    case atStart => exact ⟨0, Nat.zero_le _, rfl, rfl, Below.refl _ _⟩
    case round =>
      obtain ⟨k, hk, rfl, rfl, hb⟩ := hrel
      by_cases hlt : k < n
      · obtain ⟨b, o, rfl, hS⟩ : ∃ b o, a = some ⟨b, o, none⟩ ∧ Sl w b o n L := by
          rcases H.out.2 with h' | h'
          · omega
          · exact h'
        obtain ⟨b2, o2, rfl, hI⟩ : ∃ b o, a2 = some ⟨b, o, none⟩ ∧ Is w2 b o n (endL L (tbl (edf L) L)) := by
          rcases I2.out.2 with h' | h'
          · omega
          · exact h'
        have k1 := cell_regrown ((hS.below (btr B2 hb) (Nat.le_refl _)).c1 k hlt)
        have k2 := cell_regrown ((hI.below hb (Nat.le_refl _)).c0 k hlt)
        have hbd := HV.out.bd (i := k) (by rw [← HLn.out]; exact hlt)
        obtain ⟨x1, x2, x3, x4, x5⟩ := hbd
        have hed := end_bd HV.out (k := k) (by rw [← HLn.out]; exact hlt)
        obtain ⟨x6, x7⟩ := hed
        have hF : ltF L k = gi (endL L (tbl (edf L) L)) k - (at_ L k).e := rfl
        have HF := Lib.hid hF
        have hsum : IntKind.i64.wrap (gi (endL L (tbl (edf L) L)) k - (at_ L k).e) = gi (endL L (tbl (edf L) L)) k - (at_ L k).e := IntWalk.i64_in _ (by omega)
        clear hS hI hF
        go_wp2_with fail
        refine wp_region_B (by kernel_rfl) (by kernel_rfl) ?_
        repeat (go_big_quiet_step (fail))
        refine wpQuiet_nil ?_
        intro w3 hb3
        have B3 := btr hb hb3
        clear k1 k2 hsum hb3
        by_cases h0 : k = 0
        · have d0 : ((k : Int) == 0) = true := by simp [h0]
          have HN := Lib.hid ((mx_step (f := ltF L) (n := k) (.inl h0)).trans HF.out)
          clear h0
          go_wp2_with fail
          exact ⟨⟨k + 1, by omega, by go_num, by rw [HN.out], B3⟩, by simp [intOf]; omega⟩
        · have d0 : ((k : Int) == 0) = false := by simp; omega
          by_cases h1 : mxT (ltF L) k < gi (endL L (tbl (edf L) L)) k - (at_ L k).e
          · have d1 := decT h1
            have HN := Lib.hid ((mx_step (f := ltF L) (n := k) (.inr (by rw [HF.out]; exact h1))).trans HF.out)
            clear h1
            go_wp2_with fail
            exact ⟨⟨k + 1, by omega, by go_num, by rw [HN.out], B3⟩, by simp [intOf]; omega⟩
          · have d1 := decF h1
            have HN := Lib.hid (mx_stay (f := ltF L) (n := k) (by rw [HF.out]; exact fun h => h.elim h0 h1))
            clear h1
            go_wp2_with fail
            exact ⟨⟨k + 1, by omega, by go_num, by rw [HN.out], B3⟩, by simp [intOf]; omega⟩
      · have hkn : k = n := by omega
        have hd : ¬ (k : Int) < n := by omega
        have HKN := Lib.hid hkn
        clear hkn hlt
        go_wp2_with fail
        go_ret2
        exact ⟨by rw [HKN.out, HLn.out]; rfl, btr B2 hb⟩
  · have hu : laR L = 0 := if_neg hv0
    have hu2 : endR L = [] := if_neg hv0
    have hne : (vErr L != 0) = true := by simpa using hv0
    rw [hu]
    have hcon := rEnds_c a n c L w h
    rw [hu2] at hcon
    have HCON := Lib.hid hcon
    clear hu hv0 hcon hu2
    go_enter Try.func51, Try.ntmps51
    go_wp2_with fail
    refine HCON.out.mono ?_
    rintro e w1 ⟨v1, rfl, hv1, hb1⟩
    go_wp2_with fail
    go_ret2
    exact ⟨rfl, hb1⟩

def longB (n : Nat) : Bool := decide (40 < n)
theorem Long_c (a : Option Addr) (n c : Nat) (w : World) : Calls Try.prog 16 #[.slice a n c] w fun e w' => e = .returned (.bool (longB n)) ∧ Below w.heap.size w w' := by
  by_cases h : 40 < n
  · have e : longB n = true := decT h
    rw [e]
    have h' : (40 : Int) < n := by omega
    go_enter Try.func16, Try.ntmps16
    go_wp2
    go_ret
    exact ⟨by simp, Below.refl _ _⟩
  · have e : longB n = false := decF h
    rw [e]
    have h' : ¬ (40 : Int) < n := by omega
    go_enter Try.func16, Try.ntmps16
    go_wp2
    go_ret
    exact ⟨by simp, Below.refl _ _⟩

def diffI (A B : List Int) (i : Nat) : Bool := gi A i != gi B i
def sameI (A B : List Int) : Bool := decide (A.length = B.length) && (scanJ (diffI A B) A.length 0).isNone
theorem sameI_self (A : List Int) : sameI A A = true := by
  have : scanJ (diffI A A) A.length 0 = none := (scanJ_none _ _).2 fun k _ _ => by simp [diffI]
  simp [sameI, this]

set_option maxHeartbeats 800000 in
theorem SameInts_c (a : Option Addr) (n c : Nat) (A : List Int) (a2 : Option Addr) (n2 c2 : Nat) (B : List Int) (w : World) (h : IsO w a n A) (h2 : IsO w a2 n2 B) (hn : n ≤ 9223372036854775807) :
    Calls Try.prog 23 #[.slice a n c, .slice a2 n2 c2] w fun e w' => e = .returned (.bool (sameI A B)) ∧ Below w.heap.size w w' := by
  by_cases hl : n = n2
  · subst hl
    have hne : ((n : Int) != (n : Int)) = false := by simp
    have HS : Hid (sameI A B = (scanJ (diffI A B) n 0).isNone) := Lib.hid (by unfold sameI; rw [← h.1, ← h2.1]; simp)
    rw [HS.out]
    have H := Lib.hid h
    have H2 := Lib.hid h2
    have HR : Hid (∀ k s, scanJ (diffI A B) n 0 = scanJ (diffI A B) (n - k) k → (scanJ (diffI A B) (n - k) k).isNone = s → (scanJ (diffI A B) n 0).isNone = s) := Lib.hid (fun k s h1 h2 => by rw [h1]; exact h2)
    generalize hg : (scanJ (diffI A B) n 0).isNone = R at *
    clear h h2 hg HS
    go_enter Try.func23, Try.ntmps23
    go_wp2_with fail
    go_loopw [5] (fun i wr => ∃ k : Nat, k ≤ n ∧ i = .int .i64 k ∧ Below w.heap.size w wr ∧ scanJ (diffI A B) n 0 = scanJ (diffI A B) (n - k) k) (fun i _ => n - (intOf i).toNat)
    case atStart => exact ⟨0, Nat.zero_le _, rfl, Below.refl _ _, rfl⟩
    case round =>
      obtain ⟨k, hk, rfl, hb, hF⟩ := hrel
      have HF := Lib.hid hF
      clear hF
      by_cases hlt : k < n
      · obtain ⟨b, o, rfl, hI⟩ : ∃ b o, a = some ⟨b, o, none⟩ ∧ Is w b o n A := by
          rcases H.out.2 with h' | h'
          · omega
          · exact h'
        obtain ⟨b2, o2, rfl, hI2⟩ : ∃ b o, a2 = some ⟨b, o, none⟩ ∧ Is w b o n B := by
          rcases H2.out.2 with h' | h'
          · omega
          · exact h'
        have k1 := cell_regrown ((hI.below hb (Nat.le_refl _)).c0 k hlt)
        have k2 := cell_regrown ((hI2.below hb (Nat.le_refl _)).c0 k hlt)
        have HLT := Lib.hid hlt
        clear hI hI2
        cases hd : diffI A B k
        · have hq : (gi A k != gi B k) = false := hd
          have HD := Lib.hid hd
          clear hd
          go_wp2_with fail
          refine wp_region_B (by kernel_rfl) (by kernel_rfl) ?_
          repeat (go_big_quiet_step (fail))
          refine wpQuiet_nil ?_
          intro w3 hb3
          go_wp2_with fail
          exact ⟨⟨k + 1, by omega, by go_num, btr hb hb3, by rw [HF.out, scan_no HLT.out HD.out]⟩, by simp [intOf]; omega⟩
        · have hq : (gi A k != gi B k) = true := hd
          have HD := Lib.hid hd
          clear hd
          go_wp2_with fail
          refine wp_region_B (by kernel_rfl) (by kernel_rfl) ?_
          repeat (go_big_quiet_step (fail))
          refine wpQuiet_nil ?_
          intro w3 hb3
          go_wp2_with fail
          go_ret
          exact ⟨by rw [HR.out k false HF.out (by rw [scan_yes HLT.out HD.out]; rfl)]; rfl, btr hb hb3⟩
      · have HLT := Lib.hid hlt
        have hd : ¬ (k : Int) < n := by omega
        clear hlt
        go_wp2_with fail
        go_ret
        exact ⟨by rw [HR.out k true HF.out (by rw [scan_end HLT.out]; rfl)]; rfl, hb⟩
  · have hne : ((n : Int) != (n2 : Int)) = true := by simp; omega
    have hR : sameI A B = false := by
      unfold sameI
      rw [← h.1, ← h2.1]
      simp [hl]
    rw [hR]
    clear hR h h2 hl hn
    go_enter Try.func23, Try.ntmps23
    go_wp2_with fail
    go_ret
    exact ⟨rfl, Below.refl _ _⟩

end Go.Proofs.Ytbmbogaejmgloaa
