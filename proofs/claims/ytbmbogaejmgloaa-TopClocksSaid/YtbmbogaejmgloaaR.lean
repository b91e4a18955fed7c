/- The table by urgency of the reference. -/
import Derived.Test.YtbmbogaejmgloaaU
namespace Go.Proofs.Ytbmbogaejmgloaa
open Go.RowKit Go.Sort

theorem bestD_yes {L : List Jb} {r : Nat → Int} {t m q : Nat} (hq : q = L.length - (m + 1)) (h1 : (at_ L q).s ≤ t) (h2 : 0 < r q) (h3 : bestD L r t m = none ∨ (at_ L q).e ≤ byO L (bestD L r t m)) : bestD L r t (m + 1) = some q := by
  rw [bestD, ← hq, if_pos]
  rcases h3 with h3 | h3
  · simp [can, h1, h2, h3]
  · simp [can, h1, h2, h3]
theorem bestD_no {L : List Jb} {r : Nat → Int} {t m q : Nat} (hq : q = L.length - (m + 1)) (h : ¬ ((at_ L q).s ≤ t ∧ 0 < r q)) : bestD L r t (m + 1) = bestD L r t m := by
  rw [bestD, ← hq, if_neg]
  simp only [can, Bool.and_eq_true, decide_eq_true_iff]
  exact fun h' => h h'.1
theorem bestD_no' {L : List Jb} {r : Nat → Int} {t m q j : Nat} (hq : q = L.length - (m + 1)) (hj : bestD L r t m = some j) (h : ¬ (at_ L q).e ≤ (at_ L j).e) : bestD L r t (m + 1) = bestD L r t m := by
  rw [bestD, ← hq, if_neg]
  rw [hj]
  simp only [Option.isNone_some, Bool.false_or, Bool.and_eq_true, byO]
  exact fun h' => h (of_decide_eq_true h'.2)

/-- The table by urgency, where there is one. -/
def urR (L : List Jb) : List Int := if vErr L = 0 then tbl (edf L) L else []

set_option maxRecDepth 100000 in
set_option maxHeartbeats 3200000 in
theorem rurgent_in (b o n c : Nat) (L : List Jb) (w : World) (hS : Sl w b o n L) (h1 : 1 ≤ n) (hv : Valid L) : Calls Try.prog 20 #[.slice (some ⟨b, o, none⟩) n c] w (RetI2 w (tbl (edf L) L) 0) := by
  have hcon := fun w1 (hb : Below w.heap.size w w1) => rValidate_c (some ⟨b, o, none⟩) n c L w1 (SlO.of (hS.below hb (Nat.le_refl _)))
  rw [vErr_zero.2 hv] at hcon
  have HCON := Lib.hid hcon
  obtain rfl := hS.len
  have h8 := hv.le
  have HV := Lib.hid hv
  have HS := Lib.hid hS
  have hr := edf_rule hv
  have HR := Lib.hid hr
  obtain ⟨t1, t2, t3⟩ := lenT_facts hv hr
  have hmk := run_make_row' (P := Try.prog) 23 3 (.int .i64 0) 8 Try.underlying23 info3 rfl .i64 .i64 L.length (by omega) (by omega)
  have HMK := Lib.hid hmk
  clear hv hS hr t2 t3 hcon hmk
  obtain ⟨i0, hi, hz0, hz1, hz2⟩ := info_parts info3
  go_enter Try.func20, Try.ntmps20
  go_wp2_with fail
  refine (HCON.out _ (Below.refl _ _)).mono ?_
  rintro e w0 ⟨rfl, hb0⟩
  have hmk := HMK.out
  go_wp2_with fail
  clear hmk
  have hwl0 : w.heap.size ≤ w0.heap.size := hb0.size
  have hrow := World.rowIs_made w0 (.int .i64 0) L.length 3
  have HX : Hid (Below w.heap.size w (w0.alloc (.cells (madeCells #[.int .i64 0] L.length) 3))) := Lib.hid (hb0.alloc hb0.size _)
  have HRW : Hid ((w0.alloc (.cells (madeCells #[.int .i64 0] L.length) 3)).rowIs w0.heap.size 3 L.length (fun j => .int .i64 (seenF L 0 j))) := Lib.hid (hrow.congr fun i _ => by simp [seenF])
  clear hrow hb0
  go_loopw [5, 7] (fun s i wr => ∃ k : Nat, k ≤ L.length ∧ i = .int .i64 k ∧ s = .int .i64 (sumP allB (nd L) k) ∧ Below w.heap.size w wr ∧ wr.rowIs w0.heap.size 3 L.length (fun j => .int .i64 (seenF L k j))) (fun _ i _ => L.length - (intOf i).toNat)
  case atStart => exact ⟨0, Nat.zero_le _, rfl, rfl, HX.out, HRW.out⟩
  case round =>
    obtain ⟨k, hk, rfl, rfl, hb, hrw⟩ := hrel
    have HRW2 := Lib.hid hrw
    clear hrw HX HRW
    by_cases hlt : k < L.length
    · have hS' := HS.out.below hb (Nat.le_refl _)
      have c2 := hS'.c2 k hlt
      have cr := HRW2.out.cell hlt
      have cz := HRW2.out.frozen k
      have hbd := HV.out.bd hlt
      obtain ⟨a1, a2, a3, a4, a5⟩ := hbd
      have hne : b ≠ w0.heap.size := Nat.ne_of_lt (Nat.lt_of_lt_of_le HS.out.lt hwl0)
      have hsb := sum_bd HV.out (k := k) (by omega)
      obtain ⟨sb1, sb2⟩ := hsb
      have HSS := Lib.hid (sum_step (L := L) k)
      have HNE := Lib.hid hne
      have hc2' : (wr.setCell ⟨w0.heap.size, k, none⟩ (.int .i64 (at_ L k).d)).cell? ⟨b, o + k * 3 + 2, none⟩ = some (.int .i64 (at_ L k).d) := by
        rw [cell_far _ _ _ _ HNE.out]; exact c2
      clear hS' hne
      go_wp2_with fail
      have hrw3 := HRW2.out.set k (.int .i64 (at_ L k).d)
      have HRW3 : Hid ((wr.setCell ⟨w0.heap.size, k, none⟩ (.int .i64 (at_ L k).d)).rowIs w0.heap.size 3 L.length (fun j => .int .i64 (seenF L (k + 1) j))) := Lib.hid (hrw3.congr fun i _ => seen_step i)
      exact ⟨⟨k + 1, by omega, by go_num, by rw [HSS.out], hb.setCell hwl0 _, HRW3.out⟩, by simp [intOf]; omega⟩
    · have hkn : k = L.length := by omega
      have hd : ¬ (k : Int) < L.length := by omega
      have HKN := Lib.hid hkn
      clear hkn hlt
      go_wp2_with fail
      rw [HKN.out]
      have HRW3 : Hid (wr.rowIs w0.heap.size 3 L.length (fun j => .int .i64 (rest (edf L) L 0 j))) := Lib.hid (HRW2.out.congr fun i hi => by
        show Value.int .i64 (seenF L k i) = _
        rw [HKN.out, seen_all hi]; rfl)
      have HO0 : Hid (sumP allB (nd L) L.length = openAt (edf L) L 0) := rfl
      rw [HO0.out]
      clear HKN HRW2 HO0 hk hd
      obtain ⟨wo, hwo⟩ : ∃ wo : World, wo = wr := ⟨_, rfl⟩
      rw [← hwo] at hb HRW3 ⊢
      clear hwo wr
      go_loopw [5, 8, 9] (fun s v i wr => ∃ t : Nat, t ≤ lenT (edf L) L ∧ i = .int .i64 t ∧ s = .int .i64 (openAt (edf L) L t) ∧ Below w.heap.size w wr ∧ wr.rowIs w0.heap.size 3 L.length (fun j => .int .i64 (rest (edf L) L t j)) ∧ wr.ownsRow (w0.heap.size + 1) 3 1 v t (((List.range t).map (pickN (edf L) L)).map (Value.int .i64))) (fun _ _ i _ => lenT (edf L) L - (intOf i).toNat)
      case atStart => exact ⟨0, Nat.zero_le _, rfl, rfl, hb, HRW3.out, World.ownsRow_nil _ _ _ _⟩
      case round =>
        obtain ⟨t, ht, rfl, rfl, hb', hrw, hown⟩ := hrel
        have HRW := Lib.hid hrw
        have HO := Lib.hid hown
        clear hrw hown HRW3 hb
        obtain ⟨o1, o2⟩ := open_bd HV.out HR.out t
        by_cases hlt : t < lenT (edf L) L
        · have ho := (len_open HV.out ht).2 hlt
          have hod : decide (0 < openAt (edf L) L t) = true := decT ho
          go_wp2_with fail
          obtain ⟨wo, hwo⟩ : ∃ wo : World, wo = wr := ⟨_, rfl⟩
          rw [← hwo] at hb' HRW HO ⊢
          clear hwo wr
          go_loopw [10, 11] (fun v i wr => ∃ m : Nat, m ≤ L.length ∧ i = .int .i64 ((L.length : Int) - 1 - m) ∧ v = .int .i64 (oI (bestD L (rest (edf L) L t) t m)) ∧ Below wo.heap.size wo wr) (fun _ i _ => (intOf i + 1).toNat)
          case atStart => exact ⟨0, Nat.zero_le _, by simp, rfl, Below.refl _ _⟩
          case round =>
            obtain ⟨m, hm, rfl, rfl, hbi⟩ := hrel
            by_cases hlk : m < L.length
            · obtain ⟨q, hq⟩ : ∃ q : Nat, q = L.length - (m + 1) := ⟨_, rfl⟩
              have hqi : (L.length : Int) - 1 - m = q := by omega
              have hqn : q < L.length := by omega
              have hqi2 : (q : Int) - 1 = (L.length : Int) - 1 - ((m + 1 : Nat) : Int) := by omega
              have HQ := Lib.hid hq
              have HQ2 := Lib.hid hqi2
              rw [hqi]
              clear hq hqi hqi2
              have BW : Below w.heap.size w wr := btr hb' hbi
              have hS' := HS.out.below BW (Nat.le_refl _)
              have c0 := cell_regrown (hS'.c0 q hqn)
              have c1 := cell_regrown (hS'.c1 q hqn)
              have cr := cell_regrown ((rowIs_below HRW.out hbi).cell hqn)
              have hbd := HV.out.bd hqn
              obtain ⟨a1, a2, a3, a4, a5⟩ := hbd
              have t60 : t ≤ 540 := by omega
              have dq : decide (0 ≤ (q : Int)) = true := decT (by omega)
              have q0 : (0 : Int) ≤ q := by omega
              have q1 : (q : Int) < L.length := by omega
              by_cases h2 : 0 < rest (edf L) L t q
              · have d2 := decT h2
                by_cases h1 : (at_ L q).s ≤ t
                · have d1 := decT h1
                  cases hob : bestD L (rest (edf L) L t) t m with
                  | none =>
                    have HN : Hid (bestD L (rest (edf L) L t) t (m + 1) = some q) := Lib.hid (bestD_yes HQ.out h1 h2 (.inl hob))
                    clear hob h1 h2 hS'
                    simp only [oI]
                    go_wp2_with fail
                    refine wp_region_B (by kernel_rfl) (by kernel_rfl) ?_
                    repeat (go_big_quiet_step (fail))
                    refine wpQuiet_nil ?_
                    intro w2 hb2
                    go_wp2_with fail
                    exact ⟨⟨m + 1, by omega, by rw [← HQ2.out], by rw [HN.out], btr hbi hb2⟩, by simp only [intOf]; omega⟩
                  | some j =>
                    have hjn : j < L.length := ((bestD_is m (by omega)).fit j hob).2.1
                    have cj := cell_regrown (hS'.c1 j hjn)
                    have j0 : (0 : Int) ≤ j := by omega
                    have j1 : (j : Int) < L.length := by omega
                    have dj : decide ((j : Int) < 0) = false := decF (by omega)
                    have hbj := HV.out.bd hjn
                    obtain ⟨e1, e2, e3, e4, e5⟩ := hbj
                    simp only [oI]
                    by_cases h3 : (at_ L q).e ≤ (at_ L j).e
                    · have d3 := decT h3
                      have HN : Hid (bestD L (rest (edf L) L t) t (m + 1) = some q) := Lib.hid (bestD_yes HQ.out h1 h2 (.inr (by rw [hob]; exact h3)))
                      clear hob h1 h2 h3 hS'
                      go_wp2_with fail
                      refine wp_region_B (by kernel_rfl) (by kernel_rfl) ?_
                      repeat (go_big_quiet_step (fail))
                      refine wpQuiet_nil ?_
                      intro w2 hb2
                      go_wp2_with fail
                      exact ⟨⟨m + 1, by omega, by rw [← HQ2.out], by rw [HN.out], btr hbi hb2⟩, by simp only [intOf]; omega⟩
                    · have d3 := decF h3
                      have HN : Hid (bestD L (rest (edf L) L t) t (m + 1) = some j) := Lib.hid ((bestD_no' HQ.out hob h3).trans hob)
                      clear hob h1 h2 h3 hS'
                      go_wp2_with fail
                      refine wp_region_B (by kernel_rfl) (by kernel_rfl) ?_
                      repeat (go_big_quiet_step (fail))
                      refine wpQuiet_nil ?_
                      intro w2 hb2
                      go_wp2_with fail
                      exact ⟨⟨m + 1, by omega, by rw [← HQ2.out], by rw [HN.out], btr hbi hb2⟩, by simp only [intOf]; omega⟩
                · have d1 := decF h1
                  have HN : Hid (bestD L (rest (edf L) L t) t (m + 1) = bestD L (rest (edf L) L t) t m) := Lib.hid (bestD_no HQ.out (fun h => h1 h.1))
                  generalize bestD L (rest (edf L) L t) t m = ob at HN ⊢
                  clear h1 h2 hS'
                  go_wp2_with fail
                  refine wp_region_B (by kernel_rfl) (by kernel_rfl) ?_
                  repeat (go_big_quiet_step (fail))
                  refine wpQuiet_nil ?_
                  intro w2 hb2
                  go_wp2_with fail
                  exact ⟨⟨m + 1, by omega, by rw [← HQ2.out], by rw [HN.out], btr hbi hb2⟩, by simp only [intOf]; omega⟩
              · have d2 := decF h2
                have HN : Hid (bestD L (rest (edf L) L t) t (m + 1) = bestD L (rest (edf L) L t) t m) := Lib.hid (bestD_no HQ.out (fun h => h2 h.2))
                generalize bestD L (rest (edf L) L t) t m = ob at HN ⊢
                clear h2 hS'
                go_wp2_with fail
                refine wp_region_B (by kernel_rfl) (by kernel_rfl) ?_
                repeat (go_big_quiet_step (fail))
                refine wpQuiet_nil ?_
                intro w2 hb2
                go_wp2_with fail
                exact ⟨⟨m + 1, by omega, by rw [← HQ2.out], by rw [HN.out], btr hbi hb2⟩, by simp only [intOf]; omega⟩
            · have hkn : m = L.length := by omega
              have hge : (L.length : Int) ≤ m := by omega
              have BW : Below w.heap.size w wr := btr hb' hbi
              have HKN := Lib.hid hkn
              have HLT := Lib.hid hlt
              have HO3 := Lib.hid (ownsRow_below HO.out hbi)
              have HRW3 := Lib.hid (rowIs_below HRW.out hbi)
              have hwl : w0.heap.size < wr.heap.size := HRW3.out.lt
              clear hkn hlk
              rw [show bestD L (rest (edf L) L t) t m = best L (rest (edf L) L t) t L.length by rw [HKN.out, best_eq HV.out]]
              cases hp : best L (rest (edf L) L t) t L.length with
              | none =>
                have HPN : Hid (pickN (edf L) L t = -1) := Lib.hid (by show oI (edf L (rest (edf L) L t) t) = _; rw [show edf L (rest (edf L) L t) t = _ from hp]; rfl)
                have HOP : Hid (openAt (edf L) L (t + 1) = openAt (edf L) L t) := Lib.hid (open_none (pk := edf L) hp)
                have HRS : Hid (rest (edf L) L (t + 1) = rest (edf L) L t) := Lib.hid (by funext j; simp [rest, edf, hp])
                clear hp hod ho
                simp only [oI]
                go_wp2_with (at_builtin; refine wpList_append_own _ rfl _ _ 23 rfl (w0.heap.size + 1) 3 i0 (.int .i64 0) 1 8 Try.underlying23 hi hz0 hz1 hz2 rfl (by decide) _ _ _ rfl (HO3.out.alloc _) ⟨wr.heap.size, 0, none⟩ 1 1 [.int .i64 (-1)] rfl rfl (cell_one_new _ _ _) (by simp [Value.oneCell']) (by unfold maxLen; omega) (by omega) (by simp; omega) ?_)
                intro v' w4 hown4 hg4 _
                have hb4 : Below w.heap.size w w4 := (BW.alloc BW.size _).grown hg4 (by have := BW.size; simp; omega) (fun q hq => by have := (HO3.out.lt q hq).1; omega)
                have HO4 := Lib.hid hown4
                have HRW4 := Lib.hid (rowIs_grown (HRW3.out.alloc _) hg4 (own_ne HO3.out (Nat.lt_succ_self _)))
                clear hown4 hg4
                go_wp2_with fail
                exact ⟨⟨t + 1, by have := HLT.out; omega, by go_num, by rw [HOP.out], hb4, by rw [HRS.out]; exact HRW4.out, by rw [List.range_succ, List.map_append, List.map_append]; simpa [HPN.out] using HO4.out⟩, by have := HLT.out; simp [intOf]; omega⟩
              | some j =>
                have hfit := HR.out.fit _ _ _ (show edf L (rest (edf L) L t) t = some j from hp)
                obtain ⟨f1, f2, f3⟩ := hfit
                have HPN : Hid (pickN (edf L) L t = (j : Int)) := Lib.hid (by show oI (edf L (rest (edf L) L t) t) = _; rw [show edf L (rest (edf L) L t) t = _ from hp]; rfl)
                have HOP : Hid (openAt (edf L) L (t + 1) = openAt (edf L) L t - 1) := Lib.hid (open_some (pk := edf L) HR.out hp)
                have HRS : Hid (∀ i, (if i = j then Value.int .i64 (rest (edf L) L t j - 1) else .int .i64 (rest (edf L) L t i)) = .int .i64 (rest (edf L) L (t + 1) i)) := Lib.hid (by
                  intro i
                  by_cases hij : i = j
                  · subst hij; simp [rest, edf, hp]
                  · have hji : ¬ j = i := fun h => hij h.symm
                    simp [rest, edf, hp, hij, hji])
                have hrb := rest_le HV.out HR.out t f1
                obtain ⟨r1, r2⟩ := hrb
                have cr := HRW3.out.cell f1
                have cz := HRW3.out.frozen j
                have dj : decide (0 ≤ (j : Int)) = true := decT (by omega)
                clear hp hod ho f3
                simp only [oI]
                go_wp2_with (at_builtin; refine wpList_append_own _ rfl _ _ 23 rfl (w0.heap.size + 1) 3 i0 (.int .i64 0) 1 8 Try.underlying23 hi hz0 hz1 hz2 rfl (by decide) _ _ _ rfl ((own_set HO3.out (Nat.lt_succ_self _) _).alloc _) ⟨wr.heap.size, 0, none⟩ 1 1 [.int .i64 (j : Int)] rfl rfl (by have h9 := cell_one_new (wr.setCell ⟨w0.heap.size, j, none⟩ (.int .i64 (rest (edf L) L t j - 1))) (.int .i64 (j : Int)) 3; simpa using h9) (by simp [Value.oneCell']) (by unfold maxLen; omega) (by omega) (by simp; omega) ?_)
                intro v' w4 hown4 hg4 _
                have BS : Below w.heap.size w (wr.setCell ⟨w0.heap.size, j, none⟩ (.int .i64 (rest (edf L) L t j - 1))) := BW.setCell hwl0 _
                have hb4 : Below w.heap.size w w4 := (BS.alloc BS.size _).grown hg4 (by have := BW.size; simp; omega) (fun q hq => by have := (HO3.out.lt q hq).1; omega)
                have HO4 := Lib.hid hown4
                have HRW4 := Lib.hid (rowIs_grown ((HRW3.out.set j (.int .i64 (rest (edf L) L t j - 1))).alloc _) hg4 (own_ne HO3.out (Nat.lt_succ_self _)))
                clear hown4 hg4
                go_wp2_with fail
                exact ⟨⟨t + 1, by have := HLT.out; omega, by go_num, by rw [HOP.out], hb4, HRW4.out.congr fun i _ => HRS.out i, by rw [List.range_succ, List.map_append, List.map_append]; simpa [HPN.out] using HO4.out⟩, by have := HLT.out; simp [intOf]; omega⟩
        · have hte : t = lenT (edf L) L := by omega
          have hod : decide (0 < openAt (edf L) L t) = false := decF (fun h => hlt ((len_open HV.out ht).1 h))
          have HTE := Lib.hid hte
          clear hte hlt
          go_wp2_with fail
          go_ret2
          refine ⟨_, rfl, ?_, hb'⟩
          have h1 := (ownsRow_is HO.out).mono (Nat.le_trans hwl0 (Nat.le_succ _))
          rw [HTE.out] at h1
          exact h1

theorem rUrgent_c (a : Option Addr) (n c : Nat) (L : List Jb) (w : World) (h : SlO w a n L) : Calls Try.prog 20 #[.slice a n c] w (RetI2 w (urR L) (vErr L)) := by
  by_cases hv0 : vErr L = 0
  · have hv := vErr_zero.1 hv0
    have hu : urR L = tbl (edf L) L := if_pos hv0
    rw [hu, hv0]
    by_cases h0 : n = 0
    · subst h0
      have hL : L = [] := List.eq_nil_of_length_eq_zero h.1.symm
      subst hL
      rw [tbl_nil]
      have hmk : ∀ w : World, (Instr.makeSlice 23 (.int .i64 0) (.int .i64 0)).run Try.prog w = .ok (.slice (some ⟨w.heap.size, 0, none⟩) 0 0) (w.alloc (.cells #[] 3)) := fun _ => by kernel_rfl
      have hcon := rValidate_c a 0 c [] w h
      rw [hv0] at hcon
      have HCON := Lib.hid hcon
      clear hv hcon hu hv0
      go_enter Try.func20, Try.ntmps20
      go_wp2_with fail
      refine HCON.out.mono ?_
      rintro e w0 ⟨rfl, hb0⟩
      go_wp2_with fail
      have HX : Hid (Below w.heap.size w (w0.alloc (.cells #[] 3))) := Lib.hid (hb0.alloc hb0.size _)
      clear hmk
      go_loopw [5, 7] (fun s i wr => s = .int .i64 0 ∧ i = .int .i64 0 ∧ Below w.heap.size w wr) (fun _ _ _ => 0)
      case atStart => exact ⟨rfl, rfl, HX.out⟩
      case round =>
        obtain ⟨rfl, rfl, hb⟩ := hrel
        go_wp2_with fail
        go_loopw [5, 8, 9] (fun s v i wr' => s = .int .i64 0 ∧ v = .slice none 0 0 ∧ i = .int .i64 0 ∧ wr' = wr) (fun _ _ _ _ => 0)
        case atStart => exact ⟨rfl, rfl, rfl, rfl⟩
        case round =>
          obtain ⟨rfl, rfl, rfl, rfl⟩ := hrel
          go_wp2_with fail
          go_ret2
          exact ⟨_, rfl, IsV.nil _ _, hb⟩
    · rcases h.2 with h' | ⟨b, o, rfl, hS⟩
      · exact absurd h' h0
      · exact rurgent_in b o n c L w hS (by omega) hv
  · have hu : urR L = [] := if_neg hv0
    have hne : (vErr L != 0) = true := by simpa using hv0
    rw [hu]
    clear hu hv0
    go_enter Try.func20, Try.ntmps20
    go_wp2_with fail
    refine (rValidate_c _ _ _ _ _ h).mono ?_
    rintro e w0 ⟨rfl, hb0⟩
    go_wp2_with fail
    go_ret2
    exact ⟨_, rfl, IsV.nil _ _, hb0⟩

/-- Urgent of the program. -/
theorem Urgent_c (a : Option Addr) (n c : Nat) (L : List Jb) (w : World) (h : SlO w a n L) : Calls Try.prog 19 #[.slice a n c] w (RetI2 w (urR L) (vErr L)) := by
  by_cases hv0 : vErr L = 0
  · have hv := vErr_zero.1 hv0
    have hu : urR L = tbl (edf L) L := if_pos hv0
    have hne : (vErr L != 0) = false := by simp [hv0]
    rw [hu]
    have HE := Lib.hid hv0
    clear hu hv0
    go_enter Try.func19, Try.ntmps19
    go_wp2_with fail
    refine (Validate_c _ _ _ _ _ h).mono ?_
    rintro e w0 ⟨rfl, hb0⟩
    go_wp2_with fail
    refine (urgent_c _ _ _ _ _ (h.below hb0 (Nat.le_refl _)) hv).mono ?_
    rintro e w1 ⟨v1, rfl, hv1, hb1⟩
    go_wp2_with fail
    go_ret2
    exact ⟨v1, by rw [HE.out]; rfl, hv1.mono hb0.size, btr hb0 hb1⟩
  · have hu : urR L = [] := if_neg hv0
    have hne : (vErr L != 0) = true := by simpa using hv0
    rw [hu]
    clear hu hv0
    go_enter Try.func19, Try.ntmps19
    go_wp2_with fail
    refine (Validate_c _ _ _ _ _ h).mono ?_
    rintro e w0 ⟨rfl, hb0⟩
    go_wp2_with fail
    go_ret2
    exact ⟨_, rfl, IsV.nil _ _, hb0⟩

end Go.Proofs.Ytbmbogaejmgloaa
