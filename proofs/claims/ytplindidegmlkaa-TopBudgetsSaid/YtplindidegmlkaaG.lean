/- isChoice of budget; chosen of the reference. -/
import Derived.Test.YtplindidegmlkaaW
namespace Go.Proofs.Ytplindidegmlkaa
open Go.RowKit Go.Sort

theorem isC_bad {m k : Nat} {ch : List Int} (hs : scanJ (badC m ch) ch.length 0 = scanJ (badC m ch) (ch.length - k) k) (hk : k < ch.length) (hb : badC m ch k = true) : isC m ch = false := by
  unfold isC; rw [hs, scan_yes hk hb]; rfl
theorem isC_go {m k : Nat} {ch : List Int} (hs : scanJ (badC m ch) ch.length 0 = scanJ (badC m ch) (ch.length - k) k) (hk : k < ch.length) (hb : badC m ch k = false) : scanJ (badC m ch) ch.length 0 = scanJ (badC m ch) (ch.length - (k + 1)) (k + 1) := by rw [hs, scan_no hk hb]
theorem isC_end {m k : Nat} {ch : List Int} (hs : scanJ (badC m ch) ch.length 0 = scanJ (badC m ch) (ch.length - k) k) (hk : ¬ k < ch.length) : isC m ch = true := by
  unfold isC; rw [hs, scan_end hk]; rfl

set_option maxRecDepth 100000 in
set_option maxHeartbeats 3200000 in
theorem isChoice_c (fa : Option Addr) (m fc : Nat) (ca : Option Addr) (p cc : Nat) (ch : List Int) (w : World) (h : IsO w ca p ch) (hm : m ≤ 9223372036854775807) (hp : p ≤ 1000000) :
    Calls Try.prog 76 #[.slice fa m fc, .slice ca p cc] w fun e w' => e = .returned (.bool (isC m ch)) ∧ Below w.heap.size w w' := by
  have HH := Lib.hid h
  have HP := Lib.hid h.1
  have C1 := fun k => Lib.hid (isC_bad (m := m) (ch := ch) (k := k))
  have C2 := fun k => Lib.hid (isC_go (m := m) (ch := ch) (k := k))
  have C3 := fun k => Lib.hid (isC_end (m := m) (ch := ch) (k := k))
  generalize isC m ch = R at *
  clear h
  go_enter Try.func76, Try.ntmps76
  go_wp2_with fail
  go_loopw [9] (fun i wr => ∃ k : Nat, k ≤ p ∧ i = .int .i64 k ∧ w = wr ∧ Hid (scanJ (badC m ch) ch.length 0 = scanJ (badC m ch) (ch.length - k) k)) (fun i _ => p - (intOf i).toNat)
  case atStart => exact ⟨0, Nat.zero_le _, rfl, rfl, Lib.hid rfl⟩
  case round =>
    obtain ⟨k, hk, rfl, rfl, HS⟩ := hrel
    by_cases hlt : k < p
    · have HK : Hid (k < ch.length) := Lib.hid (by have := HP.out; omega)
      obtain ⟨b, o, rfl, hS⟩ : ∃ b o, ca = some ⟨b, o, none⟩ ∧ Is w b o p ch := by
        rcases HH.out.2 with h' | h'
        · omega
        · exact h'
      have c0 := hS.c0 k hlt
      have D1 := Lib.hid ((C1 k).out HS.out HK.out)
      have D2 := Lib.hid ((C2 k).out HS.out HK.out)
      cases t1 : inB (gi ch k) 0 ((m : Int) - 1)
      · have D := Lib.hid (D1.out (by unfold badC; rw [t1]; rfl))
        clear C1 C2 C3 D1 D2 hS
        go_wp2_with fail
        refine (within_c _ _ _ _).mono ?_
        rintro e w2 ⟨rfl, rfl⟩
        rw [t1]
        go_wp2_with fail
        go_ret
        exact ⟨by rw [D.out]; rfl, Below.refl _ _⟩
      · by_cases hk0 : 0 < k
        · obtain ⟨j, rfl⟩ : ∃ j, k = j + 1 := ⟨k - 1, by omega⟩
          have c1 := hS.c0 j (by omega)
          have E : Hid (badC m ch (j + 1) = decide (gi ch (j + 1) ≤ gi ch j)) := Lib.hid (by unfold badC; rw [t1]; simp)
          by_cases t2 : gi ch (j + 1) ≤ gi ch j
          · have D := Lib.hid (D1.out (by rw [E.out]; exact decT t2))
            have t2' : decide (gi ch (j + 1) ≤ gi ch j) = true := decT t2
            clear C1 C2 C3 D1 D2 hS
            generalize gi ch (j + 1) = u at *
            generalize gi ch j = v at *
            go_wp2_with fail
            refine (within_c _ _ _ _).mono ?_
            rintro e w2 ⟨rfl, rfl⟩
            rw [t1]
            clear t1
            go_wp2_with fail
            go_ret
            exact ⟨by rw [D.out]; rfl, Below.refl _ _⟩
          · have D := Lib.hid (D2.out (by rw [E.out]; exact decF t2))
            have t2' : decide (gi ch (j + 1) ≤ gi ch j) = false := decF t2
            clear C1 C2 C3 D1 D2 hS
            generalize gi ch (j + 1) = u at *
            generalize gi ch j = v at *
            go_wp2_with fail
            refine (within_c _ _ _ _).mono ?_
            rintro e w2 ⟨rfl, rfl⟩
            rw [t1]
            clear t1
            go_wp2_with fail
            exact ⟨⟨j + 1 + 1, by omega, by go_num, trivial, D⟩, by simp [intOf]; omega⟩
        · have D := Lib.hid (D2.out (by unfold badC; rw [t1, decF hk0]; rfl))
          have hk0' : ¬ (0 : Int) < (k : Int) := by omega
          clear C1 C2 C3 D1 D2 hS
          go_wp2_with fail
          refine (within_c _ _ _ _).mono ?_
          rintro e w2 ⟨rfl, rfl⟩
          rw [t1]
          go_wp2_with fail
          exact ⟨⟨k + 1, by omega, by go_num, trivial, D⟩, by simp [intOf]; omega⟩
    · have D := Lib.hid ((C3 k).out HS.out (by have := HP.out; omega))
      have hd : ¬ (k : Int) < p := by omega
      clear C1 C2 C3 hlt
      go_wp2_with fail
      go_ret
      exact ⟨by rw [D.out]; rfl, Below.refl _ _⟩

def eqB (F : List Fx) (ch : List Int) (i : Nat) (j : Nat) : Bool := decide (ix F ch j = ix F ch i)
theorem dup_scan (F : List Fx) (ch : List Int) (i : Nat) : dupB F ch i = (scanJ (eqB F ch i) i 0).isSome := rfl
theorem eq_yes {F : List Fx} {ch : List Int} {i k : Nat} (hs : scanJ (eqB F ch i) i 0 = scanJ (eqB F ch i) (i - k) k) (hk : k < i) (hb : eqB F ch i k = true) : dupB F ch i = true := by rw [dup_scan, hs, scan_yes hk hb]; rfl
theorem eq_no {F : List Fx} {ch : List Int} {i k : Nat} (hs : scanJ (eqB F ch i) i 0 = scanJ (eqB F ch i) (i - k) k) (hk : k < i) (hb : eqB F ch i k = false) : scanJ (eqB F ch i) i 0 = scanJ (eqB F ch i) (i - (k + 1)) (k + 1) := by rw [hs, scan_no hk hb]
theorem eq_end {F : List Fx} {ch : List Int} {i k : Nat} (hs : scanJ (eqB F ch i) i 0 = scanJ (eqB F ch i) (i - k) k) (hk : ¬ k < i) : dupB F ch i = false := by rw [dup_scan, hs, scan_end hk]; rfl
theorem ch_1 {F : List Fx} {ch : List Int} (h : isC F.length ch = false) : chErr F ch = 1 := by unfold chErr; rw [if_neg (by simp [h])]
theorem ch_6 {F : List Fx} {ch : List Int} (h : isC F.length ch = true) (h2 : twB F ch = true) : chErr F ch = 6 := by unfold chErr; rw [if_pos h, if_pos h2]
theorem ch_0 {F : List Fx} {ch : List Int} (h : isC F.length ch = true) (h2 : twB F ch = false) : chErr F ch = 0 := by unfold chErr; rw [if_pos h, if_neg (by simp [h2])]

set_option maxRecDepth 100000 in
set_option maxHeartbeats 6400000 in
theorem chosen_c (fa : Option Addr) (m fc : Nat) (F : List Fx) (ca : Option Addr) (p cc : Nat) (ch : List Int) (w : World) (hf : FlO w fa m F) (h : IsO w ca p ch) (hm : m ≤ 9223372036854775807) (hp : p ≤ 1000000) (h0 : ∀ k, k < F.length → 0 ≤ (fx F k).i) :
    Calls Try.prog 88 #[.slice fa m fc, .slice ca p cc] w fun e w' => e = .returned (.int .i64 (chErr F ch)) ∧ Below w.heap.size w w' := by
  have HH := Lib.hid h
  have HP := Lib.hid h.1
  have HF := Lib.hid hf
  have HM := Lib.hid hf.1
  have H0 := Lib.hid h0
  have C1 := fun k => Lib.hid (isC_bad (m := F.length) (ch := ch) (k := k))
  have C2 := fun k => Lib.hid (isC_go (m := F.length) (ch := ch) (k := k))
  have C3 := fun k => Lib.hid (isC_end (m := F.length) (ch := ch) (k := k))
  have E1 := Lib.hid (ch_1 (F := F) (ch := ch))
  have E6 := Lib.hid (ch_6 (F := F) (ch := ch))
  have E0 := Lib.hid (ch_0 (F := F) (ch := ch))
  have T1 := fun k => Lib.hid (tw_yes (F := F) (ch := ch) (k := k))
  have T2 := fun k => Lib.hid (dup_no (F := F) (ch := ch) (k := k))
  have T3 := fun k => Lib.hid (dup_end (F := F) (ch := ch) (k := k))
  have AC : Hid (isC F.length ch = true → inR F ch) := Lib.hid (fun hi => (isC_asc.1 hi).inR rfl)
  generalize chErr F ch = R at *
  clear h hf h0
  go_enter Try.func88, Try.ntmps88
  go_wp2_with fail
  go_loopw [5] (fun i wr => ∃ k : Nat, k ≤ p ∧ i = .int .i64 k ∧ Below w.heap.size w wr ∧ Hid (scanJ (badC F.length ch) ch.length 0 = scanJ (badC F.length ch) (ch.length - k) k)) (fun i _ => p - (intOf i).toNat)
  case atStart => exact ⟨0, Nat.zero_le _, rfl, Below.refl _ _, Lib.hid rfl⟩
  case round =>
    obtain ⟨k, hk, rfl, hb, HS⟩ := hrel
    by_cases hlt : k < p
    · have HK : Hid (k < ch.length) := Lib.hid (by have := HP.out; omega)
      obtain ⟨b, o, rfl, hS⟩ : ∃ b o, ca = some ⟨b, o, none⟩ ∧ Is w b o p ch := by
        rcases HH.out.2 with h' | h'
        · omega
        · exact h'
      have hS' := hS.below hb (Nat.le_refl _)
      have c0 := cell_regrown (hS'.c0 k hlt)
      have D1 := Lib.hid ((C1 k).out HS.out HK.out)
      have D2 := Lib.hid ((C2 k).out HS.out HK.out)
      cases t1 : inB (gi ch k) 0 ((m : Int) - 1)
      · have D := Lib.hid (E1.out (D1.out (by unfold badC; rw [← HM.out, t1]; rfl)))
        have cA := fun d os => rg_same (v := .bool false) (Calls.val0 (rWithin_c (gi ch k) 0 ((m : Int) - 1) (grow (redrawn wr d) os)) (vb t1))
        clear C1 C2 C3 D1 D2 hS hS' E1 E6 E0 T1 T2 T3 AC t1
        go_wp2_with fail
        refine wp_region_B (by kernel_rfl) (by kernel_rfl) ?_
        repeat (go_big_quiet_step (with_reducible exact cA _ _))
        refine wpQuiet_nil ?_
        intro w2 hb2
        go_wp2_with fail
        go_ret
        exact ⟨by rw [D.out]; rfl, btr hb hb2⟩
      · have cA := fun d os => rg_same (v := .bool true) (Calls.val0 (rWithin_c (gi ch k) 0 ((m : Int) - 1) (grow (redrawn wr d) os)) (vb t1))
        by_cases hk0 : 0 < k
        · obtain ⟨j, rfl⟩ : ∃ j, k = j + 1 := ⟨k - 1, by omega⟩
          have c1 := cell_regrown (hS'.c0 j (by omega))
          have E : Hid (badC F.length ch (j + 1) = decide (gi ch (j + 1) ≤ gi ch j)) := Lib.hid (by unfold badC; rw [← HM.out, t1]; simp)
          have hsj : IntKind.i64.wrap ((j : Int) + 1 - 1) = (j : Int) := by rw [IntWalk.i64_in _ (by omega)]; omega
          by_cases t2 : gi ch (j + 1) ≤ gi ch j
          · have D := Lib.hid (E1.out (D1.out (by rw [E.out]; exact decT t2)))
            have t2' : decide (gi ch (j + 1) ≤ gi ch j) = true := decT t2
            clear C1 C2 C3 D1 D2 hS hS' E1 E6 E0 T1 T2 T3 AC t1
            go_wp2_with fail
            refine wp_region_B (by kernel_rfl) (by kernel_rfl) ?_
            repeat (go_big_quiet_step (with_reducible exact cA _ _))
            refine wpQuiet_nil ?_
            intro w2 hb2
            clear hsj
            go_wp2_with fail
            go_ret
            exact ⟨by rw [D.out]; rfl, btr hb hb2⟩
          · have D := Lib.hid (D2.out (by rw [E.out]; exact decF t2))
            have t2' : decide (gi ch (j + 1) ≤ gi ch j) = false := decF t2
            clear C1 C2 C3 D1 D2 hS hS' E1 E6 E0 T1 T2 T3 AC t1
            go_wp2_with fail
            refine wp_region_B (by kernel_rfl) (by kernel_rfl) ?_
            repeat (go_big_quiet_step (with_reducible exact cA _ _))
            refine wpQuiet_nil ?_
            intro w2 hb2
            clear hsj
            go_wp2_with fail
            exact ⟨⟨j + 1 + 1, by omega, by go_num, btr hb hb2, D⟩, by simp [intOf]; omega⟩
        · have D := Lib.hid (D2.out (by unfold badC; rw [← HM.out, t1, decF hk0]; rfl))
          have hk0' : ¬ (0 : Int) < (k : Int) := by omega
          clear C1 C2 C3 D1 D2 hS hS' E1 E6 E0 T1 T2 T3 AC t1
          go_wp2_with fail
          refine wp_region_B (by kernel_rfl) (by kernel_rfl) ?_
          repeat (go_big_quiet_step (with_reducible exact cA _ _))
          refine wpQuiet_nil ?_
          intro w2 hb2
          go_wp2_with fail
          exact ⟨⟨k + 1, by omega, by go_num, btr hb hb2, D⟩, by simp [intOf]; omega⟩
    · have D := Lib.hid ((C3 k).out HS.out (by have := HP.out; omega))
      have hd : ¬ (k : Int) < p := by omega
      have HR := Lib.hid (AC.out D.out)
      have HB := Lib.hid hb
      clear C1 C2 C3 hlt E1 hb AC
      go_wp2_with fail
      go_loopw [6] (fun i wr => ∃ k : Nat, k ≤ p ∧ i = .int .i64 k ∧ Below w.heap.size w wr ∧ Hid (scanJ (dupB F ch) ch.length 0 = scanJ (dupB F ch) (ch.length - k) k)) (fun i _ => p - (intOf i).toNat)
      case atStart => exact ⟨0, Nat.zero_le _, rfl, HB.out, Lib.hid rfl⟩
      case round =>
        obtain ⟨i, hi, rfl, hb, HS2⟩ := hrel
        clear HB
        by_cases hlt : i < p
        · have HK : Hid (i < ch.length) := Lib.hid (by have := HP.out; omega)
          obtain ⟨b, o, rfl, hS⟩ : ∃ b o, ca = some ⟨b, o, none⟩ ∧ Is w b o p ch := by
            rcases HH.out.2 with h' | h'
            · omega
            · exact h'
          obtain ⟨y1, y2⟩ := HR.out i HK.out
          obtain ⟨bf, of, rfl, hF⟩ : ∃ b o, fa = some ⟨b, o, none⟩ ∧ Fl w b o m F := by
            rcases HF.out.2 with h' | h'
            · have := HM.out; omega
            · exact h'
          obtain ⟨q, hq⟩ := Int.eq_ofNat_of_zero_le y1
          have hqm : q < m := by have := HM.out; omega
          have HIX : Hid ((fx F q).i = (ix F ch i : Int)) := Lib.hid (by have := H0.out q (by have := HM.out; omega); unfold ix fk; rw [hq]; simp; omega)
          have HSS := Lib.hid hS
          have HFF := Lib.hid hF
          have HQ := Lib.hid hq
          have HBB := Lib.hid hb
          have I1 := Lib.hid ((T1 i).out HK.out)
          have I2 := Lib.hid ((T2 i).out HS2.out HK.out)
          have J1 := fun k => Lib.hid (eq_yes (F := F) (ch := ch) (i := i) (k := k))
          have J2 := fun k => Lib.hid (eq_no (F := F) (ch := ch) (i := i) (k := k))
          have J3 := fun k => Lib.hid (eq_end (F := F) (ch := ch) (i := i) (k := k))
          clear hS hF hq y1 y2 T1 T2 T3 hb
          go_wp2_with fail
          go_loopw [7] (fun i2 wr => ∃ k : Nat, k ≤ i ∧ i2 = .int .i64 k ∧ Below w.heap.size w wr ∧ Hid (scanJ (eqB F ch i) i 0 = scanJ (eqB F ch i) (i - k) k)) (fun i2 _ => i - (intOf i2).toNat)
          case atStart => exact ⟨0, Nat.zero_le _, rfl, HBB.out, Lib.hid rfl⟩
          case round =>
            obtain ⟨k, hk, rfl, hb, HS3⟩ := hrel
            clear HBB
            by_cases hlt2 : k < i
            · obtain ⟨z1, z2⟩ := HR.out k (by have := HK.out; omega)
              obtain ⟨q2, hq2⟩ := Int.eq_ofNat_of_zero_le z1
              have hq2m : q2 < m := by have := HM.out; omega
              have HIX2 : Hid ((fx F q2).i = (ix F ch k : Int)) := Lib.hid (by have := H0.out q2 (by have := HM.out; omega); unfold ix fk; rw [hq2]; simp; omega)
              have e0 := (HSS.out.below hb (Nat.le_refl _)).c0 i hlt
              have e1 := (HSS.out.below hb (Nat.le_refl _)).c0 k (by omega)
              have e2 := (HFF.out.below hb (Nat.le_refl _)).c0 q hqm
              have e3 := (HFF.out.below hb (Nat.le_refl _)).c0 q2 hq2m
              rw [HQ.out] at e0
              rw [hq2] at e1
              rw [HIX.out] at e2
              rw [HIX2.out] at e3
              have k0 := cell_regrown e0
              have k1 := cell_regrown e1
              have k2 := cell_regrown e2
              have k3 := cell_regrown e3
              have D1 := Lib.hid ((J1 k).out HS3.out hlt2)
              have D2 := Lib.hid ((J2 k).out HS3.out hlt2)
              have E : Hid (eqB F ch i k = decide (ix F ch k = ix F ch i)) := Lib.hid rfl
              clear e0 e1 e2 e3 hq2 z1 z2 J1 J2 J3
              generalize ix F ch i = u at *
              generalize ix F ch k = v at *
              by_cases huv : v = u
              · have D := Lib.hid (E6.out D.out (I1.out (D1.out (by rw [E.out]; exact decT huv))))
                have t3 : ((u : Int) == (v : Int)) = true := by simp; omega
                have t4 : (u == v) = true := by simp; omega
                clear huv D1 D2
                go_wp2_with fail
                refine wp_region_B (by kernel_rfl) (by kernel_rfl) ?_
                repeat (go_big_quiet_step (fail))
                refine wpQuiet_nil ?_
                intro w2 hb2
                go_wp2_with fail
                go_ret
                exact ⟨by rw [D.out]; rfl, btr hb hb2⟩
              · have D := Lib.hid (D2.out (by rw [E.out]; exact decF huv))
                have t3 : ((u : Int) == (v : Int)) = false := by simp; omega
                have t4 : (u == v) = false := by simp; omega
                clear huv D1 D2
                go_wp2_with fail
                refine wp_region_B (by kernel_rfl) (by kernel_rfl) ?_
                repeat (go_big_quiet_step (fail))
                refine wpQuiet_nil ?_
                intro w2 hb2
                go_wp2_with fail
                exact ⟨⟨k + 1, by omega, by go_num, btr hb hb2, D⟩, by simp [intOf]; omega⟩
            · have D := Lib.hid (I2.out ((J3 k).out HS3.out hlt2))
              have hki : ¬ k < i := hlt2
              have hd2 : ¬ (k : Int) < (i : Int) := by omega
              clear J1 J2 J3
              go_wp2_with fail
              exact ⟨⟨i + 1, by omega, by go_num, hb, D⟩, by simp [intOf]; omega⟩
        · have D2 := Lib.hid (E0.out D.out ((T3 i).out HS2.out (by have := HP.out; omega)))
          have hd2 : ¬ (i : Int) < p := by omega
          clear T1 T2 T3 hlt
          go_wp2_with fail
          go_ret
          exact ⟨by rw [D2.out]; rfl, hb⟩
end Go.Proofs.Ytplindidegmlkaa
