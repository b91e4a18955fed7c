/- parts and Total of the reference of budget. -/
import Derived.Test.YtplindidegmlkaaT2
namespace Go.Proofs.Ytplindidegmlkaa
open Go.RowKit Go.Sort

set_option maxHeartbeats 1600000 in
theorem parts_c (a : Option Addr) (n c : Nat) (L : List It) (w : World) (h : SlO w a n L) (hv : Valid L) : Calls Try.prog 82 #[.slice a n c] w fun e w' => e = .returned (.int .i64 (parts L)) ∧ Below w.heap.size w w' := by
  have HV := Lib.hid hv
  have HH := Lib.hid h
  have HLn := Lib.hid h.1
  have hn6 : n ≤ 6 := by have := h.1; have := hv.le; omega
  clear h hv
  go_enter Try.func82, Try.ntmps82
  go_wp2_with fail
  go_loopw [3, 4] (fun s i wr => ∃ k : Nat, k ≤ n ∧ i = .int .i64 k ∧ s = .int .i64 (paT L k) ∧ Below w.heap.size w wr) (fun _ i _ => n - (intOf i).toNat)
  case atStart => exact ⟨0, Nat.zero_le _, rfl, rfl, Below.refl _ _⟩
  case round =>
    obtain ⟨k, hk, rfl, rfl, hb⟩ := hrel
    have HPB := paT_bd HV.out k (by have := HLn.out; omega)
    obtain ⟨p1, p2⟩ := HPB
    by_cases hlt : k < n
    · obtain ⟨b, o, rfl, hS⟩ : ∃ b o, a = some ⟨b, o, none⟩ ∧ Sl w b o n L := by
        rcases HH.out.2 with h' | h'
        · omega
        · exact h'
      have hS' := hS.below hb (Nat.le_refl _)
      have k0 := cell_regrown (hS'.c0 k hlt)
      have k1 := cell_regrown (hS'.c1 k hlt)
      have k2 := cell_regrown (hS'.c2 k hlt)
      have hkL : k < L.length := by have := HLn.out; omega
      obtain ⟨a1, a2, a3, a4, a5, a6⟩ := HV.out.bd hkL
      obtain ⟨q1, q2⟩ := part_bd a3 a4 a5 a6
      have hw := wI_bd (HV.out.ok k hkL)
      have HW : Hid (wI (at_ L k) = (at_ L k).u * partI (at_ L k).n (at_ L k).d) := Lib.hid rfl
      have HST := Lib.hid (paT_step L k)
      rw [HW.out] at hw HST
      obtain ⟨w1', w2'⟩ := hw
      have cF := fun d os => Calls.regrown_of (part_c (at_ L k).n (at_ L k).d (grow (redrawn wr d) os) ⟨a5, by omega⟩)
      clear hS hS' HW
      go_wp2_with fail
      refine wp_region_B (by kernel_rfl) (by kernel_rfl) ?_
      repeat (go_big_quiet_step (exact cF _ _))
      refine wpQuiet_nil ?_
      intro w2 hb2
      go_wp2_with fail
      exact ⟨⟨k + 1, by omega, by go_num, by rw [HST.out], btr hb hb2⟩, by simp [intOf]; omega⟩
    · have hkn : k = n := by omega
      have hd : ¬ (k : Int) < n := by omega
      have HKN := Lib.hid (hkn.trans HLn.out)
      clear hkn hlt
      go_wp2_with fail
      go_ret
      exact ⟨by rw [HKN.out]; rfl, hb⟩

set_option maxHeartbeats 800000 in
theorem rTotal_c (a : Option Addr) (n c : Nat) (L : List It) (w : World) (h : SlO w a n L) : Calls Try.prog 38 #[.slice a n c] w (RetFe w (totN L) (totD L) (vErr L)) := by
  have HA : Hid (Below w.heap.size w (w.alloc (.cells #[.int .i64 0, .int .i64 0] 25))) := Lib.hid ((Below.refl _ _).alloc (Nat.le_refl _) _)
  have HC : Hid (Cell2 (w.alloc (.cells #[.int .i64 0, .int .i64 0] 25)) w.heap.size 0 0) := Lib.hid ⟨by simp [go_sem], by simp [go_sem], by simp [go_sem], by simp [go_sem]⟩
  by_cases h0 : vErr L = 0
  · have hne : (vErr L != 0) = false := by simp [h0]
    have HN : Hid (totN L = redN (parts L) 2520) := Lib.hid (if_pos h0)
    have HD : Hid (totD L = redD (parts L) 2520) := Lib.hid (if_pos h0)
    have HV := Lib.hid (vErr_zero.1 h0)
    have HE := Lib.hid h0
    rw [HN.out, HD.out]
    clear h0
    obtain ⟨p1, p2⟩ := parts_bd HV.out
    go_enter Try.func38, Try.ntmps38
    go_wp2_with fail
    refine (rValidate_c _ _ _ _ _ (h.below HA.out (Nat.le_refl _))).mono ?_
    rintro e w1 ⟨rfl, hb1⟩
    have B1 : Below w.heap.size w w1 := btr HA.out hb1
    have HC1 := Lib.hid (HC.out.below hb1)
    clear hb1
    go_wp2_with fail
    refine (parts_c _ _ _ _ _ (h.below B1 (Nat.le_refl _)) HV.out).mono ?_
    rintro e w2 ⟨rfl, hb2⟩
    have B2 : Below w.heap.size w w2 := btr B1 hb2
    have HC2 := Lib.hid (HC1.out.below hb2)
    clear hb2
    go_wp2_with fail
    refine (Ratio_c (parts L) 2520 _ p1 (by omega) (by decide) (by decide)).mono ?_
    rintro e w3 ⟨rfl, hb3⟩
    have B3 : Below w.heap.size w w3 := btr B2 hb3
    have HC3 := Lib.hid (HC2.out.below hb3)
    have y0 := HC3.out.c0
    have y1 := HC3.out.c1
    have g0 := HC3.out.f0
    have g1 := HC3.out.f1
    clear hb3
    go_wp2_with fail
    rw [HE.out]
    refine bodyPost_ret (v := .tuple #[.agg #[.int .i64 (redN (parts L) 2520), .int .i64 (redD (parts L) 2520)], .int .i64 0]) (by simp [results, Try.results38, go_sem, y0, y1]) rfl ⟨rfl, ?_⟩
    go_grown
  · have hne : (vErr L != 0) = true := by simp [h0]
    have HN : Hid (totN L = 0) := Lib.hid (if_neg h0)
    have HD : Hid (totD L = 0) := Lib.hid (if_neg h0)
    rw [HN.out, HD.out]
    clear h0
    go_enter Try.func38, Try.ntmps38
    go_wp2_with fail
    refine (rValidate_c _ _ _ _ _ (h.below HA.out (Nat.le_refl _))).mono ?_
    rintro e w1 ⟨rfl, hb1⟩
    have B1 : Below w.heap.size w w1 := btr HA.out hb1
    have HC1 := Lib.hid (HC.out.below hb1)
    have y0 := HC1.out.c0
    have y1 := HC1.out.c1
    have g0 := HC1.out.f0
    have g1 := HC1.out.f1
    clear hb1
    go_wp2_with fail
    refine bodyPost_ret (v := .tuple #[.agg #[.int .i64 0, .int .i64 0], .int .i64 (vErr L)]) (by simp [results, Try.results38, go_sem, y0, y1]) rfl ⟨rfl, ?_⟩
    go_grown
end Go.Proofs.Ytplindidegmlkaa
