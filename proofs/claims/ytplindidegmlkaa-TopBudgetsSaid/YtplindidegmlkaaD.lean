/- Which budgets close: budget and its reference. -/
import Derived.Test.YtplindidegmlkaaC
namespace Go.Proofs.Ytplindidegmlkaa
open Go.RowKit Go.Sort

/-- Items whose uses may be many (in thought). -/
structure VU (L : List It) : Prop where
  le : L.length ≤ 6
  bd : ∀ i, i < L.length → 1 ≤ (at_ L i).u ∧ (at_ L i).u ≤ 2000 ∧ 1 ≤ (at_ L i).d ∧ (at_ L i).d ≤ 10 ∧ 0 ≤ (at_ L i).n ∧ (at_ L i).n ≤ (at_ L i).d
theorem Valid.vu {L : List It} (h : Valid L) : VU L := ⟨h.le, fun i hi => by have := h.bd hi; omega⟩
theorem VU.wI_bd {L : List It} (h : VU L) {i : Nat} (hi : i < L.length) : 0 ≤ wI (at_ L i) ∧ wI (at_ L i) ≤ 5040000 := by
  obtain ⟨h1, h2, h3, h4, h5, h6⟩ := h.bd i hi
  obtain ⟨p1, p2⟩ := part_bd h3 h4 h5 h6
  have := mul_bd (a := (at_ L i).u) (b := partI (at_ L i).n (at_ L i).d) (A := 2000) (B := 2520) (by omega) h2 p1 p2
  unfold wI; omega
theorem VU.paT_bd {L : List It} (hv : VU L) : ∀ k : Nat, k ≤ L.length → 0 ≤ paT L k ∧ paT L k ≤ 5040000 * k
  | 0, _ => by simp [paT, sumP]
  | k + 1, h => by
    have ih := VU.paT_bd hv k (by omega)
    have := hv.wI_bd (i := k) (by omega)
    rw [paT_step]; omega
theorem VU.parts_bd {L : List It} (hv : VU L) : 0 ≤ parts L ∧ parts L ≤ 30240000 := by
  have := hv.paT_bd L.length (Nat.le_refl _)
  have := hv.le
  unfold parts; omega

set_option maxHeartbeats 1600000 in
theorem partsU_c (a : Option Addr) (n c : Nat) (L : List It) (w : World) (h : SlO w a n L) (hv : VU L) : Calls Try.prog 82 #[.slice a n c] w fun e w' => e = .returned (.int .i64 (parts L)) ∧ Below w.heap.size w w' := by
  have HV := Lib.hid hv
  have HH := Lib.hid h
  have HLn := Lib.hid h.1
  have hn6 : n ≤ 6 := by have := h.1; have := hv.le; omega
  clear h hv
  go_enter Try.func82, Try.ntmps82
  go_wp2_with fail
  go_loopw [3, 4] (fun s i wr => ∃ k : Nat, k ≤ n ∧ i = .int .i64 k ∧ s = .int .i64 (paT L k) ∧ Below w.heap.size w wr) (fun _ i _ => n - (intOf i).toNat)
  case atStart => exact ⟨0, Nat.zero_le _, rfl, rfl, Below.refl _ _⟩
  case round =>
    obtain ⟨k, hk, rfl, rfl, hb⟩ := hrel
    have HPB := HV.out.paT_bd k (by have := HLn.out; omega)
    obtain ⟨p1, p2⟩ := HPB
    by_cases hlt : k < n
    · obtain ⟨b, o, rfl, hS⟩ : ∃ b o, a = some ⟨b, o, none⟩ ∧ Sl w b o n L := by
        rcases HH.out.2 with h' | h'
        · omega
        · exact h'
      have hS' := hS.below hb (Nat.le_refl _)
      have k0 := cell_regrown (hS'.c0 k hlt)
      have k1 := cell_regrown (hS'.c1 k hlt)
      have k2 := cell_regrown (hS'.c2 k hlt)
      have hkL : k < L.length := by have := HLn.out; omega
      obtain ⟨a1, a2, a3, a4, a5, a6⟩ := HV.out.bd k hkL
      obtain ⟨q1, q2⟩ := part_bd a3 a4 a5 a6
      have hw := HV.out.wI_bd hkL
      have HW : Hid (wI (at_ L k) = (at_ L k).u * partI (at_ L k).n (at_ L k).d) := Lib.hid rfl
      have HST := Lib.hid (paT_step L k)
      rw [HW.out] at hw HST
      obtain ⟨w1', w2'⟩ := hw
      have cF := fun d os => Calls.regrown_of (part_c (at_ L k).n (at_ L k).d (grow (redrawn wr d) os) ⟨a5, by omega⟩)
      clear hS hS' HW
      go_wp2_with fail
      refine wp_region_B (by kernel_rfl) (by kernel_rfl) ?_
      repeat (go_big_quiet_step (exact cF _ _))
      refine wpQuiet_nil ?_
      intro w2 hb2
      go_wp2_with fail
      exact ⟨⟨k + 1, by omega, by go_num, by rw [HST.out], btr hb hb2⟩, by simp [intOf]; omega⟩
    · have hkn : k = n := by omega
      have hd : ¬ (k : Int) < n := by omega
      have HKN := Lib.hid (hkn.trans HLn.out)
      clear hkn hlt
      go_wp2_with fail
      go_ret
      exact ⟨by rw [HKN.out]; rfl, hb⟩

/-- Whether a budget closes by the limit x / y. -/
def clB (L : List It) (x y : Int) : Bool := decide (parts L * y ≤ x * 2520)
theorem clB_true {L : List It} {x y : Int} : clB L x y = true ↔ parts L * y ≤ x * 2520 := by simp [clB]
theorem limB_true {x y : Int} : limB x y = true ↔ 1 ≤ y ∧ y ≤ 1000000 ∧ 0 ≤ x ∧ x ≤ 1000000 := by simp [limB, inB]; omega
theorem clB_total {L : List It} {x y : Int} : decide (toN L L.length * y - x * toD L L.length ≤ 0) = clB L x y := by
  have h := red_ge (n := paT L L.length) (d := 2520) (x := x) (y := y) (by decide)
  unfold clB toN toD parts
  rw [decide_eq_decide]
  omega

theorem rcloses_c (a : Option Addr) (n c : Nat) (L : List It) (x y : Int) (w : World) (h : SlO w a n L) (hv : VU L) (hl : limB x y = true) : Calls Try.prog 81 #[.slice a n c, .agg #[.int .i64 x, .int .i64 y]] w fun e w' => e = .returned (.bool (clB L x y)) ∧ Below w.heap.size w w' := by
  have HX : Hid (clB L x y = decide (parts L * y ≤ x * 2520)) := Lib.hid rfl
  rw [HX.out]
  obtain ⟨l1, l2, l3, l4⟩ := limB_true.1 hl
  obtain ⟨p1, p2⟩ := hv.parts_bd
  obtain ⟨m1, m2⟩ := mul_bd (a := parts L) (b := y) p1 p2 (by omega) l2
  have hA : Below w.heap.size w (w.alloc (.cells #[.int .i64 x, .int .i64 y] 25)) := (Below.refl _ _).alloc (Nat.le_refl _) _
  have HA := Lib.hid hA
  have k0 := cell_regrown (w := w.alloc (.cells #[.int .i64 x, .int .i64 y] 25)) (a := ⟨w.heap.size, 0, none⟩) (v := .int .i64 x) (by simp [go_sem])
  have k1 := cell_regrown (w := w.alloc (.cells #[.int .i64 x, .int .i64 y] 25)) (a := ⟨w.heap.size, 1, none⟩) (v := .int .i64 y) (by simp [go_sem])
  have cF := fun d os => Calls.regrown_of (partsU_c a n c L (grow (redrawn (w.alloc (.cells #[.int .i64 x, .int .i64 y] 25)) d) os) ((h.below hA (Nat.le_refl _)).below (below_regrown _ d os) (Nat.le_refl _)) hv)
  clear hA h hl
  go_enter Try.func81, Try.ntmps81
  go_wp2_with fail
  refine wp_region_B (by kernel_rfl) (by kernel_rfl) ?_
  repeat (go_big_quiet_step (exact cF _ _))
  refine wpQuiet_nil ?_
  intro w2 hb2
  go_wp2_with fail
  go_ret
  exact ⟨rfl, btr HA.out hb2⟩

theorem closes_c (a : Option Addr) (n c : Nat) (L : List It) (x y : Int) (w : World) (h : SlO w a n L) (hv : Valid L) (hl : limB x y = true) : Calls Try.prog 69 #[.slice a n c, .agg #[.int .i64 x, .int .i64 y]] w fun e w' => e = .returned (.bool (clB L x y)) ∧ Below w.heap.size w w' := by
  rw [← clB_total]
  obtain ⟨l1, l2, l3, l4⟩ := limB_true.1 hl
  obtain ⟨p1, p2, p3, p4⟩ := to_bd hv (Nat.le_refl L.length)
  obtain ⟨m1, m2⟩ := mul_bd (a := toN L L.length) (b := y) p1 p2 (by omega) l2
  obtain ⟨m3, m4⟩ := mul_bd (a := x) (b := toD L L.length) l3 l4 (by omega) p4
  have hA : Below w.heap.size w (w.alloc (.cells #[.int .i64 x, .int .i64 y] 25)) := (Below.refl _ _).alloc (Nat.le_refl _) _
  have HA := Lib.hid hA
  have k0 := cell_regrown (w := w.alloc (.cells #[.int .i64 x, .int .i64 y] 25)) (a := ⟨w.heap.size, 0, none⟩) (v := .int .i64 x) (by simp [go_sem])
  have k1 := cell_regrown (w := w.alloc (.cells #[.int .i64 x, .int .i64 y] 25)) (a := ⟨w.heap.size, 1, none⟩) (v := .int .i64 y) (by simp [go_sem])
  have cF := fun d os => Calls.regrown_of (v := .agg #[.int .i64 (toN L L.length), .int .i64 (toD L L.length)]) (total_c a n c L (grow (redrawn (w.alloc (.cells #[.int .i64 x, .int .i64 y] 25)) d) os) ((h.below hA (Nat.le_refl _)).below (below_regrown _ d os) (Nat.le_refl _)) hv)
  have cG := fun d os => Calls.regrown_of (compare_c (toN L L.length) (toD L L.length) x y (grow (redrawn (w.alloc (.cells #[.int .i64 x, .int .i64 y] 25)) d) os) ⟨p1, by omega, by omega, by omega⟩ ⟨l3, by omega, by omega, by omega⟩)
  clear hA h hl
  go_enter Try.func69, Try.ntmps69
  go_wp2_with fail
  refine wp_region_B (by kernel_rfl) (by kernel_rfl) ?_
  repeat (go_big_quiet_step (first | exact cF _ _ | exact cG _ _))
  refine wpQuiet_nil ?_
  intro w2 hb2
  go_wp2_with fail
  go_ret
  exact ⟨rfl, btr HA.out hb2⟩

/-- The error number of a budget and a limit. -/
def liErr (L : List It) (x y : Int) : Int := if vErr L ≠ 0 then vErr L else if limB x y = true then 0 else 1
theorem li_bad {L : List It} {x y : Int} (h : vErr L ≠ 0) : liErr L x y = vErr L := if_pos h
theorem li_no {L : List It} {x y : Int} (h : vErr L = 0) (hl : limB x y = false) : liErr L x y = 1 := by unfold liErr; rw [if_neg (by simp [h]), if_neg (by simp [hl])]
theorem li_ok {L : List It} {x y : Int} (h : vErr L = 0) (hl : limB x y = true) : liErr L x y = 0 := by unfold liErr; rw [if_neg (by simp [h]), if_pos hl]
theorem liErr_zero {L : List It} {x y : Int} : liErr L x y = 0 ↔ vErr L = 0 ∧ limB x y = true := by
  by_cases h : vErr L = 0
  · cases hl : limB x y
    · rw [li_no h hl]; simp
    · rw [li_ok h hl]; simp [h]
  · rw [li_bad h]; simp [h]

theorem limited_c (a : Option Addr) (n c : Nat) (L : List It) (x y : Int) (w : World) (h : SlO w a n L) : Calls Try.prog 68 #[.slice a n c, .agg #[.int .i64 x, .int .i64 y]] w fun e w' => e = .returned (.int .i64 (liErr L x y)) ∧ Below w.heap.size w w' := by
  have HA : Hid (Below w.heap.size w (w.alloc (.cells #[.int .i64 x, .int .i64 y] 25))) := Lib.hid ((Below.refl _ _).alloc (Nat.le_refl _) _)
  have HC : Hid (Cell2 (w.alloc (.cells #[.int .i64 x, .int .i64 y] 25)) w.heap.size x y) := Lib.hid ⟨by simp [go_sem], by simp [go_sem], by simp [go_sem], by simp [go_sem]⟩
  by_cases h0 : vErr L = 0
  · have hne : (vErr L != 0) = false := by simp [h0]
    cases hl : limB x y
    · rw [li_no h0 hl]
      clear h0
      go_enter Try.func68, Try.ntmps68
      go_wp2_with fail
      refine (Validate_c _ _ _ _ _ (h.below HA.out (Nat.le_refl _))).mono ?_
      rintro e w1 ⟨rfl, hb1⟩
      have B1 : Below w.heap.size w w1 := btr HA.out hb1
      have HC1 := Lib.hid (HC.out.below hb1)
      have y0 := HC1.out.c0
      have y1 := HC1.out.c1
      clear hb1
      go_wp2_with fail
      refine (isLimit_c x y _).mono ?_
      rintro e w2 ⟨rfl, hb2⟩
      rw [hl]
      go_wp2_with fail
      go_ret
      exact ⟨rfl, btr B1 hb2⟩
    · rw [li_ok h0 hl]
      clear h0
      go_enter Try.func68, Try.ntmps68
      go_wp2_with fail
      refine (Validate_c _ _ _ _ _ (h.below HA.out (Nat.le_refl _))).mono ?_
      rintro e w1 ⟨rfl, hb1⟩
      have B1 : Below w.heap.size w w1 := btr HA.out hb1
      have HC1 := Lib.hid (HC.out.below hb1)
      have y0 := HC1.out.c0
      have y1 := HC1.out.c1
      clear hb1
      go_wp2_with fail
      refine (isLimit_c x y _).mono ?_
      rintro e w2 ⟨rfl, hb2⟩
      rw [hl]
      go_wp2_with fail
      go_ret
      exact ⟨rfl, btr B1 hb2⟩
  · have hne : (vErr L != 0) = true := by simp [h0]
    rw [li_bad h0]
    clear h0
    go_enter Try.func68, Try.ntmps68
    go_wp2_with fail
    refine (Validate_c _ _ _ _ _ (h.below HA.out (Nat.le_refl _))).mono ?_
    rintro e w1 ⟨rfl, hb1⟩
    have B1 : Below w.heap.size w w1 := btr HA.out hb1
    clear hb1
    go_wp2_with fail
    go_ret
    exact ⟨rfl, B1⟩

/-- A truth and an error number come back. -/
def RetBe (w : World) (b : Bool) (er : Int) (e : Ending) (w' : World) : Prop := e = .returned (.tuple #[.bool b, .int .i64 er]) ∧ Below w.heap.size w w'
def closeB (L : List It) (x y : Int) : Bool := decide (liErr L x y = 0) && clB L x y
theorem close_ok {L : List It} {x y : Int} (h : liErr L x y = 0) : closeB L x y = clB L x y := by simp [closeB, h]
theorem close_bad {L : List It} {x y : Int} (h : liErr L x y ≠ 0) : closeB L x y = false := by simp [closeB, h]

theorem Closes_c (a : Option Addr) (n c : Nat) (L : List It) (x y : Int) (w : World) (h : SlO w a n L) : Calls Try.prog 23 #[.slice a n c, .agg #[.int .i64 x, .int .i64 y]] w (RetBe w (closeB L x y) (liErr L x y)) := by
  have HA : Hid (Below w.heap.size w (w.alloc (.cells #[.int .i64 x, .int .i64 y] 25))) := Lib.hid ((Below.refl _ _).alloc (Nat.le_refl _) _)
  have HC : Hid (Cell2 (w.alloc (.cells #[.int .i64 x, .int .i64 y] 25)) w.heap.size x y) := Lib.hid ⟨by simp [go_sem], by simp [go_sem], by simp [go_sem], by simp [go_sem]⟩
  have x0 := HC.out.c0
  have x1 := HC.out.c1
  by_cases h0 : liErr L x y = 0
  · have hne : (liErr L x y != 0) = false := by simp [h0]
    obtain ⟨hv, hl⟩ := liErr_zero.1 h0
    have HV := Lib.hid (vErr_zero.1 hv)
    have HL := Lib.hid hl
    have HE := Lib.hid h0
    rw [close_ok h0]
    clear h0 hv hl
    go_enter Try.func23, Try.ntmps23
    go_wp2_with fail
    refine (limited_c _ _ _ _ _ _ _ (h.below HA.out (Nat.le_refl _))).mono ?_
    rintro e w1 ⟨rfl, hb1⟩
    have B1 : Below w.heap.size w w1 := btr HA.out hb1
    have HC1 := Lib.hid (HC.out.below hb1)
    have y0 := HC1.out.c0
    have y1 := HC1.out.c1
    clear hb1 x0 x1
    go_wp2_with fail
    refine (closes_c _ _ _ _ _ _ _ (h.below B1 (Nat.le_refl _)) HV.out HL.out).mono ?_
    rintro e w2 ⟨rfl, hb2⟩
    have B2 : Below w.heap.size w w2 := btr B1 hb2
    clear hb2
    go_wp2_with fail
    rw [HE.out]
    go_ret2
    exact ⟨rfl, B2⟩
  · have hne : (liErr L x y != 0) = true := by simp [h0]
    rw [close_bad h0]
    clear h0
    go_enter Try.func23, Try.ntmps23
    go_wp2_with fail
    refine (limited_c _ _ _ _ _ _ _ (h.below HA.out (Nat.le_refl _))).mono ?_
    rintro e w1 ⟨rfl, hb1⟩
    have B1 : Below w.heap.size w w1 := btr HA.out hb1
    clear hb1 x0 x1
    go_wp2_with fail
    go_ret2
    exact ⟨rfl, B1⟩

theorem rCloses_c (a : Option Addr) (n c : Nat) (L : List It) (x y : Int) (w : World) (h : SlO w a n L) : Calls Try.prog 36 #[.slice a n c, .agg #[.int .i64 x, .int .i64 y]] w (RetBe w (closeB L x y) (liErr L x y)) := by
  have HA : Hid (Below w.heap.size w (w.alloc (.cells #[.int .i64 x, .int .i64 y] 25))) := Lib.hid ((Below.refl _ _).alloc (Nat.le_refl _) _)
  have HC : Hid (Cell2 (w.alloc (.cells #[.int .i64 x, .int .i64 y] 25)) w.heap.size x y) := Lib.hid ⟨by simp [go_sem], by simp [go_sem], by simp [go_sem], by simp [go_sem]⟩
  by_cases h0 : vErr L = 0
  · have hne : (vErr L != 0) = false := by simp [h0]
    have HV := Lib.hid (vErr_zero.1 h0)
    cases hl : limB x y
    · rw [close_bad (by rw [li_no h0 hl]; decide), li_no h0 hl]
      clear h0
      go_enter Try.func36, Try.ntmps36
      go_wp2_with fail
      refine (rValidate_c _ _ _ _ _ (h.below HA.out (Nat.le_refl _))).mono ?_
      rintro e w1 ⟨rfl, hb1⟩
      have B1 : Below w.heap.size w w1 := btr HA.out hb1
      have HC1 := Lib.hid (HC.out.below hb1)
      have y0 := HC1.out.c0
      have y1 := HC1.out.c1
      clear hb1
      go_wp2_with fail
      refine (rIsLimit_c x y _).mono ?_
      rintro e w2 ⟨rfl, hb2⟩
      rw [hl]
      go_wp2_with fail
      go_ret2
      exact ⟨rfl, btr B1 hb2⟩
    · rw [close_ok (li_ok h0 hl), li_ok h0 hl]
      have HL := Lib.hid hl
      clear h0 hl
      go_enter Try.func36, Try.ntmps36
      go_wp2_with fail
      refine (rValidate_c _ _ _ _ _ (h.below HA.out (Nat.le_refl _))).mono ?_
      rintro e w1 ⟨rfl, hb1⟩
      have B1 : Below w.heap.size w w1 := btr HA.out hb1
      have HC1 := Lib.hid (HC.out.below hb1)
      have y0 := HC1.out.c0
      have y1 := HC1.out.c1
      clear hb1
      go_wp2_with fail
      refine (rIsLimit_c x y _).mono ?_
      rintro e w2 ⟨rfl, hb2⟩
      rw [HL.out]
      have B2 : Below w.heap.size w w2 := btr B1 hb2
      have HC2 := Lib.hid (HC1.out.below hb2)
      clear y0 y1
      have y0 := HC2.out.c0
      have y1 := HC2.out.c1
      clear hb2
      go_wp2_with fail
      refine (rcloses_c _ _ _ _ _ _ _ (h.below B2 (Nat.le_refl _)) HV.out.vu HL.out).mono ?_
      rintro e w3 ⟨rfl, hb3⟩
      go_wp2_with fail
      go_ret2
      exact ⟨rfl, btr B2 hb3⟩
  · have hne : (vErr L != 0) = true := by simp [h0]
    rw [close_bad (by rw [li_bad h0]; exact h0), li_bad h0]
    clear h0
    go_enter Try.func36, Try.ntmps36
    go_wp2_with fail
    refine (rValidate_c _ _ _ _ _ (h.below HA.out (Nat.le_refl _))).mono ?_
    rintro e w1 ⟨rfl, hb1⟩
    have B1 : Below w.heap.size w w1 := btr HA.out hb1
    clear hb1
    go_wp2_with fail
    go_ret2
    exact ⟨rfl, B1⟩
end Go.Proofs.Ytplindidegmlkaa
