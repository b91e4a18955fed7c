/- Room of budget and of its reference: the walks. -/
import Derived.Test.YtplindidegmlkaaRo
import Derived.Test.YtplindidegmlkaaQ
namespace Go.Proofs.Ytplindidegmlkaa
open Go.RowKit Go.Sort

set_option maxRecDepth 100000 in
set_option maxHeartbeats 6400000 in
theorem Room_c (a : Option Addr) (n c : Nat) (L : List It) (x y k : Int) (w : World) (h : SlO w a n L) (hn9 : n ≤ 9223372036854775807) : Calls Try.prog 25 #[.slice a n c, .agg #[.int .i64 x, .int .i64 y], .int .i64 k] w (RetNe w (roV L x y k) (roErr L x y k)) := by
  have HLn := Lib.hid h.1
  have HA : Hid (Below w.heap.size w (w.alloc (.cells #[.int .i64 x, .int .i64 y] 25))) := Lib.hid ((Below.refl _ _).alloc (Nat.le_refl _) _)
  have HC : Hid (Cell2 (w.alloc (.cells #[.int .i64 x, .int .i64 y] 25)) w.heap.size x y) := Lib.hid ⟨by simp [go_sem], by simp [go_sem], by simp [go_sem], by simp [go_sem]⟩
  by_cases h0 : vErr L = 0
  · have hne : (vErr L != 0) = false := by simp [h0]
    have HV := Lib.hid (vErr_zero.1 h0)
    have hn6 : n ≤ 6 := by have := HV.out.le; have := HLn.out; omega
    have HLI1 : Hid (limB x y = false → liErr L x y = 1) := Lib.hid (li_no h0)
    have HLI0 : Hid (limB x y = true → liErr L x y = 0) := Lib.hid (li_ok h0)
    cases t1 : inB k 0 ((L.length : Int) - 1)
    · obtain ⟨q1, q2⟩ := ro_2 (x := x) (y := y) h0 t1
      rw [q1, q2]
      have hin : inB k 0 ((n : Int) - 1) = false := by rw [HLn.out]; exact t1
      clear q1 q2 h0 t1
      go_enter Try.func25, Try.ntmps25
      go_wp2_with fail
      refine (Validate_c _ _ _ _ _ (h.below HA.out (Nat.le_refl _))).mono ?_
      rintro e w1 ⟨rfl, hb1⟩
      have B1 := btr HA.out hb1
      have HC1 := Lib.hid (HC.out.below hb1)
      clear hb1
      go_wp2_with fail
      refine (within_c _ _ _ _).mono ?_
      rintro e w2 ⟨rfl, rfl⟩
      simp only [hin]
      have x0 := HC1.out.c0
      have x1 := HC1.out.c1
      go_wp2_with fail
      go_ret2
      exact ⟨rfl, B1⟩
    · have hin : inB k 0 ((n : Int) - 1) = true := by rw [HLn.out]; exact t1
      obtain ⟨k0, k1⟩ := inB_true.1 hin
      cases t2 : limB x y
      · obtain ⟨q1, q2⟩ := ro_3 h0 t1 t2
        rw [q1, q2]
        have HE := Lib.hid (HLI1.out t2)
        clear q1 q2 h0 t1 HLI0 HLI1
        go_enter Try.func25, Try.ntmps25
        go_wp2_with fail
        refine (Validate_c _ _ _ _ _ (h.below HA.out (Nat.le_refl _))).mono ?_
        rintro e w1 ⟨rfl, hb1⟩
        have B1 := btr HA.out hb1
        have HC1 := Lib.hid (HC.out.below hb1)
        clear hb1
        go_wp2_with fail
        refine (within_c _ _ _ _).mono ?_
        rintro e w2 ⟨rfl, rfl⟩
        simp only [hin]
        have x0 := HC1.out.c0
        have x1 := HC1.out.c1
        go_wp2_with fail
        refine (limited_c _ _ _ L x y _ (h.below B1 (Nat.le_refl _))).mono ?_
        rintro e w2 ⟨rfl, hb2⟩
        rw [HE.out]
        have B2 := btr B1 hb2
        have HC2 := Lib.hid (HC1.out.below hb2)
        clear hb2 x0 x1
        go_wp2_with fail
        go_ret2
        exact ⟨rfl, B2⟩
      · have HL := Lib.hid t2
        have HE := Lib.hid (HLI0.out t2)
        clear HLI0 HLI1
        cases t3 : clB L x y
        · obtain ⟨q1, q2⟩ := ro_4 h0 t1 t2 t3
          rw [q1, q2]
          have HCL := Lib.hid t3
          clear q1 q2 h0 t1 t2 t3
          go_enter Try.func25, Try.ntmps25
          go_wp2_with fail
          refine (Validate_c _ _ _ _ _ (h.below HA.out (Nat.le_refl _))).mono ?_
          rintro e w1 ⟨rfl, hb1⟩
          have B1 := btr HA.out hb1
          have HC1 := Lib.hid (HC.out.below hb1)
          clear hb1
          go_wp2_with fail
          refine (within_c _ _ _ _).mono ?_
          rintro e w2 ⟨rfl, rfl⟩
          simp only [hin]
          have x0 := HC1.out.c0
          have x1 := HC1.out.c1
          go_wp2_with fail
          refine (limited_c _ _ _ L x y _ (h.below B1 (Nat.le_refl _))).mono ?_
          rintro e w2 ⟨rfl, hb2⟩
          rw [HE.out]
          have B2 := btr B1 hb2
          have HC2 := Lib.hid (HC1.out.below hb2)
          clear hb2 x0 x1
          have x0 := HC2.out.c0
          have x1 := HC2.out.c1
          go_wp2_with fail
          refine (Calls.val (closes_c _ _ _ L x y _ (h.below B2 (Nat.le_refl _)) HV.out HL.out) (vb HCL.out)).mono ?_
          rintro e w3 ⟨rfl, hb3⟩
          have B3 := btr B2 hb3
          have HC3 := Lib.hid (HC2.out.below hb3)
          clear hb3 x0 x1
          go_wp2_with fail
          go_ret2
          exact ⟨rfl, B3⟩
        · obtain ⟨q1, q2⟩ := ro_0 h0 t1 t2 t3
          rw [q1, q2]
          have HCL := Lib.hid t3
          obtain ⟨j, rfl⟩ := Int.eq_ofNat_of_zero_le k0
          have hjn : j < n := by omega
          have HJ : Hid (j < L.length) := Lib.hid (by have := HLn.out; omega)
          rw [show ((j : Int)).toNat = j from Int.toNat_natCast j]
          obtain ⟨b, o, rfl, hS⟩ : ∃ b o, a = some ⟨b, o, none⟩ ∧ Sl w b o n L := by
            rcases h.2 with h' | h'
            · omega
            · exact h'
          have HS := Lib.hid hS
          clear q1 q2 h0 t1 t2 t3 k0 k1 hS
          by_cases hz : (at_ L j).n = 0
          · have RZ := Lib.hid (room_zero HJ.out hz HCL.out)
            rw [RZ.out]
            have HZ := Lib.hid hz
            clear hz
            go_enter Try.func25, Try.ntmps25
            go_wp2_with fail
            refine (Validate_c _ _ _ _ _ (h.below HA.out (Nat.le_refl _))).mono ?_
            rintro e w1 ⟨rfl, hb1⟩
            have B1 := btr HA.out hb1
            have HC1 := Lib.hid (HC.out.below hb1)
            clear hb1
            go_wp2_with fail
            refine (within_c _ _ _ _).mono ?_
            rintro e w2 ⟨rfl, rfl⟩
            simp only [hin]
            have x0 := HC1.out.c0
            have x1 := HC1.out.c1
            go_wp2_with fail
            refine (limited_c _ _ _ L x y _ (h.below B1 (Nat.le_refl _))).mono ?_
            rintro e w2 ⟨rfl, hb2⟩
            rw [HE.out]
            have B2 := btr B1 hb2
            have HC2 := Lib.hid (HC1.out.below hb2)
            clear hb2 x0 x1
            have x0 := HC2.out.c0
            have x1 := HC2.out.c1
            go_wp2_with fail
            refine (Calls.val (closes_c _ _ _ L x y _ (h.below B2 (Nat.le_refl _)) HV.out HL.out) (vb HCL.out)).mono ?_
            rintro e w3 ⟨rfl, hb3⟩
            have B3 := btr B2 hb3
            have HC3 := Lib.hid (HC2.out.below hb3)
            clear hb3 x0 x1
            have c1 := (HS.out.below B3 (Nat.le_refl _)).c1 j hjn
            have c2 := (HS.out.below B3 (Nat.le_refl _)).c2 j hjn
            rw [HZ.out] at c1
            have hBx := B3.alloc B3.size (.cells #[.int .i64 0, .int .i64 (at_ L j).d] 25)
            go_wp2_with fail
            go_ret2
            exact ⟨rfl, hBx⟩
          · have hv := HV.out.bd HJ.out
            obtain ⟨a1, a2, a3, a4, a5, a6⟩ := hv
            obtain ⟨hleft, hro⟩ := room_div HV.out HJ.out (by omega) HL.out HCL.out
            have hz' : ((at_ L j).n == 0) = false := by simpa using hz
            obtain ⟨l1, l2, l3, l4⟩ := limB_true.1 HL.out
            obtain ⟨t1, t2, t3, t4⟩ := to_bd HV.out (Nat.le_refl L.length)
            generalize hN : toN L L.length = N at *
            generalize hD : toD L L.length = D at *
            have HN := Lib.hid hN
            have HD := Lib.hid hD
            generalize hnn : (at_ L j).n = nn at *
            generalize hdd : (at_ L j).d = dd at *
            have HNN := Lib.hid hnn
            have HDD := Lib.hid hdd
            clear hN hD hnn hdd
            obtain ⟨m1, m2⟩ := mul_bd (a := x) (b := D) (A := 1000000) (B := 2520) l3 l4 (by omega) t4
            obtain ⟨m3, m4⟩ := mul_bd (a := N) (b := y) (A := 120960) (B := 1000000) t1 t2 (by omega) l2
            obtain ⟨m5, m6⟩ := mul_bd (a := x * D - N * y) (b := dd) (A := 2520000000) (B := 10) hleft (by omega) (by omega) a4
            obtain ⟨m7, m8⟩ := mul_bd (a := y) (b := D) (A := 1000000) (B := 2520) (by omega) l2 (by omega) t4
            obtain ⟨m9, m10⟩ := mul_bd (a := y * D) (b := nn) (A := 2520000000) (B := 10) m7 (by omega) a5 (by omega)
            have m11 : 0 < y * D * nn := Int.mul_pos (Int.mul_pos (by omega) (by omega)) (by omega)
            have m12 : 0 ≤ (x * D - N * y) * dd / (y * D * nn) := Int.ediv_nonneg m5 (by omega)
            have m13 : (x * D - N * y) * dd / (y * D * nn) ≤ (x * D - N * y) * dd := Int.ediv_le_self _ m5
            have HR := Lib.hid hro
            clear hro hz
            have HQ : ∀ q : Int, (q < 1000 → (if q < 1000 then q else 1000) = q) ∧ (¬ q < 1000 → (if q < 1000 then q else (1000 : Int)) = 1000) := fun q => ⟨fun hh => if_pos hh, fun hh => if_neg hh⟩
            by_cases hq : (x * D - N * y) * dd / (y * D * nn) < 1000
            · have HR2 := Lib.hid (HR.out.trans ((HQ _).1 hq))
              rw [HR2.out]
              clear HQ HR
              go_enter Try.func25, Try.ntmps25
              go_wp2_with fail
              refine (Validate_c _ _ _ _ _ (h.below HA.out (Nat.le_refl _))).mono ?_
              rintro e w1 ⟨rfl, hb1⟩
              have B1 := btr HA.out hb1
              have HC1 := Lib.hid (HC.out.below hb1)
              clear hb1
              go_wp2_with fail
              refine (within_c _ _ _ _).mono ?_
              rintro e w2 ⟨rfl, rfl⟩
              simp only [hin]
              have x0 := HC1.out.c0
              have x1 := HC1.out.c1
              go_wp2_with fail
              refine (limited_c _ _ _ L x y _ (h.below B1 (Nat.le_refl _))).mono ?_
              rintro e w2 ⟨rfl, hb2⟩
              rw [HE.out]
              have B2 := btr B1 hb2
              have HC2 := Lib.hid (HC1.out.below hb2)
              clear hb2 x0 x1
              have x0 := HC2.out.c0
              have x1 := HC2.out.c1
              go_wp2_with fail
              refine (Calls.val (closes_c _ _ _ L x y _ (h.below B2 (Nat.le_refl _)) HV.out HL.out) (vb HCL.out)).mono ?_
              rintro e w3 ⟨rfl, hb3⟩
              have B3 := btr B2 hb3
              have HC3 := Lib.hid (HC2.out.below hb3)
              clear hb3 x0 x1
              have c1 := (HS.out.below B3 (Nat.le_refl _)).c1 j hjn
              have c2 := (HS.out.below B3 (Nat.le_refl _)).c2 j hjn
              rw [HNN.out] at c1
              rw [HDD.out] at c2
              have hBx := Lib.hid (B3.alloc B3.size (.cells #[.int .i64 nn, .int .i64 dd] 25))
              have HX1 : Hid (Cell2 (w3.alloc (.cells #[.int .i64 nn, .int .i64 dd] 25)) w3.heap.size nn dd) := Lib.hid ⟨by simp [go_sem], by simp [go_sem], by simp [go_sem], by simp [go_sem]⟩
              have HC3a := Lib.hid (HC3.out.below ((Below.refl w3.heap.size w3).alloc (Nat.le_refl _) (.cells #[.int .i64 nn, .int .i64 dd] 25)))
              go_wp2_with fail
              refine (total_c _ _ _ L _ ((SlO.of HS.out).below hBx.out (Nat.le_refl _)) HV.out).mono ?_
              rintro e w4 ⟨rfl, hb4⟩
              rw [HN.out, HD.out]
              have HX2 := HX1.out.below hb4
              have HC4 := HC3a.out.below hb4
              have B4 := Lib.hid (btr hBx.out hb4)
              have u0 := HX2.c0
              have u1 := HX2.c1
              have ul := HX2.lt
              have v0 := HC4.c0
              have v1 := HC4.c1
              have vl := HC4.lt
              have B5 := Lib.hid (B4.out.alloc B4.out.size (.cells #[.int .i64 N, .int .i64 D] 77))
              clear hb4 HX2 HC4 c1 c2
              go_wp2_with fail
              go_ret2
              exact ⟨rfl, B5.out⟩
            · have HR2 := Lib.hid (HR.out.trans ((HQ _).2 hq))
              rw [HR2.out]
              have hq' : 1000 ≤ (x * D - N * y) * dd / (y * D * nn) := by omega
              clear HQ HR
              go_enter Try.func25, Try.ntmps25
              go_wp2_with fail
              refine (Validate_c _ _ _ _ _ (h.below HA.out (Nat.le_refl _))).mono ?_
              rintro e w1 ⟨rfl, hb1⟩
              have B1 := btr HA.out hb1
              have HC1 := Lib.hid (HC.out.below hb1)
              clear hb1
              go_wp2_with fail
              refine (within_c _ _ _ _).mono ?_
              rintro e w2 ⟨rfl, rfl⟩
              simp only [hin]
              have x0 := HC1.out.c0
              have x1 := HC1.out.c1
              go_wp2_with fail
              refine (limited_c _ _ _ L x y _ (h.below B1 (Nat.le_refl _))).mono ?_
              rintro e w2 ⟨rfl, hb2⟩
              rw [HE.out]
              have B2 := btr B1 hb2
              have HC2 := Lib.hid (HC1.out.below hb2)
              clear hb2 x0 x1
              have x0 := HC2.out.c0
              have x1 := HC2.out.c1
              go_wp2_with fail
              refine (Calls.val (closes_c _ _ _ L x y _ (h.below B2 (Nat.le_refl _)) HV.out HL.out) (vb HCL.out)).mono ?_
              rintro e w3 ⟨rfl, hb3⟩
              have B3 := btr B2 hb3
              have HC3 := Lib.hid (HC2.out.below hb3)
              clear hb3 x0 x1
              have c1 := (HS.out.below B3 (Nat.le_refl _)).c1 j hjn
              have c2 := (HS.out.below B3 (Nat.le_refl _)).c2 j hjn
              rw [HNN.out] at c1
              rw [HDD.out] at c2
              have hBx := Lib.hid (B3.alloc B3.size (.cells #[.int .i64 nn, .int .i64 dd] 25))
              have HX1 : Hid (Cell2 (w3.alloc (.cells #[.int .i64 nn, .int .i64 dd] 25)) w3.heap.size nn dd) := Lib.hid ⟨by simp [go_sem], by simp [go_sem], by simp [go_sem], by simp [go_sem]⟩
              have HC3a := Lib.hid (HC3.out.below ((Below.refl w3.heap.size w3).alloc (Nat.le_refl _) (.cells #[.int .i64 nn, .int .i64 dd] 25)))
              go_wp2_with fail
              refine (total_c _ _ _ L _ ((SlO.of HS.out).below hBx.out (Nat.le_refl _)) HV.out).mono ?_
              rintro e w4 ⟨rfl, hb4⟩
              rw [HN.out, HD.out]
              have HX2 := HX1.out.below hb4
              have HC4 := HC3a.out.below hb4
              have B4 := Lib.hid (btr hBx.out hb4)
              have u0 := HX2.c0
              have u1 := HX2.c1
              have ul := HX2.lt
              have v0 := HC4.c0
              have v1 := HC4.c1
              have vl := HC4.lt
              have B5 := Lib.hid (B4.out.alloc B4.out.size (.cells #[.int .i64 N, .int .i64 D] 77))
              clear hb4 HX2 HC4 c1 c2
              go_wp2_with fail
              go_ret2
              exact ⟨rfl, B5.out⟩
  · have hne : (vErr L != 0) = true := by simp [h0]
    obtain ⟨q1, q2⟩ := ro_1 (x := x) (y := y) (k := k) h0
    rw [q1, q2]
    clear q1 q2 h0
    go_enter Try.func25, Try.ntmps25
    go_wp2_with fail
    refine (Validate_c _ _ _ _ _ (h.below HA.out (Nat.le_refl _))).mono ?_
    rintro e w1 ⟨rfl, hb1⟩
    have B1 := btr HA.out hb1
    have HC1 := Lib.hid (HC.out.below hb1)
    clear hb1
    go_wp2_with fail
    go_ret2
    exact ⟨rfl, B1⟩

set_option maxRecDepth 100000 in
set_option maxHeartbeats 6400000 in
theorem rRoom_c (a : Option Addr) (n c : Nat) (L : List It) (x y k : Int) (w : World) (h : SlO w a n L) (hn9 : n ≤ 9223372036854775807) : Calls Try.prog 49 #[.slice a n c, .agg #[.int .i64 x, .int .i64 y], .int .i64 k] w (RetNe w (roV L x y k) (roErr L x y k)) := by
  have HLn := Lib.hid h.1
  have HA : Hid (Below w.heap.size w (w.alloc (.cells #[.int .i64 x, .int .i64 y] 25))) := Lib.hid ((Below.refl _ _).alloc (Nat.le_refl _) _)
  have HC : Hid (Cell2 (w.alloc (.cells #[.int .i64 x, .int .i64 y] 25)) w.heap.size x y) := Lib.hid ⟨by simp [go_sem], by simp [go_sem], by simp [go_sem], by simp [go_sem]⟩
  by_cases h0 : vErr L = 0
  · have hne : (vErr L != 0) = false := by simp [h0]
    have HV := Lib.hid (vErr_zero.1 h0)
    have hn6 : n ≤ 6 := by have := HV.out.le; have := HLn.out; omega
    cases t1 : inB k 0 ((L.length : Int) - 1)
    · obtain ⟨q1, q2⟩ := ro_2 (x := x) (y := y) h0 t1
      rw [q1, q2]
      have hin : inB k 0 ((n : Int) - 1) = false := by rw [HLn.out]; exact t1
      clear q1 q2 h0 t1
      go_enter Try.func49, Try.ntmps49
      go_wp2_with fail
      refine (rValidate_c _ _ _ _ _ (h.below HA.out (Nat.le_refl _))).mono ?_
      rintro e w1 ⟨rfl, hb1⟩
      have B1 := btr HA.out hb1
      have HC1 := Lib.hid (HC.out.below hb1)
      clear hb1
      go_wp2_with fail
      refine (rWithin_c _ _ _ _).mono ?_
      rintro e w2 ⟨rfl, rfl⟩
      simp only [hin]
      have x0 := HC1.out.c0
      have x1 := HC1.out.c1
      go_wp2_with fail
      go_ret2
      exact ⟨rfl, B1⟩
    · have hin : inB k 0 ((n : Int) - 1) = true := by rw [HLn.out]; exact t1
      obtain ⟨k0, k1⟩ := inB_true.1 hin
      cases t2 : limB x y
      · obtain ⟨q1, q2⟩ := ro_3 h0 t1 t2
        rw [q1, q2]
        have HLB := Lib.hid t2
        clear q1 q2 h0 t1
        go_enter Try.func49, Try.ntmps49
        go_wp2_with fail
        refine (rValidate_c _ _ _ _ _ (h.below HA.out (Nat.le_refl _))).mono ?_
        rintro e w1 ⟨rfl, hb1⟩
        have B1 := btr HA.out hb1
        have HC1 := Lib.hid (HC.out.below hb1)
        clear hb1
        go_wp2_with fail
        refine (rWithin_c _ _ _ _).mono ?_
        rintro e w2 ⟨rfl, rfl⟩
        simp only [hin]
        have x0 := HC1.out.c0
        have x1 := HC1.out.c1
        go_wp2_with fail
        refine (Calls.val (rIsLimit_c x y _) (vb HLB.out)).mono ?_
        rintro e w2 ⟨rfl, hb2⟩
        have B2 := btr B1 hb2
        have HC2 := Lib.hid (HC1.out.below hb2)
        clear hb2 x0 x1
        go_wp2_with fail
        go_ret2
        exact ⟨rfl, B2⟩
      · have HL := Lib.hid t2
        have HLB := Lib.hid t2
        cases t3 : clB L x y
        · obtain ⟨q1, q2⟩ := ro_4 h0 t1 t2 t3
          rw [q1, q2]
          have HCL := Lib.hid t3
          clear q1 q2 h0 t1 t2 t3
          go_enter Try.func49, Try.ntmps49
          go_wp2_with fail
          refine (rValidate_c _ _ _ _ _ (h.below HA.out (Nat.le_refl _))).mono ?_
          rintro e w1 ⟨rfl, hb1⟩
          have B1 := btr HA.out hb1
          have HC1 := Lib.hid (HC.out.below hb1)
          clear hb1
          go_wp2_with fail
          refine (rWithin_c _ _ _ _).mono ?_
          rintro e w2 ⟨rfl, rfl⟩
          simp only [hin]
          have x0 := HC1.out.c0
          have x1 := HC1.out.c1
          go_wp2_with fail
          refine (Calls.val (rIsLimit_c x y _) (vb HLB.out)).mono ?_
          rintro e w2 ⟨rfl, hb2⟩
          have B2 := btr B1 hb2
          have HC2 := Lib.hid (HC1.out.below hb2)
          clear hb2 x0 x1
          go_wp2_with (at_builtin; refine wpList_append_its rfl _ _ rfl w2.heap.size _ 0 [] rfl (World.ownsRow_made _ #[] 0 (Nat.le_refl _) (Nat.zero_le _) rfl) _ n c L rfl ((h.below B2 (Nat.le_refl _)).below ((Below.refl _ _).alloc (Nat.le_refl _) _) (Nat.le_refl _)) (by omega) (by simp) ?_)
          intro v9 wA hownA hgA
          have hbA : Below w2.heap.size w2 wA := ((Below.refl _ _).alloc (Nat.le_refl _) _).grown hgA (by simp) (fun q hq => by cases hq; exact Nat.le_refl _)
          have hOA : wA.ownsRow w2.heap.size 31 3 v9 n (itCells L) := by simpa using hownA
          have BA := btr B2 hbA
          have HCA := Lib.hid (HC2.out.below hbA)
          obtain ⟨a9, c9, e9, i9, -, -, -⟩ := ownsRow_it hOA
          subst e9
          have HO9 := Lib.hid (own_mono hOA (Nat.le_trans (Nat.le_succ _) (show w.heap.size + 1 ≤ w2.heap.size from HC2.out.lt)))
          have HO9s : Hid (wA.ownsRow (w.heap.size + 1) 31 3 (.slice a9 L.length c9) n (itCells L)) := Lib.hid (own_mono hOA (show w.heap.size + 1 ≤ w2.heap.size from HC2.out.lt))
          have I9 := Lib.hid i9
          have x0 := HCA.out.c0
          have x1 := HCA.out.c1
          clear hownA hgA hbA hOA i9
          go_wp2_with fail
          refine (Calls.val (rcloses_c _ _ _ L x y _ I9.out HV.out.vu HL.out) (vb HCL.out)).mono ?_
          rintro e w3 ⟨rfl, hb3⟩
          have B3 := btr BA hb3
          have HC3 := Lib.hid (HCA.out.below hb3)
          have HO3 := Lib.hid (ownsRow_below HO9s.out hb3)
          clear hb3 x0 x1 HO9 HO9s
          go_wp2_with fail
          go_ret2
          exact ⟨rfl, B3⟩
        · obtain ⟨q1, q2⟩ := ro_0 h0 t1 t2 t3
          rw [q1, q2]
          have HCL := Lib.hid t3
          obtain ⟨j, rfl⟩ := Int.eq_ofNat_of_zero_le k0
          have hjn : j < n := by omega
          have HJ : Hid (j < L.length) := Lib.hid (by have := HLn.out; omega)
          rw [show ((j : Int)).toNat = j from Int.toNat_natCast j]
          obtain ⟨b, o, rfl, hS⟩ : ∃ b o, a = some ⟨b, o, none⟩ ∧ Sl w b o n L := by
            rcases h.2 with h' | h'
            · omega
            · exact h'
          have HS := Lib.hid hS
          clear q1 q2 h0 t1 t2 t3 k0 k1 hS
          go_enter Try.func49, Try.ntmps49
          go_wp2_with fail
          refine (rValidate_c _ _ _ _ _ (h.below HA.out (Nat.le_refl _))).mono ?_
          rintro e w1 ⟨rfl, hb1⟩
          have B1 := btr HA.out hb1
          have HC1 := Lib.hid (HC.out.below hb1)
          clear hb1
          go_wp2_with fail
          refine (rWithin_c _ _ _ _).mono ?_
          rintro e w2 ⟨rfl, rfl⟩
          simp only [hin]
          have x0 := HC1.out.c0
          have x1 := HC1.out.c1
          go_wp2_with fail
          refine (Calls.val (rIsLimit_c x y _) (vb HLB.out)).mono ?_
          rintro e w2 ⟨rfl, hb2⟩
          have B2 := btr B1 hb2
          have HC2 := Lib.hid (HC1.out.below hb2)
          clear hb2 x0 x1
          go_wp2_with (at_builtin; refine wpList_append_its rfl _ _ rfl w2.heap.size _ 0 [] rfl (World.ownsRow_made _ #[] 0 (Nat.le_refl _) (Nat.zero_le _) rfl) _ n c L rfl ((h.below B2 (Nat.le_refl _)).below ((Below.refl _ _).alloc (Nat.le_refl _) _) (Nat.le_refl _)) (by omega) (by simp) ?_)
          intro v9 wA hownA hgA
          have hbA : Below w2.heap.size w2 wA := ((Below.refl _ _).alloc (Nat.le_refl _) _).grown hgA (by simp) (fun q hq => by cases hq; exact Nat.le_refl _)
          have hOA : wA.ownsRow w2.heap.size 31 3 v9 n (itCells L) := by simpa using hownA
          have BA := btr B2 hbA
          have HCA := Lib.hid (HC2.out.below hbA)
          obtain ⟨a9, c9, e9, i9, -, -, -⟩ := ownsRow_it hOA
          subst e9
          have HO9 := Lib.hid (own_mono hOA (Nat.le_trans (Nat.le_succ _) (show w.heap.size + 1 ≤ w2.heap.size from HC2.out.lt)))
          have HO9s : Hid (wA.ownsRow (w.heap.size + 1) 31 3 (.slice a9 L.length c9) n (itCells L)) := Lib.hid (own_mono hOA (show w.heap.size + 1 ≤ w2.heap.size from HC2.out.lt))
          have I9 := Lib.hid i9
          have x0 := HCA.out.c0
          have x1 := HCA.out.c1
          clear hownA hgA hbA hOA i9
          go_wp2_with fail
          refine (Calls.val (rcloses_c _ _ _ L x y _ I9.out HV.out.vu HL.out) (vb HCL.out)).mono ?_
          rintro e w3 ⟨rfl, hb3⟩
          have B3 := btr BA hb3
          have HC3 := Lib.hid (HCA.out.below hb3)
          have HO3 := Lib.hid (ownsRow_below HO9s.out hb3)
          clear hb3 x0 x1 HO9 HO9s
          rw [← HLn.out] at HO3
          rw [← HLn.out]
          have HO3' : Hid (w3.ownsRow (w.heap.size + 1) 31 3 (.slice a9 n c9) n (itCells (upL L j ((0 : Nat) : Int)))) := Lib.hid (by
            have e : upL L j ((0 : Nat) : Int) = L := upL_zero HJ.out
            rw [e]; exact HO3.out)
          have R1 := fun m => Lib.hid (ro_go (L := L) (x := x) (y := y) (k := j) (m := m))
          have R2 := fun m => Lib.hid (ro_yes (L := L) (x := x) (y := y) (k := j) (m := m))
          have R3 := fun m => Lib.hid (ro_end (L := L) (x := x) (y := y) (k := j) (m := m))
          generalize roN L x y j = RR at *
          clear HO3 I9
          go_wp2_with fail
          go_loopw [10] (fun i wr => ∃ m : Nat, m ≤ 1000 ∧ i = .int .i64 m ∧ Below w.heap.size w wr ∧ Cell2 wr w.heap.size x y ∧ wr.ownsRow (w.heap.size + 1) 31 3 (.slice a9 n c9) n (itCells (upL L j m)) ∧ Hid (scanJ (rmB L x y j) 1000 0 = scanJ (rmB L x y j) (1000 - m) m)) (fun i _ => 1000 - (intOf i).toNat)
          case atStart => exact ⟨0, Nat.zero_le _, rfl, B3, HC3.out, HO3'.out, Lib.hid rfl⟩
          case round =>
            obtain ⟨m, hm, rfl, hb, hC, hown, HSC⟩ := hrel
            clear HO3' HC3 B3
            by_cases hlt : m < 1000
            · obtain ⟨g, cap, hge, hg1, hg2, hown'⟩ := own_open hown (by omega)
              cases hge
              have hjM : j < (upL L j m).length := by rw [upL_length]; exact HJ.out
              obtain ⟨r0, -, -⟩ := itCells_at _ j hjM
              rw [upL_at HJ.out, if_pos rfl] at r0
              have c0 : wr.cell? ⟨g, j * 3, none⟩ = some (.int .i64 ((at_ L j).u + m)) := by rw [hown'.cellAt (j * 3) (by omega)]; exact r0
              have f0 : wr.frozen? ⟨g, j * 3, none⟩ = false := hown'.frozenAt _
              have x0 := hC.c0
              have x1 := hC.c1
              have hsg : w.heap.size ≠ g := by omega
              have hgs : g ≠ w.heap.size := by omega
              obtain ⟨a1, a2, a3, a4, a5, a6⟩ := HV.out.bd HJ.out
              have HSET : Hid ((itCells (upL L j m)).set (j * 3) (.int .i64 ((at_ L j).u + m + 1)) = itCells (upL L j ((m : Int) + 1))) := Lib.hid (by
                rw [itCells_set0 _ _ _ hjM, upL_at HJ.out, if_pos rfl]
                unfold upL
                rw [List.set_set, Int.add_assoc])
              have hst := (hown'.stored (j * 3) (.int .i64 ((at_ L j).u + m + 1))).1
              rw [HSET.out] at hst
              have HST := Lib.hid hst
              have HSL : Hid (SlO (wr.setCell ⟨g, j * 3, none⟩ (.int .i64 ((at_ L j).u + m + 1))) (some ⟨g, 0, none⟩) n (upL L j ((m : Int) + 1))) := Lib.hid (by
                obtain ⟨ax, cx, ex, ix, -, -, -⟩ := ownsRow_it hst
                have hl : (upL L j ((m : Int) + 1)).length = n := by rw [upL_length, ← HLn.out]
                rw [hl] at ex ix
                cases ex
                exact ix)
              have HBS := Lib.hid (hb.setCell (p := ⟨g, j * 3, none⟩) (show w.heap.size ≤ g by omega) (.int .i64 ((at_ L j).u + m + 1)))
              have HCS : Hid (Cell2 (wr.setCell ⟨g, j * 3, none⟩ (.int .i64 ((at_ L j).u + m + 1))) w.heap.size x y) := Lib.hid (hC.set hsg)
              have HVU := Lib.hid (upL_vu HV.out HJ.out (m := (m : Int) + 1) (by omega) (by omega))
              have D1 := Lib.hid ((R1 m).out HSC.out hlt)
              have D2 := Lib.hid ((R2 m).out HSC.out hlt)
              have HRM : Hid (rmB L x y j m = !clB (upL L j ((m : Int) + 1)) x y) := Lib.hid rfl
              clear R1 R2 R3 hown hown' hst r0 hjM hC
              cases hcl : clB (upL L j ((m : Int) + 1)) x y
              · have D := Lib.hid (D2.out (by rw [HRM.out, hcl]; rfl))
                have HCL2 := Lib.hid hcl
                clear hcl D1 D2
                go_wp2_with fail
                refine (Calls.val (rcloses_c _ _ _ (upL L j ((m : Int) + 1)) x y _ HSL.out HVU.out HL.out) (vb HCL2.out)).mono ?_
                rintro e w5 ⟨rfl, hb5⟩
                have B5 := Lib.hid (btr HBS.out hb5)
                clear hb5
                go_wp2_with fail
                go_ret2
                exact ⟨by rw [D.out]; rfl, B5.out⟩
              · have D := Lib.hid (D1.out (by rw [HRM.out, hcl]; rfl))
                have HCL2 := Lib.hid hcl
                clear hcl D1 D2
                go_wp2_with fail
                refine (Calls.val (rcloses_c _ _ _ (upL L j ((m : Int) + 1)) x y _ HSL.out HVU.out HL.out) (vb HCL2.out)).mono ?_
                rintro e w5 ⟨rfl, hb5⟩
                have B5 := Lib.hid (btr HBS.out hb5)
                have C5 := Lib.hid (HCS.out.below hb5)
                have O5 := Lib.hid (ownsRow_below HST.out hb5)
                clear hb5
                go_wp2_with fail
                exact ⟨⟨m + 1, by omega, by go_num, B5.out, C5.out, O5.out, D⟩, by simp [intOf]; omega⟩
            · have D := Lib.hid ((R3 m).out HSC.out hlt)
              have hd : ¬ (m : Int) < 1000 := by omega
              clear R1 R2 R3
              go_wp2_with fail
              go_ret2
              exact ⟨by rw [D.out]; rfl, hb⟩
  · have hne : (vErr L != 0) = true := by simp [h0]
    obtain ⟨q1, q2⟩ := ro_1 (x := x) (y := y) (k := k) h0
    rw [q1, q2]
    clear q1 q2 h0
    go_enter Try.func49, Try.ntmps49
    go_wp2_with fail
    refine (rValidate_c _ _ _ _ _ (h.below HA.out (Nat.le_refl _))).mono ?_
    rintro e w1 ⟨rfl, hb1⟩
    have B1 := btr HA.out hb1
    have HC1 := Lib.hid (HC.out.below hb1)
    clear hb1
    go_wp2_with fail
    go_ret2
    exact ⟨rfl, B1⟩

end Go.Proofs.Ytplindidegmlkaa
