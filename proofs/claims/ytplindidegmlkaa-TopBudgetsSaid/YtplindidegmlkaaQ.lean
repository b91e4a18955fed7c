/- CheckChoice of budget and of its reference; SameInts, Same. -/
import Derived.Test.YtplindidegmlkaaWe
import Derived.Test.YtplindidegmlkaaS
namespace Go.Proofs.Ytplindidegmlkaa
open Go.RowKit Go.Sort

/-- A number and an error number come back. -/
def RetNe (w : World) (x : Int) (er : Int) (e : Ending) (w' : World) : Prop := e = .returned (.tuple #[.int .i64 x, .int .i64 er]) ∧ Below w.heap.size w w'
def ckErr (L : List It) (F : List Fx) (x y : Int) (ch : List Int) : Int := if fiErr L F x y ≠ 0 then fiErr L F x y else if chErr F ch ≠ 0 then chErr F ch else if clB (wiL L F ch) x y = true then 0 else 8
def ckC (L : List It) (F : List Fx) (x y : Int) (ch : List Int) : Int := if ckErr L F x y ch = 0 then wcL F ch else 0
theorem ck_1 {L : List It} {F : List Fx} {x y : Int} {ch : List Int} (h : fiErr L F x y ≠ 0) : ckErr L F x y ch = fiErr L F x y ∧ ckC L F x y ch = 0 := by
  have e : ckErr L F x y ch = fiErr L F x y := if_pos h
  exact ⟨e, if_neg (by rw [e]; exact h)⟩
theorem ck_2 {L : List It} {F : List Fx} {x y : Int} {ch : List Int} (h : fiErr L F x y = 0) (hc : chErr F ch ≠ 0) : ckErr L F x y ch = chErr F ch ∧ ckC L F x y ch = 0 := by
  have e : ckErr L F x y ch = chErr F ch := by unfold ckErr; rw [if_neg (by simp [h]), if_pos hc]
  exact ⟨e, if_neg (by rw [e]; exact hc)⟩
theorem ck_3 {L : List It} {F : List Fx} {x y : Int} {ch : List Int} (h : fiErr L F x y = 0) (hc : chErr F ch = 0) (hb : clB (wiL L F ch) x y = false) : ckErr L F x y ch = 8 ∧ ckC L F x y ch = 0 := by
  have e : ckErr L F x y ch = 8 := by unfold ckErr; rw [if_neg (by simp [h]), if_neg (by simp [hc]), if_neg (by simp [hb])]
  exact ⟨e, if_neg (by rw [e]; decide)⟩
theorem ck_0 {L : List It} {F : List Fx} {x y : Int} {ch : List Int} (h : fiErr L F x y = 0) (hc : chErr F ch = 0) (hb : clB (wiL L F ch) x y = true) : ckErr L F x y ch = 0 ∧ ckC L F x y ch = wcL F ch := by
  have e : ckErr L F x y ch = 0 := by unfold ckErr; rw [if_neg (by simp [h]), if_neg (by simp [hc]), if_pos hb]
  exact ⟨e, if_pos e⟩
theorem ckErr_zero {L : List It} {F : List Fx} {x y : Int} {ch : List Int} : ckErr L F x y ch = 0 ↔ fiErr L F x y = 0 ∧ OkC F ch ∧ clB (wiL L F ch) x y = true := by
  rw [← chErr_ok]
  by_cases h : fiErr L F x y = 0
  · by_cases hc : chErr F ch = 0
    · cases hb : clB (wiL L F ch) x y
      · rw [(ck_3 h hc hb).1]; simp
      · rw [(ck_0 h hc hb).1]; simp [h, hc]
    · rw [(ck_2 h hc).1]; simp [hc]
  · rw [(ck_1 h).1]; simp [h]

set_option maxRecDepth 100000 in
set_option maxHeartbeats 3200000 in
theorem CheckChoice_c (a : Option Addr) (n c : Nat) (L : List It) (fa : Option Addr) (m fc : Nat) (F : List Fx) (x y : Int) (ca : Option Addr) (p cc : Nat) (ch : List Int) (w : World) (h : SlO w a n L) (hf : FlO w fa m F) (hc : IsO w ca p ch) (hm : m ≤ 9223372036854775807) (hp : p ≤ 1000) :
    Calls Try.prog 30 #[.slice a n c, .slice fa m fc, .agg #[.int .i64 x, .int .i64 y], .slice ca p cc] w (RetNe w (ckC L F x y ch) (ckErr L F x y ch)) := by
  have HA : Hid (Below w.heap.size w (w.alloc (.cells #[.int .i64 x, .int .i64 y] 25))) := Lib.hid ((Below.refl _ _).alloc (Nat.le_refl _) _)
  have HC : Hid (Cell2 (w.alloc (.cells #[.int .i64 x, .int .i64 y] 25)) w.heap.size x y) := Lib.hid ⟨by simp [go_sem], by simp [go_sem], by simp [go_sem], by simp [go_sem]⟩
  have x0 := HC.out.c0
  have x1 := HC.out.c1
  by_cases h0 : fiErr L F x y = 0
  · have hne : (fiErr L F x y != 0) = false := by simp [h0]
    obtain ⟨hv, hl⟩ := fiErr_zero.1 h0
    have HV := Lib.hid hv
    have HL := Lib.hid hl
    have h0v : vfErr L F = 0 := vfErr_zero.2 hv
    by_cases hch : chErr F ch = 0
    · have hcn : (chErr F ch != 0) = false := by simp [hch]
      have HOK := Lib.hid (chErr_ok.1 hch)
      have HIR := Lib.hid (HOK.out.1.inR rfl)
      obtain ⟨e1, e2, e3⟩ := we_0 (L := L) h0v hch
      have E1 := Lib.hid e1
      have E2 := Lib.hid e2
      have E3 := Lib.hid e3
      clear e1 e2 e3 h0v
      cases hcl : clB (wiL L F ch) x y
      · obtain ⟨q1, q2⟩ := ck_3 h0 hch hcl
        rw [q1, q2]
        have HCL := Lib.hid hcl
        clear q1 q2 h0 hch hcl hv hl
        go_enter Try.func30, Try.ntmps30
        go_wp2_with fail
        refine (fixed_c _ _ _ _ _ _ _ _ _ _ _ (h.below HA.out (Nat.le_refl _)) (hf.below HA.out (Nat.le_refl _)) hm).mono ?_
        rintro e w1 ⟨rfl, hb1⟩
        have B1 : Below w.heap.size w w1 := btr HA.out hb1
        have HC1 := Lib.hid (HC.out.below hb1)
        clear hb1 x0 x1
        go_wp2_with fail
        refine (With_c a n c L fa m fc F ca p cc ch _ (h.below B1 (Nat.le_refl _)) (hf.below B1 (Nat.le_refl _)) (hc.below B1 (Nat.le_refl _)) hm hp).mono ?_
        rintro e w2 ⟨v, rfl, hown, hb2⟩
        rw [E1.out, E3.out]
        rw [E2.out] at hown
        have B2 := btr B1 hb2
        have HC2 := Lib.hid (HC1.out.below hb2)
        obtain ⟨a9, c9, rfl, i9, -, -, -⟩ := ownsRow_it hown
        have I9 := Lib.hid i9
        have y0 := HC2.out.c0
        have y1 := HC2.out.c1
        have HWV : Hid (Valid (wiL L F ch)) := Lib.hid (wiK_valid HV.out HIR.out (Nat.le_refl _))
        clear hb2 hown i9
        go_wp2_with fail
        refine (Calls.val (closes_c a9 _ c9 (wiL L F ch) x y _ I9.out HWV.out HL.out) (vb HCL.out)).mono ?_
        rintro e w4 ⟨rfl, hb4⟩
        have B4 := btr B2 hb4
        clear hb4
        go_wp2_with fail
        go_ret2
        exact ⟨rfl, B4⟩
      · obtain ⟨q1, q2⟩ := ck_0 h0 hch hcl
        rw [q1, q2]
        have HCL := Lib.hid hcl
        clear q1 q2 h0 hch hcl hv hl
        go_enter Try.func30, Try.ntmps30
        go_wp2_with fail
        refine (fixed_c _ _ _ _ _ _ _ _ _ _ _ (h.below HA.out (Nat.le_refl _)) (hf.below HA.out (Nat.le_refl _)) hm).mono ?_
        rintro e w1 ⟨rfl, hb1⟩
        have B1 : Below w.heap.size w w1 := btr HA.out hb1
        have HC1 := Lib.hid (HC.out.below hb1)
        clear hb1 x0 x1
        go_wp2_with fail
        refine (With_c a n c L fa m fc F ca p cc ch _ (h.below B1 (Nat.le_refl _)) (hf.below B1 (Nat.le_refl _)) (hc.below B1 (Nat.le_refl _)) hm hp).mono ?_
        rintro e w2 ⟨v, rfl, hown, hb2⟩
        rw [E1.out, E3.out]
        rw [E2.out] at hown
        have B2 := btr B1 hb2
        have HC2 := Lib.hid (HC1.out.below hb2)
        obtain ⟨a9, c9, rfl, i9, -, -, -⟩ := ownsRow_it hown
        have I9 := Lib.hid i9
        have y0 := HC2.out.c0
        have y1 := HC2.out.c1
        have HWV : Hid (Valid (wiL L F ch)) := Lib.hid (wiK_valid HV.out HIR.out (Nat.le_refl _))
        clear hb2 hown i9
        go_wp2_with fail
        refine (Calls.val (closes_c a9 _ c9 (wiL L F ch) x y _ I9.out HWV.out HL.out) (vb HCL.out)).mono ?_
        rintro e w4 ⟨rfl, hb4⟩
        have B4 := btr B2 hb4
        clear hb4
        go_wp2_with fail
        go_ret2
        exact ⟨rfl, B4⟩
    · have hcn : (chErr F ch != 0) = true := by simp [hch]
      obtain ⟨q1, q2⟩ := ck_2 h0 hch
      rw [q1, q2]
      obtain ⟨e1, e2, e3⟩ := we_c (L := L) h0v hch
      have E1 := Lib.hid e1
      have E2 := Lib.hid e2
      have E3 := Lib.hid e3
      clear q1 q2 h0 hch hv hl e1 e2 e3 h0v
      go_enter Try.func30, Try.ntmps30
      go_wp2_with fail
      refine (fixed_c _ _ _ _ _ _ _ _ _ _ _ (h.below HA.out (Nat.le_refl _)) (hf.below HA.out (Nat.le_refl _)) hm).mono ?_
      rintro e w1 ⟨rfl, hb1⟩
      have B1 : Below w.heap.size w w1 := btr HA.out hb1
      have HC1 := Lib.hid (HC.out.below hb1)
      clear hb1 x0 x1
      go_wp2_with fail
      refine (With_c a n c L fa m fc F ca p cc ch _ (h.below B1 (Nat.le_refl _)) (hf.below B1 (Nat.le_refl _)) (hc.below B1 (Nat.le_refl _)) hm hp).mono ?_
      rintro e w2 ⟨v, rfl, hown, hb2⟩
      rw [E1.out, E3.out]
      rw [E2.out] at hown
      have B2 := btr B1 hb2
      clear hown hb2
      go_wp2_with fail
      go_ret2
      exact ⟨rfl, B2⟩
  · have hne : (fiErr L F x y != 0) = true := by simp [h0]
    obtain ⟨q1, q2⟩ := ck_1 (ch := ch) h0
    rw [q1, q2]
    clear h0 q1 q2
    go_enter Try.func30, Try.ntmps30
    go_wp2_with fail
    refine (fixed_c _ _ _ _ _ _ _ _ _ _ _ (h.below HA.out (Nat.le_refl _)) (hf.below HA.out (Nat.le_refl _)) hm).mono ?_
    rintro e w1 ⟨rfl, hb1⟩
    have B1 : Below w.heap.size w w1 := btr HA.out hb1
    have HC1 := Lib.hid (HC.out.below hb1)
    clear hb1 x0 x1
    go_wp2_with fail
    go_ret2
    exact ⟨rfl, B1⟩

set_option maxRecDepth 100000 in
set_option maxHeartbeats 3200000 in
theorem rCheckChoice_c (a : Option Addr) (n c : Nat) (L : List It) (fa : Option Addr) (m fc : Nat) (F : List Fx) (x y : Int) (ca : Option Addr) (p cc : Nat) (ch : List Int) (w : World) (h : SlO w a n L) (hf : FlO w fa m F) (hc : IsO w ca p ch) (hm : m ≤ 9223372036854775807) (hp : p ≤ 1000) :
    Calls Try.prog 55 #[.slice a n c, .slice fa m fc, .agg #[.int .i64 x, .int .i64 y], .slice ca p cc] w (RetNe w (ckC L F x y ch) (ckErr L F x y ch)) := by
  have HA : Hid (Below w.heap.size w (w.alloc (.cells #[.int .i64 x, .int .i64 y] 25))) := Lib.hid ((Below.refl _ _).alloc (Nat.le_refl _) _)
  have HC : Hid (Cell2 (w.alloc (.cells #[.int .i64 x, .int .i64 y] 25)) w.heap.size x y) := Lib.hid ⟨by simp [go_sem], by simp [go_sem], by simp [go_sem], by simp [go_sem]⟩
  have x0 := HC.out.c0
  have x1 := HC.out.c1
  by_cases h0 : fiErr L F x y = 0
  · have hne : (fiErr L F x y != 0) = false := by simp [h0]
    obtain ⟨hv, hl⟩ := fiErr_zero.1 h0
    have HV := Lib.hid hv
    have HL := Lib.hid hl
    have h0v : vfErr L F = 0 := vfErr_zero.2 hv
    by_cases hch : chErr F ch = 0
    · have hcn : (chErr F ch != 0) = false := by simp [hch]
      have HOK := Lib.hid (chErr_ok.1 hch)
      have HIR := Lib.hid (HOK.out.1.inR rfl)
      obtain ⟨e1, e2, e3⟩ := we_0 (L := L) h0v hch
      have E1 := Lib.hid e1
      have E2 := Lib.hid e2
      have E3 := Lib.hid e3
      clear e1 e2 e3 h0v
      cases hcl : clB (wiL L F ch) x y
      · obtain ⟨q1, q2⟩ := ck_3 h0 hch hcl
        rw [q1, q2]
        have HCL := Lib.hid hcl
        clear q1 q2 h0 hch hcl hv hl
        go_enter Try.func55, Try.ntmps55
        go_wp2_with fail
        refine (rlimited_c _ _ _ _ _ _ _ _ _ _ _ (h.below HA.out (Nat.le_refl _)) (hf.below HA.out (Nat.le_refl _)) hm).mono ?_
        rintro e w1 ⟨rfl, hb1⟩
        have B1 : Below w.heap.size w w1 := btr HA.out hb1
        have HC1 := Lib.hid (HC.out.below hb1)
        clear hb1 x0 x1
        go_wp2_with fail
        refine (chosen_c _ _ _ F _ _ _ ch _ (hf.below B1 (Nat.le_refl _)) (hc.below B1 (Nat.le_refl _)) hm (by omega) HV.out.item).mono ?_
        rintro e w2 ⟨rfl, hb2⟩
        have B2 := btr B1 hb2
        have HC2 := Lib.hid (HC1.out.below hb2)
        clear hb2
        go_wp2_with fail
        refine (rwith_c a n c L fa m fc F ca p cc ch _ (h.below B2 (Nat.le_refl _)) (hf.below B2 (Nat.le_refl _)) (hc.below B2 (Nat.le_refl _)) HV.out HIR.out hp).mono ?_
        rintro e w3 ⟨v, rfl, hown, hb3⟩
        have B3 := btr B2 hb3
        have HC3 := Lib.hid (HC2.out.below hb3)
        obtain ⟨a9, c9, rfl, i9, -, -, -⟩ := ownsRow_it hown
        have I9 := Lib.hid i9
        have y0 := HC3.out.c0
        have y1 := HC3.out.c1
        have HWV : Hid (Valid (wiL L F ch)) := Lib.hid (wiK_valid HV.out HIR.out (Nat.le_refl _))
        clear hb3 hown i9
        go_wp2_with fail
        refine (Calls.val (rcloses_c a9 _ c9 (wiL L F ch) x y _ I9.out HWV.out.vu HL.out) (vb HCL.out)).mono ?_
        rintro e w4 ⟨rfl, hb4⟩
        have B4 := btr B3 hb4
        clear hb4
        go_wp2_with fail
        go_ret2
        exact ⟨rfl, B4⟩
      · obtain ⟨q1, q2⟩ := ck_0 h0 hch hcl
        rw [q1, q2]
        have HCL := Lib.hid hcl
        clear q1 q2 h0 hch hcl hv hl
        go_enter Try.func55, Try.ntmps55
        go_wp2_with fail
        refine (rlimited_c _ _ _ _ _ _ _ _ _ _ _ (h.below HA.out (Nat.le_refl _)) (hf.below HA.out (Nat.le_refl _)) hm).mono ?_
        rintro e w1 ⟨rfl, hb1⟩
        have B1 : Below w.heap.size w w1 := btr HA.out hb1
        have HC1 := Lib.hid (HC.out.below hb1)
        clear hb1 x0 x1
        go_wp2_with fail
        refine (chosen_c _ _ _ F _ _ _ ch _ (hf.below B1 (Nat.le_refl _)) (hc.below B1 (Nat.le_refl _)) hm (by omega) HV.out.item).mono ?_
        rintro e w2 ⟨rfl, hb2⟩
        have B2 := btr B1 hb2
        have HC2 := Lib.hid (HC1.out.below hb2)
        clear hb2
        go_wp2_with fail
        refine (rwith_c a n c L fa m fc F ca p cc ch _ (h.below B2 (Nat.le_refl _)) (hf.below B2 (Nat.le_refl _)) (hc.below B2 (Nat.le_refl _)) HV.out HIR.out hp).mono ?_
        rintro e w3 ⟨v, rfl, hown, hb3⟩
        have B3 := btr B2 hb3
        have HC3 := Lib.hid (HC2.out.below hb3)
        obtain ⟨a9, c9, rfl, i9, -, -, -⟩ := ownsRow_it hown
        have I9 := Lib.hid i9
        have y0 := HC3.out.c0
        have y1 := HC3.out.c1
        have HWV : Hid (Valid (wiL L F ch)) := Lib.hid (wiK_valid HV.out HIR.out (Nat.le_refl _))
        clear hb3 hown i9
        go_wp2_with fail
        refine (Calls.val (rcloses_c a9 _ c9 (wiL L F ch) x y _ I9.out HWV.out.vu HL.out) (vb HCL.out)).mono ?_
        rintro e w4 ⟨rfl, hb4⟩
        have B4 := btr B3 hb4
        clear hb4
        go_wp2_with fail
        go_ret2
        exact ⟨rfl, B4⟩
    · have hcn : (chErr F ch != 0) = true := by simp [hch]
      obtain ⟨q1, q2⟩ := ck_2 h0 hch
      rw [q1, q2]
      obtain ⟨e1, e2, e3⟩ := we_c (L := L) h0v hch
      have E1 := Lib.hid e1
      have E2 := Lib.hid e2
      have E3 := Lib.hid e3
      clear q1 q2 h0 hch hv hl e1 e2 e3 h0v
      go_enter Try.func55, Try.ntmps55
      go_wp2_with fail
      refine (rlimited_c _ _ _ _ _ _ _ _ _ _ _ (h.below HA.out (Nat.le_refl _)) (hf.below HA.out (Nat.le_refl _)) hm).mono ?_
      rintro e w1 ⟨rfl, hb1⟩
      have B1 : Below w.heap.size w w1 := btr HA.out hb1
      have HC1 := Lib.hid (HC.out.below hb1)
      clear hb1 x0 x1
      go_wp2_with fail
      refine (chosen_c _ _ _ F _ _ _ ch _ (hf.below B1 (Nat.le_refl _)) (hc.below B1 (Nat.le_refl _)) hm (by omega) HV.out.item).mono ?_
      rintro e w2 ⟨rfl, hb2⟩
      have B2 := btr B1 hb2
      clear hb2
      go_wp2_with fail
      go_ret2
      exact ⟨rfl, B2⟩
  · have hne : (fiErr L F x y != 0) = true := by simp [h0]
    obtain ⟨q1, q2⟩ := ck_1 (ch := ch) h0
    rw [q1, q2]
    clear h0 q1 q2
    go_enter Try.func55, Try.ntmps55
    go_wp2_with fail
    refine (rlimited_c _ _ _ _ _ _ _ _ _ _ _ (h.below HA.out (Nat.le_refl _)) (hf.below HA.out (Nat.le_refl _)) hm).mono ?_
    rintro e w1 ⟨rfl, hb1⟩
    have B1 : Below w.heap.size w w1 := btr HA.out hb1
    have HC1 := Lib.hid (HC.out.below hb1)
    clear hb1 x0 x1
    go_wp2_with fail
    go_ret2
    exact ⟨rfl, B1⟩

/-- Of equal lists SameInts says so. -/
theorem SameInts_c (a : Option Addr) (n c : Nat) (a2 : Option Addr) (c2 : Nat) (A : List Int) (w : World) (h : IsO w a n A) (h2 : IsO w a2 n A) (hn : n ≤ 1000000) :
    Calls Try.prog 52 #[.slice a n c, .slice a2 n c2] w fun e w' => e = .returned (.bool true) ∧ Below w.heap.size w w' := by
  have HA := Lib.hid h
  have HB := Lib.hid h2
  have self := fun x : Int => (show (x != x) = false by simp)
  clear h h2
  go_enter Try.func52, Try.ntmps52
  go_wp2_with fail
  go_loopw [5] (fun i wr => ∃ k : Nat, k ≤ n ∧ i = .int .i64 k ∧ Below w.heap.size w wr) (fun i _ => n - (intOf i).toNat)
  case atStart => exact ⟨0, Nat.zero_le _, rfl, Below.refl _ _⟩
  case round =>
    obtain ⟨k, hk, rfl, hb⟩ := hrel
    by_cases hlt : k < n
    · obtain ⟨b, o, rfl, hS⟩ : ∃ b o, a = some ⟨b, o, none⟩ ∧ Is w b o n A := by
        rcases HA.out.2 with h' | h'
        · omega
        · exact h'
      obtain ⟨b2, o2, rfl, hS2⟩ : ∃ b o, a2 = some ⟨b, o, none⟩ ∧ Is w b o n A := by
        rcases HB.out.2 with h' | h'
        · omega
        · exact h'
      have hS' := hS.below hb (Nat.le_refl _)
      have hS2' := hS2.below hb (Nat.le_refl _)
      have k0 := cell_regrown (hS'.c0 k hlt)
      have k1 := cell_regrown (hS2'.c0 k hlt)
      generalize gi A k = p at *
      clear hS hS2 hS' hS2'
      go_wp2_with fail
      refine wp_region_B (by kernel_rfl) (by kernel_rfl) ?_
      repeat (go_big_quiet_step (fail))
      refine wpQuiet_nil ?_
      intro w2 hb2
      go_wp2_with fail
      exact ⟨⟨k + 1, by omega, by go_num, btr hb hb2⟩, by simp [intOf]; omega⟩
    · have hd : ¬ (k : Int) < n := by omega
      clear hlt
      go_wp2_with fail
      go_ret
      exact ⟨rfl, hb⟩

set_option maxHeartbeats 1600000 in
/-- Of equal lists Same says so. -/
theorem Same_c (a : Option Addr) (n c : Nat) (a2 : Option Addr) (c2 : Nat) (A : List It) (w : World) (h : SlO w a n A) (h2 : SlO w a2 n A) (hn : n ≤ 1000000) :
    Calls Try.prog 43 #[.slice a n c, .slice a2 n c2] w fun e w' => e = .returned (.bool true) ∧ Below w.heap.size w w' := by
  have HA := Lib.hid h
  have HB := Lib.hid h2
  have self := fun x : Int => (show (x != x) = false by simp)
  clear h h2
  go_enter Try.func43, Try.ntmps43
  go_wp2_with fail
  go_loopw [5] (fun i wr => ∃ k : Nat, k ≤ n ∧ i = .int .i64 k ∧ Below w.heap.size w wr) (fun i _ => n - (intOf i).toNat)
  case atStart => exact ⟨0, Nat.zero_le _, rfl, Below.refl _ _⟩
  case round =>
    obtain ⟨k, hk, rfl, hb⟩ := hrel
    by_cases hlt : k < n
    · obtain ⟨b, o, rfl, hS⟩ : ∃ b o, a = some ⟨b, o, none⟩ ∧ Sl w b o n A := by
        rcases HA.out.2 with h' | h'
        · omega
        · exact h'
      obtain ⟨b2, o2, rfl, hS2⟩ : ∃ b o, a2 = some ⟨b, o, none⟩ ∧ Sl w b o n A := by
        rcases HB.out.2 with h' | h'
        · omega
        · exact h'
      have hS' := hS.below hb (Nat.le_refl _)
      have hS2' := hS2.below hb (Nat.le_refl _)
      have k0 := cell_regrown (hS'.c0 k hlt)
      have k1 := cell_regrown (hS'.c1 k hlt)
      have k2 := cell_regrown (hS'.c2 k hlt)
      have k3 := cell_regrown (hS2'.c0 k hlt)
      have k4 := cell_regrown (hS2'.c1 k hlt)
      have k5 := cell_regrown (hS2'.c2 k hlt)
      generalize (at_ A k).u = p at *
      generalize (at_ A k).n = q at *
      generalize (at_ A k).d = r at *
      clear hS hS2 hS' hS2'
      go_wp2_with fail
      refine wp_region_B (by kernel_rfl) (by kernel_rfl) ?_
      repeat (go_big_quiet_step (fail))
      refine wpQuiet_nil ?_
      intro w2 hb2
      go_wp2_with fail
      exact ⟨⟨k + 1, by omega, by go_num, btr hb hb2⟩, by simp [intOf]; omega⟩
    · have hd : ¬ (k : Int) < n := by omega
      clear hlt
      go_wp2_with fail
      go_ret
      exact ⟨rfl, hb⟩

end Go.Proofs.Ytplindidegmlkaa
