/- cheapest, Cheapest, Choice of budget. -/
import Derived.Test.YtplindidegmlkaaY
namespace Go.Proofs.Ytplindidegmlkaa
open Go.RowKit Go.Sort

theorem che_start (w : World) (x y : Int) : ChI w ((((w.alloc (.cells #[.int .i64 x, .int .i64 y] 25)).alloc (.cells #[.slice none 0 0] 26)).alloc (.cells #[.int .i64 0] 3)).alloc (.cells #[.bool false] 4)) x y bst0 := by
  refine ⟨((((Below.refl _ _).alloc (Nat.le_refl _) _).alloc (by simp) _).alloc (by simp; omega) _).alloc (by simp; omega) _, ?_, ⟨.slice none 0 0, ?_, IsV.nil _ _⟩, ?_, ?_, by simp [bst0]⟩
  · exact ⟨by simp [go_sem], by simp [go_sem], by simp [go_sem], by simp [go_sem]⟩
  · exact ⟨by simp [go_sem], by simp [go_sem]⟩
  · exact ⟨by simp [go_sem, bst0], by simp [go_sem]⟩
  · exact ⟨by simp [go_sem, bst0], by simp [go_sem]⟩

/-- A choice, its cost and a truth come back. -/
def RetC (w : World) (st : Bst) (e : Ending) (w' : World) : Prop :=
  ∃ v, e = .returned (.tuple #[v, .int .i64 st.least, .bool st.some]) ∧ IsV w' w.heap.size v st.best ∧ Below w.heap.size w w'

set_option maxRecDepth 100000 in
set_option maxHeartbeats 3200000 in
theorem cheapest_c (a : Option Addr) (n c : Nat) (L : List It) (fa : Option Addr) (m fc : Nat) (F : List Fx) (x y : Int) (w : World) (h : SlO w a n L) (hf : FlO w fa m F) (hv : ValidF L F) (hlim : limB x y = true) :
    Calls Try.prog 73 #[.slice a n c, .slice fa m fc, .agg #[.int .i64 x, .int .i64 y]] w (RetC w (che L F x y)) := by
  have HV := Lib.hid hv
  have HLim := Lib.hid hlim
  have HH := Lib.hid h
  have HF := Lib.hid hf
  clear h hf hv hlim
  go_enter Try.func73, Try.ntmps73
  go_wp2_with fail
  refine (choices99 w ((((w.alloc (.cells #[.int .i64 x, .int .i64 y] 25)).alloc (.cells #[.slice none 0 0] 26)).alloc (.cells #[.int .i64 0] 3)).alloc (.cells #[.bool false] 4)) x y a n c L fa m fc F HH.out HF.out HV.out HLim.out (che_start w x y)).mono ?_
  · rintro e w1 ⟨rfl, hI⟩
    obtain ⟨v, hv, hiv⟩ := hI.best
    have k0 := cell_regrown hv.c
    have k1 := cell_regrown hI.least.c
    have k2 := cell_regrown hI.some.c
    have HIV := Lib.hid hiv
    have HB := Lib.hid hI.bel
    clear hI hv hiv
    go_wp2_with fail
    refine wp_region_B (by kernel_rfl) (by kernel_rfl) ?_
    repeat (go_big_quiet_step (fail))
    refine wpQuiet_nil ?_
    intro w2 hb2
    go_wp2_with fail
    go_ret3
    exact ⟨v, rfl, (HIV.out.mono (Nat.le_add_right _ _)).below hb2, btr HB.out hb2⟩
/-- A number, a truth and an error number come back. -/
def RetNb (w : World) (x : Int) (b : Bool) (er : Int) (e : Ending) (w' : World) : Prop := e = .returned (.tuple #[.int .i64 x, .bool b, .int .i64 er]) ∧ Below w.heap.size w w'
/-- A choice, a truth and an error number come back. -/
def RetCb (w : World) (xs : List Int) (b : Bool) (er : Int) (e : Ending) (w' : World) : Prop := ∃ v, e = .returned (.tuple #[v, .bool b, .int .i64 er]) ∧ IsV w' w.heap.size v xs ∧ Below w.heap.size w w'
def chO (L : List It) (F : List Fx) (x y : Int) : Bst := if fiErr L F x y = 0 then che L F x y else bst0
theorem chO_ok {L : List It} {F : List Fx} {x y : Int} (h : fiErr L F x y = 0) : chO L F x y = che L F x y := if_pos h
theorem chO_bad {L : List It} {F : List Fx} {x y : Int} (h : fiErr L F x y ≠ 0) : chO L F x y = bst0 := if_neg h

set_option maxRecDepth 100000 in
set_option maxHeartbeats 1600000 in
theorem Cheapest_c (a : Option Addr) (n c : Nat) (L : List It) (fa : Option Addr) (m fc : Nat) (F : List Fx) (x y : Int) (w : World) (h : SlO w a n L) (hf : FlO w fa m F) (hm : m ≤ 9223372036854775807) :
    Calls Try.prog 26 #[.slice a n c, .slice fa m fc, .agg #[.int .i64 x, .int .i64 y]] w (RetNb w (chO L F x y).least (chO L F x y).some (fiErr L F x y)) := by
  have HA : Hid (Below w.heap.size w (w.alloc (.cells #[.int .i64 x, .int .i64 y] 25))) := Lib.hid ((Below.refl _ _).alloc (Nat.le_refl _) _)
  have HC : Hid (Cell2 (w.alloc (.cells #[.int .i64 x, .int .i64 y] 25)) w.heap.size x y) := Lib.hid ⟨by simp [go_sem], by simp [go_sem], by simp [go_sem], by simp [go_sem]⟩
  have x0 := HC.out.c0
  have x1 := HC.out.c1
  by_cases h0 : fiErr L F x y = 0
  · have hne : (fiErr L F x y != 0) = false := by simp [h0]
    obtain ⟨hv, hl⟩ := fiErr_zero.1 h0
    have HV := Lib.hid hv
    have HL := Lib.hid hl
    have HE := Lib.hid h0
    rw [chO_ok h0]
    clear h0 hv hl
    go_enter Try.func26, Try.ntmps26
    go_wp2_with fail
    refine (fixed_c _ _ _ _ _ _ _ _ _ _ _ (h.below HA.out (Nat.le_refl _)) (hf.below HA.out (Nat.le_refl _)) hm).mono ?_
    rintro e w1 ⟨rfl, hb1⟩
    have B1 : Below w.heap.size w w1 := btr HA.out hb1
    have HC1 := Lib.hid (HC.out.below hb1)
    have y0 := HC1.out.c0
    have y1 := HC1.out.c1
    clear hb1 x0 x1
    go_wp2_with fail
    refine (cheapest_c _ _ _ _ _ _ _ _ _ _ _ (h.below B1 (Nat.le_refl _)) (hf.below B1 (Nat.le_refl _)) HV.out HL.out).mono ?_
    rintro e w2 ⟨v, rfl, hiv, hb2⟩
    have B2 : Below w.heap.size w w2 := btr B1 hb2
    have HIV := Lib.hid (hiv.mono B1.size)
    clear hb2 hiv
    go_wp2_with fail
    rw [HE.out]
    go_ret3
    exact ⟨rfl, B2⟩
  · have hne : (fiErr L F x y != 0) = true := by simp [h0]
    rw [chO_bad h0]
    clear h0
    go_enter Try.func26, Try.ntmps26
    go_wp2_with fail
    refine (fixed_c _ _ _ _ _ _ _ _ _ _ _ (h.below HA.out (Nat.le_refl _)) (hf.below HA.out (Nat.le_refl _)) hm).mono ?_
    rintro e w1 ⟨rfl, hb1⟩
    have B1 : Below w.heap.size w w1 := btr HA.out hb1
    clear hb1 x0 x1
    go_wp2_with fail
    go_ret3
    exact ⟨rfl, B1⟩

set_option maxRecDepth 100000 in
set_option maxHeartbeats 1600000 in
theorem Choice_c (a : Option Addr) (n c : Nat) (L : List It) (fa : Option Addr) (m fc : Nat) (F : List Fx) (x y : Int) (w : World) (h : SlO w a n L) (hf : FlO w fa m F) (hm : m ≤ 9223372036854775807) :
    Calls Try.prog 27 #[.slice a n c, .slice fa m fc, .agg #[.int .i64 x, .int .i64 y]] w (RetCb w (chO L F x y).best (chO L F x y).some (fiErr L F x y)) := by
  have HA : Hid (Below w.heap.size w (w.alloc (.cells #[.int .i64 x, .int .i64 y] 25))) := Lib.hid ((Below.refl _ _).alloc (Nat.le_refl _) _)
  have HC : Hid (Cell2 (w.alloc (.cells #[.int .i64 x, .int .i64 y] 25)) w.heap.size x y) := Lib.hid ⟨by simp [go_sem], by simp [go_sem], by simp [go_sem], by simp [go_sem]⟩
  have x0 := HC.out.c0
  have x1 := HC.out.c1
  by_cases h0 : fiErr L F x y = 0
  · have hne : (fiErr L F x y != 0) = false := by simp [h0]
    obtain ⟨hv, hl⟩ := fiErr_zero.1 h0
    have HV := Lib.hid hv
    have HL := Lib.hid hl
    have HE := Lib.hid h0
    rw [chO_ok h0]
    clear h0 hv hl
    go_enter Try.func27, Try.ntmps27
    go_wp2_with fail
    refine (fixed_c _ _ _ _ _ _ _ _ _ _ _ (h.below HA.out (Nat.le_refl _)) (hf.below HA.out (Nat.le_refl _)) hm).mono ?_
    rintro e w1 ⟨rfl, hb1⟩
    have B1 : Below w.heap.size w w1 := btr HA.out hb1
    have HC1 := Lib.hid (HC.out.below hb1)
    have y0 := HC1.out.c0
    have y1 := HC1.out.c1
    clear hb1 x0 x1
    go_wp2_with fail
    refine (cheapest_c _ _ _ _ _ _ _ _ _ _ _ (h.below B1 (Nat.le_refl _)) (hf.below B1 (Nat.le_refl _)) HV.out HL.out).mono ?_
    rintro e w2 ⟨v, rfl, hiv, hb2⟩
    have B2 : Below w.heap.size w w2 := btr B1 hb2
    have HIV := Lib.hid (hiv.mono B1.size)
    clear hb2 hiv
    go_wp2_with fail
    rw [HE.out]
    go_ret3
    exact ⟨v, rfl, HIV.out, B2⟩
  · have hne : (fiErr L F x y != 0) = true := by simp [h0]
    rw [chO_bad h0]
    clear h0
    go_enter Try.func27, Try.ntmps27
    go_wp2_with fail
    refine (fixed_c _ _ _ _ _ _ _ _ _ _ _ (h.below HA.out (Nat.le_refl _)) (hf.below HA.out (Nat.le_refl _)) hm).mono ?_
    rintro e w1 ⟨rfl, hb1⟩
    have B1 : Below w.heap.size w w1 := btr HA.out hb1
    clear hb1 x0 x1
    go_wp2_with fail
    go_ret3
    exact ⟨_, rfl, IsV.nil _ _, B1⟩

end Go.Proofs.Ytplindidegmlkaa
