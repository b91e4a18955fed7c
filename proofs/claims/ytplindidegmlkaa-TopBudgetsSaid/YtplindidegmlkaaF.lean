/- Fixes in memory; ValidateFixes of budget and of its reference. -/
import Derived.Test.YtplindidegmlkaaD
namespace Go.Proofs.Ytplindidegmlkaa
open Go.RowKit Go.Sort

/-- A fix: of which item, its rate, its cost. -/
structure Fx where
  i : Int
  n : Int
  d : Int
  c : Int
def fx0 : Fx := ⟨0, 0, 0, 0⟩
def fx (F : List Fx) (k : Nat) : Fx := F.getD k fx0

structure Fl (w : World) (b o n : Nat) (F : List Fx) : Prop where
  len : n = F.length
  lt : b < w.heap.size
  c0 : ∀ k, k < n → w.cell? ⟨b, o + k * 4, none⟩ = some (.int .i64 (fx F k).i)
  c1 : ∀ k, k < n → w.cell? ⟨b, o + k * 4 + 1, none⟩ = some (.int .i64 (fx F k).n)
  c2 : ∀ k, k < n → w.cell? ⟨b, o + k * 4 + 2, none⟩ = some (.int .i64 (fx F k).d)
  c3 : ∀ k, k < n → w.cell? ⟨b, o + k * 4 + 3, none⟩ = some (.int .i64 (fx F k).c)
theorem Fl.below {w w' : World} {B b o n : Nat} {F : List Fx} (h : Fl w b o n F) (hb : Below B w w') (hB : w.heap.size ≤ B) : Fl w' b o n F :=
  have hl : b < B := Nat.lt_of_lt_of_le h.lt hB
  ⟨h.len, Nat.lt_of_lt_of_le h.lt hb.size, fun i hi => by rw [hb.cell (p := ⟨b, _, none⟩) hl]; exact h.c0 i hi, fun i hi => by rw [hb.cell (p := ⟨b, _, none⟩) hl]; exact h.c1 i hi, fun i hi => by rw [hb.cell (p := ⟨b, _, none⟩) hl]; exact h.c2 i hi, fun i hi => by rw [hb.cell (p := ⟨b, _, none⟩) hl]; exact h.c3 i hi⟩
def FlO (w : World) (a : Option Addr) (n : Nat) (F : List Fx) : Prop := n = F.length ∧ (n = 0 ∨ ∃ b o, a = some ⟨b, o, none⟩ ∧ Fl w b o n F)
theorem FlO.below {w w' : World} {B n : Nat} {a : Option Addr} {F : List Fx} (h : FlO w a n F) (hb : Below B w w') (hB : w.heap.size ≤ B) : FlO w' a n F := by
  obtain ⟨h1, h2⟩ := h
  refine ⟨h1, ?_⟩
  rcases h2 with h2 | ⟨b, o, h3, h4⟩
  · exact .inl h2
  · exact .inr ⟨b, o, h3, h4.below hb hB⟩

/-- A rate that is at most another one. -/
def atMost (n d n' d' : Int) : Bool := decide (n * d' - n' * d ≤ 0)
theorem atMost_true {n d n' d' : Int} : atMost n d n' d' = true ↔ n * d' ≤ n' * d := by simp [atMost]; omega
theorem part_le {n d n' d' : Int} (h1 : 1 ≤ d) (h2 : d ≤ 10) (h3 : 1 ≤ d') (h4 : d' ≤ 10) : partI n d ≤ partI n' d' ↔ n * d' ≤ n' * d := by
  have e1 := part_mul (n := n) h1 h2
  have e2 := part_mul (n := n') h3 h4
  have hd : d = 1 ∨ d = 2 ∨ d = 3 ∨ d = 4 ∨ d = 5 ∨ d = 6 ∨ d = 7 ∨ d = 8 ∨ d = 9 ∨ d = 10 := by omega
  have hd' : d' = 1 ∨ d' = 2 ∨ d' = 3 ∨ d' = 4 ∨ d' = 5 ∨ d' = 6 ∨ d' = 7 ∨ d' = 8 ∨ d' = 9 ∨ d' = 10 := by omega
  generalize partI n d = A at *
  generalize partI n' d' = B at *
  rcases hd with rfl | rfl | rfl | rfl | rfl | rfl | rfl | rfl | rfl | rfl <;> rcases hd' with rfl | rfl | rfl | rfl | rfl | rfl | rfl | rfl | rfl | rfl <;> omega
theorem atMost_part {n d n' d' : Int} (h1 : 1 ≤ d) (h2 : d ≤ 10) (h3 : 1 ≤ d') (h4 : d' ≤ 10) : decide (partI n' d' < partI n d) = !atMost n d n' d' := by
  have := part_le (n := n) (d := d) (n' := n') (d' := d') h1 h2 h3 h4
  cases h : atMost n d n' d'
  · have h' : ¬ n * d' ≤ n' * d := fun hh => by rw [atMost_true.2 hh] at h; cases h
    simp; omega
  · have h' := atMost_true.1 h
    simp; omega

def okF (L : List It) (x : Fx) : Bool := inB x.i 0 ((L.length : Int) - 1) && (rateB x.n x.d && (inB x.c 0 99 && atMost x.n x.d (at_ L x.i.toNat).n (at_ L x.i.toNat).d))
def badF (L : List It) (F : List Fx) (k : Nat) : Bool := !okF L (fx F k)
/-- The error number of a budget and fixes. -/
def vfErr (L : List It) (F : List Fx) : Int := if vErr L ≠ 0 then vErr L else if 8 < F.length then 3 else if (scanJ (badF L F) F.length 0).isSome then 1 else 0

theorem rateB_true {n d : Int} : rateB n d = true ↔ 1 ≤ d ∧ d ≤ 10 ∧ 0 ≤ n ∧ n ≤ d := by simp [rateB, inB]; omega
theorem okF_true {L : List It} {x : Fx} : okF L x = true ↔ (0 ≤ x.i ∧ x.i < L.length) ∧ (1 ≤ x.d ∧ x.d ≤ 10 ∧ 0 ≤ x.n ∧ x.n ≤ x.d) ∧ (0 ≤ x.c ∧ x.c ≤ 99) ∧ x.n * (at_ L x.i.toNat).d ≤ (at_ L x.i.toNat).n * x.d := by
  unfold okF
  rw [Bool.and_eq_true, Bool.and_eq_true, Bool.and_eq_true, inB_true, inB_true, rateB_true, atMost_true]
  omega

structure ValidF (L : List It) (F : List Fx) : Prop where
  v : Valid L
  le : F.length ≤ 8
  ok : ∀ k, k < F.length → okF L (fx F k) = true

theorem vfErr_zero {L : List It} {F : List Fx} : vfErr L F = 0 ↔ ValidF L F := by
  unfold vfErr
  by_cases hv : vErr L = 0
  · rw [if_neg (by simp [hv])]
    by_cases h : 8 < F.length
    · rw [if_pos h]; exact ⟨fun h => by simp at h, fun h' => absurd h'.le (by omega)⟩
    · rw [if_neg h]
      cases hs : (scanJ (badF L F) F.length 0).isSome
      · simp only [Bool.false_eq_true, if_false, true_iff]
        rw [scan_none] at hs
        exact ⟨vErr_zero.1 hv, by omega, fun i hi => by have := hs i hi; simpa [badF] using this⟩
      · simp only [if_true, Int.one_ne_zero, false_iff]
        intro hv
        have : (scanJ (badF L F) F.length 0).isSome = false := scan_none.2 fun k hk => by simp [badF, hv.ok k hk]
        rw [this] at hs; cases hs
  · rw [if_pos hv]
    exact ⟨fun h => absurd h hv, fun h => absurd (vErr_zero.2 h.v) hv⟩

theorem vf_bad {L : List It} {F : List Fx} (h : vErr L ≠ 0) : vfErr L F = vErr L := if_pos h
theorem vf_large {L : List It} {F : List Fx} (h : vErr L = 0) (h8 : 8 < F.length) : vfErr L F = 3 := by unfold vfErr; rw [if_neg (by simp [h]), if_pos h8]
theorem vf_end {L : List It} {F : List Fx} {k : Nat} (h : vErr L = 0) (h8 : ¬ 8 < F.length) (hs : scanJ (badF L F) F.length 0 = scanJ (badF L F) (F.length - k) k) (hk : ¬ k < F.length) : vfErr L F = 0 := by
  unfold vfErr; rw [if_neg (by simp [h]), if_neg h8, hs, scan_end hk]; rfl
theorem vf_no {L : List It} {F : List Fx} {k : Nat} (h : vErr L = 0) (h8 : ¬ 8 < F.length) (hs : scanJ (badF L F) F.length 0 = scanJ (badF L F) (F.length - k) k) (hk : k < F.length) (hb : okF L (fx F k) = false) : vfErr L F = 1 := by
  unfold vfErr; rw [if_neg (by simp [h]), if_neg h8, hs, scan_yes hk (by simp [badF, hb])]; rfl
theorem vf_ok {L : List It} {F : List Fx} {k : Nat} (hs : scanJ (badF L F) F.length 0 = scanJ (badF L F) (F.length - k) k) (hk : k < F.length) (hb : okF L (fx F k) = true) : scanJ (badF L F) F.length 0 = scanJ (badF L F) (F.length - (k + 1)) (k + 1) := by
  rw [hs, scan_no hk (by simp [badF, hb])]

/-- A contract at a value that is known otherwise. -/
theorem Calls.val {P : Program} {f : FuncId} {args : Array Value} {w : World} {v v' : Value} (h : Calls P f args w fun e w' => e = .returned v ∧ Below w.heap.size w w') (hv : v = v') : Calls P f args w fun e w' => e = .returned v' ∧ Below w.heap.size w w' := hv ▸ h
theorem Calls.val0 {P : Program} {f : FuncId} {args : Array Value} {w : World} {v v' : Value} (h : Calls P f args w fun e w' => e = .returned v ∧ w = w') (hv : v = v') : Calls P f args w fun e w' => e = .returned v' ∧ w = w' := hv ▸ h
theorem vb {b c : Bool} (h : b = c) : Value.bool b = .bool c := by rw [h]

set_option maxRecDepth 100000 in
set_option maxHeartbeats 3200000 in
theorem ValidateFixes_c (a : Option Addr) (n c : Nat) (L : List It) (fa : Option Addr) (m fc : Nat) (F : List Fx) (w : World) (h : SlO w a n L) (hf : FlO w fa m F) (hm : m ≤ 9223372036854775807) : Calls Try.prog 47 #[.slice a n c, .slice fa m fc] w fun e w' => e = .returned (.int .i64 (vfErr L F)) ∧ Below w.heap.size w w' := by
  by_cases h0 : vErr L = 0
  · have hne : (vErr L != 0) = false := by simp [h0]
    have HV := Lib.hid (vErr_zero.1 h0)
    have HE := Lib.hid h0
    have HLn := Lib.hid h.1
    have HFn := Lib.hid hf.1
    have hn6 : n ≤ 6 := by have := h.1; have := HV.out.le; omega
    clear h0
    by_cases h8 : 8 < m
    · have d8 : ((8 : Int) < m) := by omega
      rw [vf_large HE.out (by have := HFn.out; omega)]
      go_enter Try.func47, Try.ntmps47
      go_wp2_with fail
      refine (Validate_c _ _ _ _ _ h).mono ?_
      rintro e w1 ⟨rfl, hb1⟩
      go_wp2_with fail
      go_ret
      exact ⟨rfl, hb1⟩
    · have d8 : ¬ ((8 : Int) < m) := by omega
      have H8 : Hid (¬ 8 < F.length) := Lib.hid (by have := HFn.out; omega)
      have hm8 : m ≤ 8 := by omega
      have HH := Lib.hid h
      have HF := Lib.hid hf
      have EN : Hid (∀ k : Nat, scanJ (badF L F) F.length 0 = scanJ (badF L F) (F.length - k) k → ¬ k < F.length → vfErr L F = 0) := Lib.hid fun k => vf_end HE.out H8.out
      have NO : Hid (∀ k : Nat, scanJ (badF L F) F.length 0 = scanJ (badF L F) (F.length - k) k → k < F.length → okF L (fx F k) = false → vfErr L F = 1) := Lib.hid fun k => vf_no HE.out H8.out
      generalize vfErr L F = E at *
      go_enter Try.func47, Try.ntmps47
      go_wp2_with fail
      refine (Validate_c _ _ _ _ _ h).mono ?_
      rintro e w1 ⟨rfl, hb1⟩
      clear h hf
      go_wp2_with fail
      go_loopw [18] (fun i wr => ∃ k : Nat, k ≤ m ∧ i = .int .i64 k ∧ Below w.heap.size w wr ∧ scanJ (badF L F) F.length 0 = scanJ (badF L F) (F.length - k) k) (fun i _ => m - (intOf i).toNat)
      case atStart => exact ⟨0, Nat.zero_le _, rfl, hb1, rfl⟩
      case round =>
        obtain ⟨k, hk, rfl, hb, hF⟩ := hrel
        have HS := Lib.hid hF
        clear hF hb1
        by_cases hlt : k < m
        · obtain ⟨b, o, rfl, hQ⟩ : ∃ b o, fa = some ⟨b, o, none⟩ ∧ Fl w b o m F := by
            rcases HF.out.2 with h' | h'
            · omega
            · exact h'
          have hQ' := hQ.below hb (Nat.le_refl _)
          have c0 := hQ'.c0 k hlt
          have c1 := hQ'.c1 k hlt
          have c2 := hQ'.c2 k hlt
          have c3 := hQ'.c3 k hlt
          have HLT : Hid (k < F.length) := Lib.hid (by have := HFn.out; omega)
          have HOK : Hid (okF L (fx F k) = (inB (fx F k).i 0 ((n : Int) - 1) && (rateB (fx F k).n (fx F k).d && (inB (fx F k).c 0 99 && atMost (fx F k).n (fx F k).d (at_ L (fx F k).i.toNat).n (at_ L (fx F k).i.toNat).d)))) := Lib.hid (by have := HLn.out; subst this; rfl)
          have HO2 := Lib.hid (vf_ok HS.out HLT.out)
          have HNO := Lib.hid (NO.out k HS.out HLT.out)
          clear NO EN HS hQ hQ'
          generalize okF L (fx F k) = ok at *
          generalize (fx F k).i = xi at *
          generalize (fx F k).n = xn at *
          generalize (fx F k).d = xd at *
          generalize (fx F k).c = xc at *
          have hAl : Below wr.heap.size wr (wr.alloc (.cells #[.int .i64 xi, .int .i64 xn, .int .i64 xd, .int .i64 xc] 98)) := (Below.refl _ _).alloc (Nat.le_refl _) _
          have HB2 := Lib.hid (btr hb hAl)
          have k0 := cell_regrown (w := wr.alloc (.cells #[.int .i64 xi, .int .i64 xn, .int .i64 xd, .int .i64 xc] 98)) (a := ⟨wr.heap.size, 0, none⟩) (v := .int .i64 xi) (by simp [go_sem])
          have k1 := cell_regrown (w := wr.alloc (.cells #[.int .i64 xi, .int .i64 xn, .int .i64 xd, .int .i64 xc] 98)) (a := ⟨wr.heap.size, 1, none⟩) (v := .int .i64 xn) (by simp [go_sem])
          have k2 := cell_regrown (w := wr.alloc (.cells #[.int .i64 xi, .int .i64 xn, .int .i64 xd, .int .i64 xc] 98)) (a := ⟨wr.heap.size, 2, none⟩) (v := .int .i64 xd) (by simp [go_sem])
          have k3 := cell_regrown (w := wr.alloc (.cells #[.int .i64 xi, .int .i64 xn, .int .i64 xd, .int .i64 xc] 98)) (a := ⟨wr.heap.size, 3, none⟩) (v := .int .i64 xc) (by simp [go_sem])
          cases t1 : inB xi 0 ((n : Int) - 1)
          · have HOF : Hid (ok = false) := Lib.hid (by rw [HOK.out, t1]; rfl)
            have cF := fun d os => rg_same (v := .bool false) (Calls.val0 (within_c xi 0 ((n : Int) - 1) (grow (redrawn (wr.alloc (.cells #[.int .i64 xi, .int .i64 xn, .int .i64 xd, .int .i64 xc] 98)) d) os)) (vb t1))
            clear hAl hb t1
            go_wp2_with fail
            refine wp_region_B (by kernel_rfl) (by kernel_rfl) ?_
            repeat (go_big_quiet_step (exact cF _ _))
            refine wpQuiet_nil ?_
            intro w2 hb2
            go_wp2_with fail
            go_ret
            exact ⟨by rw [HNO.out HOF.out]; rfl, btr HB2.out hb2⟩
          · obtain ⟨i1, i2⟩ := inB_true.1 t1
            obtain ⟨j, rfl⟩ := Int.eq_ofNat_of_zero_le i1
            have hjn : j < n := by omega
            have hjL : j < L.length := by have := HLn.out; omega
            obtain ⟨bl, ol, rfl, hL⟩ : ∃ b o, a = some ⟨b, o, none⟩ ∧ Sl w b o n L := by
              rcases HH.out.2 with h' | h'
              · omega
              · exact h'
            have hL' := (hL.below hb (Nat.le_refl _)).below hAl (Nat.le_refl _)
            have l1 := cell_regrown (hL'.c1 j hjn)
            have l2 := cell_regrown (hL'.c2 j hjn)
            obtain ⟨a1, a2, a3, a4, a5, a6⟩ := HV.out.bd hjL
            have cA := fun d os => rg_same (v := .bool true) (Calls.val0 (within_c (j : Int) 0 ((n : Int) - 1) (grow (redrawn (wr.alloc (.cells #[.int .i64 (j : Int), .int .i64 xn, .int .i64 xd, .int .i64 xc] 98)) d) os)) (vb t1))
            have HOK2 : Hid (ok = (rateB xn xd && (inB xc 0 99 && atMost xn xd (at_ L j).n (at_ L j).d))) := Lib.hid (by rw [HOK.out, t1]; rfl)
            have hj0 : (0 : Int) ≤ (j : Int) := by omega
            cases t2 : rateB xn xd
            · have HOF : Hid (ok = false) := Lib.hid (by rw [HOK2.out, t2]; rfl)
              have cB := fun d os => Calls.regrown_of (v := .bool false) (Calls.val (isRate_c xn xd (grow (redrawn (wr.alloc (.cells #[.int .i64 (j : Int), .int .i64 xn, .int .i64 xd, .int .i64 xc] 98)) d) os)) (vb t2))
              clear hAl hb t1 t2 hL hL'
              go_wp2_with fail
              refine wp_region_B (by kernel_rfl) (by kernel_rfl) ?_
              repeat (go_big_quiet_step (first | with_reducible exact cA _ _ | with_reducible exact cB _ _))
              refine wpQuiet_nil ?_
              intro w2 hb2
              go_wp2_with fail
              go_ret
              exact ⟨by rw [HNO.out HOF.out]; rfl, btr HB2.out hb2⟩
            · obtain ⟨r1, r2, r3, r4⟩ := rateB_true.1 t2
              have cB := fun d os => Calls.regrown_of (v := .bool true) (Calls.val (isRate_c xn xd (grow (redrawn (wr.alloc (.cells #[.int .i64 (j : Int), .int .i64 xn, .int .i64 xd, .int .i64 xc] 98)) d) os)) (vb t2))
              cases t3 : inB xc 0 99
              · have HOF : Hid (ok = false) := Lib.hid (by rw [HOK2.out, t2, t3]; rfl)
                have cC := fun d os => rg_same (v := .bool false) (Calls.val0 (within_c xc 0 99 (grow (redrawn (wr.alloc (.cells #[.int .i64 (j : Int), .int .i64 xn, .int .i64 xd, .int .i64 xc] 98)) d) os)) (vb t3))
                clear hAl hb t1 t2 t3 hL hL'
                go_wp2_with fail
                refine wp_region_B (by kernel_rfl) (by kernel_rfl) ?_
                repeat (go_big_quiet_step (first | with_reducible exact cA _ _ | with_reducible exact cB _ _ | with_reducible exact cC _ _))
                refine wpQuiet_nil ?_
                intro w2 hb2
                go_wp2_with fail
                go_ret
                exact ⟨by rw [HNO.out HOF.out]; rfl, btr HB2.out hb2⟩
              · have cC := fun d os => rg_same (v := .bool true) (Calls.val0 (within_c xc 0 99 (grow (redrawn (wr.alloc (.cells #[.int .i64 (j : Int), .int .i64 xn, .int .i64 xd, .int .i64 xc] 98)) d) os)) (vb t3))
                have cD := fun d os => Calls.regrown_of (compare_c xn xd (at_ L j).n (at_ L j).d (grow (redrawn (wr.alloc (.cells #[.int .i64 (j : Int), .int .i64 xn, .int .i64 xd, .int .i64 xc] 98)) d) os) ⟨r3, by omega, by omega, by omega⟩ ⟨a5, by omega, by omega, by omega⟩)
                cases t4 : atMost xn xd (at_ L j).n (at_ L j).d
                · have HOF : Hid (ok = false) := Lib.hid (by rw [HOK2.out, t2, t3, t4]; rfl)
                  have tD : decide ((at_ L j).n * xd < xn * (at_ L j).d) = true := by
                    have e : atMost xn xd (at_ L j).n (at_ L j).d = decide (xn * (at_ L j).d - (at_ L j).n * xd ≤ 0) := rfl
                    rw [t4] at e
                    have e' := e.symm
                    simp at e' ⊢
                    omega
                  clear hAl hb t1 t2 t3 t4 hL hL'
                  go_wp2_with fail
                  refine wp_region_B (by kernel_rfl) (by kernel_rfl) ?_
                  repeat (go_big_quiet_step (first | with_reducible exact cA _ _ | with_reducible exact cB _ _ | with_reducible exact cC _ _ | with_reducible exact cD _ _))
                  refine wpQuiet_nil ?_
                  intro w2 hb2
                  go_wp2_with fail
                  go_ret
                  exact ⟨by rw [HNO.out HOF.out]; rfl, btr HB2.out hb2⟩
                · have HOF : Hid (ok = true) := Lib.hid (by rw [HOK2.out, t2, t3, t4]; rfl)
                  have tD : decide ((at_ L j).n * xd < xn * (at_ L j).d) = false := by
                    have e : atMost xn xd (at_ L j).n (at_ L j).d = decide (xn * (at_ L j).d - (at_ L j).n * xd ≤ 0) := rfl
                    rw [t4] at e
                    have e' := e.symm
                    simp at e' ⊢
                    omega
                  clear hAl hb t1 t2 t3 t4 hL hL'
                  go_wp2_with fail
                  refine wp_region_B (by kernel_rfl) (by kernel_rfl) ?_
                  repeat (go_big_quiet_step (first | with_reducible exact cA _ _ | with_reducible exact cB _ _ | with_reducible exact cC _ _ | with_reducible exact cD _ _))
                  refine wpQuiet_nil ?_
                  intro w2 hb2
                  go_wp2_with fail
                  exact ⟨⟨k + 1, by omega, by go_num, btr HB2.out hb2, HO2.out HOF.out⟩, by simp [intOf]; omega⟩
        · have hd : ¬ (k : Int) < m := by omega
          have HK : Hid (¬ k < F.length) := Lib.hid (by have := HFn.out; omega)
          clear hlt
          go_wp2_with fail
          go_ret
          exact ⟨by rw [EN.out k HS.out HK.out]; rfl, hb⟩
  · have hne : (vErr L != 0) = true := by simp [h0]
    rw [vf_bad h0]
    clear h0
    go_enter Try.func47, Try.ntmps47
    go_wp2_with fail
    refine (Validate_c _ _ _ _ _ h).mono ?_
    rintro e w1 ⟨rfl, hb1⟩
    go_wp2_with fail
    go_ret
    exact ⟨rfl, hb1⟩
set_option maxRecDepth 100000 in
set_option maxHeartbeats 3200000 in
theorem rValidateFixes_c (a : Option Addr) (n c : Nat) (L : List It) (fa : Option Addr) (m fc : Nat) (F : List Fx) (w : World) (h : SlO w a n L) (hf : FlO w fa m F) (hm : m ≤ 9223372036854775807) : Calls Try.prog 48 #[.slice a n c, .slice fa m fc] w fun e w' => e = .returned (.int .i64 (vfErr L F)) ∧ Below w.heap.size w w' := by
  by_cases h0 : vErr L = 0
  · have hne : (vErr L != 0) = false := by simp [h0]
    have HV := Lib.hid (vErr_zero.1 h0)
    have HE := Lib.hid h0
    have HLn := Lib.hid h.1
    have HFn := Lib.hid hf.1
    have hn6 : n ≤ 6 := by have := h.1; have := HV.out.le; omega
    clear h0
    by_cases h8 : 8 < m
    · have d8 : ((8 : Int) < m) := by omega
      rw [vf_large HE.out (by have := HFn.out; omega)]
      go_enter Try.func48, Try.ntmps48
      go_wp2_with fail
      refine (rValidate_c _ _ _ _ _ h).mono ?_
      rintro e w1 ⟨rfl, hb1⟩
      go_wp2_with fail
      go_ret
      exact ⟨rfl, hb1⟩
    · have d8 : ¬ ((8 : Int) < m) := by omega
      have H8 : Hid (¬ 8 < F.length) := Lib.hid (by have := HFn.out; omega)
      have hm8 : m ≤ 8 := by omega
      have HH := Lib.hid h
      have HF := Lib.hid hf
      have EN : Hid (∀ k : Nat, scanJ (badF L F) F.length 0 = scanJ (badF L F) (F.length - k) k → ¬ k < F.length → vfErr L F = 0) := Lib.hid fun k => vf_end HE.out H8.out
      have NO : Hid (∀ k : Nat, scanJ (badF L F) F.length 0 = scanJ (badF L F) (F.length - k) k → k < F.length → okF L (fx F k) = false → vfErr L F = 1) := Lib.hid fun k => vf_no HE.out H8.out
      generalize vfErr L F = E at *
      go_enter Try.func48, Try.ntmps48
      go_wp2_with fail
      refine (rValidate_c _ _ _ _ _ h).mono ?_
      rintro e w1 ⟨rfl, hb1⟩
      clear h hf
      go_wp2_with fail
      go_loopw [6] (fun i wr => ∃ k : Nat, k ≤ m ∧ i = .int .i64 k ∧ Below w.heap.size w wr ∧ scanJ (badF L F) F.length 0 = scanJ (badF L F) (F.length - k) k) (fun i _ => m - (intOf i).toNat)
      case atStart => exact ⟨0, Nat.zero_le _, rfl, hb1, rfl⟩
      case round =>
        obtain ⟨k, hk, rfl, hb, hF⟩ := hrel
        have HS := Lib.hid hF
        clear hF hb1
        by_cases hlt : k < m
        · obtain ⟨b, o, rfl, hQ⟩ : ∃ b o, fa = some ⟨b, o, none⟩ ∧ Fl w b o m F := by
            rcases HF.out.2 with h' | h'
            · omega
            · exact h'
          have hQ' := hQ.below hb (Nat.le_refl _)
          have c0 := hQ'.c0 k hlt
          have c1 := hQ'.c1 k hlt
          have c2 := hQ'.c2 k hlt
          have c3 := hQ'.c3 k hlt
          have HLT : Hid (k < F.length) := Lib.hid (by have := HFn.out; omega)
          have HOK : Hid (okF L (fx F k) = (inB (fx F k).i 0 ((n : Int) - 1) && (rateB (fx F k).n (fx F k).d && (inB (fx F k).c 0 99 && atMost (fx F k).n (fx F k).d (at_ L (fx F k).i.toNat).n (at_ L (fx F k).i.toNat).d)))) := Lib.hid (by have := HLn.out; subst this; rfl)
          have HO2 := Lib.hid (vf_ok HS.out HLT.out)
          have HNO := Lib.hid (NO.out k HS.out HLT.out)
          clear NO EN HS hQ hQ'
          generalize okF L (fx F k) = ok at *
          generalize (fx F k).i = xi at *
          generalize (fx F k).n = xn at *
          generalize (fx F k).d = xd at *
          generalize (fx F k).c = xc at *
          have hAl : Below wr.heap.size wr (wr.alloc (.cells #[.int .i64 xi, .int .i64 xn, .int .i64 xd, .int .i64 xc] 98)) := (Below.refl _ _).alloc (Nat.le_refl _) _
          have HB2 := Lib.hid (btr hb hAl)
          have k0 := cell_regrown (w := wr.alloc (.cells #[.int .i64 xi, .int .i64 xn, .int .i64 xd, .int .i64 xc] 98)) (a := ⟨wr.heap.size, 0, none⟩) (v := .int .i64 xi) (by simp [go_sem])
          have k1 := cell_regrown (w := wr.alloc (.cells #[.int .i64 xi, .int .i64 xn, .int .i64 xd, .int .i64 xc] 98)) (a := ⟨wr.heap.size, 1, none⟩) (v := .int .i64 xn) (by simp [go_sem])
          have k2 := cell_regrown (w := wr.alloc (.cells #[.int .i64 xi, .int .i64 xn, .int .i64 xd, .int .i64 xc] 98)) (a := ⟨wr.heap.size, 2, none⟩) (v := .int .i64 xd) (by simp [go_sem])
          have k3 := cell_regrown (w := wr.alloc (.cells #[.int .i64 xi, .int .i64 xn, .int .i64 xd, .int .i64 xc] 98)) (a := ⟨wr.heap.size, 3, none⟩) (v := .int .i64 xc) (by simp [go_sem])
          cases t1 : inB xi 0 ((n : Int) - 1)
          · have HOF : Hid (ok = false) := Lib.hid (by rw [HOK.out, t1]; rfl)
            have cF := fun d os => rg_same (v := .bool false) (Calls.val0 (rWithin_c xi 0 ((n : Int) - 1) (grow (redrawn (wr.alloc (.cells #[.int .i64 xi, .int .i64 xn, .int .i64 xd, .int .i64 xc] 98)) d) os)) (vb t1))
            clear hAl hb t1
            go_wp2_with fail
            refine wp_region_B (by kernel_rfl) (by kernel_rfl) ?_
            repeat (go_big_quiet_step (exact cF _ _))
            refine wpQuiet_nil ?_
            intro w2 hb2
            go_wp2_with fail
            go_ret
            exact ⟨by rw [HNO.out HOF.out]; rfl, btr HB2.out hb2⟩
          · obtain ⟨i1, i2⟩ := inB_true.1 t1
            obtain ⟨j, rfl⟩ := Int.eq_ofNat_of_zero_le i1
            have hjn : j < n := by omega
            have hjL : j < L.length := by have := HLn.out; omega
            obtain ⟨bl, ol, rfl, hL⟩ : ∃ b o, a = some ⟨b, o, none⟩ ∧ Sl w b o n L := by
              rcases HH.out.2 with h' | h'
              · omega
              · exact h'
            have hL' := (hL.below hb (Nat.le_refl _)).below hAl (Nat.le_refl _)
            have l1 := cell_regrown (hL'.c1 j hjn)
            have l2 := cell_regrown (hL'.c2 j hjn)
            obtain ⟨a1, a2, a3, a4, a5, a6⟩ := HV.out.bd hjL
            have cA := fun d os => rg_same (v := .bool true) (Calls.val0 (rWithin_c (j : Int) 0 ((n : Int) - 1) (grow (redrawn (wr.alloc (.cells #[.int .i64 (j : Int), .int .i64 xn, .int .i64 xd, .int .i64 xc] 98)) d) os)) (vb t1))
            have HOK2 : Hid (ok = (rateB xn xd && (inB xc 0 99 && atMost xn xd (at_ L j).n (at_ L j).d))) := Lib.hid (by rw [HOK.out, t1]; rfl)
            have hj0 : (0 : Int) ≤ (j : Int) := by omega
            cases t2 : rateB xn xd
            · have HOF : Hid (ok = false) := Lib.hid (by rw [HOK2.out, t2]; rfl)
              have cB := fun d os => Calls.regrown_of (v := .bool false) (Calls.val (rIsRate_c xn xd (grow (redrawn (wr.alloc (.cells #[.int .i64 (j : Int), .int .i64 xn, .int .i64 xd, .int .i64 xc] 98)) d) os)) (vb t2))
              clear hAl hb t1 t2 hL hL'
              go_wp2_with fail
              refine wp_region_B (by kernel_rfl) (by kernel_rfl) ?_
              repeat (go_big_quiet_step (first | with_reducible exact cA _ _ | with_reducible exact cB _ _))
              refine wpQuiet_nil ?_
              intro w2 hb2
              go_wp2_with fail
              go_ret
              exact ⟨by rw [HNO.out HOF.out]; rfl, btr HB2.out hb2⟩
            · obtain ⟨r1, r2, r3, r4⟩ := rateB_true.1 t2
              have cB := fun d os => Calls.regrown_of (v := .bool true) (Calls.val (rIsRate_c xn xd (grow (redrawn (wr.alloc (.cells #[.int .i64 (j : Int), .int .i64 xn, .int .i64 xd, .int .i64 xc] 98)) d) os)) (vb t2))
              cases t3 : inB xc 0 99
              · have HOF : Hid (ok = false) := Lib.hid (by rw [HOK2.out, t2, t3]; rfl)
                have cC := fun d os => rg_same (v := .bool false) (Calls.val0 (rWithin_c xc 0 99 (grow (redrawn (wr.alloc (.cells #[.int .i64 (j : Int), .int .i64 xn, .int .i64 xd, .int .i64 xc] 98)) d) os)) (vb t3))
                clear hAl hb t1 t2 t3 hL hL'
                go_wp2_with fail
                refine wp_region_B (by kernel_rfl) (by kernel_rfl) ?_
                repeat (go_big_quiet_step (first | with_reducible exact cA _ _ | with_reducible exact cB _ _ | with_reducible exact cC _ _))
                refine wpQuiet_nil ?_
                intro w2 hb2
                go_wp2_with fail
                go_ret
                exact ⟨by rw [HNO.out HOF.out]; rfl, btr HB2.out hb2⟩
              · have cC := fun d os => rg_same (v := .bool true) (Calls.val0 (rWithin_c xc 0 99 (grow (redrawn (wr.alloc (.cells #[.int .i64 (j : Int), .int .i64 xn, .int .i64 xd, .int .i64 xc] 98)) d) os)) (vb t3))
                have cD := fun d os => Calls.regrown_of (part_c xn xd (grow (redrawn (wr.alloc (.cells #[.int .i64 (j : Int), .int .i64 xn, .int .i64 xd, .int .i64 xc] 98)) d) os) ⟨r3, by omega⟩)
                have cE := fun d os => Calls.regrown_of (part_c (at_ L j).n (at_ L j).d (grow (redrawn (wr.alloc (.cells #[.int .i64 (j : Int), .int .i64 xn, .int .i64 xd, .int .i64 xc] 98)) d) os) ⟨a5, by omega⟩)
                cases t4 : atMost xn xd (at_ L j).n (at_ L j).d
                · have HOF : Hid (ok = false) := Lib.hid (by rw [HOK2.out, t2, t3, t4]; rfl)
                  have tD : decide (partI (at_ L j).n (at_ L j).d < partI xn xd) = true := by rw [atMost_part r1 r2 a3 a4, t4]; rfl
                  clear hAl hb t1 t2 t3 t4 hL hL'
                  go_wp2_with fail
                  refine wp_region_B (by kernel_rfl) (by kernel_rfl) ?_
                  repeat (go_big_quiet_step (first | with_reducible exact cA _ _ | with_reducible exact cB _ _ | with_reducible exact cC _ _ | with_reducible exact cD _ _ | with_reducible exact cE _ _))
                  refine wpQuiet_nil ?_
                  intro w2 hb2
                  go_wp2_with fail
                  go_ret
                  exact ⟨by rw [HNO.out HOF.out]; rfl, btr HB2.out hb2⟩
                · have HOF : Hid (ok = true) := Lib.hid (by rw [HOK2.out, t2, t3, t4]; rfl)
                  have tD : decide (partI (at_ L j).n (at_ L j).d < partI xn xd) = false := by rw [atMost_part r1 r2 a3 a4, t4]; rfl
                  clear hAl hb t1 t2 t3 t4 hL hL'
                  go_wp2_with fail
                  refine wp_region_B (by kernel_rfl) (by kernel_rfl) ?_
                  repeat (go_big_quiet_step (first | with_reducible exact cA _ _ | with_reducible exact cB _ _ | with_reducible exact cC _ _ | with_reducible exact cD _ _ | with_reducible exact cE _ _))
                  refine wpQuiet_nil ?_
                  intro w2 hb2
                  go_wp2_with fail
                  exact ⟨⟨k + 1, by omega, by go_num, btr HB2.out hb2, HO2.out HOF.out⟩, by simp [intOf]; omega⟩
        · have hd : ¬ (k : Int) < m := by omega
          have HK : Hid (¬ k < F.length) := Lib.hid (by have := HFn.out; omega)
          clear hlt
          go_wp2_with fail
          go_ret
          exact ⟨by rw [EN.out k HS.out HK.out]; rfl, hb⟩
  · have hne : (vErr L != 0) = true := by simp [h0]
    rw [vf_bad h0]
    clear h0
    go_enter Try.func48, Try.ntmps48
    go_wp2_with fail
    refine (rValidate_c _ _ _ _ _ h).mono ?_
    rintro e w1 ⟨rfl, hb1⟩
    go_wp2_with fail
    go_ret
    exact ⟨rfl, hb1⟩

/-- The error number of a budget, fixes and a limit. -/
def fiErr (L : List It) (F : List Fx) (x y : Int) : Int := if vfErr L F ≠ 0 then vfErr L F else if limB x y = true then 0 else 1
theorem fi_bad {L : List It} {F : List Fx} {x y : Int} (h : vfErr L F ≠ 0) : fiErr L F x y = vfErr L F := if_pos h
theorem fi_no {L : List It} {F : List Fx} {x y : Int} (h : vfErr L F = 0) (hl : limB x y = false) : fiErr L F x y = 1 := by unfold fiErr; rw [if_neg (by simp [h]), if_neg (by simp [hl])]
theorem fi_ok {L : List It} {F : List Fx} {x y : Int} (h : vfErr L F = 0) (hl : limB x y = true) : fiErr L F x y = 0 := by unfold fiErr; rw [if_neg (by simp [h]), if_pos hl]
theorem fiErr_zero {L : List It} {F : List Fx} {x y : Int} : fiErr L F x y = 0 ↔ ValidF L F ∧ limB x y = true := by
  rw [← vfErr_zero]
  by_cases h : vfErr L F = 0
  · cases hl : limB x y
    · rw [fi_no h hl]; simp
    · rw [fi_ok h hl]; simp [h]
  · rw [fi_bad h]; simp [h]
theorem fi_li {L : List It} {F : List Fx} {x y : Int} (h : vfErr L F = 0) : fiErr L F x y = liErr L x y := by
  have hv := vErr_zero.2 (vfErr_zero.1 h).v
  cases hl : limB x y
  · rw [fi_no h hl, li_no hv hl]
  · rw [fi_ok h hl, li_ok hv hl]

theorem fixed_c (a : Option Addr) (n c : Nat) (L : List It) (fa : Option Addr) (m fc : Nat) (F : List Fx) (x y : Int) (w : World) (h : SlO w a n L) (hf : FlO w fa m F) (hm : m ≤ 9223372036854775807) :
    Calls Try.prog 72 #[.slice a n c, .slice fa m fc, .agg #[.int .i64 x, .int .i64 y]] w fun e w' => e = .returned (.int .i64 (fiErr L F x y)) ∧ Below w.heap.size w w' := by
  have HA : Hid (Below w.heap.size w (w.alloc (.cells #[.int .i64 x, .int .i64 y] 25))) := Lib.hid ((Below.refl _ _).alloc (Nat.le_refl _) _)
  have HC : Hid (Cell2 (w.alloc (.cells #[.int .i64 x, .int .i64 y] 25)) w.heap.size x y) := Lib.hid ⟨by simp [go_sem], by simp [go_sem], by simp [go_sem], by simp [go_sem]⟩
  by_cases h0 : vfErr L F = 0
  · have hne : (vfErr L F != 0) = false := by simp [h0]
    rw [fi_li h0]
    clear h0
    go_enter Try.func72, Try.ntmps72
    go_wp2_with fail
    refine (ValidateFixes_c _ _ _ _ _ _ _ _ _ (h.below HA.out (Nat.le_refl _)) (hf.below HA.out (Nat.le_refl _)) hm).mono ?_
    rintro e w1 ⟨rfl, hb1⟩
    have B1 : Below w.heap.size w w1 := btr HA.out hb1
    have HC1 := Lib.hid (HC.out.below hb1)
    have y0 := HC1.out.c0
    have y1 := HC1.out.c1
    clear hb1
    go_wp2_with fail
    refine (limited_c _ _ _ _ _ _ _ (h.below B1 (Nat.le_refl _))).mono ?_
    rintro e w2 ⟨rfl, hb2⟩
    go_wp2_with fail
    go_ret
    exact ⟨rfl, btr B1 hb2⟩
  · have hne : (vfErr L F != 0) = true := by simp [h0]
    rw [fi_bad h0]
    clear h0
    go_enter Try.func72, Try.ntmps72
    go_wp2_with fail
    refine (ValidateFixes_c _ _ _ _ _ _ _ _ _ (h.below HA.out (Nat.le_refl _)) (hf.below HA.out (Nat.le_refl _)) hm).mono ?_
    rintro e w1 ⟨rfl, hb1⟩
    have B1 : Below w.heap.size w w1 := btr HA.out hb1
    clear hb1
    go_wp2_with fail
    go_ret
    exact ⟨rfl, B1⟩

theorem rlimited_c (a : Option Addr) (n c : Nat) (L : List It) (fa : Option Addr) (m fc : Nat) (F : List Fx) (x y : Int) (w : World) (h : SlO w a n L) (hf : FlO w fa m F) (hm : m ≤ 9223372036854775807) :
    Calls Try.prog 91 #[.slice a n c, .slice fa m fc, .agg #[.int .i64 x, .int .i64 y]] w fun e w' => e = .returned (.int .i64 (fiErr L F x y)) ∧ Below w.heap.size w w' := by
  have HA : Hid (Below w.heap.size w (w.alloc (.cells #[.int .i64 x, .int .i64 y] 25))) := Lib.hid ((Below.refl _ _).alloc (Nat.le_refl _) _)
  have HC : Hid (Cell2 (w.alloc (.cells #[.int .i64 x, .int .i64 y] 25)) w.heap.size x y) := Lib.hid ⟨by simp [go_sem], by simp [go_sem], by simp [go_sem], by simp [go_sem]⟩
  by_cases h0 : vfErr L F = 0
  · have hne : (vfErr L F != 0) = false := by simp [h0]
    have HR : Hid (∀ b, limB x y = b → fiErr L F x y = if b = true then 0 else 1) := Lib.hid fun b hb => by
      cases b
      · rw [fi_no h0 hb]; rfl
      · rw [fi_ok h0 hb]; rfl
    generalize fiErr L F x y = E at *
    clear h0
    go_enter Try.func91, Try.ntmps91
    go_wp2_with fail
    refine (rValidateFixes_c _ _ _ _ _ _ _ _ _ (h.below HA.out (Nat.le_refl _)) (hf.below HA.out (Nat.le_refl _)) hm).mono ?_
    rintro e w1 ⟨rfl, hb1⟩
    have B1 : Below w.heap.size w w1 := btr HA.out hb1
    have HC1 := Lib.hid (HC.out.below hb1)
    have y0 := HC1.out.c0
    have y1 := HC1.out.c1
    clear hb1
    go_wp2_with fail
    refine (rIsLimit_c x y _).mono ?_
    rintro e w2 ⟨rfl, hb2⟩
    cases hl : limB x y
    · have HE := Lib.hid (HR.out _ hl)
      clear hl
      go_wp2_with fail
      go_ret
      exact ⟨by rw [HE.out]; rfl, btr B1 hb2⟩
    · have HE := Lib.hid (HR.out _ hl)
      clear hl
      go_wp2_with fail
      go_ret
      exact ⟨by rw [HE.out]; rfl, btr B1 hb2⟩
  · have hne : (vfErr L F != 0) = true := by simp [h0]
    rw [fi_bad h0]
    clear h0
    go_enter Try.func91, Try.ntmps91
    go_wp2_with fail
    refine (rValidateFixes_c _ _ _ _ _ _ _ _ _ (h.below HA.out (Nat.le_refl _)) (hf.below HA.out (Nat.le_refl _)) hm).mono ?_
    rintro e w1 ⟨rfl, hb1⟩
    have B1 : Below w.heap.size w w1 := btr HA.out hb1
    clear hb1
    go_wp2_with fail
    go_ret
    exact ⟨rfl, B1⟩
end Go.Proofs.Ytplindidegmlkaa
