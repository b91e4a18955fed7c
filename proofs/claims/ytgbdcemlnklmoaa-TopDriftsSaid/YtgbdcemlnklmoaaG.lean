/- Lists of readings that a call makes: Shift, Opposite, Turn of the reference; Same. -/
import Derived.Test.YtgbdcemlnklmoaaE
import Derived.Test.YtgbdcemlnklmoaaTail
import Derived.Test.YtgbdcemlnklmoaaMath5
import Derived.WalkSpells
namespace Go.Proofs.Ytgbdcemlnklmoaa
open Go.RowKit Go.Sort

theorem info54 : (Try.prog.info? 54).map (fun i => (i.zero, i.size, i.bytes)) = some (some (.agg #[.int .i64 0, .int .i64 0, .int .i64 0]), 3, 24) := by kernel_rfl

/-- A new block of three cells. -/
theorem cells3_new (w : World) (x y z : Value) (t : TypeId) : ∀ j u, [x, y, z][j]? = some u → (w.alloc (.cells #[x, y, z] t)).cell? ((⟨w.heap.size, 0, none⟩ : Addr).add j) = some u := by
  intro j u hj
  match j, hj with
  | 0, hj => simp at hj; subst hj; simp [go_sem, Addr.add]
  | 1, hj => simp at hj; subst hj; simp [go_sem, Addr.add]
  | 2, hj => simp at hj; subst hj; simp [go_sem, Addr.add]
  | j + 3, hj => simp at hj

/-- A slice of readings and an error number come back. -/
def RetRd (w : World) (L : List Rd) (er : Int) (e : Ending) (w' : World) : Prop :=
  ∃ v, e = .returned (.tuple #[v, .int .i64 er]) ∧ RdV w' w.heap.size v L ∧ Below w.heap.size w w'

theorem one3 (a b c : Int) : ∀ u ∈ [Value.int .i64 a, .int .i64 b, .int .i64 c], u.oneCell' = true := by simp [Value.oneCell']

theorem snoc_own {f : Nat → Rd} {k : Nat} : rdCells ((List.range (k + 1)).map f) = rdCells ((List.range k).map f) ++ [.int .i64 (f k).t, .int .i64 (f k).lo, .int .i64 (f k).hi] := by
  rw [List.range_succ, List.map_append, List.map_singleton, rdCells_snoc]


set_option maxRecDepth 100000 in
set_option maxHeartbeats 3200000 in
theorem rShift_c (a : Option Addr) (n c : Nat) (L : List Rd) (b_ : Int) (w : World) (h : SlO w a n L) : Calls Try.prog 47 #[.slice a n c, .int .i64 b_] w (RetRd w (shR L b_) (shErr L b_)) := by
  by_cases h0 : vErr L = 0
  · have hv0 : (vErr L != 0) = false := by rw [h0]; rfl
    have hv := vErr_zero.1 h0
    obtain ⟨b, o, rfl, hS⟩ : ∃ b o, a = some ⟨b, o, none⟩ ∧ Sl w b o n L := by
      rcases h.2 with h' | h'
      · have := hv.pos; have := h.1; omega
      · exact h'
    have hn8 : n ≤ 8 := by have := hv.le; have := h.1; omega
    have hn1 : 1 ≤ n := by have := hv.pos; have := h.1; omega
    have HV := Lib.hid hv
    have HLn : Hid (L.length = n) := Lib.hid h.1.symm
    have HS := Lib.hid hS
    obtain ⟨l1, l2⟩ := lastT_bd hv
    have hf0 : 0 ≤ firstT L := (hv.bd (i := 0) (by have := hv.pos; omega)).1.1
    have hf1 : firstT L ≤ lastT L := (times_bd hv (i := 0) (by have := hv.pos; omega)).2
    have HT : Hid ((at_ L (n - 1)).t = lastT L) := Lib.hid (by unfold lastT; rw [HLn.out])
    have HT0 : Hid ((at_ L 0).t = firstT L) := rfl
    have e1 : ((n : Int) - 1).toNat = n - 1 := by omega
    have e2 : 0 ≤ (n : Int) - 1 := by omega
    cases hin : inB b_ (-firstT L) (1000 - lastT L)
    · have q1 : shErr L b_ = 1 := by unfold shErr; rw [if_neg (by simp [h0]), if_neg (by simp [hin])]
      have q2 : shR L b_ = [] := by unfold shR; rw [q1]; rfl
      rw [q1, q2]
      clear q1 q2 h0 hv hS
      go_enter Try.func47, Try.ntmps47
      go_wp2_with fail
      refine (rvalidate_c _ _ _ _ _ h).mono ?_
      rintro e w1 ⟨rfl, hb1⟩
      have s1 := (HS.out.below hb1 (Nat.le_refl _)).c0 0 (by omega)
      have s2 := (HS.out.below hb1 (Nat.le_refl _)).c0 (n - 1) (by omega)
      rw [HT.out] at s2
      rw [HT0.out] at s1
      simp only [Nat.zero_mul, Nat.add_zero] at s1
      have k1 := cell_regrown s1
      have k2 := cell_regrown s2
      have cF := fun d os => rg_same (rwithin_c b_ (-firstT L) (1000 - lastT L) (grow (redrawn w1 d) os))
      clear s1 s2
      simp only [hin] at cF
      go_wp2_with fail
      refine wp_region_B (by kernel_rfl) (by kernel_rfl) ?_
      repeat (go_big_quiet_step (exact cF _ _))
      refine wpQuiet_nil ?_
      intro w2 hb2
      have BB : Below w.heap.size w w2 := btr hb1 hb2
      clear cF k1 k2 e1 e2
      go_wp2_with fail
      go_ret2
      exact ⟨_, rfl, RdV.nil _ _, BB⟩
    · have q1 : shErr L b_ = 0 := by unfold shErr; rw [if_neg (by simp [h0]), if_pos hin]
      have q2 : shR L b_ = (List.range n).map (fun i => shF b_ (at_ L i)) := by unfold shR shiftL; rw [if_pos q1, ← map_at, HLn.out]
      rw [q1, q2]
      obtain ⟨g1, g2⟩ := inB_true.1 hin
      clear q1 q2 h0 hv hS
      obtain ⟨i0, hi, hz0, hz1, hz2⟩ := info_parts info54
      go_enter Try.func47, Try.ntmps47
      go_wp2_with fail
      refine (rvalidate_c _ _ _ _ _ h).mono ?_
      rintro e w1 ⟨rfl, hb1⟩
      have s1 := (HS.out.below hb1 (Nat.le_refl _)).c0 0 (by omega)
      have s2 := (HS.out.below hb1 (Nat.le_refl _)).c0 (n - 1) (by omega)
      rw [HT.out] at s2
      rw [HT0.out] at s1
      simp only [Nat.zero_mul, Nat.add_zero] at s1
      have k1 := cell_regrown s1
      have k2 := cell_regrown s2
      have cF := fun d os => rg_same (rwithin_c b_ (-firstT L) (1000 - lastT L) (grow (redrawn w1 d) os))
      clear s1 s2
      simp only [hin] at cF
      go_wp2_with fail
      refine wp_region_B (by kernel_rfl) (by kernel_rfl) ?_
      repeat (go_big_quiet_step (exact cF _ _))
      refine wpQuiet_nil ?_
      intro w2 hb2
      have BB : Below w.heap.size w w2 := btr hb1 hb2
      clear cF k1 k2 e1 e2
      go_wp2_with fail
      go_loopw [7, 8] (fun v i wr => ∃ k : Nat, k ≤ n ∧ i = .int .i64 k ∧ Below w.heap.size w wr ∧ wr.ownsRow w.heap.size 54 3 v k (rdCells ((List.range k).map (fun i => shF b_ (at_ L i))))) (fun _ i _ => n - (intOf i).toNat)
      case atStart => exact ⟨0, Nat.zero_le _, rfl, BB, World.ownsRow_nil _ _ _ _⟩
      case round =>
        obtain ⟨k, hk, rfl, hb', hown⟩ := hrel
        have HO := Lib.hid hown
        clear hown BB
        by_cases hlt : k < n
        · have hS' := HS.out.below hb' (Nat.le_refl _)
          have k0 := cell_regrown (hS'.c0 k hlt)
          have k1 := cell_regrown (hS'.c1 k hlt)
          have k2 := cell_regrown (hS'.c2 k hlt)
          have hbd := HV.out.bd (i := k) (by rw [HLn.out]; exact hlt)
          obtain ⟨⟨a1, a2⟩, ⟨a3, a4⟩, a5, a6⟩ := hbd
          have hsum : IntKind.i64.wrap ((at_ L k).t + b_) = (at_ L k).t + b_ := IntWalk.i64_in _ (by omega)
          clear hS'
          go_wp2_with fail
          refine wp_region_T1 19 _ _ u7 rfl rfl rfl rfl (by kernel_rfl) (by kernel_rfl) (fun _ _ _ _ h => h) ?_
          simp only [List.take_succ_cons, List.take_zero, List.drop_succ_cons, List.drop_zero, Act.put, List.setIfInBounds_toArray, List.set_cons_zero, List.set_cons_succ, Nat.reduceSub]
          repeat (go_big_quiet_step (fail))
          refine wpQuiet_nil ?_
          intro w4 hb4
          have B4 : Below w.heap.size w w4 := btr hb' hb4
          have HO3 := Lib.hid (ownsRow_below HO.out hb4)
          clear k0 k1 k2
          go_wp2_with (at_builtin; refine wpList_append_own _ rfl _ _ 22 rfl w.heap.size 54 i0 (.agg #[.int .i64 0, .int .i64 0, .int .i64 0]) 3 24 Try.underlying22 hi hz0 hz1 hz2 rfl (by decide) _ _ _ rfl (HO3.out.alloc _) ⟨w4.heap.size, 0, none⟩ 1 1 [.int .i64 ((at_ L k).t + b_), .int .i64 (at_ L k).lo, .int .i64 (at_ L k).hi] rfl rfl (cells3_new _ _ _ _ _) (one3 _ _ _) (by unfold maxLen; omega) (by omega) (by have := B4.size; simp; omega) ?_)
          intro v' w5 hown5 hg5 _
          have hb5 : Below w.heap.size w w5 := (B4.alloc B4.size _).grown hg5 (by have := B4.size; simp; omega) (fun q hq => (HO3.out.lt q hq).1)
          have HO5 := Lib.hid hown5
          clear hown5 hg5
          go_wp2_with fail
          exact ⟨⟨k + 1, by omega, by go_num, hb5, by rw [snoc_own]; exact HO5.out⟩, by simp [intOf]; omega⟩
        · have HK : Hid (k = n) := Lib.hid (by omega)
          have hd : ¬ (k : Int) < n := by omega
          clear hlt
          go_wp2_with fail
          go_ret2
          refine ⟨_, rfl, ?_, hb'⟩
          have := ownsRow_rd HO.out
          rw [HK.out] at this
          exact this
  · have hv0 : (vErr L != 0) = true := by simpa using h0
    have q1 : shErr L b_ = vErr L := by unfold shErr; rw [if_pos h0]
    have q2 : shR L b_ = [] := by unfold shR; rw [q1, if_neg h0]
    rw [q1, q2]
    clear q1 q2
    clear h0
    go_enter Try.func47, Try.ntmps47
    go_wp2_with fail
    refine (rvalidate_c _ _ _ _ _ h).mono ?_
    rintro e w1 ⟨rfl, hb1⟩
    go_wp2_with fail
    go_ret2
    exact ⟨_, rfl, RdV.nil _ _, hb1⟩


set_option maxRecDepth 100000 in
set_option maxHeartbeats 3200000 in
theorem rOpposite_c (a : Option Addr) (n c : Nat) (L : List Rd) (w : World) (h : SlO w a n L) : Calls Try.prog 48 #[.slice a n c] w (RetRd w (opR L) (vErr L)) := by
  by_cases h0 : vErr L = 0
  · have hv0 : (vErr L != 0) = false := by rw [h0]; rfl
    have hv := vErr_zero.1 h0
    obtain ⟨b, o, rfl, hS⟩ : ∃ b o, a = some ⟨b, o, none⟩ ∧ Sl w b o n L := by
      rcases h.2 with h' | h'
      · have := hv.pos; have := h.1; omega
      · exact h'
    have hn8 : n ≤ 8 := by have := hv.le; have := h.1; omega
    have hn1 : 1 ≤ n := by have := hv.pos; have := h.1; omega
    have HV := Lib.hid hv
    have HLn : Hid (L.length = n) := Lib.hid h.1.symm
    have HS := Lib.hid hS
    have q2 : opR L = (List.range n).map (fun i => opF (at_ L i)) := by unfold opR oppL; rw [if_pos h0, ← map_at, HLn.out]
    rw [h0, q2]
    clear q2 h0 hv hS
    obtain ⟨i0, hi, hz0, hz1, hz2⟩ := info_parts info54
    go_enter Try.func48, Try.ntmps48
    go_wp2_with fail
    refine (rvalidate_c _ _ _ _ _ h).mono ?_
    rintro e w1 ⟨rfl, BB⟩
    go_wp2_with fail
    go_loopw [5, 6] (fun v i wr => ∃ k : Nat, k ≤ n ∧ i = .int .i64 k ∧ Below w.heap.size w wr ∧ wr.ownsRow w.heap.size 54 3 v k (rdCells ((List.range k).map (fun i => opF (at_ L i))))) (fun _ i _ => n - (intOf i).toNat)
    case atStart => exact ⟨0, Nat.zero_le _, rfl, BB, World.ownsRow_nil _ _ _ _⟩
    case round =>
      obtain ⟨k, hk, rfl, hb', hown⟩ := hrel
      have HO := Lib.hid hown
      clear hown BB
      by_cases hlt : k < n
      · have hS' := HS.out.below hb' (Nat.le_refl _)
        have k0 := cell_regrown (hS'.c0 k hlt)
        have k1 := cell_regrown (hS'.c1 k hlt)
        have k2 := cell_regrown (hS'.c2 k hlt)
        have hbd := HV.out.bd (i := k) (by rw [HLn.out]; exact hlt)
        obtain ⟨⟨a1, a2⟩, ⟨a3, a4⟩, a5, a6⟩ := hbd
        clear hS'
        go_wp2_with fail
        refine wp_region_T1 18 _ _ u5 rfl rfl rfl rfl (by kernel_rfl) (by kernel_rfl) (fun _ _ _ _ h => h) ?_
        simp only [List.take_succ_cons, List.take_zero, List.drop_succ_cons, List.drop_zero, Act.put, List.setIfInBounds_toArray, List.set_cons_zero, List.set_cons_succ, Nat.reduceSub]
        repeat (go_big_quiet_step (fail))
        refine wpQuiet_nil ?_
        intro w4 hb4
        have B4 : Below w.heap.size w w4 := btr hb' hb4
        have HO3 := Lib.hid (ownsRow_below HO.out hb4)
        clear k0 k1 k2
        go_wp2_with (at_builtin; refine wpList_append_own _ rfl _ _ 22 rfl w.heap.size 54 i0 (.agg #[.int .i64 0, .int .i64 0, .int .i64 0]) 3 24 Try.underlying22 hi hz0 hz1 hz2 rfl (by decide) _ _ _ rfl (HO3.out.alloc _) ⟨w4.heap.size, 0, none⟩ 1 1 [.int .i64 (at_ L k).t, .int .i64 (-(at_ L k).hi), .int .i64 (-(at_ L k).lo)] rfl rfl (cells3_new _ _ _ _ _) (one3 _ _ _) (by unfold maxLen; omega) (by omega) (by have := B4.size; simp; omega) ?_)
        intro v' w5 hown5 hg5 _
        have hb5 : Below w.heap.size w w5 := (B4.alloc B4.size _).grown hg5 (by have := B4.size; simp; omega) (fun q hq => (HO3.out.lt q hq).1)
        have HO5 := Lib.hid hown5
        clear hown5 hg5
        go_wp2_with fail
        exact ⟨⟨k + 1, by omega, by go_num, hb5, by rw [snoc_own]; exact HO5.out⟩, by simp [intOf]; omega⟩
      · have HK : Hid (k = n) := Lib.hid (by omega)
        have hd : ¬ (k : Int) < n := by omega
        clear hlt
        go_wp2_with fail
        go_ret2
        refine ⟨_, rfl, ?_, hb'⟩
        have := ownsRow_rd HO.out
        rw [HK.out] at this
        exact this
  · have hv0 : (vErr L != 0) = true := by simpa using h0
    have q2 : opR L = [] := by unfold opR; rw [if_neg h0]
    rw [q2]
    clear q2
    clear h0
    go_enter Try.func48, Try.ntmps48
    go_wp2_with fail
    refine (rvalidate_c _ _ _ _ _ h).mono ?_
    rintro e w1 ⟨rfl, hb1⟩
    go_wp2_with fail
    go_ret2
    exact ⟨_, rfl, RdV.nil _ _, hb1⟩


set_option maxRecDepth 100000 in
set_option maxHeartbeats 3200000 in
theorem rTurn_c (a : Option Addr) (n c : Nat) (L : List Rd) (w : World) (h : SlO w a n L) : Calls Try.prog 41 #[.slice a n c] w (RetRd w (tuR L) (vErr L)) := by
  by_cases h0 : vErr L = 0
  · have hv0 : (vErr L != 0) = false := by rw [h0]; rfl
    have hv := vErr_zero.1 h0
    obtain ⟨b, o, rfl, hS⟩ : ∃ b o, a = some ⟨b, o, none⟩ ∧ Sl w b o n L := by
      rcases h.2 with h' | h'
      · have := hv.pos; have := h.1; omega
      · exact h'
    have hn8 : n ≤ 8 := by have := hv.le; have := h.1; omega
    have hn1 : 1 ≤ n := by have := hv.pos; have := h.1; omega
    have HV := Lib.hid hv
    have HLn : Hid (L.length = n) := Lib.hid h.1.symm
    have HS := Lib.hid hS
    have q2 : tuR L = (List.range n).map (fun j => tuF (at_ L (n - 1 - j))) := by
      unfold tuR
      rw [if_pos h0]
      refine at_ext (by rw [turn_length, HLn.out]; simp) fun i hi => ?_
      rw [turn_length] at hi
      rw [turn_at hi, HLn.out]
      rw [HLn.out] at hi
      simp [at_, hi]
    rw [h0, q2]
    clear q2 h0 hv hS
    obtain ⟨i0, hi, hz0, hz1, hz2⟩ := info_parts info54
    go_enter Try.func41, Try.ntmps41
    go_wp2_with fail
    refine (rvalidate_c _ _ _ _ _ h).mono ?_
    rintro e w1 ⟨rfl, BB⟩
    go_wp2_with fail
    go_loopw [5, 6] (fun v i wr => ∃ k : Nat, k ≤ n ∧ i = .int .i64 ((n : Int) - 1 - k) ∧ Below w.heap.size w wr ∧ wr.ownsRow w.heap.size 54 3 v k (rdCells ((List.range k).map (fun j => tuF (at_ L (n - 1 - j)))))) (fun _ i _ => (intOf i + 1).toNat)
    case atStart => exact ⟨0, Nat.zero_le _, by simp, BB, World.ownsRow_nil _ _ _ _⟩
    case round =>
      obtain ⟨k, hk, rfl, hb', hown⟩ := hrel
      have HO := Lib.hid hown
      clear hown BB
      by_cases hlt : k < n
      · obtain ⟨q, hq⟩ : ∃ q : Nat, q = n - 1 - k := ⟨_, rfl⟩
        have hqi : (n : Int) - 1 - k = q := by omega
        have hqn : q < n := by omega
        have HQ := Lib.hid hq
        rw [hqi]
        have HQI := Lib.hid hqi
        clear hq hqi
        have hS' := HS.out.below hb' (Nat.le_refl _)
        have k0 := cell_regrown (hS'.c0 q hqn)
        have k1 := cell_regrown (hS'.c1 q hqn)
        have k2 := cell_regrown (hS'.c2 q hqn)
        have hbd := HV.out.bd (i := q) (by rw [HLn.out]; exact hqn)
        obtain ⟨⟨a1, a2⟩, ⟨a3, a4⟩, a5, a6⟩ := hbd
        clear hS'
        go_wp2_with fail
        refine wp_region_T1 18 _ _ u5 rfl rfl rfl rfl (by kernel_rfl) (by kernel_rfl) (fun _ _ _ _ h => h) ?_
        simp only [List.take_succ_cons, List.take_zero, List.drop_succ_cons, List.drop_zero, Act.put, List.setIfInBounds_toArray, List.set_cons_zero, List.set_cons_succ, Nat.reduceSub]
        repeat (go_big_quiet_step (fail))
        refine wpQuiet_nil ?_
        intro w4 hb4
        have B4 : Below w.heap.size w w4 := btr hb' hb4
        have HO3 := Lib.hid (ownsRow_below HO.out hb4)
        clear k0 k1 k2
        go_wp2_with (at_builtin; refine wpList_append_own _ rfl _ _ 22 rfl w.heap.size 54 i0 (.agg #[.int .i64 0, .int .i64 0, .int .i64 0]) 3 24 Try.underlying22 hi hz0 hz1 hz2 rfl (by decide) _ _ _ rfl (HO3.out.alloc _) ⟨w4.heap.size, 0, none⟩ 1 1 [.int .i64 (1000 - (at_ L q).t), .int .i64 (at_ L q).lo, .int .i64 (at_ L q).hi] rfl rfl (cells3_new _ _ _ _ _) (one3 _ _ _) (by unfold maxLen; omega) (by omega) (by have := B4.size; simp; omega) ?_)
        intro v' w5 hown5 hg5 _
        have hb5 : Below w.heap.size w w5 := (B4.alloc B4.size _).grown hg5 (by have := B4.size; simp; omega) (fun q hq => (HO3.out.lt q hq).1)
        have HO5 := Lib.hid hown5
        clear hown5 hg5
        go_wp2_with fail
        exact ⟨⟨k + 1, by omega, congrArg (Value.int .i64) (by have := HQI.out; omega), hb5, by rw [snoc_own, ← HQ.out]; exact HO5.out⟩, by simp [intOf]⟩
      · have HK : Hid (k = n) := Lib.hid (by omega)
        have hd : ¬ (0 : Int) ≤ (n : Int) - 1 - k := by omega
        clear hlt
        go_wp2_with fail
        go_ret2
        refine ⟨_, rfl, ?_, hb'⟩
        have := ownsRow_rd HO.out
        rw [HK.out] at this
        exact this
  · have hv0 : (vErr L != 0) = true := by simpa using h0
    have q2 : tuR L = [] := by unfold tuR; rw [if_neg h0]
    rw [q2]
    clear q2
    clear h0
    go_enter Try.func41, Try.ntmps41
    go_wp2_with fail
    refine (rvalidate_c _ _ _ _ _ h).mono ?_
    rintro e w1 ⟨rfl, hb1⟩
    go_wp2_with fail
    go_ret2
    exact ⟨_, rfl, RdV.nil _ _, hb1⟩


set_option maxHeartbeats 1600000 in
theorem Same_c (a : Option Addr) (n c : Nat) (A : List Rd) (a2 : Option Addr) (n2 c2 : Nat) (B : List Rd) (w : World) (h : SlO w a n A) (h2 : SlO w a2 n2 B) (hn : n ≤ 9223372036854775807) :
    Calls Try.prog 39 #[.slice a n c, .slice a2 n2 c2] w fun e w' => e = .returned (.bool (sameB A B)) ∧ Below w.heap.size w w' := by
  by_cases hl : n = n2
  · have hne : ((n : Int) != (n2 : Int)) = false := by simp [hl]
    have HR : Hid (∀ s : Bool, (scanJ (neqR A B) n 0).isSome = s → sameB A B = !s) := Lib.hid (by
      intro s hs
      unfold sameB
      rw [← h.1, ← h2.1, hs]
      simp [hl])
    generalize sameB A B = R at *
    have HL := Lib.hid hl
    by_cases h0 : n = 0
    · have H0 := Lib.hid h0
      have hR : R = true := by rw [HR.out false (by rw [h0]; rfl)]; rfl
      rw [hR]
      have hd : ¬ (0 : Int) < (n : Int) := by omega
      clear hR h h2 h0 hl HR
      go_enter Try.func39, Try.ntmps39
      go_wp2_with fail
      go_loopw [5] (fun i wr => wr = w ∧ i = .int .i64 0) (fun _ _ => 0)
      case atStart => exact ⟨rfl, rfl⟩
      case round =>
        obtain ⟨rfl, rfl⟩ := hrel
        go_wp2_with fail
        go_ret
        exact ⟨rfl, Below.refl _ _⟩
    · obtain ⟨b, o, rfl, hS⟩ : ∃ b o, a = some ⟨b, o, none⟩ ∧ Sl w b o n A := by
        rcases h.2 with h' | h'
        · exact absurd h' h0
        · exact h'
      obtain ⟨b2, o2, rfl, hS2⟩ : ∃ b o, a2 = some ⟨b, o, none⟩ ∧ Sl w b o n2 B := by
        rcases h2.2 with h' | h'
        · exact absurd (hl.trans h') h0
        · exact h'
      have HS := Lib.hid hS
      have HS2 := Lib.hid hS2
      have hle : n ≤ n2 := by omega
      clear h h2 hS hS2 hl h0
      go_enter Try.func39, Try.ntmps39
      go_wp2_with fail
      go_loopw [5] (fun i wr => ∃ k : Nat, k ≤ n ∧ i = .int .i64 k ∧ Below w.heap.size w wr ∧ scanJ (neqR A B) n 0 = scanJ (neqR A B) (n - k) k) (fun i _ => n - (intOf i).toNat)
      case atStart => exact ⟨0, Nat.zero_le _, rfl, Below.refl _ _, rfl⟩
      case round =>
        obtain ⟨k, hk, rfl, hb, hF⟩ := hrel
        have HF := Lib.hid hF
        clear hF
        by_cases hlt : k < n
        · have hS' := HS.out.below hb (Nat.le_refl _)
          have k0 := cell_regrown (hS'.c0 k hlt)
          have k1 := cell_regrown (hS'.c1 k hlt)
          have k2 := cell_regrown (hS'.c2 k hlt)
          have hT' := HS2.out.below hb (Nat.le_refl _)
          have m0 := cell_regrown (hT'.c0 k (by omega))
          have m1 := cell_regrown (hT'.c1 k (by omega))
          have m2 := cell_regrown (hT'.c2 k (by omega))
          have hlt2 : k < n2 := by omega
          clear hS' hT'
          have hpk : neqR A B k = !(decide ((at_ A k).t = (at_ B k).t) && decide ((at_ A k).lo = (at_ B k).lo) && decide ((at_ A k).hi = (at_ B k).hi)) := rfl
          have HP := Lib.hid hpk
          clear hpk
          have hx : (neqR A B k = true ∧ ((((at_ A k).t == (at_ B k).t) = false) ∨ ((((at_ A k).t == (at_ B k).t) = true) ∧ (((at_ A k).lo == (at_ B k).lo) = false)) ∨ ((((at_ A k).t == (at_ B k).t) = true) ∧ (((at_ A k).lo == (at_ B k).lo) = true) ∧ (((at_ A k).hi == (at_ B k).hi) = false)))) ∨
              (neqR A B k = false ∧ ((at_ A k).t == (at_ B k).t) = true ∧ ((at_ A k).lo == (at_ B k).lo) = true ∧ ((at_ A k).hi == (at_ B k).hi) = true) := by
            rw [HP.out]
            by_cases c1 : (at_ A k).t = (at_ B k).t
            · by_cases c2 : (at_ A k).lo = (at_ B k).lo
              · by_cases c3 : (at_ A k).hi = (at_ B k).hi
                · right; simp [c1, c2, c3]
                · left; simp [c1, c2, c3]
              · left; simp [c1, c2]
            · left; simp [c1]
          rcases hx with ⟨hx, c1 | ⟨c1, c2⟩ | ⟨c1, c2, c3⟩⟩ | ⟨hx, c1, c2, c3⟩
          · go_wp2_with fail
            refine wp_region_B (by kernel_rfl) (by kernel_rfl) ?_
            repeat (go_big_quiet_step (fail))
            refine wpQuiet_nil ?_
            intro w2 hb2
            go_wp2_with fail
            go_ret
            exact ⟨by rw [HR.out true (by rw [HF.out, scan_yes hlt hx]; rfl)]; rfl, btr hb hb2⟩
          · go_wp2_with fail
            refine wp_region_B (by kernel_rfl) (by kernel_rfl) ?_
            repeat (go_big_quiet_step (fail))
            refine wpQuiet_nil ?_
            intro w2 hb2
            go_wp2_with fail
            go_ret
            exact ⟨by rw [HR.out true (by rw [HF.out, scan_yes hlt hx]; rfl)]; rfl, btr hb hb2⟩
          · go_wp2_with fail
            refine wp_region_B (by kernel_rfl) (by kernel_rfl) ?_
            repeat (go_big_quiet_step (fail))
            refine wpQuiet_nil ?_
            intro w2 hb2
            go_wp2_with fail
            go_ret
            exact ⟨by rw [HR.out true (by rw [HF.out, scan_yes hlt hx]; rfl)]; rfl, btr hb hb2⟩
          · go_wp2_with fail
            refine wp_region_B (by kernel_rfl) (by kernel_rfl) ?_
            repeat (go_big_quiet_step (fail))
            refine wpQuiet_nil ?_
            intro w2 hb2
            go_wp2_with fail
            exact ⟨⟨k + 1, by omega, by go_num, btr hb hb2, by rw [HF.out, scan_no hlt hx]⟩, by simp [intOf]; omega⟩
        · have HK := Lib.hid hlt
          have hd : ¬ (k : Int) < n := by omega
          clear hlt
          go_wp2_with fail
          go_ret
          exact ⟨by rw [HR.out false (by rw [HF.out, scan_end HK.out]; rfl)]; rfl, hb⟩
  · have hne : ((n : Int) != (n2 : Int)) = true := by simp; omega
    have hR : sameB A B = false := by
      unfold sameB
      rw [← h.1, ← h2.1]
      simp [hl]
    rw [hR]
    clear hR h h2 hl hn
    go_enter Try.func39, Try.ntmps39
    go_wp2_with fail
    go_ret
    exact ⟨rfl, Below.refl _ _⟩

end Go.Proofs.Ytgbdcemlnklmoaa
