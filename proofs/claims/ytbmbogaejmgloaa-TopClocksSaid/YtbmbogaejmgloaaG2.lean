/- Jobs at other times, and with time turned round, by the reference. -/
import Derived.Test.YtbmbogaejmgloaaG
namespace Go.Proofs.Ytbmbogaejmgloaa
open Go.RowKit Go.Sort

set_option maxRecDepth 100000 in
set_option maxHeartbeats 3200000 in
theorem rTurn_c (a : Option Addr) (n c : Nat) (L : List Jb) (w : World) (h : SlO w a n L) : Calls Try.prog 46 #[.slice a n c] w (RetJb w (turnL L) (vErr L)) := by
  by_cases h0 : vErr L = 0
  · have hne : (vErr L != 0) = false := by simp [h0]
    have hv := vErr_zero.1 h0
    have h8 : n ≤ 8 := by have := hv.le; have := h.1; omega
    have HLn : Hid (n = L.length) := Lib.hid h.1
    have HV := Lib.hid hv
    have H := Lib.hid h
    have HE := Lib.hid h0
    have HM : Hid (turnL L = (List.range n).map (fun i => tn (at_ L i))) := Lib.hid (by unfold turnL turned; rw [if_pos h0, HLn.out, map_at])
    rw [HM.out]
    clear h0 hv h
    obtain ⟨i0, hi, hz0, hz1, hz2⟩ := info_parts info30
    go_enter Try.func46, Try.ntmps46
    go_wp2_with fail
    refine (rValidate_c _ _ _ _ _ H.out).mono ?_
    rintro e w1 ⟨rfl, BB⟩
    go_wp2_with fail
    go_loopw [5, 6] (fun v i wr => ∃ k : Nat, k ≤ n ∧ i = .int .i64 k ∧ Below w.heap.size w wr ∧ wr.ownsRow w.heap.size 30 3 v k (jbCells ((List.range k).map (fun i => (tn) (at_ L i))))) (fun _ i _ => n - (intOf i).toNat)
    case atStart => exact ⟨0, Nat.zero_le _, rfl, BB, World.ownsRow_nil _ _ _ _⟩
    case round =>
      obtain ⟨k, hk, rfl, hb', hown⟩ := hrel
      have HO := Lib.hid hown
      clear hown BB
      by_cases hlt : k < n
      · obtain ⟨b, o, hab, hS⟩ : ∃ b o, a = some ⟨b, o, none⟩ ∧ Sl w b o n L := by
          rcases H.out.2 with h' | h'
          · omega
          · exact h'
        subst hab
        have hS' := hS.below hb' (Nat.le_refl _)
        have k0 := cell_regrown (hS'.c0 k hlt)
        have k1 := cell_regrown (hS'.c1 k hlt)
        have k2 := cell_regrown (hS'.c2 k hlt)
        have hbd := HV.out.bd (i := k) (by rw [← HLn.out]; exact hlt)
        obtain ⟨a1, a2, a3, a4, a5⟩ := hbd
        have hs1 : IntKind.i64.wrap (60 - (at_ L k).e) = 60 - (at_ L k).e := IntWalk.i64_in _ (by omega)
        have hs2 : IntKind.i64.wrap (60 - (at_ L k).s) = 60 - (at_ L k).s := IntWalk.i64_in _ (by omega)
        clear hS' hS
        go_wp2_with fail
        refine wp_region_T1 19 _ _ u5 rfl rfl rfl rfl (by kernel_rfl) (by kernel_rfl) (fun _ _ _ _ h => h) ?_
        simp only [List.take_succ_cons, List.take_zero, List.drop_succ_cons, List.drop_zero, Act.put, List.setIfInBounds_toArray, List.set_cons_zero, List.set_cons_succ, Nat.reduceSub]
        repeat (go_big_quiet_step (fail))
        refine wpQuiet_nil ?_
        intro w4 hb4
        have B4 : Below w.heap.size w w4 := btr hb' hb4
        have HO3 := Lib.hid (ownsRow_below HO.out hb4)
        clear k0 k1 k2 hs1 hs2
        go_wp2_with (at_builtin; refine wpList_append_own _ rfl _ _ 22 rfl w.heap.size 30 i0 (.agg #[.int .i64 0, .int .i64 0, .int .i64 0]) 3 24 Try.underlying22 hi hz0 hz1 hz2 rfl (by decide) _ _ _ rfl (HO3.out.alloc _) ⟨w4.heap.size, 0, none⟩ 1 1 [.int .i64 (60 - (at_ L k).e), .int .i64 (60 - (at_ L k).s), .int .i64 (at_ L k).d] rfl rfl (cells3_new _ _ _ _ _) (one3 _ _ _) (by unfold maxLen; omega) (by omega) (by have := B4.size; simp; omega) ?_)
        intro v' w5 hown5 hg5 _
        have hb5 : Below w.heap.size w w5 := (B4.alloc B4.size _).grown hg5 (by have := B4.size; simp; omega) (fun q hq => (HO3.out.lt q hq).1)
        have HO5 := Lib.hid hown5
        clear hown5 hg5
        go_wp2_with fail
        exact ⟨⟨k + 1, by omega, by go_num, hb5, by rw [snoc_own]; exact HO5.out⟩, by simp [intOf]; omega⟩
      · have hkn : k = n := by omega
        have hd : ¬ (k : Int) < n := by omega
        have HK := Lib.hid hkn
        clear hkn hlt
        go_wp2_with fail
        go_ret2
        refine ⟨_, by rw [HE.out]; rfl, ?_, hb'⟩
        have := ownsRow_jb HO.out
        rw [HK.out] at this
        exact this
  · have hne : (vErr L != 0) = true := by simpa using h0
    have HM : Hid (turnL L = []) := Lib.hid (if_neg h0)
    rw [HM.out]
    clear h0
    go_enter Try.func46, Try.ntmps46
    go_wp2_with fail
    refine (rValidate_c _ _ _ _ _ h).mono ?_
    rintro e w1 ⟨rfl, hb1⟩
    go_wp2_with fail
    go_ret2
    exact ⟨_, rfl, JbV.nil _ _, hb1⟩

theorem mv_v {L : List Jb} {x y : Int} (h : ¬ vErr L = 0) : mvErr L x y = vErr L ∧ mvL L x y = [] := by
  have e : mvErr L x y = vErr L := by unfold mvErr; rw [if_pos h]
  exact ⟨e, by unfold mvL; rw [e, if_neg h]⟩
theorem mv_1 {L : List Jb} {x y : Int} (h : vErr L = 0) (h1 : 0 < L.length) (h2 : inB y (-60) 60 = false) : mvErr L x y = 1 ∧ mvL L x y = [] := by
  have e : mvErr L x y = 1 := by unfold mvErr; rw [if_neg (by simp [h]), if_pos ⟨h1, h2⟩]
  exact ⟨e, by unfold mvL; rw [e]; rfl⟩
theorem mv_w {L : List Jb} {x y : Int} (h : vErr L = 0) (h1 : ¬ (0 < L.length ∧ inB y (-60) 60 = false)) : mvErr L x y = vErr (moved L x y) ∧ mvL L x y = if vErr (moved L x y) = 0 then moved L x y else [] := by
  have e : mvErr L x y = vErr (moved L x y) := by unfold mvErr; rw [if_neg (by simp [h]), if_neg h1]
  exact ⟨e, by unfold mvL; rw [e]⟩

set_option maxRecDepth 100000 in
set_option maxHeartbeats 3200000 in
theorem moved_c (a : Option Addr) (n c : Nat) (L : List Jb) (x y : Int) (w : World) (h : SlO w a n L) (hxy : x = 0 ∨ x = y) : Calls Try.prog 71 #[.slice a n c, .int .i64 x, .int .i64 y] w (RetJb w (mvL L x y) (mvErr L x y)) := by
  by_cases h0 : vErr L = 0
  · have hne : (vErr L != 0) = false := by simp [h0]
    have hv := vErr_zero.1 h0
    have h8 : n ≤ 8 := by have := hv.le; have := h.1; omega
    have HLn : Hid (n = L.length) := Lib.hid h.1
    have HV := Lib.hid hv
    have H := Lib.hid h
    have HE := Lib.hid h0
    clear hv h
    by_cases h1 : 0 < n ∧ inB y (-60) 60 = false
    · obtain ⟨h2, h3⟩ := h1
      have dn : decide (0 < n) = true := decT h2
      obtain ⟨e1, e2⟩ := mv_1 (x := x) h0 (by rw [← HLn.out]; exact h2) h3
      rw [e1, e2]
      clear e1 e2 h0 h2 hxy
      go_enter Try.func71, Try.ntmps71
      go_wp2_with fail
      refine (rValidate_c _ _ _ _ _ H.out).mono ?_
      rintro e w1 ⟨rfl, BB⟩
      go_wp2_with fail
      refine (within_c _ _ _ _).mono ?_
      rintro e w2 ⟨rfl, rfl⟩
      simp only [h3]
      go_wp2_with fail
      go_ret2
      exact ⟨_, rfl, JbV.nil _ _, BB⟩
    · obtain ⟨e1, e2⟩ := mv_w (x := x) h0 (by rw [← HLn.out]; exact h1)
      have HM : Hid (moved L x y = (List.range n).map (fun i => (mv x y) (at_ L i))) := Lib.hid (by unfold moved; rw [HLn.out, map_at])
      have HLM : Hid ((moved L x y).length = n) := Lib.hid (by rw [moved_length, HLn.out])
      have HE1 := Lib.hid e1
      generalize hmv : mvL L x y = MV
      rw [hmv] at e2
      have HE2 := Lib.hid e2
      rw [e1]
      have hyb : 0 < n → -60 ≤ y ∧ y ≤ 60 := fun hn => by
        cases hb : inB y (-60) 60
        · exact absurd ⟨hn, hb⟩ h1
        · exact inB_true.1 hb
      have HYB := Lib.hid hyb
      have hd : (decide (0 < n) = false) ∨ (decide (0 < n) = true ∧ inB y (-60) 60 = true) := by
        by_cases hn : 0 < n
        · right
          refine ⟨decT hn, ?_⟩
          cases hb : inB y (-60) 60
          · exact absurd ⟨hn, hb⟩ h1
          · rfl
        · exact .inl (decF hn)
      have HXY := Lib.hid hxy
      clear e1 e2 h0 h1 hyb hxy hmv
      obtain ⟨i0, hi, hz0, hz1, hz2⟩ := info_parts info30
      rcases hd with dn | ⟨dn, hin⟩
      · go_enter Try.func71, Try.ntmps71
        go_wp2_with fail
        refine (rValidate_c _ _ _ _ _ H.out).mono ?_
        rintro e w1 ⟨rfl, BB⟩
        go_wp2_with fail
        go_loopw [9, 10] (fun v i wr => ∃ k : Nat, k ≤ n ∧ i = .int .i64 k ∧ Below w.heap.size w wr ∧ wr.ownsRow w.heap.size 30 3 v k (jbCells ((List.range k).map (fun i => (mv x y) (at_ L i))))) (fun _ i _ => n - (intOf i).toNat)
        case atStart => exact ⟨0, Nat.zero_le _, rfl, BB, World.ownsRow_nil _ _ _ _⟩
        case round =>
          obtain ⟨k, hk, rfl, hb', hown⟩ := hrel
          have HO := Lib.hid hown
          clear hown BB
          by_cases hlt : k < n
          · obtain ⟨b, o, hab, hS⟩ : ∃ b o, a = some ⟨b, o, none⟩ ∧ Sl w b o n L := by
              rcases H.out.2 with h' | h'
              · omega
              · exact h'
            subst hab
            have hS' := hS.below hb' (Nat.le_refl _)
            have k0 := cell_regrown (hS'.c0 k hlt)
            have k1 := cell_regrown (hS'.c1 k hlt)
            have k2 := cell_regrown (hS'.c2 k hlt)
            have hbd := HV.out.bd (i := k) (by rw [← HLn.out]; exact hlt)
            obtain ⟨a1, a2, a3, a4, a5⟩ := hbd
            have hyb := HYB.out (by omega)
            obtain ⟨yb1, yb2⟩ := hyb
            have hx : -60 ≤ x ∧ x ≤ 60 := by rcases HXY.out with h | h <;> omega
            obtain ⟨xb1, xb2⟩ := hx
            have hs1 : IntKind.i64.wrap ((at_ L k).s + x) = (at_ L k).s + x := IntWalk.i64_in _ (by omega)
            have hs2 : IntKind.i64.wrap ((at_ L k).e + y) = (at_ L k).e + y := IntWalk.i64_in _ (by omega)
            clear hS' hS
            go_wp2_with fail
            refine wp_region_T1 21 _ _ u9 rfl rfl rfl rfl (by kernel_rfl) (by kernel_rfl) (fun _ _ _ _ h => h) ?_
            simp only [List.take_succ_cons, List.take_zero, List.drop_succ_cons, List.drop_zero, Act.put, List.setIfInBounds_toArray, List.set_cons_zero, List.set_cons_succ, Nat.reduceSub]
            repeat (go_big_quiet_step (fail))
            refine wpQuiet_nil ?_
            intro w4 hb4
            have B4 : Below w.heap.size w w4 := btr hb' hb4
            have HO3 := Lib.hid (ownsRow_below HO.out hb4)
            clear k0 k1 k2 hs1 hs2
            go_wp2_with (at_builtin; refine wpList_append_own _ rfl _ _ 22 rfl w.heap.size 30 i0 (.agg #[.int .i64 0, .int .i64 0, .int .i64 0]) 3 24 Try.underlying22 hi hz0 hz1 hz2 rfl (by decide) _ _ _ rfl (HO3.out.alloc _) ⟨w4.heap.size, 0, none⟩ 1 1 [.int .i64 ((at_ L k).s + x), .int .i64 ((at_ L k).e + y), .int .i64 (at_ L k).d] rfl rfl (cells3_new _ _ _ _ _) (one3 _ _ _) (by unfold maxLen; omega) (by omega) (by have := B4.size; simp; omega) ?_)
            intro v' w5 hown5 hg5 _
            have hb5 : Below w.heap.size w w5 := (B4.alloc B4.size _).grown hg5 (by have := B4.size; simp; omega) (fun q hq => (HO3.out.lt q hq).1)
            have HO5 := Lib.hid hown5
            clear hown5 hg5
            go_wp2_with fail
            exact ⟨⟨k + 1, by omega, by go_num, hb5, by rw [snoc_own]; exact HO5.out⟩, by simp [intOf]; omega⟩
          · have hkn : k = n := by omega
            have hd : ¬ (k : Int) < n := by omega
            have hJ : JbV wr w.heap.size u9 (moved L x y) := by
              have := ownsRow_jb HO.out
              rw [hkn, ← HM.out] at this
              exact this
            obtain ⟨a4, c4, e4, i4, l4, m4, q4⟩ := hJ
            rw [HLM.out] at e4 i4 l4
            clear hkn hlt HO
            rw [e4]
            clear e4
            go_wp2_with fail
            refine (rValidate_c _ _ _ _ _ i4).mono ?_
            rintro e w4 ⟨rfl, hb4⟩
            have B4 := btr hb' hb4
            by_cases h1 : vErr (moved L x y) = 0
            · have hne1 : (vErr (moved L x y) != 0) = false := by simp [h1]
              have HZ := Lib.hid h1
              clear h1
              go_wp2_with fail
              go_ret2
              rw [HE2.out, if_pos HZ.out]
              exact ⟨_, by rw [HZ.out]; rfl, ⟨a4, c4, by rw [HLM.out]; rfl, by rw [HLM.out]; exact i4.below hb4 (Nat.le_refl _), by rw [HLM.out]; exact l4, m4, q4⟩, B4⟩
            · have hne1 : (vErr (moved L x y) != 0) = true := by simpa using h1
              have HZ := Lib.hid h1
              clear h1
              go_wp2_with fail
              go_ret2
              rw [HE2.out, if_neg HZ.out]
              exact ⟨_, rfl, JbV.nil _ _, B4⟩
      · go_enter Try.func71, Try.ntmps71
        go_wp2_with fail
        refine (rValidate_c _ _ _ _ _ H.out).mono ?_
        rintro e w1 ⟨rfl, BB⟩
        go_wp2_with fail
        refine (within_c _ _ _ _).mono ?_
        rintro e w2 ⟨rfl, rfl⟩
        simp only [hin]
        go_wp2_with fail
        go_loopw [9, 10] (fun v i wr => ∃ k : Nat, k ≤ n ∧ i = .int .i64 k ∧ Below w.heap.size w wr ∧ wr.ownsRow w.heap.size 30 3 v k (jbCells ((List.range k).map (fun i => (mv x y) (at_ L i))))) (fun _ i _ => n - (intOf i).toNat)
        case atStart => exact ⟨0, Nat.zero_le _, rfl, BB, World.ownsRow_nil _ _ _ _⟩
        case round =>
          obtain ⟨k, hk, rfl, hb', hown⟩ := hrel
          have HO := Lib.hid hown
          clear hown BB
          by_cases hlt : k < n
          · obtain ⟨b, o, hab, hS⟩ : ∃ b o, a = some ⟨b, o, none⟩ ∧ Sl w b o n L := by
              rcases H.out.2 with h' | h'
              · omega
              · exact h'
            subst hab
            have hS' := hS.below hb' (Nat.le_refl _)
            have k0 := cell_regrown (hS'.c0 k hlt)
            have k1 := cell_regrown (hS'.c1 k hlt)
            have k2 := cell_regrown (hS'.c2 k hlt)
            have hbd := HV.out.bd (i := k) (by rw [← HLn.out]; exact hlt)
            obtain ⟨a1, a2, a3, a4, a5⟩ := hbd
            have hyb := HYB.out (by omega)
            obtain ⟨yb1, yb2⟩ := hyb
            have hx : -60 ≤ x ∧ x ≤ 60 := by rcases HXY.out with h | h <;> omega
            obtain ⟨xb1, xb2⟩ := hx
            have hs1 : IntKind.i64.wrap ((at_ L k).s + x) = (at_ L k).s + x := IntWalk.i64_in _ (by omega)
            have hs2 : IntKind.i64.wrap ((at_ L k).e + y) = (at_ L k).e + y := IntWalk.i64_in _ (by omega)
            clear hS' hS
            go_wp2_with fail
            refine wp_region_T1 21 _ _ u9 rfl rfl rfl rfl (by kernel_rfl) (by kernel_rfl) (fun _ _ _ _ h => h) ?_
            simp only [List.take_succ_cons, List.take_zero, List.drop_succ_cons, List.drop_zero, Act.put, List.setIfInBounds_toArray, List.set_cons_zero, List.set_cons_succ, Nat.reduceSub]
            repeat (go_big_quiet_step (fail))
            refine wpQuiet_nil ?_
            intro w4 hb4
            have B4 : Below w.heap.size w w4 := btr hb' hb4
            have HO3 := Lib.hid (ownsRow_below HO.out hb4)
            clear k0 k1 k2 hs1 hs2
            go_wp2_with (at_builtin; refine wpList_append_own _ rfl _ _ 22 rfl w.heap.size 30 i0 (.agg #[.int .i64 0, .int .i64 0, .int .i64 0]) 3 24 Try.underlying22 hi hz0 hz1 hz2 rfl (by decide) _ _ _ rfl (HO3.out.alloc _) ⟨w4.heap.size, 0, none⟩ 1 1 [.int .i64 ((at_ L k).s + x), .int .i64 ((at_ L k).e + y), .int .i64 (at_ L k).d] rfl rfl (cells3_new _ _ _ _ _) (one3 _ _ _) (by unfold maxLen; omega) (by omega) (by have := B4.size; simp; omega) ?_)
            intro v' w5 hown5 hg5 _
            have hb5 : Below w.heap.size w w5 := (B4.alloc B4.size _).grown hg5 (by have := B4.size; simp; omega) (fun q hq => (HO3.out.lt q hq).1)
            have HO5 := Lib.hid hown5
            clear hown5 hg5
            go_wp2_with fail
            exact ⟨⟨k + 1, by omega, by go_num, hb5, by rw [snoc_own]; exact HO5.out⟩, by simp [intOf]; omega⟩
          · have hkn : k = n := by omega
            have hd : ¬ (k : Int) < n := by omega
            have hJ : JbV wr w.heap.size u9 (moved L x y) := by
              have := ownsRow_jb HO.out
              rw [hkn, ← HM.out] at this
              exact this
            obtain ⟨a4, c4, e4, i4, l4, m4, q4⟩ := hJ
            rw [HLM.out] at e4 i4 l4
            clear hkn hlt HO
            rw [e4]
            clear e4
            go_wp2_with fail
            refine (rValidate_c _ _ _ _ _ i4).mono ?_
            rintro e w4 ⟨rfl, hb4⟩
            have B4 := btr hb' hb4
            by_cases h1 : vErr (moved L x y) = 0
            · have hne1 : (vErr (moved L x y) != 0) = false := by simp [h1]
              have HZ := Lib.hid h1
              clear h1
              go_wp2_with fail
              go_ret2
              rw [HE2.out, if_pos HZ.out]
              exact ⟨_, by rw [HZ.out]; rfl, ⟨a4, c4, by rw [HLM.out]; rfl, by rw [HLM.out]; exact i4.below hb4 (Nat.le_refl _), by rw [HLM.out]; exact l4, m4, q4⟩, B4⟩
            · have hne1 : (vErr (moved L x y) != 0) = true := by simpa using h1
              have HZ := Lib.hid h1
              clear h1
              go_wp2_with fail
              go_ret2
              rw [HE2.out, if_neg HZ.out]
              exact ⟨_, rfl, JbV.nil _ _, B4⟩
  · have hne : (vErr L != 0) = true := by simpa using h0
    obtain ⟨e1, e2⟩ := mv_v (x := x) (y := y) h0
    rw [e1, e2]
    clear e1 e2 h0
    go_enter Try.func71, Try.ntmps71
    go_wp2_with fail
    refine (rValidate_c _ _ _ _ _ h).mono ?_
    rintro e w1 ⟨rfl, hb1⟩
    go_wp2_with fail
    go_ret2
    exact ⟨_, rfl, JbV.nil _ _, hb1⟩

theorem rShift_c (a : Option Addr) (n c : Nat) (L : List Jb) (y : Int) (w : World) (h : SlO w a n L) : Calls Try.prog 44 #[.slice a n c, .int .i64 y] w (RetJb w (mvL L y y) (mvErr L y y)) := by
  go_enter Try.func44, Try.ntmps44
  go_wp2_with fail
  refine (moved_c _ _ _ _ _ _ _ h (.inr rfl)).mono ?_
  rintro e w1 ⟨v1, rfl, hv1, hb1⟩
  go_wp2_with fail
  go_ret2
  exact ⟨v1, rfl, hv1, hb1⟩
theorem rRelax_c (a : Option Addr) (n c : Nat) (L : List Jb) (y : Int) (w : World) (h : SlO w a n L) : Calls Try.prog 40 #[.slice a n c, .int .i64 y] w (RetJb w (mvL L 0 y) (mvErr L 0 y)) := by
  go_enter Try.func40, Try.ntmps40
  go_wp2_with fail
  refine (moved_c _ _ _ _ _ _ _ h (.inl rfl)).mono ?_
  rintro e w1 ⟨v1, rfl, hv1, hb1⟩
  go_wp2_with fail
  go_ret2
  exact ⟨v1, rfl, hv1, hb1⟩

end Go.Proofs.Ytbmbogaejmgloaa
