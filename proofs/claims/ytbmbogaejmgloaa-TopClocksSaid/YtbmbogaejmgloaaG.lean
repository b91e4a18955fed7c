/- Lists of jobs that a call makes: other times, time turned round (program and reference); two lists compared. -/
import Derived.Test.YtbmbogaejmgloaaK
import Derived.Test.YtbmbogaejmgloaaTail
namespace Go.Proofs.Ytbmbogaejmgloaa
open Go.RowKit Go.Sort

theorem map_at (L : List Jb) (g : Jb → Jb) : (List.range L.length).map (fun i => g (at_ L i)) = L.map g := by
  apply List.ext_getElem
  · simp
  · intro i h1 h2
    have hi : i < L.length := by simpa using h1
    simp [at_, hi]

theorem snoc_own {f : Nat → Jb} {k : Nat} : jbCells ((List.range (k + 1)).map f) = jbCells ((List.range k).map f) ++ [.int .i64 (f k).s, .int .i64 (f k).e, .int .i64 (f k).d] := by
  rw [List.range_succ, List.map_append, List.map_singleton, jbCells_snoc]

/-- A row of jobs of the call's own and an error number come back. -/
def RetJo (w : World) (L : List Jb) (er : Int) (e : Ending) (w' : World) : Prop :=
  ∃ v, e = .returned (.tuple #[v, .int .i64 er]) ∧ w'.ownsRow w.heap.size 30 3 v L.length (jbCells L) ∧ Below w.heap.size w w'
theorem RetJo.jb {w : World} {L : List Jb} {er : Int} {e : Ending} {w' : World} (h : RetJo w L er e w') : RetJb w L er e w' := by
  obtain ⟨v, h1, h2, h3⟩ := h
  exact ⟨v, h1, ownsRow_jb h2, h3⟩
theorem own_mono {w : World} {base base' : Nat} {e : TypeId} {size : Nat} {v : Value} {n : Nat} {xs : List Value} (h : w.ownsRow base e size v n xs) (hb : base' ≤ base) : w.ownsRow base' e size v n xs := by
  refine ⟨h.1, ?_⟩
  rcases h.2 with h | ⟨g, cap, cur, h1, h2, h3⟩
  · exact .inl h
  · exact .inr ⟨g, cap, cur, h1, Nat.le_trans hb h2, h3⟩

/-- What becomes of jobs whose times are changed, and the error number. -/
def chL (F : Jb → Jb) (L : List Jb) : List Jb := if vErr L = 0 ∧ vErr (L.map F) = 0 then L.map F else []
def chE (F : Jb → Jb) (L : List Jb) : Int := if vErr L ≠ 0 then vErr L else if vErr (L.map F) ≠ 0 then 1 else 0
theorem ch_v {F : Jb → Jb} {L : List Jb} (h : ¬ vErr L = 0) : chL F L = [] ∧ chE F L = vErr L := ⟨if_neg (fun h' => h h'.1), if_pos h⟩
theorem ch_1 {F : Jb → Jb} {L : List Jb} (h : vErr L = 0) (h1 : ¬ vErr (L.map F) = 0) : chL F L = [] ∧ chE F L = 1 := ⟨if_neg (fun h' => h1 h'.2), by unfold chE; rw [if_neg (by simp [h]), if_pos h1]⟩
theorem ch_0 {F : Jb → Jb} {L : List Jb} (h : vErr L = 0) (h1 : vErr (L.map F) = 0) : chL F L = L.map F ∧ chE F L = 0 := ⟨if_pos ⟨h, h1⟩, by unfold chE; rw [if_neg (by simp [h]), if_neg (by simp [h1])]⟩

theorem clo66 (s e d : Int) (w : World) (_h1 : 0 ≤ s) (_h2 : s ≤ 60) (h3 : 0 ≤ e) (h4 : e ≤ 60) : Calls Try.prog 66 #[.agg #[.int .i64 s, .int .i64 e, .int .i64 d]] w fun r w' => r = .returned (.agg #[.int .i64 (60 - e), .int .i64 (60 - s), .int .i64 d]) ∧ Below w.heap.size w w' := by
  go_enter Try.func66, Try.ntmps66
  go_wp2_with fail
  refine bodyPost_ret (v := .agg #[.int .i64 (60 - e), .int .i64 (60 - s), .int .i64 d]) (by simp [results, Try.results66, go_sem]) rfl ⟨rfl, ?_⟩
  go_grown

theorem clo67 (s e d : Int) (B : Nat) (y : Int) (w : World) (hc : w.cell? ⟨B, 0, none⟩ = some (.int .i64 y)) (_h1 : 0 ≤ s) (_h2 : s ≤ 60) (h3 : 0 ≤ e) (h4 : e ≤ 60) : Calls Try.prog 67 #[.agg #[.int .i64 s, .int .i64 e, .int .i64 d], .pointer (some ⟨B, 0, none⟩)] w fun r w' => r = .returned (.agg #[.int .i64 (s), .int .i64 (e + small y), .int .i64 d]) ∧ Below w.heap.size w w' := by
  obtain ⟨sb1, sb2⟩ := small_bd y
  have hsc := fun w => small_c y w
  generalize small y = q at *
  have hlt := block_lt_of_cell hc
  go_enter Try.func67, Try.ntmps67
  go_wp2_with fail
  refine wp_world ?_
  intro w1 hw1
  have B1 : Below w.heap.size w w1 := by rw [hw1]; exact ((Below.refl _ _).alloc (Nat.le_refl _) _).alloc (by simp) _
  have x0 : w1.cell? ⟨w.heap.size, 0, none⟩ = some (.int .i64 s) := by rw [hw1]; simp [go_sem]
  have x1 : w1.cell? ⟨w.heap.size, 1, none⟩ = some (.int .i64 e) := by rw [hw1]; simp [go_sem]
  have x2 : w1.cell? ⟨w.heap.size, 2, none⟩ = some (.int .i64 d) := by rw [hw1]; simp [go_sem]
  have y0 : w1.cell? ⟨w.heap.size + 1, 0, none⟩ = some (.int .i64 0) := by rw [hw1]; simp [go_sem]
  have y1 : w1.cell? ⟨w.heap.size + 1, 1, none⟩ = some (.int .i64 0) := by rw [hw1]; simp [go_sem]
  have y2 : w1.cell? ⟨w.heap.size + 1, 2, none⟩ = some (.int .i64 0) := by rw [hw1]; simp [go_sem]
  have z0 : w1.frozen? ⟨w.heap.size + 1, 0, none⟩ = false := by rw [hw1]; simp [go_sem]
  have z1 : w1.frozen? ⟨w.heap.size + 1, 1, none⟩ = false := by rw [hw1]; simp [go_sem]
  have z2 : w1.frozen? ⟨w.heap.size + 1, 2, none⟩ = false := by rw [hw1]; simp [go_sem]
  have hb1 : w.heap.size + 1 < w1.heap.size := block_lt_of_cell y0
  have k0 := cell_regrown x0
  have k1 := cell_regrown x1
  have k2 := cell_regrown x2
  have kc := cell_regrown (cellB B1 hc)
  have cF := fun d os => rg_same (hsc (grow (redrawn w1 d) os))
  have hs1 : IntKind.i64.wrap (e + q) = e + q := IntWalk.i64_in _ (by omega)
  clear hw1
  refine wp_region_T 10 (by kernel_rfl) (by kernel_rfl) ?_
  simp only [List.take_succ_cons, List.take_zero, List.drop_succ_cons, List.drop_zero]
  repeat (go_big_quiet_step (exact cF _ _))
  refine wpQuiet_nil ?_
  intro w2 hb2
  have u0 := cellB hb2 y0
  have u1 := cellB hb2 y1
  have u2 := cellB hb2 y2
  have v0 : w2.frozen? ⟨w.heap.size + 1, 0, none⟩ = false := by rw [hb2.frozen (p := ⟨w.heap.size + 1, 0, none⟩) hb1]; exact z0
  have v1 : w2.frozen? ⟨w.heap.size + 1, 1, none⟩ = false := by rw [hb2.frozen (p := ⟨w.heap.size + 1, 1, none⟩) hb1]; exact z1
  have v2 : w2.frozen? ⟨w.heap.size + 1, 2, none⟩ = false := by rw [hb2.frozen (p := ⟨w.heap.size + 1, 2, none⟩) hb1]; exact z2
  have B2 := btr B1 hb2
  clear k0 k1 k2 kc cF x0 x1 x2 y0 y1 y2 z0 z1 z2 hb2
  go_wp2_with fail
  refine bodyPost_ret (v := .agg #[.int .i64 (s), .int .i64 (e + q), .int .i64 d]) (by simp [results, Try.results67, go_sem, u0, u1, u2]) rfl ⟨rfl, ?_⟩
  exact ((B2.setCell (by simp) _).setCell (by simp) _).setCell (by simp) _

theorem clo72 (s e d : Int) (B : Nat) (y : Int) (w : World) (hc : w.cell? ⟨B, 0, none⟩ = some (.int .i64 y)) (h1 : 0 ≤ s) (h2 : s ≤ 60) (h3 : 0 ≤ e) (h4 : e ≤ 60) : Calls Try.prog 72 #[.agg #[.int .i64 s, .int .i64 e, .int .i64 d], .pointer (some ⟨B, 0, none⟩)] w fun r w' => r = .returned (.agg #[.int .i64 (s + small y), .int .i64 (e + small y), .int .i64 d]) ∧ Below w.heap.size w w' := by
  obtain ⟨sb1, sb2⟩ := small_bd y
  have hsc := fun w => small_c y w
  generalize small y = q at *
  have hlt := block_lt_of_cell hc
  go_enter Try.func72, Try.ntmps72
  go_wp2_with fail
  refine wp_world ?_
  intro w1 hw1
  have B1 : Below w.heap.size w w1 := by rw [hw1]; exact ((Below.refl _ _).alloc (Nat.le_refl _) _).alloc (by simp) _
  have x0 : w1.cell? ⟨w.heap.size, 0, none⟩ = some (.int .i64 s) := by rw [hw1]; simp [go_sem]
  have x1 : w1.cell? ⟨w.heap.size, 1, none⟩ = some (.int .i64 e) := by rw [hw1]; simp [go_sem]
  have x2 : w1.cell? ⟨w.heap.size, 2, none⟩ = some (.int .i64 d) := by rw [hw1]; simp [go_sem]
  have y0 : w1.cell? ⟨w.heap.size + 1, 0, none⟩ = some (.int .i64 0) := by rw [hw1]; simp [go_sem]
  have y1 : w1.cell? ⟨w.heap.size + 1, 1, none⟩ = some (.int .i64 0) := by rw [hw1]; simp [go_sem]
  have y2 : w1.cell? ⟨w.heap.size + 1, 2, none⟩ = some (.int .i64 0) := by rw [hw1]; simp [go_sem]
  have z0 : w1.frozen? ⟨w.heap.size + 1, 0, none⟩ = false := by rw [hw1]; simp [go_sem]
  have z1 : w1.frozen? ⟨w.heap.size + 1, 1, none⟩ = false := by rw [hw1]; simp [go_sem]
  have z2 : w1.frozen? ⟨w.heap.size + 1, 2, none⟩ = false := by rw [hw1]; simp [go_sem]
  have hb1 : w.heap.size + 1 < w1.heap.size := block_lt_of_cell y0
  have k0 := cell_regrown x0
  have k1 := cell_regrown x1
  have k2 := cell_regrown x2
  have kc := cell_regrown (cellB B1 hc)
  have cF := fun d os => rg_same (hsc (grow (redrawn w1 d) os))
  have hs1 : IntKind.i64.wrap (e + q) = e + q := IntWalk.i64_in _ (by omega)
  have hs2 : IntKind.i64.wrap (s + q) = s + q := IntWalk.i64_in _ (by omega)
  clear hw1
  refine wp_region_T 13 (by kernel_rfl) (by kernel_rfl) ?_
  simp only [List.take_succ_cons, List.take_zero, List.drop_succ_cons, List.drop_zero]
  repeat (go_big_quiet_step (exact cF _ _))
  refine wpQuiet_nil ?_
  intro w2 hb2
  have u0 := cellB hb2 y0
  have u1 := cellB hb2 y1
  have u2 := cellB hb2 y2
  have v0 : w2.frozen? ⟨w.heap.size + 1, 0, none⟩ = false := by rw [hb2.frozen (p := ⟨w.heap.size + 1, 0, none⟩) hb1]; exact z0
  have v1 : w2.frozen? ⟨w.heap.size + 1, 1, none⟩ = false := by rw [hb2.frozen (p := ⟨w.heap.size + 1, 1, none⟩) hb1]; exact z1
  have v2 : w2.frozen? ⟨w.heap.size + 1, 2, none⟩ = false := by rw [hb2.frozen (p := ⟨w.heap.size + 1, 2, none⟩) hb1]; exact z2
  have B2 := btr B1 hb2
  clear k0 k1 k2 kc cF x0 x1 x2 y0 y1 y2 z0 z1 z2 hb2
  go_wp2_with fail
  refine bodyPost_ret (v := .agg #[.int .i64 (s + q), .int .i64 (e + q), .int .i64 d]) (by simp [results, Try.results72, go_sem, u0, u1, u2]) rfl ⟨rfl, ?_⟩
  exact ((B2.setCell (by simp) _).setCell (by simp) _).setCell (by simp) _

set_option maxRecDepth 100000 in
set_option maxHeartbeats 3200000 in
theorem changed_66 (a : Option Addr) (n c : Nat) (L : List Jb) (w : World) (h : SlO w a n L) :
    Calls Try.prog 65 #[.slice a n c, .func (.func 66) #[] #[]] w (RetJo w (chL (tn) L) (chE (tn) L)) := by
  by_cases h0 : vErr L = 0
  · have hne : (vErr L != 0) = false := by simp [h0]
    have hv := vErr_zero.1 h0
    have h8 : n ≤ 8 := by have := hv.le; have := h.1; omega
    have HLn : Hid (n = L.length) := Lib.hid h.1
    have HV := Lib.hid hv
    have H := Lib.hid h
    have HM : Hid (L.map (tn) = (List.range n).map (fun i => (tn) (at_ L i))) := Lib.hid (by rw [HLn.out, map_at])
    have HE0 := Lib.hid h0
    clear h0 hv h
    obtain ⟨i0, hi, hz0, hz1, hz2⟩ := info_parts info30
    go_enter Try.func65, Try.ntmps65
    go_wp2_with fail
    refine (Validate_c _ _ _ _ _ H.out).mono ?_
    rintro e w1 ⟨rfl, hb1⟩
    go_wp2_with fail
    go_loopw [7, 17] (fun v i wr => ∃ k : Nat, k ≤ n ∧ i = .int .i64 k ∧ Below w.heap.size w wr ∧ wr.ownsRow w.heap.size 30 3 v k (jbCells ((List.range k).map (fun i => (tn) (at_ L i))))) (fun _ i _ => n - (intOf i).toNat)
    case atStart => exact ⟨0, Nat.zero_le _, rfl, hb1, World.ownsRow_nil _ _ _ _⟩
    case round =>
      obtain ⟨k, hk, rfl, hb, hown⟩ := hrel
      have HO := Lib.hid hown
      clear hown hb1
      by_cases hlt : k < n
      · obtain ⟨b, o, hab, hS⟩ : ∃ b o, a = some ⟨b, o, none⟩ ∧ Sl w b o n L := by
          rcases H.out.2 with h' | h'
          · omega
          · exact h'
        subst hab
        have c0 := (hS.below hb (Nat.le_refl _)).c0 k hlt
        have c1 := (hS.below hb (Nat.le_refl _)).c1 k hlt
        have c2 := (hS.below hb (Nat.le_refl _)).c2 k hlt
        have hbd := HV.out.bd (i := k) (by rw [← HLn.out]; exact hlt)
        obtain ⟨x1, x2, x3, x4, x5⟩ := hbd
        clear hS
        go_wp2_with fail
        refine (clo66 _ _ _ _ (by omega) (by omega) (by omega) (by omega)).mono ?_
        rintro e w3 ⟨rfl, hb3⟩
        have B3 : Below w.heap.size w w3 := btr (hb.alloc hb.size _) hb3
        have HO3 := Lib.hid (ownsRow_below (HO.out.alloc _) hb3)
        clear hb3 c0 c1 c2
        go_wp2_with (at_builtin; refine wpList_append_own _ rfl _ _ 22 rfl w.heap.size 30 i0 (.agg #[.int .i64 0, .int .i64 0, .int .i64 0]) 3 24 Try.underlying22 hi hz0 hz1 hz2 rfl (by decide) _ _ _ rfl (HO3.out.alloc _) ⟨w3.heap.size, 0, none⟩ 1 1 [.int .i64 ((tn) (at_ L k)).s, .int .i64 ((tn) (at_ L k)).e, .int .i64 ((tn) (at_ L k)).d] rfl rfl (cells3_new _ _ _ _ _) (one3 _ _ _) (by unfold maxLen; omega) (by omega) (by have := B3.size; simp; omega) ?_)
        intro v' w5 hown5 hg5 _
        have hb5 : Below w.heap.size w w5 := (B3.alloc B3.size _).grown hg5 (by have := B3.size; simp; omega) (fun q hq => (HO3.out.lt q hq).1)
        have HO5 := Lib.hid hown5
        clear hown5 hg5
        go_wp2_with fail
        exact ⟨⟨k + 1, by omega, by go_num, hb5, by rw [snoc_own]; exact HO5.out⟩, by simp [intOf]; omega⟩
      · have hkn : k = n := by omega
        have hd : ¬ (k : Int) < n := by omega
        have hJ : JbV wr w.heap.size u7 (L.map (tn)) := by
          have := ownsRow_jb HO.out
          rw [hkn, ← HM.out] at this
          exact this
        have hOJ := HO.out
        rw [hkn, ← HM.out] at hOJ
        obtain ⟨a4, c4, e4, i4, l4, m4, q4⟩ := hJ
        rw [List.length_map, ← HLn.out] at e4 i4 l4
        rw [e4] at hOJ
        have HOJ := Lib.hid hOJ
        clear hkn hlt HO hOJ q4
        rw [e4]
        clear e4
        go_wp2_with fail
        refine (Validate_c _ _ _ _ _ i4).mono ?_
        rintro e w4 ⟨rfl, hb4⟩
        have B4 := btr hb hb4
        by_cases h1 : vErr (L.map (tn)) = 0
        · have hne1 : (vErr (L.map (tn)) != 0) = false := by simp [h1]
          have HE1 := Lib.hid h1
          clear h1
          go_wp2_with fail
          go_ret2
          rw [(ch_0 HE0.out HE1.out).1, (ch_0 HE0.out HE1.out).2]
          exact ⟨_, rfl, by rw [List.length_map, ← HLn.out]; exact ownsRow_below HOJ.out hb4, B4⟩
        · have hne1 : (vErr (L.map (tn)) != 0) = true := by simpa using h1
          have HE1 := Lib.hid h1
          clear h1
          go_wp2_with fail
          go_ret2
          rw [(ch_1 HE0.out HE1.out).1, (ch_1 HE0.out HE1.out).2]
          exact ⟨_, rfl, World.ownsRow_nil _ _ _ _, B4⟩
  · have hne : (vErr L != 0) = true := by simpa using h0
    rw [(ch_v h0).1, (ch_v h0).2]
    clear h0
    go_enter Try.func65, Try.ntmps65
    go_wp2_with fail
    refine (Validate_c _ _ _ _ _ h).mono ?_
    rintro e w1 ⟨rfl, hb1⟩
    go_wp2_with fail
    go_ret2
    exact ⟨_, rfl, World.ownsRow_nil _ _ _ _, hb1⟩

set_option maxRecDepth 100000 in
set_option maxHeartbeats 3200000 in
theorem changed_67 (a : Option Addr) (n c : Nat) (L : List Jb) (B : Nat) (y : Int) (w : World) (h : SlO w a n L) (hc : w.cell? ⟨B, 0, none⟩ = some (.int .i64 y)) :
    Calls Try.prog 65 #[.slice a n c, .func (.func 67) #[] #[.pointer (some ⟨B, 0, none⟩)]] w (RetJo w (chL (mv 0 (small y)) L) (chE (mv 0 (small y)) L)) := by
  by_cases h0 : vErr L = 0
  · have hne : (vErr L != 0) = false := by simp [h0]
    have hv := vErr_zero.1 h0
    have h8 : n ≤ 8 := by have := hv.le; have := h.1; omega
    have HLn : Hid (n = L.length) := Lib.hid h.1
    have HV := Lib.hid hv
    have H := Lib.hid h
    have HM : Hid (L.map (mv 0 (small y)) = (List.range n).map (fun i => (mv 0 (small y)) (at_ L i))) := Lib.hid (by rw [HLn.out, map_at])
    have HE0 := Lib.hid h0
    have HC := Lib.hid hc
    clear hc
    clear h0 hv h
    obtain ⟨i0, hi, hz0, hz1, hz2⟩ := info_parts info30
    go_enter Try.func65, Try.ntmps65
    go_wp2_with fail
    refine (Validate_c _ _ _ _ _ H.out).mono ?_
    rintro e w1 ⟨rfl, hb1⟩
    go_wp2_with fail
    go_loopw [7, 17] (fun v i wr => ∃ k : Nat, k ≤ n ∧ i = .int .i64 k ∧ Below w.heap.size w wr ∧ wr.ownsRow w.heap.size 30 3 v k (jbCells ((List.range k).map (fun i => (mv 0 (small y)) (at_ L i))))) (fun _ i _ => n - (intOf i).toNat)
    case atStart => exact ⟨0, Nat.zero_le _, rfl, hb1, World.ownsRow_nil _ _ _ _⟩
    case round =>
      obtain ⟨k, hk, rfl, hb, hown⟩ := hrel
      have HO := Lib.hid hown
      clear hown hb1
      by_cases hlt : k < n
      · obtain ⟨b, o, hab, hS⟩ : ∃ b o, a = some ⟨b, o, none⟩ ∧ Sl w b o n L := by
          rcases H.out.2 with h' | h'
          · omega
          · exact h'
        subst hab
        have c0 := (hS.below hb (Nat.le_refl _)).c0 k hlt
        have c1 := (hS.below hb (Nat.le_refl _)).c1 k hlt
        have c2 := (hS.below hb (Nat.le_refl _)).c2 k hlt
        have hbd := HV.out.bd (i := k) (by rw [← HLn.out]; exact hlt)
        obtain ⟨x1, x2, x3, x4, x5⟩ := hbd
        clear hS
        go_wp2_with fail
        refine (clo67 _ _ _ B y _ (cellB (btr hb ((Below.refl _ _).alloc (Nat.le_refl _) _)) HC.out) (by omega) (by omega) (by omega) (by omega)).mono ?_
        rintro e w3 ⟨rfl, hb3⟩
        have B3 : Below w.heap.size w w3 := btr (hb.alloc hb.size _) hb3
        have HO3 := Lib.hid (ownsRow_below (HO.out.alloc _) hb3)
        clear hb3 c0 c1 c2
        go_wp2_with (at_builtin; refine wpList_append_own _ rfl _ _ 22 rfl w.heap.size 30 i0 (.agg #[.int .i64 0, .int .i64 0, .int .i64 0]) 3 24 Try.underlying22 hi hz0 hz1 hz2 rfl (by decide) _ _ _ rfl (HO3.out.alloc _) ⟨w3.heap.size, 0, none⟩ 1 1 [.int .i64 (at_ L k).s, .int .i64 ((mv 0 (small y)) (at_ L k)).e, .int .i64 ((mv 0 (small y)) (at_ L k)).d] rfl rfl (cells3_new _ _ _ _ _) (one3 _ _ _) (by unfold maxLen; omega) (by omega) (by have := B3.size; simp; omega) ?_)
        intro v' w5 hown5 hg5 _
        have hb5 : Below w.heap.size w w5 := (B3.alloc B3.size _).grown hg5 (by have := B3.size; simp; omega) (fun q hq => (HO3.out.lt q hq).1)
        have HO5 := Lib.hid hown5
        clear hown5 hg5
        go_wp2_with fail
        exact ⟨⟨k + 1, by omega, by go_num, hb5, by rw [snoc_own, show ((mv 0 (small y)) (at_ L k)).s = (at_ L k).s from Int.add_zero _]; exact HO5.out⟩, by simp [intOf]; omega⟩
      · have hkn : k = n := by omega
        have hd : ¬ (k : Int) < n := by omega
        have hJ : JbV wr w.heap.size u7 (L.map (mv 0 (small y))) := by
          have := ownsRow_jb HO.out
          rw [hkn, ← HM.out] at this
          exact this
        have hOJ := HO.out
        rw [hkn, ← HM.out] at hOJ
        obtain ⟨a4, c4, e4, i4, l4, m4, q4⟩ := hJ
        rw [List.length_map, ← HLn.out] at e4 i4 l4
        rw [e4] at hOJ
        have HOJ := Lib.hid hOJ
        clear hkn hlt HO hOJ q4
        rw [e4]
        clear e4
        go_wp2_with fail
        refine (Validate_c _ _ _ _ _ i4).mono ?_
        rintro e w4 ⟨rfl, hb4⟩
        have B4 := btr hb hb4
        by_cases h1 : vErr (L.map (mv 0 (small y))) = 0
        · have hne1 : (vErr (L.map (mv 0 (small y))) != 0) = false := by simp [h1]
          have HE1 := Lib.hid h1
          clear h1
          go_wp2_with fail
          go_ret2
          rw [(ch_0 HE0.out HE1.out).1, (ch_0 HE0.out HE1.out).2]
          exact ⟨_, rfl, by rw [List.length_map, ← HLn.out]; exact ownsRow_below HOJ.out hb4, B4⟩
        · have hne1 : (vErr (L.map (mv 0 (small y))) != 0) = true := by simpa using h1
          have HE1 := Lib.hid h1
          clear h1
          go_wp2_with fail
          go_ret2
          rw [(ch_1 HE0.out HE1.out).1, (ch_1 HE0.out HE1.out).2]
          exact ⟨_, rfl, World.ownsRow_nil _ _ _ _, B4⟩
  · have hne : (vErr L != 0) = true := by simpa using h0
    rw [(ch_v h0).1, (ch_v h0).2]
    clear h0
    go_enter Try.func65, Try.ntmps65
    go_wp2_with fail
    refine (Validate_c _ _ _ _ _ h).mono ?_
    rintro e w1 ⟨rfl, hb1⟩
    go_wp2_with fail
    go_ret2
    exact ⟨_, rfl, World.ownsRow_nil _ _ _ _, hb1⟩

set_option maxRecDepth 100000 in
set_option maxHeartbeats 3200000 in
theorem changed_72 (a : Option Addr) (n c : Nat) (L : List Jb) (B : Nat) (y : Int) (w : World) (h : SlO w a n L) (hc : w.cell? ⟨B, 0, none⟩ = some (.int .i64 y)) :
    Calls Try.prog 65 #[.slice a n c, .func (.func 72) #[] #[.pointer (some ⟨B, 0, none⟩)]] w (RetJo w (chL (mv (small y) (small y)) L) (chE (mv (small y) (small y)) L)) := by
  by_cases h0 : vErr L = 0
  · have hne : (vErr L != 0) = false := by simp [h0]
    have hv := vErr_zero.1 h0
    have h8 : n ≤ 8 := by have := hv.le; have := h.1; omega
    have HLn : Hid (n = L.length) := Lib.hid h.1
    have HV := Lib.hid hv
    have H := Lib.hid h
    have HM : Hid (L.map (mv (small y) (small y)) = (List.range n).map (fun i => (mv (small y) (small y)) (at_ L i))) := Lib.hid (by rw [HLn.out, map_at])
    have HE0 := Lib.hid h0
    have HC := Lib.hid hc
    clear hc
    clear h0 hv h
    obtain ⟨i0, hi, hz0, hz1, hz2⟩ := info_parts info30
    go_enter Try.func65, Try.ntmps65
    go_wp2_with fail
    refine (Validate_c _ _ _ _ _ H.out).mono ?_
    rintro e w1 ⟨rfl, hb1⟩
    go_wp2_with fail
    go_loopw [7, 17] (fun v i wr => ∃ k : Nat, k ≤ n ∧ i = .int .i64 k ∧ Below w.heap.size w wr ∧ wr.ownsRow w.heap.size 30 3 v k (jbCells ((List.range k).map (fun i => (mv (small y) (small y)) (at_ L i))))) (fun _ i _ => n - (intOf i).toNat)
    case atStart => exact ⟨0, Nat.zero_le _, rfl, hb1, World.ownsRow_nil _ _ _ _⟩
    case round =>
      obtain ⟨k, hk, rfl, hb, hown⟩ := hrel
      have HO := Lib.hid hown
      clear hown hb1
      by_cases hlt : k < n
      · obtain ⟨b, o, hab, hS⟩ : ∃ b o, a = some ⟨b, o, none⟩ ∧ Sl w b o n L := by
          rcases H.out.2 with h' | h'
          · omega
          · exact h'
        subst hab
        have c0 := (hS.below hb (Nat.le_refl _)).c0 k hlt
        have c1 := (hS.below hb (Nat.le_refl _)).c1 k hlt
        have c2 := (hS.below hb (Nat.le_refl _)).c2 k hlt
        have hbd := HV.out.bd (i := k) (by rw [← HLn.out]; exact hlt)
        obtain ⟨x1, x2, x3, x4, x5⟩ := hbd
        clear hS
        go_wp2_with fail
        refine (clo72 _ _ _ B y _ (cellB (btr hb ((Below.refl _ _).alloc (Nat.le_refl _) _)) HC.out) (by omega) (by omega) (by omega) (by omega)).mono ?_
        rintro e w3 ⟨rfl, hb3⟩
        have B3 : Below w.heap.size w w3 := btr (hb.alloc hb.size _) hb3
        have HO3 := Lib.hid (ownsRow_below (HO.out.alloc _) hb3)
        clear hb3 c0 c1 c2
        go_wp2_with (at_builtin; refine wpList_append_own _ rfl _ _ 22 rfl w.heap.size 30 i0 (.agg #[.int .i64 0, .int .i64 0, .int .i64 0]) 3 24 Try.underlying22 hi hz0 hz1 hz2 rfl (by decide) _ _ _ rfl (HO3.out.alloc _) ⟨w3.heap.size, 0, none⟩ 1 1 [.int .i64 ((mv (small y) (small y)) (at_ L k)).s, .int .i64 ((mv (small y) (small y)) (at_ L k)).e, .int .i64 ((mv (small y) (small y)) (at_ L k)).d] rfl rfl (cells3_new _ _ _ _ _) (one3 _ _ _) (by unfold maxLen; omega) (by omega) (by have := B3.size; simp; omega) ?_)
        intro v' w5 hown5 hg5 _
        have hb5 : Below w.heap.size w w5 := (B3.alloc B3.size _).grown hg5 (by have := B3.size; simp; omega) (fun q hq => (HO3.out.lt q hq).1)
        have HO5 := Lib.hid hown5
        clear hown5 hg5
        go_wp2_with fail
        exact ⟨⟨k + 1, by omega, by go_num, hb5, by rw [snoc_own]; exact HO5.out⟩, by simp [intOf]; omega⟩
      · have hkn : k = n := by omega
        have hd : ¬ (k : Int) < n := by omega
        have hJ : JbV wr w.heap.size u7 (L.map (mv (small y) (small y))) := by
          have := ownsRow_jb HO.out
          rw [hkn, ← HM.out] at this
          exact this
        have hOJ := HO.out
        rw [hkn, ← HM.out] at hOJ
        obtain ⟨a4, c4, e4, i4, l4, m4, q4⟩ := hJ
        rw [List.length_map, ← HLn.out] at e4 i4 l4
        rw [e4] at hOJ
        have HOJ := Lib.hid hOJ
        clear hkn hlt HO hOJ q4
        rw [e4]
        clear e4
        go_wp2_with fail
        refine (Validate_c _ _ _ _ _ i4).mono ?_
        rintro e w4 ⟨rfl, hb4⟩
        have B4 := btr hb hb4
        by_cases h1 : vErr (L.map (mv (small y) (small y))) = 0
        · have hne1 : (vErr (L.map (mv (small y) (small y))) != 0) = false := by simp [h1]
          have HE1 := Lib.hid h1
          clear h1
          go_wp2_with fail
          go_ret2
          rw [(ch_0 HE0.out HE1.out).1, (ch_0 HE0.out HE1.out).2]
          exact ⟨_, rfl, by rw [List.length_map, ← HLn.out]; exact ownsRow_below HOJ.out hb4, B4⟩
        · have hne1 : (vErr (L.map (mv (small y) (small y))) != 0) = true := by simpa using h1
          have HE1 := Lib.hid h1
          clear h1
          go_wp2_with fail
          go_ret2
          rw [(ch_1 HE0.out HE1.out).1, (ch_1 HE0.out HE1.out).2]
          exact ⟨_, rfl, World.ownsRow_nil _ _ _ _, B4⟩
  · have hne : (vErr L != 0) = true := by simpa using h0
    rw [(ch_v h0).1, (ch_v h0).2]
    clear h0
    go_enter Try.func65, Try.ntmps65
    go_wp2_with fail
    refine (Validate_c _ _ _ _ _ h).mono ?_
    rintro e w1 ⟨rfl, hb1⟩
    go_wp2_with fail
    go_ret2
    exact ⟨_, rfl, World.ownsRow_nil _ _ _ _, hb1⟩

theorem Turn_o (a : Option Addr) (n c : Nat) (L : List Jb) (w : World) (h : SlO w a n L) : Calls Try.prog 33 #[.slice a n c] w (RetJo w (turnL L) (vErr L)) := by
  have hcon := changed_66 a n c L w h
  have e1 : chL tn L = turnL L := by
    unfold chL turnL turned
    by_cases h0 : vErr L = 0
    · rw [if_pos h0, if_pos ⟨h0, vErr_zero.2 (turned_valid (vErr_zero.1 h0))⟩]
    · rw [if_neg h0, if_neg (fun h => h0 h.1)]
  have e2 : chE tn L = vErr L := by
    unfold chE
    by_cases h0 : vErr L = 0
    · rw [if_neg (by simp [h0]), if_neg (by simp [show vErr (L.map tn) = 0 from vErr_zero.2 (turned_valid (vErr_zero.1 h0))]), h0]
    · rw [if_pos h0]
  rw [e1, e2] at hcon
  have HCON := Lib.hid hcon
  clear hcon e1 e2 h
  generalize turnL L = M at *
  go_enter Try.func33, Try.ntmps33
  go_wp2_with fail
  refine HCON.out.mono ?_
  rintro e w1 ⟨v1, rfl, hv1, hb1⟩
  go_wp2_with fail
  go_ret2
  exact ⟨v1, rfl, hv1, hb1⟩
theorem Turn_c (a : Option Addr) (n c : Nat) (L : List Jb) (w : World) (h : SlO w a n L) : Calls Try.prog 33 #[.slice a n c] w (RetJb w (turnL L) (vErr L)) :=
  (Turn_o a n c L w h).mono fun _ _ h => h.jb

theorem Shift_c (a : Option Addr) (n c : Nat) (L : List Jb) (y : Int) (w : World) (h : SlO w a n L) : Calls Try.prog 43 #[.slice a n c, .int .i64 y] w (RetJb w (mvL L y y) (mvErr L y y)) := by
  have e1 : chL (mv (small y) (small y)) L = mvL L y y := by
    unfold chL
    by_cases h0 : vErr L = 0
    · obtain ⟨f1, f2⟩ := own_moved (vErr_zero.1 h0) (fun y => y) y
      have f1' : mvErr L y y = vErr (L.map (mv (small y) (small y))) := f1
      by_cases h1 : vErr (L.map (mv (small y) (small y))) = 0
      · rw [if_pos ⟨h0, h1⟩]; exact (f2 h1).symm
      · rw [if_neg (fun h => h1 h.2)]; unfold mvL; rw [f1', if_neg h1]
    · rw [if_neg (fun h => h0 h.1)]; unfold mvL mvErr; rw [if_pos h0, if_neg h0]
  have e2 : chE (mv (small y) (small y)) L = mvErr L y y := by
    unfold chE
    by_cases h0 : vErr L = 0
    · obtain ⟨f1, f2⟩ := own_moved (vErr_zero.1 h0) (fun y => y) y
      have f1' : mvErr L y y = vErr (L.map (mv (small y) (small y))) := f1
      have f3 : vErr (L.map (mv (small y) (small y))) = 0 ∨ vErr (L.map (mv (small y) (small y))) = 1 := vErr_moved (vErr_zero.1 h0) _ _
      rw [if_neg (by simp [h0]), f1']
      rcases f3 with f3 | f3 <;> rw [f3] <;> rfl
    · rw [if_pos h0]; unfold mvErr; rw [if_pos h0]
  have hA : Below w.heap.size w (w.alloc (.cells #[.int .i64 y] 3)) := (Below.refl _ _).alloc (Nat.le_refl _) _
  have hcon := changed_72 a n c L w.heap.size y (w.alloc (.cells #[.int .i64 y] 3)) (h.below hA (Nat.le_refl _)) (by simp [go_sem])
  rw [e1, e2] at hcon
  have HCON := Lib.hid hcon
  have HA := Lib.hid hA
  clear hcon e1 e2 h hA
  generalize mvL L y y = M at *
  generalize mvErr L y y = er at *
  go_enter Try.func43, Try.ntmps43
  go_wp2_with fail
  refine HCON.out.mono ?_
  rintro e w1 ⟨v1, rfl, hv1, hb1⟩
  go_wp2_with fail
  go_ret2
  exact ⟨v1, rfl, ownsRow_jb (own_mono hv1 HA.out.size), btr HA.out hb1⟩

theorem Relax_c (a : Option Addr) (n c : Nat) (L : List Jb) (y : Int) (w : World) (h : SlO w a n L) : Calls Try.prog 34 #[.slice a n c, .int .i64 y] w (RetJb w (mvL L 0 y) (mvErr L 0 y)) := by
  have e1 : chL (mv 0 (small y)) L = mvL L 0 y := by
    unfold chL
    by_cases h0 : vErr L = 0
    · obtain ⟨f1, f2⟩ := own_moved (vErr_zero.1 h0) (fun y => 0) y
      have f1' : mvErr L 0 y = vErr (L.map (mv 0 (small y))) := f1
      by_cases h1 : vErr (L.map (mv 0 (small y))) = 0
      · rw [if_pos ⟨h0, h1⟩]; exact (f2 h1).symm
      · rw [if_neg (fun h => h1 h.2)]; unfold mvL; rw [f1', if_neg h1]
    · rw [if_neg (fun h => h0 h.1)]; unfold mvL mvErr; rw [if_pos h0, if_neg h0]
  have e2 : chE (mv 0 (small y)) L = mvErr L 0 y := by
    unfold chE
    by_cases h0 : vErr L = 0
    · obtain ⟨f1, f2⟩ := own_moved (vErr_zero.1 h0) (fun y => 0) y
      have f1' : mvErr L 0 y = vErr (L.map (mv 0 (small y))) := f1
      have f3 : vErr (L.map (mv 0 (small y))) = 0 ∨ vErr (L.map (mv 0 (small y))) = 1 := vErr_moved (vErr_zero.1 h0) _ _
      rw [if_neg (by simp [h0]), f1']
      rcases f3 with f3 | f3 <;> rw [f3] <;> rfl
    · rw [if_pos h0]; unfold mvErr; rw [if_pos h0]
  have hA : Below w.heap.size w (w.alloc (.cells #[.int .i64 y] 3)) := (Below.refl _ _).alloc (Nat.le_refl _) _
  have hcon := changed_67 a n c L w.heap.size y (w.alloc (.cells #[.int .i64 y] 3)) (h.below hA (Nat.le_refl _)) (by simp [go_sem])
  rw [e1, e2] at hcon
  have HCON := Lib.hid hcon
  have HA := Lib.hid hA
  clear hcon e1 e2 h hA
  generalize mvL L 0 y = M at *
  generalize mvErr L 0 y = er at *
  go_enter Try.func34, Try.ntmps34
  go_wp2_with fail
  refine HCON.out.mono ?_
  rintro e w1 ⟨v1, rfl, hv1, hb1⟩
  go_wp2_with fail
  go_ret2
  exact ⟨v1, rfl, ownsRow_jb (own_mono hv1 HA.out.size), btr HA.out hb1⟩

/-- Are two lists of jobs the same? -/
def neqR (A B : List Jb) (i : Nat) : Bool := !(decide ((at_ A i).s = (at_ B i).s) && decide ((at_ A i).e = (at_ B i).e) && decide ((at_ A i).d = (at_ B i).d))
def sameB (A B : List Jb) : Bool := decide (A.length = B.length) && !(scanJ (neqR A B) A.length 0).isSome

theorem neqR_self (A : List Jb) (i : Nat) : neqR A A i = false := by simp [neqR]
theorem sameB_self (A : List Jb) : sameB A A = true := by
  have : (scanJ (neqR A A) A.length 0).isSome = false := scan_none.2 fun k _ => neqR_self A k
  simp [sameB, this]
theorem Same_c (a : Option Addr) (n c : Nat) (A : List Jb) (a2 : Option Addr) (n2 c2 : Nat) (B : List Jb) (w : World) (h : SlO w a n A) (h2 : SlO w a2 n2 B) (hn : n ≤ 9223372036854775807) :
    Calls Try.prog 41 #[.slice a n c, .slice a2 n2 c2] w fun e w' => e = .returned (.bool (sameB A B)) ∧ Below w.heap.size w w' := by
  by_cases hl : n = n2
  · have hne : ((n : Int) != (n2 : Int)) = false := by simp [hl]
    have HR : Hid (∀ s : Bool, (scanJ (neqR A B) n 0).isSome = s → sameB A B = !s) := Lib.hid (by
      intro s hs
      unfold sameB
      rw [← h.1, ← h2.1, hs]
      simp [hl])
    generalize sameB A B = R at *
    have HL := Lib.hid hl
    by_cases h0 : n = 0
    · have H0 := Lib.hid h0
      have hR : R = true := by rw [HR.out false (by rw [h0]; rfl)]; rfl
      rw [hR]
      have hd : ¬ (0 : Int) < (n : Int) := by omega
      clear hR h h2 h0 hl HR
      go_enter Try.func41, Try.ntmps41
      go_wp2_with fail
      go_loopw [5] (fun i wr => wr = w ∧ i = .int .i64 0) (fun _ _ => 0)
      case atStart => exact ⟨rfl, rfl⟩
      case round =>
        obtain ⟨rfl, rfl⟩ := hrel
        go_wp2_with fail
        go_ret
        exact ⟨rfl, Below.refl _ _⟩
    · obtain ⟨b, o, rfl, hS⟩ : ∃ b o, a = some ⟨b, o, none⟩ ∧ Sl w b o n A := by
        rcases h.2 with h' | h'
        · exact absurd h' h0
        · exact h'
      obtain ⟨b2, o2, rfl, hS2⟩ : ∃ b o, a2 = some ⟨b, o, none⟩ ∧ Sl w b o n2 B := by
        rcases h2.2 with h' | h'
        · exact absurd (hl.trans h') h0
        · exact h'
      have HS := Lib.hid hS
      have HS2 := Lib.hid hS2
      have hle : n ≤ n2 := by omega
      clear h h2 hS hS2 hl h0
      go_enter Try.func41, Try.ntmps41
      go_wp2_with fail
      go_loopw [5] (fun i wr => ∃ k : Nat, k ≤ n ∧ i = .int .i64 k ∧ Below w.heap.size w wr ∧ scanJ (neqR A B) n 0 = scanJ (neqR A B) (n - k) k) (fun i _ => n - (intOf i).toNat)
      case atStart => exact ⟨0, Nat.zero_le _, rfl, Below.refl _ _, rfl⟩
      case round =>
        obtain ⟨k, hk, rfl, hb, hF⟩ := hrel
        have HF := Lib.hid hF
        clear hF
        by_cases hlt : k < n
        · have hS' := HS.out.below hb (Nat.le_refl _)
          have k0 := cell_regrown (hS'.c0 k hlt)
          have k1 := cell_regrown (hS'.c1 k hlt)
          have k2 := cell_regrown (hS'.c2 k hlt)
          have hT' := HS2.out.below hb (Nat.le_refl _)
          have m0 := cell_regrown (hT'.c0 k (by omega))
          have m1 := cell_regrown (hT'.c1 k (by omega))
          have m2 := cell_regrown (hT'.c2 k (by omega))
          have hlt2 : k < n2 := by omega
          clear hS' hT'
          have hpk : neqR A B k = !(decide ((at_ A k).s = (at_ B k).s) && decide ((at_ A k).e = (at_ B k).e) && decide ((at_ A k).d = (at_ B k).d)) := rfl
          have HP := Lib.hid hpk
          clear hpk
          have hx : (neqR A B k = true ∧ ((((at_ A k).s == (at_ B k).s) = false) ∨ ((((at_ A k).s == (at_ B k).s) = true) ∧ (((at_ A k).e == (at_ B k).e) = false)) ∨ ((((at_ A k).s == (at_ B k).s) = true) ∧ (((at_ A k).e == (at_ B k).e) = true) ∧ (((at_ A k).d == (at_ B k).d) = false)))) ∨
              (neqR A B k = false ∧ ((at_ A k).s == (at_ B k).s) = true ∧ ((at_ A k).e == (at_ B k).e) = true ∧ ((at_ A k).d == (at_ B k).d) = true) := by
            rw [HP.out]
            by_cases c1 : (at_ A k).s = (at_ B k).s
            · by_cases c2 : (at_ A k).e = (at_ B k).e
              · by_cases c3 : (at_ A k).d = (at_ B k).d
                · right; simp [c1, c2, c3]
                · left; simp [c1, c2, c3]
              · left; simp [c1, c2]
            · left; simp [c1]
          rcases hx with ⟨hx, c1 | ⟨c1, c2⟩ | ⟨c1, c2, c3⟩⟩ | ⟨hx, c1, c2, c3⟩
          · go_wp2_with fail
            refine wp_region_B (by kernel_rfl) (by kernel_rfl) ?_
            repeat (go_big_quiet_step (fail))
            refine wpQuiet_nil ?_
            intro w2 hb2
            go_wp2_with fail
            go_ret
            exact ⟨by rw [HR.out true (by rw [HF.out, scan_yes hlt hx]; rfl)]; rfl, btr hb hb2⟩
          · go_wp2_with fail
            refine wp_region_B (by kernel_rfl) (by kernel_rfl) ?_
            repeat (go_big_quiet_step (fail))
            refine wpQuiet_nil ?_
            intro w2 hb2
            go_wp2_with fail
            go_ret
            exact ⟨by rw [HR.out true (by rw [HF.out, scan_yes hlt hx]; rfl)]; rfl, btr hb hb2⟩
          · go_wp2_with fail
            refine wp_region_B (by kernel_rfl) (by kernel_rfl) ?_
            repeat (go_big_quiet_step (fail))
            refine wpQuiet_nil ?_
            intro w2 hb2
            go_wp2_with fail
            go_ret
            exact ⟨by rw [HR.out true (by rw [HF.out, scan_yes hlt hx]; rfl)]; rfl, btr hb hb2⟩
          · go_wp2_with fail
            refine wp_region_B (by kernel_rfl) (by kernel_rfl) ?_
            repeat (go_big_quiet_step (fail))
            refine wpQuiet_nil ?_
            intro w2 hb2
            go_wp2_with fail
            exact ⟨⟨k + 1, by omega, by go_num, btr hb hb2, by rw [HF.out, scan_no hlt hx]⟩, by simp [intOf]; omega⟩
        · have HK := Lib.hid hlt
          have hd : ¬ (k : Int) < n := by omega
          clear hlt
          go_wp2_with fail
          go_ret
          exact ⟨by rw [HR.out false (by rw [HF.out, scan_end HK.out]; rfl)]; rfl, hb⟩
  · have hne : ((n : Int) != (n2 : Int)) = true := by simp; omega
    have hR : sameB A B = false := by
      unfold sameB
      rw [← h.1, ← h2.1]
      simp [hl]
    rw [hR]
    clear hR h h2 hl hn
    go_enter Try.func41, Try.ntmps41
    go_wp2_with fail
    go_ret
    exact ⟨rfl, Below.refl _ _⟩


end Go.Proofs.Ytbmbogaejmgloaa
