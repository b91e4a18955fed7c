/- Scale of budget and of its reference. -/
import Derived.Test.YtplindidegmlkaaW
namespace Go.Proofs.Ytplindidegmlkaa
open Go.RowKit Go.Sort

def scB (y : Int) (x : It) : Bool := inB y 1 8 && decide (x.u * y ≤ 8)
def scF (y : Int) (x : It) : It := ⟨x.u * y, x.n, x.d⟩
def scBad (L : List It) (y : Int) (k : Nat) : Bool := !scB y (at_ L k)
def scErr (L : List It) (y : Int) : Int := if vErr L ≠ 0 then vErr L else if (scanJ (scBad L y) L.length 0).isSome = true then 1 else 0
def scL (L : List It) (y : Int) : List It := if scErr L y = 0 then L.map (scF y) else []
theorem sc_v {L : List It} {y : Int} (h : vErr L ≠ 0) : scErr L y = vErr L ∧ scL L y = [] := by
  have e : scErr L y = vErr L := if_pos h
  exact ⟨e, if_neg (by rw [e]; exact h)⟩
theorem sc_1 {L : List It} {y : Int} {k : Nat} (h : vErr L = 0) (hs : scanJ (scBad L y) L.length 0 = scanJ (scBad L y) (L.length - k) k) (hk : k < L.length) (hb : scBad L y k = true) : scErr L y = 1 ∧ scL L y = [] := by
  have e : scErr L y = 1 := by unfold scErr; rw [if_neg (by simp [h]), hs, scan_yes hk hb]; rfl
  exact ⟨e, if_neg (by rw [e]; decide)⟩
theorem sc_0 {L : List It} {y : Int} {k : Nat} (h : vErr L = 0) (hs : scanJ (scBad L y) L.length 0 = scanJ (scBad L y) (L.length - k) k) (hk : ¬ k < L.length) : scErr L y = 0 ∧ scL L y = L.map (scF y) := by
  have e : scErr L y = 0 := by unfold scErr; rw [if_neg (by simp [h]), hs, scan_end hk]; rfl
  exact ⟨e, if_pos e⟩
theorem sc_go {L : List It} {y : Int} {k : Nat} (hs : scanJ (scBad L y) L.length 0 = scanJ (scBad L y) (L.length - k) k) (hk : k < L.length) (hb : scBad L y k = false) : scanJ (scBad L y) L.length 0 = scanJ (scBad L y) (L.length - (k + 1)) (k + 1) := by rw [hs, scan_no hk hb]
theorem scErr_zero {L : List It} {y : Int} : scErr L y = 0 ↔ Valid L ∧ ∀ k, k < L.length → (1 ≤ y ∧ y ≤ 8) ∧ (at_ L k).u * y ≤ 8 := by
  rw [← vErr_zero]
  unfold scErr
  by_cases h : vErr L = 0
  · rw [if_neg (by simp [h])]
    cases hs : (scanJ (scBad L y) L.length 0).isSome
    · simp only [Bool.false_eq_true, if_false, true_iff]
      rw [scan_none] at hs
      refine ⟨h, fun k hk => ?_⟩
      have := hs k hk
      unfold scBad scB at this
      rw [Bool.not_eq_false', Bool.and_eq_true, inB_true, decide_eq_true_eq] at this
      exact this
    · simp only [if_true, Int.one_ne_zero, false_iff]
      rintro ⟨_, hk⟩
      have : (scanJ (scBad L y) L.length 0).isSome = false := scan_none.2 fun k hkl => by
        have := hk k hkl
        unfold scBad scB
        rw [Bool.not_eq_false', Bool.and_eq_true, inB_true, decide_eq_true_eq]
        exact this
      rw [this] at hs; cases hs
  · rw [if_pos h]; simp [h]

theorem itCells_set0 (L : List It) (i : Nat) (u : Int) (h : i < L.length) : (itCells L).set (i * 3) (.int .i64 u) = itCells (L.set i ⟨u, (at_ L i).n, (at_ L i).d⟩) := by
  obtain ⟨r0, r1, r2⟩ := itCells_at L i h
  rw [← itCells_set L i _ h]
  have s1 : ((itCells L).set (i * 3) (.int .i64 u)).set (i * 3 + 1) (.int .i64 (at_ L i).n) = (itCells L).set (i * 3) (.int .i64 u) := by
    apply List.ext_getElem?
    intro j
    by_cases hj : i * 3 + 1 = j
    · subst hj
      rw [List.getElem?_set_self (by rw [List.length_set, itCells_length]; omega), List.getElem?_set_ne (by omega), r1]
    · rw [List.getElem?_set_ne hj]
  rw [s1]
  apply List.ext_getElem?
  intro j
  by_cases hj : i * 3 + 2 = j
  · subst hj
    rw [List.getElem?_set_self (by rw [List.length_set, itCells_length]; omega), List.getElem?_set_ne (by omega), r2]
  · rw [List.getElem?_set_ne hj]

/-- The first k items changed. -/
def mixL (f : It → It) (L : List It) (k : Nat) : List It := (L.take k).map f ++ L.drop k
theorem mixL_length {f : It → It} {L : List It} {k : Nat} : (mixL f L k).length = L.length := by simp [mixL]; omega
theorem mixL_zero {f : It → It} {L : List It} : mixL f L 0 = L := by simp [mixL]
theorem mixL_all {f : It → It} {L : List It} : mixL f L L.length = L.map f := by simp [mixL]
theorem mixL_at {f : It → It} {L : List It} {k : Nat} (h : k < L.length) : at_ (mixL f L k) k = at_ L k := by
  unfold mixL at_
  rw [List.getD_eq_getElem?_getD, List.getD_eq_getElem?_getD, List.getElem?_append_right (by simp; omega)]
  simp only [List.length_map, List.length_take, List.getElem?_drop]
  rw [show k + (k - min k L.length) = k by omega]
theorem mixL_set {f : It → It} {L : List It} {k : Nat} (h : k < L.length) : (mixL f L k).set k (f (at_ L k)) = mixL f L (k + 1) := by
  have e : L.drop k = L[k] :: L.drop (k + 1) := List.drop_eq_getElem_cons h
  have ea : at_ L k = L[k] := by simp [at_, h]
  have et : L.take (k + 1) = L.take k ++ [L[k]] := by rw [List.take_add_one, List.getElem?_eq_getElem h]; rfl
  unfold mixL
  rw [ea, e, et, List.map_append, List.append_assoc, List.set_append, if_neg (by simp; omega), List.length_map, List.length_take, show k - min k L.length = 0 by omega, List.set_cons_zero]
  rfl

/-- Items of the call's own and an error number come back. -/
def RetIo (w : World) (L : List It) (er : Int) (e : Ending) (w' : World) : Prop :=
  ∃ v, e = .returned (.tuple #[v, .int .i64 er]) ∧ w'.ownsRow w.heap.size 31 3 v L.length (itCells L) ∧ Below w.heap.size w w'

set_option maxRecDepth 100000 in
set_option maxHeartbeats 3200000 in
theorem Scale_c (a : Option Addr) (n c : Nat) (L : List It) (y : Int) (w : World) (h : SlO w a n L) : Calls Try.prog 41 #[.slice a n c, .int .i64 y] w (RetIo w (scL L y) (scErr L y)) := by
  by_cases h0 : vErr L = 0
  · have hne : (vErr L != 0) = false := by simp [h0]
    have HV := Lib.hid (vErr_zero.1 h0)
    have HLn := Lib.hid h.1
    have hn6 : n ≤ 6 := by have := h.1; have := HV.out.le; omega
    have S1 := fun k => Lib.hid (sc_1 (y := y) (k := k) h0)
    have S0 := fun k => Lib.hid (sc_0 (y := y) (k := k) h0)
    have SG := fun k => Lib.hid (sc_go (L := L) (y := y) (k := k))
    generalize scErr L y = E at *
    generalize scL L y = R at *
    clear h0
    go_enter Try.func41, Try.ntmps41
    go_wp2_with fail
    refine (Validate_c _ _ _ _ _ h).mono ?_
    rintro e w1 ⟨rfl, hb1⟩
    go_wp2_with fail
    refine (Clone_c a n c L _ (h.below hb1 (Nat.le_refl _)) (by omega)).mono ?_
    rintro e w2 ⟨v, rfl, hown, hb2⟩
    rw [← HLn.out] at hown
    have B2 := Lib.hid (btr hb1 hb2)
    have HO := Lib.hid (own_mono hown hb1.size)
    obtain ⟨av, cv, e9, -, -, -, -⟩ := ownsRow_it hown
    rw [← HLn.out] at e9
    subst e9
    clear hown hb1 hb2 h
    go_wp2_with fail
    go_loopw [19] (fun i wr => ∃ k : Nat, k ≤ n ∧ i = .int .i64 k ∧ Below w.heap.size w wr ∧ wr.ownsRow w.heap.size 31 3 (.slice av n cv) n (itCells (mixL (scF y) L k)) ∧ Hid (scanJ (scBad L y) L.length 0 = scanJ (scBad L y) (L.length - k) k)) (fun i _ => n - (intOf i).toNat)
    case atStart => exact ⟨0, Nat.zero_le _, rfl, B2.out, by rw [mixL_zero]; exact HO.out, Lib.hid rfl⟩
    case round =>
      obtain ⟨k, hk, rfl, hb, hown, HS⟩ := hrel
      clear B2 HO
      by_cases hlt : k < n
      · have hkL : k < L.length := by have := HLn.out; omega
        have hkM : k < (mixL (scF y) L k).length := by rw [mixL_length]; exact hkL
        obtain ⟨g, cap, hge, hg1, hg2, hown'⟩ := own_open hown (by omega)
        cases hge
        obtain ⟨r0, r1, r2⟩ := itCells_at _ k hkM
        rw [mixL_at hkL] at r0 r1 r2
        have c0 : wr.cell? ⟨g, k * 3, none⟩ = some (.int .i64 (at_ L k).u) := by rw [hown'.cellAt (k * 3) (by omega)]; exact r0
        have c1 : wr.cell? ⟨g, k * 3 + 1, none⟩ = some (.int .i64 (at_ L k).n) := by rw [hown'.cellAt (k * 3 + 1) (by omega)]; exact r1
        have c2 : wr.cell? ⟨g, k * 3 + 2, none⟩ = some (.int .i64 (at_ L k).d) := by rw [hown'.cellAt (k * 3 + 2) (by omega)]; exact r2
        have f0 : wr.frozen? ⟨g, k * 3, none⟩ = false := hown'.frozenAt _
        have HO := Lib.hid hown'
        have hgw : wr.heap.size ≠ g := by omega
        obtain ⟨a1, a2, a3, a4, a5, a6⟩ := HV.out.bd hkL
        have D1 := Lib.hid ((S1 k).out HS.out hkL)
        have DG := Lib.hid ((SG k).out HS.out hkL)
        have HST : Hid ((itCells (mixL (scF y) L k)).set (k * 3) (.int .i64 ((at_ L k).u * y)) = itCells (mixL (scF y) L (k + 1))) := Lib.hid (by
          rw [itCells_set0 _ _ _ hkM, mixL_at hkL, ← mixL_set hkL]; rfl)
        clear S1 S0 SG r0 r1 r2 hown hown' hkM
        cases t1 : inB y 1 8
        · have D := Lib.hid (D1.out (by unfold scBad scB; rw [t1]; rfl))
          have HAl := Lib.hid (hb.alloc hb.size (.cells #[.int .i64 (at_ L k).u, .int .i64 (at_ L k).n, .int .i64 (at_ L k).d] 31))
          go_wp2_with fail
          refine (within_c _ _ _ _).mono ?_
          rintro e w3 ⟨rfl, rfl⟩
          rw [t1]
          go_wp2_with fail
          go_ret2
          exact ⟨_, by rw [D.out.1]; rfl, by rw [D.out.2]; exact World.ownsRow_nil _ _ _ _, HAl.out⟩
        · obtain ⟨y1, y2⟩ := inB_true.1 t1
          obtain ⟨m1, m2⟩ := mul_bd (a := (at_ L k).u) (b := y) (A := 8) (B := 8) (by omega) a2 (by omega) y2
          by_cases t2 : (at_ L k).u * y ≤ 8
          · have t2' : ¬ 8 < (at_ L k).u * y := by omega
            have D := Lib.hid (DG.out (by unfold scBad scB; rw [t1, decT t2]; rfl))
            go_wp2_with fail
            refine (within_c _ _ _ _).mono ?_
            rintro e w3 ⟨rfl, rfl⟩
            rw [t1]
            go_wp2_with fail
            exact ⟨⟨k + 1, by omega, by go_num, (hb.setCell hg1 _).alloc (by simpa [World.setCell] using hb.size) _, by rw [← HST.out]; exact ((HO.out.stored _ _).1).alloc _, D⟩, by simp [intOf]; omega⟩
          · have t2' : 8 < (at_ L k).u * y := by omega
            have D := Lib.hid (D1.out (by unfold scBad scB; rw [t1, decF t2]; rfl))
            have HAl := Lib.hid (hb.alloc hb.size (.cells #[.int .i64 (at_ L k).u, .int .i64 (at_ L k).n, .int .i64 (at_ L k).d] 31))
            go_wp2_with fail
            refine (within_c _ _ _ _).mono ?_
            rintro e w3 ⟨rfl, rfl⟩
            rw [t1]
            go_wp2_with fail
            go_ret2
            exact ⟨_, by rw [D.out.1]; rfl, by rw [D.out.2]; exact World.ownsRow_nil _ _ _ _, HAl.out⟩
      · have hd : ¬ (k : Int) < n := by omega
        have HK : Hid (k = L.length) := Lib.hid (by have := HLn.out; omega)
        have D := Lib.hid ((S0 k).out HS.out (by have := HK.out; omega))
        clear hlt S1 S0 SG
        go_wp2_with fail
        go_ret2
        refine ⟨_, by rw [D.out.1]; rfl, ?_, hb⟩
        rw [D.out.2, List.length_map, ← HLn.out]
        have h := hown
        rw [HK.out, mixL_all] at h
        exact h
  · have hne : (vErr L != 0) = true := by simp [h0]
    obtain ⟨e1, e2⟩ := sc_v (y := y) h0
    rw [e1, e2]
    clear h0 e1 e2
    go_enter Try.func41, Try.ntmps41
    go_wp2_with fail
    refine (Validate_c _ _ _ _ _ h).mono ?_
    rintro e w1 ⟨rfl, hb1⟩
    go_wp2_with fail
    go_ret2
    exact ⟨_, rfl, World.ownsRow_nil _ _ _ _, hb1⟩

theorem cells3_new (w : World) (x y z : Value) (t : TypeId) : ∀ j u, [x, y, z][j]? = some u → (w.alloc (.cells #[x, y, z] t)).cell? ((⟨w.heap.size, 0, none⟩ : Addr).add j) = some u := by
  intro j u hj
  match j, hj with
  | 0, hj => simp at hj; subst hj; simp [go_sem, Addr.add]
  | 1, hj => simp at hj; subst hj; simp [go_sem, Addr.add]
  | 2, hj => simp at hj; subst hj; simp [go_sem, Addr.add]
  | j + 3, hj => simp at hj
theorem one3 (a b c : Int) : ∀ u ∈ [Value.int .i64 a, .int .i64 b, .int .i64 c], u.oneCell' = true := by simp [Value.oneCell']
theorem map_range (L : List It) (f : It → It) : (List.range L.length).map (fun i => f (at_ L i)) = L.map f := by
  apply List.ext_getElem?
  intro i
  by_cases hi : i < L.length
  · simp [hi, at_]
  · simp [hi]
theorem itCells_snocR {f : Nat → It} {k : Nat} : itCells ((List.range (k + 1)).map f) = itCells ((List.range k).map f) ++ [.int .i64 (f k).u, .int .i64 (f k).n, .int .i64 (f k).d] := by
  rw [List.range_succ, List.map_append, List.map_singleton, itCells_snoc]

set_option maxRecDepth 100000 in
set_option maxHeartbeats 3200000 in
theorem rScale_c (a : Option Addr) (n c : Nat) (L : List It) (y : Int) (w : World) (h : SlO w a n L) : Calls Try.prog 42 #[.slice a n c, .int .i64 y] w (RetIo w (scL L y) (scErr L y)) := by
  by_cases h0 : vErr L = 0
  · have hne : (vErr L != 0) = false := by simp [h0]
    have HV := Lib.hid (vErr_zero.1 h0)
    have HLn := Lib.hid h.1
    have hn6 : n ≤ 6 := by have := h.1; have := HV.out.le; omega
    have S1 := fun k => Lib.hid (sc_1 (y := y) (k := k) h0)
    have S0 := fun k => Lib.hid (sc_0 (y := y) (k := k) h0)
    have SG := fun k => Lib.hid (sc_go (L := L) (y := y) (k := k))
    generalize scErr L y = E at *
    generalize scL L y = R at *
    obtain ⟨i0, hi, hz0, hz1, hz2⟩ := info_parts info31
    have HH := Lib.hid h
    clear h0
    go_enter Try.func42, Try.ntmps42
    go_wp2_with fail
    refine (rValidate_c _ _ _ _ _ h).mono ?_
    rintro e w1 ⟨rfl, hb1⟩
    clear h
    go_wp2_with fail
    go_loopw [7, 8] (fun v i wr => ∃ k : Nat, k ≤ n ∧ i = .int .i64 k ∧ Below w.heap.size w wr ∧ wr.ownsRow w.heap.size 31 3 v k (itCells ((List.range k).map (fun i => scF y (at_ L i)))) ∧ Hid (scanJ (scBad L y) L.length 0 = scanJ (scBad L y) (L.length - k) k)) (fun _ i _ => n - (intOf i).toNat)
    case atStart => exact ⟨0, Nat.zero_le _, rfl, hb1, World.ownsRow_nil _ _ _ _, Lib.hid rfl⟩
    case round =>
      obtain ⟨k, hk, rfl, hb, hown, HS⟩ := hrel
      have HO := Lib.hid hown
      clear hb1 hown
      by_cases hlt : k < n
      · have hkL : k < L.length := by have := HLn.out; omega
        obtain ⟨b, o, rfl, hS⟩ : ∃ b o, a = some ⟨b, o, none⟩ ∧ Sl w b o n L := by
          rcases HH.out.2 with h' | h'
          · omega
          · exact h'
        have hS' := hS.below hb (Nat.le_refl _)
        have c0 := hS'.c0 k hlt
        have c1 := hS'.c1 k hlt
        have c2 := hS'.c2 k hlt
        obtain ⟨a1, a2, a3, a4, a5, a6⟩ := HV.out.bd hkL
        have D1 := Lib.hid ((S1 k).out HS.out hkL)
        have DG := Lib.hid ((SG k).out HS.out hkL)
        clear S1 S0 SG hS hS'
        cases t1 : inB y 1 8
        · have D := Lib.hid (D1.out (by unfold scBad scB; rw [t1]; rfl))
          go_wp2_with fail
          refine (rWithin_c _ _ _ _).mono ?_
          rintro e w3 ⟨rfl, rfl⟩
          rw [t1]
          go_wp2_with fail
          go_ret2
          exact ⟨_, by rw [D.out.1]; rfl, by rw [D.out.2]; exact World.ownsRow_nil _ _ _ _, hb⟩
        · obtain ⟨y1, y2⟩ := inB_true.1 t1
          obtain ⟨m1, m2⟩ := mul_bd (a := (at_ L k).u) (b := y) (A := 8) (B := 8) (by omega) a2 (by omega) y2
          by_cases t2 : (at_ L k).u * y ≤ 8
          · have t2' : ¬ 8 < (at_ L k).u * y := by omega
            have D := Lib.hid (DG.out (by unfold scBad scB; rw [t1, decT t2]; rfl))
            have k0 := cell_regrown c0
            have k1 := cell_regrown c1
            have k2 := cell_regrown c2
            have hs1 : IntKind.i64.wrap ((at_ L k).u * y) = (at_ L k).u * y := IntWalk.i64_in _ (by omega)
            go_wp2_with fail
            refine (rWithin_c _ _ _ _).mono ?_
            rintro e w3 ⟨rfl, rfl⟩
            rw [t1]
            go_wp2_with fail
            clear c0 c1 c2
            refine wp_region_T1 14 _ _ u7 rfl rfl rfl rfl (by kernel_rfl) (by kernel_rfl) (fun _ _ _ _ h => h) ?_
            simp only [List.take_succ_cons, List.take_zero, List.drop_succ_cons, List.drop_zero, Act.put, List.setIfInBounds_toArray, List.set_cons_zero, List.set_cons_succ, Nat.reduceSub]
            repeat (go_big_quiet_step (fail))
            refine wpQuiet_nil ?_
            intro w4 hb4
            have B4 : Below w.heap.size w w4 := btr hb hb4
            have HO3 := Lib.hid (ownsRow_below HO.out hb4)
            clear k0 k1 k2 hs1
            go_wp2_with (at_builtin; refine wpList_append_own _ rfl _ _ 22 rfl w.heap.size 31 i0 (.agg #[.int .i64 0, .int .i64 0, .int .i64 0]) 3 24 Try.underlying22 hi hz0 hz1 hz2 rfl (by decide) _ _ _ rfl (HO3.out.alloc _) ⟨w4.heap.size, 0, none⟩ 1 1 [.int .i64 ((at_ L k).u * y), .int .i64 (at_ L k).n, .int .i64 (at_ L k).d] rfl rfl (cells3_new _ _ _ _ _) (one3 _ _ _) (by unfold maxLen; omega) (by omega) (by have := B4.size; simp; omega) ?_)
            intro v' w5 hown5 hg5 _
            have hb5 : Below w.heap.size w w5 := (B4.alloc B4.size _).grown hg5 (by have := B4.size; simp; omega) (fun q hq => (HO3.out.lt q hq).1)
            have HO5 := Lib.hid hown5
            clear hown5 hg5
            go_wp2_with fail
            exact ⟨⟨k + 1, by omega, by go_num, hb5, by rw [itCells_snocR]; exact HO5.out, D⟩, by simp [intOf]; omega⟩
          · have t2' : 8 < (at_ L k).u * y := by omega
            have D := Lib.hid (D1.out (by unfold scBad scB; rw [t1, decF t2]; rfl))
            go_wp2_with fail
            refine (rWithin_c _ _ _ _).mono ?_
            rintro e w3 ⟨rfl, rfl⟩
            rw [t1]
            go_wp2_with fail
            go_ret2
            exact ⟨_, by rw [D.out.1]; rfl, by rw [D.out.2]; exact World.ownsRow_nil _ _ _ _, hb⟩
      · have hd : ¬ (k : Int) < n := by omega
        have HK : Hid (k = L.length) := Lib.hid (by have := HLn.out; omega)
        have D := Lib.hid ((S0 k).out HS.out (by have := HK.out; omega))
        clear hlt S1 S0 SG
        go_wp2_with fail
        go_ret2
        refine ⟨_, by rw [D.out.1]; rfl, ?_, hb⟩
        rw [D.out.2, List.length_map]
        have h := HO.out
        rw [HK.out, map_range] at h
        exact h
  · have hne : (vErr L != 0) = true := by simp [h0]
    obtain ⟨e1, e2⟩ := sc_v (y := y) h0
    rw [e1, e2]
    clear h0 e1 e2
    go_enter Try.func42, Try.ntmps42
    go_wp2_with fail
    refine (rValidate_c _ _ _ _ _ h).mono ?_
    rintro e w1 ⟨rfl, hb1⟩
    go_wp2_with fail
    go_ret2
    exact ⟨_, rfl, World.ownsRow_nil _ _ _ _, hb1⟩
end Go.Proofs.Ytplindidegmlkaa
