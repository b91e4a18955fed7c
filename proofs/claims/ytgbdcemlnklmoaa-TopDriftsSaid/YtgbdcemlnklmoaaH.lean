/- Clone, Shift, Opposite of the program: contracts. -/
import Derived.Test.YtgbdcemlnklmoaaG
namespace Go.Proofs.Ytgbdcemlnklmoaa
open Go.RowKit Go.Sort

/-- Slices of readings as cells: each reading lies there. -/
theorem rdCells_cells {w : World} {b o n : Nat} {L : List Rd} (h : Sl w b o n L) : ∀ j u, (rdCells L)[j]? = some u → w.cell? ((⟨b, o, none⟩ : Addr).add j) = some u := by
  intro j u hj
  have hlt : j < (rdCells L).length := (List.getElem?_eq_some_iff.1 hj).1
  rw [rdCells_length] at hlt
  have ha : (⟨b, o, none⟩ : Addr).add j = ⟨b, o + j, none⟩ := by
    unfold Addr.add
    split
    · rename_i h0; rw [h0, Nat.add_zero]
    · rfl
  rw [ha]
  have hi : j / 3 < L.length := by omega
  have hin : j / 3 < n := by rw [h.len]; exact hi
  obtain ⟨r0, r1, r2⟩ := rdCells_at L (j / 3) hi
  have hm : j % 3 = 0 ∨ j % 3 = 1 ∨ j % 3 = 2 := by omega
  rcases hm with hm | hm | hm
  · have e : j = j / 3 * 3 := by omega
    rw [← e] at r0
    rw [hj] at r0
    rw [show o + j = o + j / 3 * 3 by omega, h.c0 _ hin, r0]
  · have e : j = j / 3 * 3 + 1 := by omega
    rw [← e] at r1
    rw [hj] at r1
    rw [show o + j = o + j / 3 * 3 + 1 by omega, h.c1 _ hin, r1]
  · have e : j = j / 3 * 3 + 2 := by omega
    rw [← e] at r2
    rw [hj] at r2
    rw [show o + j = o + j / 3 * 3 + 2 by omega, h.c2 _ hin, r2]

theorem rdCells_one (L : List Rd) : ∀ u ∈ rdCells L, u.oneCell' = true := by
  intro u hu
  simp only [rdCells, List.mem_flatMap, List.mem_cons, List.not_mem_nil, or_false] at hu
  obtain ⟨x, _, rfl | rfl | rfl⟩ := hu <;> rfl

/-- A row of readings of the call's own comes back. -/
def RetOwn (w : World) (L : List Rd) (e : Ending) (w' : World) : Prop :=
  ∃ v, e = .returned v ∧ w'.ownsRow w.heap.size 54 3 v L.length (rdCells L) ∧ Below w.heap.size w w'

theorem Clone_c (b o n c : Nat) (L : List Rd) (w : World) (h : Sl w b o n L) (hn : n ≤ 1000000) : Calls Try.prog 80 #[.slice (some ⟨b, o, none⟩) n c] w (RetOwn w L) := by
  have HS := Lib.hid h
  have HL := Lib.hid h.len
  clear h
  obtain ⟨i0, hi, hz0, hz1, hz2⟩ := info_parts info54
  have hnil := fun W => Lib.run_eql_slice_nil (P := Try.prog) W 22 54 (some ⟨b, o, none⟩) n c 0 0 Try.underlying22
  simp only [Option.isNone_some] at hnil
  go_enter Try.func80, Try.ntmps80
  go_wp2_with (at_builtin; refine wpList_append_own _ rfl _ _ 22 rfl w.heap.size 54 i0 (.agg #[.int .i64 0, .int .i64 0, .int .i64 0]) 3 24 Try.underlying22 hi hz0 hz1 hz2 rfl (by decide) _ _ _ rfl (World.ownsRow_made _ #[] 0 (Nat.le_refl _) (Nat.zero_le _) rfl) ⟨b, o, none⟩ n c (rdCells L) rfl (by rw [rdCells_length, ← HL.out]) (rdCells_cells (HS.out.below ((Below.refl _ _).alloc (Nat.le_refl _) _) (Nat.le_refl _))) (rdCells_one L) (by unfold maxLen; omega) (by omega) (by simp) ?_)
  intro v' w5 hown5 hg5 _
  have hb5 : Below w.heap.size w w5 := ((Below.refl _ _).alloc (Nat.le_refl _) _).grown hg5 (by simp) (fun q hq => by cases hq; exact Nat.le_refl _)
  have HO5 : Hid (w5.ownsRow w.heap.size 54 3 v' n (rdCells L)) := Lib.hid (by simpa using hown5)
  clear hown5 hg5
  go_wp2_with fail
  go_ret
  exact ⟨_, rfl, by rw [← HL.out]; exact HO5.out, hb5⟩


/-- What is owned is a slice value over a row, if there is something in it. -/
theorem own_open {w : World} {base : Nat} {e : TypeId} {size : Nat} {v : Value} {n : Nat} {xs : List Value} (h : w.ownsRow base e size v n xs) (hn : n ≠ 0) :
    ∃ g cap, v = .slice (some ⟨g, 0, none⟩) n cap ∧ base ≤ g ∧ g < w.heap.size ∧ w.ownsRow base e size (.slice (some ⟨g, 0, none⟩) n cap) n xs := by
  have h0 := h
  obtain ⟨h1, h2⟩ := h
  rcases h2 with ⟨_, h3⟩ | ⟨g, cap, cur, hv, hg, hh, _⟩
  · exact absurd h3 hn
  · exact ⟨g, cap, hv, hg, (Array.getElem?_eq_some_iff.1 hh).1, hv ▸ h0⟩

theorem rdCells_set : ∀ (L : List Rd) (i : Nat) (x : Rd), i < L.length →
    ((((rdCells L).set (i * 3) (.int .i64 x.t)).set (i * 3 + 1) (.int .i64 x.lo)).set (i * 3 + 2) (.int .i64 x.hi)) = rdCells (L.set i x)
  | [], i, x, h => absurd h (by simp)
  | y :: L, 0, x, _ => by simp [rdCells]
  | y :: L, i + 1, x, h => by
    have ih := rdCells_set L i x (by simpa using h)
    have e : ∀ (l : List Value) (a b c u : Value) (k : Nat), (a :: b :: c :: l).set (k + 3) u = a :: b :: c :: l.set k u := fun l a b c u k => by simp
    have e1 : rdCells (y :: L) = .int .i64 y.t :: .int .i64 y.lo :: .int .i64 y.hi :: rdCells L := by simp [rdCells]
    have e2 : rdCells ((y :: L).set (i + 1) x) = .int .i64 y.t :: .int .i64 y.lo :: .int .i64 y.hi :: rdCells (L.set i x) := by simp [rdCells]
    rw [e1, e2, ← ih, show (i + 1) * 3 = i * 3 + 3 by omega, e, show i * 3 + 3 + 1 = (i * 3 + 1) + 3 by omega, e, show i * 3 + 3 + 2 = (i * 3 + 2) + 3 by omega, e]

theorem rdCells_set0 (L : List Rd) (i : Nat) (t : Int) (h : i < L.length) : (rdCells L).set (i * 3) (.int .i64 t) = rdCells (L.set i ⟨t, (at_ L i).lo, (at_ L i).hi⟩) := by
  obtain ⟨r0, r1, r2⟩ := rdCells_at L i h
  rw [← rdCells_set L i _ h]
  have s1 : ((rdCells L).set (i * 3) (.int .i64 t)).set (i * 3 + 1) (.int .i64 (at_ L i).lo) = (rdCells L).set (i * 3) (.int .i64 t) := by
    apply List.ext_getElem? 
    intro j
    by_cases hj : i * 3 + 1 = j
    · subst hj
      rw [List.getElem?_set_self (by rw [List.length_set, rdCells_length]; omega), List.getElem?_set_ne (by omega), r1]
    · rw [List.getElem?_set_ne hj]
  rw [s1]
  apply List.ext_getElem?
  intro j
  by_cases hj : i * 3 + 2 = j
  · subst hj
    rw [List.getElem?_set_self (by rw [List.length_set, rdCells_length]; omega), List.getElem?_set_ne (by omega), r2]
  · rw [List.getElem?_set_ne hj]

theorem rdCells_set12 (L : List Rd) (i : Nat) (lo hi : Int) (h : i < L.length) : ((rdCells L).set (i * 3 + 1) (.int .i64 lo)).set (i * 3 + 2) (.int .i64 hi) = rdCells (L.set i ⟨(at_ L i).t, lo, hi⟩) := by
  obtain ⟨r0, r1, r2⟩ := rdCells_at L i h
  rw [← rdCells_set L i _ h]
  congr 2
  apply List.ext_getElem?
  intro j
  by_cases hj : i * 3 = j
  · subst hj
    rw [List.getElem?_set_self (by rw [rdCells_length]; omega), r0]
  · rw [List.getElem?_set_ne hj]

/-- The first k readings changed. -/
def mixL (f : Rd → Rd) (L : List Rd) (k : Nat) : List Rd := (L.take k).map f ++ L.drop k
theorem mixL_length {f : Rd → Rd} {L : List Rd} {k : Nat} : (mixL f L k).length = L.length := by simp [mixL]; omega
theorem mixL_zero {f : Rd → Rd} {L : List Rd} : mixL f L 0 = L := by simp [mixL]
theorem mixL_all {f : Rd → Rd} {L : List Rd} : mixL f L L.length = L.map f := by simp [mixL]
theorem mixL_at {f : Rd → Rd} {L : List Rd} {k : Nat} (h : k < L.length) : at_ (mixL f L k) k = at_ L k := by
  unfold mixL at_
  rw [List.getD_eq_getElem?_getD, List.getD_eq_getElem?_getD, List.getElem?_append_right (by simp; omega)]
  simp only [List.length_map, List.length_take, List.getElem?_drop]
  rw [show k + (k - min k L.length) = k by omega]
theorem mixL_set {f : Rd → Rd} {L : List Rd} {k : Nat} (h : k < L.length) : (mixL f L k).set k (f (at_ L k)) = mixL f L (k + 1) := by
  have e : L.drop k = L[k] :: L.drop (k + 1) := List.drop_eq_getElem_cons h
  have ea : at_ L k = L[k] := by simp [at_, h]
  have et : L.take (k + 1) = L.take k ++ [L[k]] := by rw [List.take_add_one, List.getElem?_eq_getElem h]; rfl
  unfold mixL
  rw [ea, e, et, List.map_append, List.append_assoc, List.set_append, if_neg (by simp; omega), List.length_map, List.length_take, show k - min k L.length = 0 by omega, List.set_cons_zero]
  rfl



set_option maxRecDepth 100000 in
set_option maxHeartbeats 3200000 in
theorem Shift_c (a : Option Addr) (n c : Nat) (L : List Rd) (b_ : Int) (w : World) (h : SlO w a n L) : Calls Try.prog 46 #[.slice a n c, .int .i64 b_] w (RetRd w (shR L b_) (shErr L b_)) := by
  by_cases h0 : vErr L = 0
  · have hv0 : (vErr L != 0) = false := by rw [h0]; rfl
    have hv := vErr_zero.1 h0
    obtain ⟨b, o, rfl, hS⟩ : ∃ b o, a = some ⟨b, o, none⟩ ∧ Sl w b o n L := by
      rcases h.2 with h' | h'
      · have := hv.pos; have := h.1; omega
      · exact h'
    have hn8 : n ≤ 8 := by have := hv.le; have := h.1; omega
    have hn1 : 1 ≤ n := by have := hv.pos; have := h.1; omega
    have HV := Lib.hid hv
    have HLn : Hid (L.length = n) := Lib.hid h.1.symm
    have HS := Lib.hid hS
    obtain ⟨l1, l2⟩ := lastT_bd hv
    have hf0 : 0 ≤ firstT L := (hv.bd (i := 0) (by have := hv.pos; omega)).1.1
    have hf1 : firstT L ≤ lastT L := (times_bd hv (i := 0) (by have := hv.pos; omega)).2
    have HT : Hid ((at_ L (n - 1)).t = lastT L) := Lib.hid (by unfold lastT; rw [HLn.out])
    have HT0 : Hid ((at_ L 0).t = firstT L) := rfl
    have e1 : ((n : Int) - 1).toNat = n - 1 := by omega
    have e2 : 0 ≤ (n : Int) - 1 := by omega
    cases hin : inB b_ (-firstT L) (1000 - lastT L)
    · have q1 : shErr L b_ = 1 := by unfold shErr; rw [if_neg (by simp [h0]), if_neg (by simp [hin])]
      have q2 : shR L b_ = [] := by unfold shR; rw [q1]; rfl
      rw [q1, q2]
      clear q1 q2 h0 hv hS
      go_enter Try.func46, Try.ntmps46
      go_wp2_with fail
      refine (validate_c _ _ _ _ _ h).mono ?_
      rintro e w1 ⟨rfl, hb1⟩
      have s1 := (HS.out.below hb1 (Nat.le_refl _)).c0 0 (by omega)
      have s2 := (HS.out.below hb1 (Nat.le_refl _)).c0 (n - 1) (by omega)
      rw [HT.out] at s2
      rw [HT0.out] at s1
      simp only [Nat.zero_mul, Nat.add_zero] at s1
      have k1 := cell_regrown s1
      have k2 := cell_regrown s2
      have cF := fun d os => rg_same (within_c b_ (-firstT L) (1000 - lastT L) (grow (redrawn w1 d) os))
      clear s1 s2
      simp only [hin] at cF
      go_wp2_with fail
      refine wp_region_B (by kernel_rfl) (by kernel_rfl) ?_
      repeat (go_big_quiet_step (exact cF _ _))
      refine wpQuiet_nil ?_
      intro w2 hb2
      have BB : Below w.heap.size w w2 := btr hb1 hb2
      clear cF k1 k2 e1 e2
      go_wp2_with fail
      go_ret2
      exact ⟨_, rfl, RdV.nil _ _, BB⟩
    · have q1 : shErr L b_ = 0 := by unfold shErr; rw [if_neg (by simp [h0]), if_pos hin]
      have q2 : shR L b_ = (List.range n).map (fun i => shF b_ (at_ L i)) := by unfold shR shiftL; rw [if_pos q1, ← map_at, HLn.out]
      rw [q1, q2]
      obtain ⟨g1, g2⟩ := inB_true.1 hin
      clear q1 q2 h0 hv hS
      obtain ⟨i0, hi, hz0, hz1, hz2⟩ := info_parts info54
      go_enter Try.func46, Try.ntmps46
      go_wp2_with fail
      refine (validate_c _ _ _ _ _ h).mono ?_
      rintro e w1 ⟨rfl, hb1⟩
      have s1 := (HS.out.below hb1 (Nat.le_refl _)).c0 0 (by omega)
      have s2 := (HS.out.below hb1 (Nat.le_refl _)).c0 (n - 1) (by omega)
      rw [HT.out] at s2
      rw [HT0.out] at s1
      simp only [Nat.zero_mul, Nat.add_zero] at s1
      have k1 := cell_regrown s1
      have k2 := cell_regrown s2
      have cF := fun d os => rg_same (within_c b_ (-firstT L) (1000 - lastT L) (grow (redrawn w1 d) os))
      clear s1 s2
      simp only [hin] at cF
      go_wp2_with fail
      refine wp_region_B (by kernel_rfl) (by kernel_rfl) ?_
      repeat (go_big_quiet_step (exact cF _ _))
      refine wpQuiet_nil ?_
      intro w2 hb2
      have BB : Below w.heap.size w w2 := btr hb1 hb2
      clear cF k1 k2 e1 e2
      go_wp2_with fail
      refine (Clone_c _ _ _ _ _ _ (HS.out.below BB (Nat.le_refl _)) (by omega)).mono ?_
      rintro e w3 ⟨v, rfl, hown, hb3⟩
      have B3 : Below w.heap.size w w3 := btr BB hb3
      rw [HLn.out] at hown
      obtain ⟨g, cap, hvv, hg1, hg2, hown'⟩ := own_open hown (by omega)
      have hg0 : w.heap.size ≤ g := Nat.le_trans BB.size hg1
      rw [hvv]
      have HOW : Hid (w3.ownsRow w.heap.size 54 3 (.slice (some ⟨g, 0, none⟩) n cap) n (rdCells L)) := Lib.hid (by
        obtain ⟨q1, q2⟩ := hown'
        refine ⟨q1, ?_⟩
        rcases q2 with q2 | ⟨g', cap', cur, hv', hg', rest⟩
        · exact .inl q2
        · exact .inr ⟨g', cap', cur, hv', Nat.le_trans BB.size hg', rest⟩)
      have B3' := Lib.hid B3
      clear hown hown' hvv hb3 BB hg1 B3
      go_wp2_with fail
      go_loopw [34] (fun i wr => ∃ k : Nat, k ≤ n ∧ i = .int .i64 k ∧ Below w.heap.size w wr ∧ wr.ownsRow w.heap.size 54 3 (.slice (some ⟨g, 0, none⟩) n cap) n (rdCells (mixL (shF b_) L k))) (fun i _ => n - (intOf i).toNat)
      case atStart => exact ⟨0, Nat.zero_le _, rfl, B3'.out, by rw [mixL_zero]; exact HOW.out⟩
      case round =>
        obtain ⟨k, hk, rfl, hb', hown⟩ := hrel
        have HO := Lib.hid hown
        clear hown HOW B3'
        by_cases hlt : k < n
        · have hkL : k < L.length := by rw [HLn.out]; exact hlt
          have hkM : k < (mixL (shF b_) L k).length := by rw [mixL_length]; exact hkL
          have c0 : wr.cell? ⟨g, k * 3, none⟩ = some (.int .i64 (at_ L k).t) := by
            rw [HO.out.cellAt (k * 3) (by omega), (rdCells_at _ k hkM).1, mixL_at hkL]
          have f0 : wr.frozen? ⟨g, k * 3, none⟩ = false := HO.out.frozenAt (k * 3)
          have hst := HO.out.stored (k * 3) (.int .i64 ((at_ L k).t + b_))
          have hset : (rdCells (mixL (shF b_) L k)).set (k * 3) (.int .i64 ((at_ L k).t + b_)) = rdCells (mixL (shF b_) L (k + 1)) := by
            rw [rdCells_set0 _ _ _ hkM, mixL_at hkL, ← mixL_set hkL]
            rfl
          rw [hset] at hst
          have HST := Lib.hid hst
          obtain ⟨⟨a1, a2⟩, _⟩ := HV.out.bd (i := k) hkL
          clear hst hset
          go_wp2_with fail
          exact ⟨⟨k + 1, by omega, by go_num, hb'.setCell hg0 _, HST.out.1⟩, by simp [intOf]; omega⟩
        · have HK : Hid (k = n) := Lib.hid (by omega)
          have hd : ¬ (k : Int) < n := by omega
          clear hlt
          go_wp2_with fail
          go_ret2
          refine ⟨_, rfl, ?_, hb'⟩
          have := HO.out
          rw [HK.out, show mixL (shF b_) L n = (List.range n).map (fun i => shF b_ (at_ L i)) by rw [← HLn.out, mixL_all, map_at]] at this
          exact ownsRow_rd this
  · have hv0 : (vErr L != 0) = true := by simpa using h0
    have q1 : shErr L b_ = vErr L := by unfold shErr; rw [if_pos h0]
    have q2 : shR L b_ = [] := by unfold shR; rw [q1, if_neg h0]
    rw [q1, q2]
    clear q1 q2
    clear h0
    go_enter Try.func46, Try.ntmps46
    go_wp2_with fail
    refine (validate_c _ _ _ _ _ h).mono ?_
    rintro e w1 ⟨rfl, hb1⟩
    go_wp2_with fail
    go_ret2
    exact ⟨_, rfl, RdV.nil _ _, hb1⟩


set_option maxRecDepth 100000 in
set_option maxHeartbeats 3200000 in
theorem Opposite_c (a : Option Addr) (n c : Nat) (L : List Rd) (w : World) (h : SlO w a n L) : Calls Try.prog 44 #[.slice a n c] w (RetRd w (opR L) (vErr L)) := by
  by_cases h0 : vErr L = 0
  · have hv0 : (vErr L != 0) = false := by rw [h0]; rfl
    have hv := vErr_zero.1 h0
    obtain ⟨b, o, rfl, hS⟩ : ∃ b o, a = some ⟨b, o, none⟩ ∧ Sl w b o n L := by
      rcases h.2 with h' | h'
      · have := hv.pos; have := h.1; omega
      · exact h'
    have hn8 : n ≤ 8 := by have := hv.le; have := h.1; omega
    have hn1 : 1 ≤ n := by have := hv.pos; have := h.1; omega
    have HV := Lib.hid hv
    have HLn : Hid (L.length = n) := Lib.hid h.1.symm
    have HS := Lib.hid hS
    have q2 : opR L = (List.range n).map (fun i => opF (at_ L i)) := by unfold opR oppL; rw [if_pos h0, ← map_at, HLn.out]
    rw [h0, q2]
    clear q2 h0 hv hS
    go_enter Try.func44, Try.ntmps44
    go_wp2_with fail
    refine (validate_c _ _ _ _ _ h).mono ?_
    rintro e w1 ⟨rfl, BB⟩
    go_wp2_with fail
    refine (Clone_c _ _ _ _ _ _ (HS.out.below BB (Nat.le_refl _)) (by omega)).mono ?_
    rintro e w3 ⟨v, rfl, hown, hb3⟩
    have B3 : Below w.heap.size w w3 := btr BB hb3
    rw [HLn.out] at hown
    obtain ⟨g, cap, hvv, hg1, hg2, hown'⟩ := own_open hown (by omega)
    have hg0 : w.heap.size ≤ g := Nat.le_trans BB.size hg1
    rw [hvv]
    have HOW : Hid (w3.ownsRow w.heap.size 54 3 (.slice (some ⟨g, 0, none⟩) n cap) n (rdCells L)) := Lib.hid (by
      obtain ⟨q1, q2⟩ := hown'
      refine ⟨q1, ?_⟩
      rcases q2 with q2 | ⟨g', cap', cur, hv', hg', rest⟩
      · exact .inl q2
      · exact .inr ⟨g', cap', cur, hv', Nat.le_trans BB.size hg', rest⟩)
    have B3' := Lib.hid B3
    clear hown hown' hvv hb3 BB hg1 B3
    go_wp2_with fail
    go_loopw [17] (fun i wr => ∃ k : Nat, k ≤ n ∧ i = .int .i64 k ∧ Below w.heap.size w wr ∧ wr.ownsRow w.heap.size 54 3 (.slice (some ⟨g, 0, none⟩) n cap) n (rdCells (mixL opF L k))) (fun i _ => n - (intOf i).toNat)
    case atStart => exact ⟨0, Nat.zero_le _, rfl, B3'.out, by rw [mixL_zero]; exact HOW.out⟩
    case round =>
      obtain ⟨k, hk, rfl, hb', hown⟩ := hrel
      have HO := Lib.hid hown
      clear hown HOW B3'
      by_cases hlt : k < n
      · have hkL : k < L.length := by rw [HLn.out]; exact hlt
        have hkM : k < (mixL opF L k).length := by rw [mixL_length]; exact hkL
        have hS' := HS.out.below hb' (Nat.le_refl _)
        have c0 := hS'.c0 k hlt
        have c1 := hS'.c1 k hlt
        have c2 := hS'.c2 k hlt
        clear hS'
        go_wp2_with fail
        refine wp_world ?_
        intro w4 hw4
        have B4 : Below w.heap.size w w4 := by rw [hw4]; exact hb'.alloc hb'.size _
        have O4 : w4.ownsRow w.heap.size 54 3 (.slice (some ⟨g, 0, none⟩) n cap) n (rdCells (mixL opF L k)) := by rw [hw4]; exact HO.out.alloc _
        have x1 : w4.cell? ⟨wr.heap.size, 1, none⟩ = some (.int .i64 (at_ L k).lo) := by rw [hw4]; simp [go_sem]
        have x2 : w4.cell? ⟨wr.heap.size, 2, none⟩ = some (.int .i64 (at_ L k).hi) := by rw [hw4]; simp [go_sem]
        have g1 : w4.cell? ⟨g, k * 3 + 1, none⟩ = some (.int .i64 (at_ L k).lo) := by
          rw [O4.cellAt (k * 3 + 1) (by omega), (rdCells_at _ k hkM).2.1, mixL_at hkL]
        have g2 : w4.cell? ⟨g, k * 3 + 2, none⟩ = some (.int .i64 (at_ L k).hi) := by
          rw [O4.cellAt (k * 3 + 2) (by omega), (rdCells_at _ k hkM).2.2, mixL_at hkL]
        have f1 : w4.frozen? ⟨g, k * 3 + 1, none⟩ = false := O4.frozenAt _
        have f2 : w4.frozen? ⟨g, k * 3 + 2, none⟩ = false := O4.frozenAt _
        have hgw : g ≠ wr.heap.size := by
          have := HO.out.lt g rfl
          omega
        have hst := ((O4.stored (k * 3 + 1) (.int .i64 (-(at_ L k).hi))).1.stored (k * 3 + 2) (.int .i64 (-(at_ L k).lo))).1
        have hset : ((rdCells (mixL opF L k)).set (k * 3 + 1) (.int .i64 (-(at_ L k).hi))).set (k * 3 + 2) (.int .i64 (-(at_ L k).lo)) = rdCells (mixL opF L (k + 1)) := by
          rw [rdCells_set12 _ _ _ _ hkM, mixL_at hkL, ← mixL_set hkL]
          rfl
        rw [hset] at hst
        have HST := Lib.hid hst
        obtain ⟨_, ⟨a3, a4⟩, a5, a6⟩ := HV.out.bd (i := k) hkL
        generalize wr.heap.size = B7 at *
        clear hst hset hw4 c0 c1 c2 O4
        go_region
        go_wp2_with fail
        exact ⟨⟨k + 1, by omega, by go_num, ((B4.setCell hg0 _).setCell hg0 _).drew, HST.out.drew⟩, by simp [intOf]; omega⟩
      · have HK : Hid (k = n) := Lib.hid (by omega)
        have hd : ¬ (k : Int) < n := by omega
        clear hlt
        go_wp2_with fail
        go_ret2
        refine ⟨_, rfl, ?_, hb'⟩
        have := HO.out
        rw [HK.out, show mixL opF L n = (List.range n).map (fun i => opF (at_ L i)) by rw [← HLn.out, mixL_all, map_at]] at this
        exact ownsRow_rd this
  · have hv0 : (vErr L != 0) = true := by simpa using h0
    have q2 : opR L = [] := by unfold opR; rw [if_neg h0]
    rw [q2]
    clear q2
    clear h0
    go_enter Try.func44, Try.ntmps44
    go_wp2_with fail
    refine (validate_c _ _ _ _ _ h).mono ?_
    rintro e w1 ⟨rfl, hb1⟩
    go_wp2_with fail
    go_ret2
    exact ⟨_, rfl, RdV.nil _ _, hb1⟩

end Go.Proofs.Ytgbdcemlnklmoaa
