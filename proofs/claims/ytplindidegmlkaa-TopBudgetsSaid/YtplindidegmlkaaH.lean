/- All choices, by the reference: rows of choices in memory; a function that calls itself. -/
import Derived.Test.YtplindidegmlkaaG
import Derived.Test.YtplindidegmlkaaX
import Derived.Test.YtplindidegmlkaaY
namespace Go.Proofs.Ytplindidegmlkaa
open Go.RowKit Go.Sort

theorem info26 : (Try.prog.info? 26).map (fun i => (i.zero, i.size, i.bytes)) = some (some (.slice none 0 0), 1, 24) := by kernel_rfl

/-- A slice value of numbers, in a block of numbers. -/
def IsT (w : World) (v : Value) (xs : List Int) : Prop :=
  ∃ a c, v = .slice a xs.length c ∧ (xs.length = 0 ∨ ∃ b o cur f, a = some ⟨b, o, none⟩ ∧ Is w b o xs.length xs ∧ w.heap[b]? = some (.cells cur 3 f)) ∧ xs.length ≤ c ∧ c ≤ maxLen
theorem IsT.nil (w : World) : IsT w (.slice none 0 0) [] := ⟨none, 0, rfl, .inl rfl, Nat.le_refl _, Nat.zero_le _⟩
theorem IsT.isV {w : World} {v : Value} {xs : List Int} (h : IsT w v xs) : IsV w 0 v xs := by
  obtain ⟨a, c, h1, h2, h3, h4⟩ := h
  refine ⟨a, c, h1, ⟨rfl, ?_⟩, h3, h4, fun _ _ => Nat.zero_le _⟩
  rcases h2 with h2 | ⟨b, o, cur, f, rfl, h5, _⟩
  · exact .inl h2
  · exact .inr ⟨b, o, rfl, h5⟩
theorem IsT.below {w w' : World} {v : Value} {xs : List Int} (h : IsT w v xs) (hb : Below w.heap.size w w') : IsT w' v xs := by
  obtain ⟨a, c, h1, h2, h3, h4⟩ := h
  refine ⟨a, c, h1, ?_, h3, h4⟩
  rcases h2 with h2 | ⟨b, o, cur, f, rfl, h5, h6⟩
  · exact .inl h2
  · exact .inr ⟨b, o, cur, f, rfl, h5.below hb (Nat.le_refl _), by rw [hb.block b h5.lt]; exact h6⟩
theorem IsT.grown {w w' : World} {v : Value} {xs : List Int} {base n : Nat} {r : Value} {vs : List Value} (h : IsT w v xs) (ho : w.ownsRow base 26 1 r n vs) (hg : w.grownBy w' r.ownBlock) : IsT w' v xs := by
  obtain ⟨a, c, h1, h2, h3, h4⟩ := h
  refine ⟨a, c, h1, ?_, h3, h4⟩
  rcases h2 with h2 | ⟨b, o, cur, f, rfl, h5, h6⟩
  · exact .inl h2
  · have hne : some b ≠ r.ownBlock := by
      intro e
      rcases ho.2 with ⟨rfl, _⟩ | ⟨g, cap, cur', rfl, _, hh, _⟩
      · simp [Value.ownBlock] at e
      · simp [Value.ownBlock] at e
        subst e
        rw [hh] at h6
        simp at h6
    have hk : w'.heap[b]? = w.heap[b]? := hg.block b h5.lt (fun e => hne e)
    refine .inr ⟨b, o, cur, f, rfl, ⟨h5.len, Nat.lt_of_lt_of_le h5.lt hg.size, fun i hi => ?_⟩, by rw [hk]; exact h6⟩
    rw [World.cell?_of_block (w := w) hk]
    exact h5.c0 i hi
theorem ownsRow_t {w : World} {base : Nat} {v : Value} {n : Nat} {xs : List Int} (h : w.ownsRow base 3 1 v n (xs.map (Value.int .i64))) : IsT w v xs := by
  have hv := ownsRow_is h
  obtain ⟨h1, h2⟩ := h
  have hn : n = xs.length := by simpa using h1.symm
  subst hn
  obtain ⟨a, c, e, hI, hc1, hc2, _⟩ := hv
  refine ⟨a, c, e, ?_, hc1, hc2⟩
  rcases hI.2 with h3 | ⟨b, o, rfl, h3⟩
  · exact .inl h3
  · rcases h2 with ⟨rfl, h0⟩ | ⟨g, cap, cur, hv, hg, hh, _⟩
    · cases e
    · rw [e] at hv
      simp only [Value.slice.injEq, Option.some.injEq, Addr.mk.injEq, and_true, true_and] at hv
      obtain ⟨⟨rfl, rfl⟩, rfl⟩ := hv
      exact .inr ⟨b, 0, cur, (0, 0), rfl, h3, hh⟩

/-- append(own, xs...), xs a slice of numbers, empty or nil or not. -/
theorem wpList_append_ints {w : World} {ops : Array Oper} {rest : List Oper} {o : Oper} {a : Act} {Q : Exit → Act → World → Prop} (hgd : o.guard = none) (s x : Operand)
    (ho : o.op = .call { callee := .builtin .append, args := #[s, x], argTypes := #[26, 26] })
    (base : Nat) (v : Value) (n : Nat) (xs : List Value) (hs : a.eval s = v) (hown : w.ownsRow base 3 1 v n xs)
    (a' : Option Addr) (m c : Nat) (L : List Int) (hx : a.eval x = .slice a' m c) (hL : IsO w a' m L) (hbd : n + m ≤ 1000000) (hbase : base ≤ w.heap.size)
    (h : ∀ v' w', w'.ownsRow base 3 1 v' (n + m) (xs ++ L.map (Value.int .i64)) → w.grownBy w' v.ownBlock → wpList Try.prog ops Q rest (a.put o.dst v') w') : wpList Try.prog ops Q (o :: rest) a w := by
  obtain ⟨i0, hi, hz0, hz1, hz2⟩ := info_parts info3
  obtain ⟨hl, h2⟩ := hL
  rcases h2 with h2 | ⟨b, of, rfl, hS⟩
  · subst h2
    have hL0 : L = [] := List.eq_nil_of_length_eq_zero hl.symm
    subst hL0
    cases a' with
    | none =>
      refine wpList_plain hgd fun K hK => ?_
      have hrun := run_append_none (P := Try.prog) (w := w) base 26 o.type 3 i0 1 c Try.underlying26 hi v n xs hown
      unfold Oper.wp
      simp [execOp, ho, resolve, invoke, builtin, hs, hx, hrun, Result.andThen]
      exact hK _ _ (h v w (by simpa using hown) (grown_refl _ _))
    | some ad =>
      exact wpList_append_own _ hgd s x 26 ho base 3 i0 (.int .i64 0) 1 8 Try.underlying26 hi hz0 hz1 hz2 rfl (by decide) v n xs hs hown ad 0 c [] hx rfl (fun j u hu => by simp at hu) (fun u hu => by simp at hu) (by unfold maxLen; omega) (by omega) hbase (fun v' w' h1 h2 _ => h v' w' (by simpa using h1) h2)
  · refine wpList_append_own _ hgd s x 26 ho base 3 i0 (.int .i64 0) 1 8 Try.underlying26 hi hz0 hz1 hz2 rfl (by decide) v n xs hs hown ⟨b, of, none⟩ m c (L.map (Value.int .i64)) hx (by simp; omega) ?_ (fun u hu => ?_) (by unfold maxLen; omega) (by omega) hbase (fun v' w' h1 h2 _ => h v' w' h1 h2)
    · intro j u hj
      have hjl : j < L.length := by
        have := (List.getElem?_eq_some_iff.1 hj).1
        simpa using this
      have ha : (⟨b, of, none⟩ : Addr).add j = ⟨b, of + j, none⟩ := by
        unfold Addr.add
        split
        · rename_i h0; rw [h0, Nat.add_zero]
        · rfl
      rw [ha, hS.c0 j (by omega), ← hj]
      simp [gi, hjl]
    · simp only [List.mem_map] at hu
      obtain ⟨q, _, rfl⟩ := hu
      rfl

/-- A row of choices that the call owns. -/
def RowC (w : World) (base : Nat) (v : Value) (cs : List (List Int)) : Prop :=
  ∃ vs, w.ownsRow base 26 1 v cs.length vs ∧ ∀ i, i < cs.length → IsT w (vs.getD i undef) (cs.getD i [])
theorem RowC.below {w w' : World} {base : Nat} {v : Value} {cs : List (List Int)} (h : RowC w base v cs) (hb : Below w.heap.size w w') : RowC w' base v cs := by
  obtain ⟨vs, h1, h2⟩ := h
  exact ⟨vs, ownsRow_below h1 hb, fun i hi => (h2 i hi).below hb⟩
/-- Rows of choices come back. -/
def RetRows (w : World) (cs : List (List Int)) (e : Ending) (w' : World) : Prop := ∃ v, e = .returned v ∧ RowC w' w.heap.size v cs ∧ Below w.heap.size w w'

theorem frm_le {F : List Fx} {beg : List Int} (h : OkC F beg) : frm beg ≤ F.length := by
  unfold frm
  cases hl : beg.getLast? with
  | none => exact Nat.zero_le _
  | some y =>
    have := h.1.2 y (List.mem_of_getLast? hl)
    simp only; omega
theorem allC_acc {F : List Fx} {d : Nat} {beg : List Int} (h : OkC F beg) (hd : F.length ≤ frm beg + d) : allC F d beg = accC F (d - 1) beg F.length := by
  cases d with
  | zero =>
    have := frm_le h
    rw [show F.length = frm beg by omega, accC_from]; rfl
  | succ d => rw [← accC_end]; rfl
theorem frm_last {beg : List Int} (h : 0 < beg.length) (h0 : 0 ≤ gi beg (beg.length - 1)) : ((frm beg : Nat) : Int) = gi beg (beg.length - 1) + 1 := by
  unfold frm
  have e : beg.getLast? = some (gi beg (beg.length - 1)) := by
    rw [List.getLast?_eq_getElem?]
    simp [gi, show beg.length - 1 < beg.length by omega]
  rw [e]
  simp only; omega
theorem allC_pos (F : List Fx) (d : Nat) (beg : List Int) : 0 < (allC F d beg).length := by
  cases d <;> simp [allC]

theorem RowC.append {w w' : World} {base n2 : Nat} {v v' : Value} {cs ds : List (List Int)} {vs us : List Value} (h1 : w.ownsRow base 26 1 v cs.length vs) (h2 : ∀ i, i < cs.length → IsT w (vs.getD i undef) (cs.getD i []))
    (h4 : ∀ i, i < ds.length → IsT w (us.getD i undef) (ds.getD i [])) (hn : n2 = ds.length) (ho : w'.ownsRow base 26 1 v' (cs.length + n2) (vs ++ us)) (hg : w.grownBy w' v.ownBlock) : RowC w' base v' (cs ++ ds) := by
  subst hn
  refine ⟨vs ++ us, by rw [List.length_append]; exact ho, fun i hi => ?_⟩
  have hvl : vs.length = cs.length := by have := h1.1; omega
  rw [List.length_append] at hi
  by_cases hlt : i < cs.length
  · have e1 : (vs ++ us).getD i undef = vs.getD i undef := by rw [List.getD_eq_getElem?_getD, List.getD_eq_getElem?_getD, List.getElem?_append_left (by omega)]
    have e2 : (cs ++ ds).getD i [] = cs.getD i [] := by rw [List.getD_eq_getElem?_getD, List.getD_eq_getElem?_getD, List.getElem?_append_left hlt]
    rw [e1, e2]
    exact (h2 i hlt).grown h1 hg
  · have e1 : (vs ++ us).getD i undef = us.getD (i - cs.length) undef := by rw [List.getD_eq_getElem?_getD, List.getD_eq_getElem?_getD, List.getElem?_append_right (by omega), hvl]
    have e2 : (cs ++ ds).getD i [] = ds.getD (i - cs.length) [] := by rw [List.getD_eq_getElem?_getD, List.getD_eq_getElem?_getD, List.getElem?_append_right (by omega)]
    rw [e1, e2]
    exact (h4 _ (by omega)).grown h1 hg
theorem IsT.oneCell {w : World} {v : Value} {xs : List Int} (h : IsT w v xs) : v.oneCell' = true := by
  obtain ⟨a, c, rfl, _⟩ := h; rfl
theorem rows_one {w : World} {us : List Value} {ds : List (List Int)} (h3 : us.length = ds.length) (h4 : ∀ i, i < ds.length → IsT w (us.getD i undef) (ds.getD i [])) : ∀ u ∈ us, u.oneCell' = true := by
  intro u hu
  obtain ⟨i, hi, e⟩ := List.getElem_of_mem hu
  have := (h4 i (by omega)).oneCell
  rw [List.getD_eq_getElem?_getD, List.getElem?_eq_getElem hi] at this
  simpa [e] using this

theorem row_cells {w : World} {base g n cap : Nat} {us : List Value} (h : w.ownsRow base 26 1 (.slice (some ⟨g, 0, none⟩) n cap) n us) : ∀ j u, us[j]? = some u → w.cell? ((⟨g, 0, none⟩ : Addr).add j) = some u := by
  intro j u hj
  have hjl := (List.getElem?_eq_some_iff.1 hj).1
  have := h.1
  have ha : (⟨g, 0, none⟩ : Addr).add j = ⟨g, j, none⟩ := by
    unfold Addr.add
    split
    · rename_i h0; rw [h0]
    · rw [Nat.zero_add]
  rw [ha, h.cellAt j (by omega)]
  exact hj

set_option maxRecDepth 100000 in
set_option maxHeartbeats 6400000 in
theorem rchoices_c (F : List Fx) (h8 : F.length ≤ 8) (h0 : ∀ k, k < F.length → 0 ≤ (fx F k).i) (fa : Option Addr) (m fc : Nat) : ∀ (d : Nat) (beg : List Int) (ba : Option Addr) (bc : Nat) (w : World), d ≤ 8 → FlO w fa m F → OkC F beg → F.length ≤ frm beg + d → IsT w (.slice ba beg.length bc) beg →
    Calls Try.prog 86 #[.slice fa m fc, .slice ba beg.length bc] w (RetRows w (allC F d beg)) := by
  intro d
  induction d using Nat.strongRecOn with
  | _ d ih =>
  intro beg ba bc w hd8 hf hok hd ht
  have IH := Lib.hid ih
  have HF := Lib.hid hf
  have HM := Lib.hid hf.1
  have HOK := Lib.hid hok
  have HD := Lib.hid hd
  have HT := Lib.hid ht
  have H0 := Lib.hid h0
  have hm8 : m ≤ 8 := by have := hf.1; omega
  have hbl : beg.length ≤ 8 := by have := hok.1.len; omega
  have HFL : Hid (frm beg ≤ m) := Lib.hid (by have := frm_le hok; have := hf.1; omega)
  have HAF := Lib.hid (accC_from F (d - 1) beg)
  rw [allC_acc hok hd]
  have HA : Hid (Below w.heap.size w (w.alloc (.cells #[.slice ba beg.length bc] 26))) := Lib.hid ((Below.refl _ _).alloc (Nat.le_refl _) _)
  have HR0 : Hid (RowC (w.alloc (.cells #[.slice ba beg.length bc] 26)) w.heap.size (.slice (some ⟨w.heap.size, 0, none⟩) 1 1) [beg]) := Lib.hid
    ⟨[.slice ba beg.length bc], World.ownsRow_lit w #[.slice ba beg.length bc] 1 (Nat.le_refl _) (by unfold maxLen; omega) rfl, fun i hi => by
      have hi' : i < 1 := hi
      obtain rfl : i = 0 := by omega
      exact ht.below HA.out⟩
  clear ih hf hok hd ht h0
  rcases Nat.eq_zero_or_pos beg.length with hb0 | hb0
  · have hbz : ¬ 0 < beg.length := by omega
    have HFRM : Hid (frm beg = 0) := Lib.hid (by have : beg = [] := List.eq_nil_of_length_eq_zero hb0; subst this; rfl)
    clear hb0
    go_enter Try.func86, Try.ntmps86
    go_wp2_with fail
    go_loopw [5, 7] (fun v i wr => ∃ k : Nat, frm beg ≤ k ∧ k ≤ m ∧ i = .int .i64 k ∧ Below w.heap.size w wr ∧ RowC wr w.heap.size v (accC F (d - 1) beg k)) (fun _ i _ => m - (intOf i).toNat)
    case atStart => exact ⟨frm beg, Nat.le_refl _, HFL.out, by rw [HFRM.out]; rfl, HA.out, by rw [HAF.out]; exact HR0.out⟩
    case round =>
      obtain ⟨k, hfk, hk, rfl, hb, hrow⟩ := hrel
      have HR := Lib.hid hrow
      clear hrow HA HR0 HFL
      by_cases hlt : k < m
      · have hd1 : 1 ≤ d := by have := HD.out; have := HM.out; omega
        have HST := Lib.hid (accC_succ F (d - 1) beg k)
        have HNX : Hid (nxB F beg k = decide (chErr F (beg ++ [(k : Int)]) = 0)) := Lib.hid (by unfold nxB; rw [decT hfk]; rfl)
        obtain ⟨i3, hi3, hz30, hz31, hz32⟩ := info_parts info3
        have HTr := Lib.hid (HT.out.below hb)
        go_wp2_with (at_builtin; refine wpList_append_ints rfl (.tmp 28) (.tmp 29) rfl wr.heap.size _ 0 [] rfl (World.ownsRow_made _ #[] 0 (Nat.le_refl _) (Nat.zero_le _) rfl) ba beg.length bc beg rfl ((HTr.out.below ((Below.refl _ _).alloc (Nat.le_refl _) _)).isV.isO) (by omega) (by simp) ?_)
        intro v30 w3 hown3 hg3
        have hb3 : Below wr.heap.size wr w3 := ((Below.refl _ _).alloc (Nat.le_refl _) _).grown hg3 (by simp) (fun q hq => by cases hq; exact Nat.le_refl _)
        have HO3 : Hid (w3.ownsRow wr.heap.size 3 1 v30 beg.length (beg.map (Value.int .i64))) := Lib.hid (by simpa using hown3)
        clear hown3 hg3
        go_wp2_with (at_builtin; refine wpList_append_own _ rfl _ _ 26 rfl wr.heap.size 3 i3 (.int .i64 0) 1 8 Try.underlying26 hi3 hz30 hz31 hz32 rfl (by decide) _ _ _ rfl (HO3.out.alloc _) ⟨w3.heap.size, 0, none⟩ 1 1 [.int .i64 (k : Int)] rfl rfl (cells1_new _ _ _) (by intro u hu; simp at hu; subst hu; rfl) (by unfold maxLen; omega) (by omega) (by have := hb3.size; simp; omega) ?_)
        intro v8 w4 hown4 hg4 _
        have hb34 : Below wr.heap.size wr w4 := (hb3.alloc hb3.size _).grown hg4 (by have := hb3.size; simp; omega) (fun q hq => (HO3.out.lt q hq).1)
        have B4 : Below w.heap.size w w4 := btr hb hb34
        have HO4 : Hid (w4.ownsRow wr.heap.size 3 1 v8 (beg ++ [(k : Int)]).length ((beg ++ [(k : Int)]).map (Value.int .i64))) := Lib.hid (by simpa using hown4)
        have HR4 := Lib.hid (HR.out.below hb34)
        clear hown4 hg4 hb34 hb3 HO3 HR
        have HT4 := Lib.hid (ownsRow_t HO4.out)
        obtain ⟨a8, c8, e8, -, -, -⟩ := HT4.out
        subst e8
        clear HO4
        have hnl : (beg ++ [(k : Int)]).length ≤ 9 := by simp; omega
        by_cases hch : chErr F (beg ++ [(k : Int)]) = 0
        · have hcn : (chErr F (beg ++ [(k : Int)]) == 0) = true := by simp [hch]
          have HIF := Lib.hid (HST.out.trans (by rw [if_pos (by rw [HNX.out]; exact decT hch)]))
          have HOK2 := Lib.hid (chErr_ok.1 hch)
          have HD2 : Hid (F.length ≤ frm (beg ++ [(k : Int)]) + (d - 1)) := Lib.hid (by rw [frm_snoc]; have := HD.out; omega)
          have HFR := Lib.hid (HF.out.below B4 (Nat.le_refl _))
          have HL1 := Lib.hid (accC_len (F := F) (by have := HM.out; omega) (d - 1) beg (k := k) (by omega))
          have HL2 := Lib.hid (allC_len (F := F) (by have := HM.out; omega) (d - 1) (beg ++ [(k : Int)]))
          have HP1 := Lib.hid (pow9_8 (d := d - 1 + 1) (by omega))
          have HP2 := Lib.hid (pow9_8 (d := d - 1) (by omega))
          clear hch HST HNX
          generalize hnb : beg ++ [(k : Int)] = nb at *
          clear hnb
          go_wp2_with fail
          refine (chosen_c fa m fc F a8 nb.length c8 nb w4 HFR.out HT4.out.isV.isO (by omega) (by omega) H0.out).mono ?_
          rintro e w5 ⟨rfl, hb5⟩
          have B5 := btr B4 hb5
          have HR5 := Lib.hid (HR4.out.below hb5)
          have HT5 := Lib.hid (HT4.out.below hb5)
          clear hb5 HR4 HT4 HFR B4
          go_wp2_with fail
          refine (IH.out (d - 1) (by omega) nb a8 c8 w5 (by omega) (HF.out.below B5 (Nat.le_refl _)) HOK2.out HD2.out HT5.out).mono ?_
          rintro e w6 ⟨v41, rfl, hr6, hb6⟩
          have B6 := btr B5 hb6
          have HR6 := Lib.hid (HR5.out.below hb6)
          obtain ⟨us, uo, ut⟩ := hr6
          have hup := allC_pos F (d - 1) nb
          obtain ⟨g6, cap6, e6, hg61, hg62, uo'⟩ := own_open uo (by omega)
          subst e6
          have HUO := Lib.hid uo'
          have HUT := Lib.hid ut
          obtain ⟨vs, vo, vt⟩ := HR6.out
          have HVO := Lib.hid vo
          have HVT := Lib.hid vt
          obtain ⟨i26, hi26, hz260, hz261, hz262⟩ := info_parts info26
          clear vo vt uo uo' ut hb6 HR5 HR6 HT5 IH
          go_wp2_with (at_builtin; refine wpList_append_own _ rfl _ _ 102 rfl w.heap.size 26 i26 (.slice none 0 0) 1 24 Try.underlying102 hi26 hz260 hz261 hz262 rfl (by decide) _ _ _ rfl HVO.out ⟨g6, 0, none⟩ (allC F (d - 1) nb).length cap6 us rfl (by have := HUO.out.1; omega) (row_cells HUO.out) (rows_one (by have := HUO.out.1; omega) HUT.out) (by unfold maxLen; have := HL1.out; have := HL2.out; have := HP1.out; have := HP2.out; omega) (by have := HL1.out; have := HL2.out; have := HP1.out; have := HP2.out; omega) B6.size ?_)
          intro v5 w7 hown7 hg7 _
          have B7 : Below w.heap.size w w7 := B6.grown hg7 B6.size (fun q hq => (HVO.out.lt q hq).1)
          have HR7 := Lib.hid (RowC.append HVO.out HVT.out HUT.out rfl hown7 hg7)
          clear hown7 hg7 HVO HVT HUO HUT
          go_wp2_with fail
          exact ⟨⟨k + 1, by omega, by omega, by go_num, B7, by rw [HIF.out]; exact HR7.out⟩, by simp [intOf]; omega⟩
        · have hcn : (chErr F (beg ++ [(k : Int)]) == 0) = false := by simp [hch]
          have HIF := Lib.hid (HST.out.trans (by rw [if_neg (by rw [HNX.out]; simp [hch]), List.append_nil]))
          have HFR := Lib.hid (HF.out.below B4 (Nat.le_refl _))
          clear hch HST HNX
          generalize hnb : beg ++ [(k : Int)] = nb at *
          clear hnb
          go_wp2_with fail
          refine (chosen_c fa m fc F a8 nb.length c8 nb w4 HFR.out HT4.out.isV.isO (by omega) (by omega) H0.out).mono ?_
          rintro e w5 ⟨rfl, hb5⟩
          have B5 := btr B4 hb5
          have HR5 := Lib.hid (HR4.out.below hb5)
          clear hb5 HR4 HT4 HFR B4
          go_wp2_with fail
          exact ⟨⟨k + 1, by omega, by omega, by go_num, B5, by rw [HIF.out]; exact HR5.out⟩, by simp [intOf]; omega⟩
      · have HKM : Hid (k = F.length) := Lib.hid (by have := HM.out; omega)
        have hd2 : ¬ (k : Int) < m := by omega
        clear hlt
        go_wp2_with fail
        go_ret
        refine ⟨_, rfl, ?_, hb⟩
        have h := HR.out
        rw [HKM.out] at h
        exact h
  · obtain ⟨bb, bo, cur, ff, rfl, hI, hbk⟩ : ∃ b o cur f, ba = some ⟨b, o, none⟩ ∧ Is w b o beg.length beg ∧ w.heap[b]? = some (.cells cur 3 f) := by
      obtain ⟨a, c, e, h2, _⟩ := HT.out
      simp only [Value.slice.injEq] at e
      obtain ⟨rfl, _, rfl⟩ := e
      rcases h2 with h2 | h2
      · omega
      · exact h2
    have c0 := (hI.below HA.out (Nat.le_refl _)).c0 (beg.length - 1) (by omega)
    have hr := HOK.out.1.2 _ (gi_mem (show beg.length - 1 < beg.length by omega))
    have hfl := frm_last hb0 hr.1
    obtain ⟨hr1, hr2⟩ := hr
    generalize gi beg (beg.length - 1) = lst at *
    obtain ⟨l1, hl1⟩ : ∃ l1, l1 + 1 = beg.length := ⟨beg.length - 1, by omega⟩
    have e1 : beg.length - 1 = l1 := by omega
    rw [e1] at c0
    have HFRM := Lib.hid hfl
    have HL1 := Lib.hid hl1
    have hli : IntKind.i64.wrap ((beg.length : Int) - 1) = (l1 : Int) := by rw [IntWalk.i64_in _ (by omega)]; omega
    have hll : l1 < beg.length := by omega
    clear hI hbk e1 hfl hl1
    go_enter Try.func86, Try.ntmps86
    go_wp2_with fail
    go_loopw [5, 7] (fun v i wr => ∃ k : Nat, frm beg ≤ k ∧ k ≤ m ∧ i = .int .i64 k ∧ Below w.heap.size w wr ∧ RowC wr w.heap.size v (accC F (d - 1) beg k)) (fun _ i _ => m - (intOf i).toNat)
    case atStart => exact ⟨frm beg, Nat.le_refl _, HFL.out, by rw [HFRM.out], HA.out, by rw [HAF.out]; exact HR0.out⟩
    case round =>
      obtain ⟨k, hfk, hk, rfl, hb, hrow⟩ := hrel
      have HR := Lib.hid hrow
      clear hrow HA HR0 HFL
      by_cases hlt : k < m
      · have hd1 : 1 ≤ d := by have := HD.out; have := HM.out; omega
        have HST := Lib.hid (accC_succ F (d - 1) beg k)
        have HNX : Hid (nxB F beg k = decide (chErr F (beg ++ [(k : Int)]) = 0)) := Lib.hid (by unfold nxB; rw [decT hfk]; rfl)
        obtain ⟨i3, hi3, hz30, hz31, hz32⟩ := info_parts info3
        have HTr := Lib.hid (HT.out.below hb)
        go_wp2_with (at_builtin; refine wpList_append_ints rfl (.tmp 28) (.tmp 29) rfl wr.heap.size _ 0 [] rfl (World.ownsRow_made _ #[] 0 (Nat.le_refl _) (Nat.zero_le _) rfl) (some ⟨bb, bo, none⟩) beg.length bc beg rfl ((HTr.out.below ((Below.refl _ _).alloc (Nat.le_refl _) _)).isV.isO) (by omega) (by simp) ?_)
        intro v30 w3 hown3 hg3
        have hb3 : Below wr.heap.size wr w3 := ((Below.refl _ _).alloc (Nat.le_refl _) _).grown hg3 (by simp) (fun q hq => by cases hq; exact Nat.le_refl _)
        have HO3 : Hid (w3.ownsRow wr.heap.size 3 1 v30 beg.length (beg.map (Value.int .i64))) := Lib.hid (by simpa using hown3)
        clear hown3 hg3
        go_wp2_with (at_builtin; refine wpList_append_own _ rfl _ _ 26 rfl wr.heap.size 3 i3 (.int .i64 0) 1 8 Try.underlying26 hi3 hz30 hz31 hz32 rfl (by decide) _ _ _ rfl (HO3.out.alloc _) ⟨w3.heap.size, 0, none⟩ 1 1 [.int .i64 (k : Int)] rfl rfl (cells1_new _ _ _) (by intro u hu; simp at hu; subst hu; rfl) (by unfold maxLen; omega) (by omega) (by have := hb3.size; simp; omega) ?_)
        intro v8 w4 hown4 hg4 _
        have hb34 : Below wr.heap.size wr w4 := (hb3.alloc hb3.size _).grown hg4 (by have := hb3.size; simp; omega) (fun q hq => (HO3.out.lt q hq).1)
        have B4 : Below w.heap.size w w4 := btr hb hb34
        have HO4 : Hid (w4.ownsRow wr.heap.size 3 1 v8 (beg ++ [(k : Int)]).length ((beg ++ [(k : Int)]).map (Value.int .i64))) := Lib.hid (by simpa using hown4)
        have HR4 := Lib.hid (HR.out.below hb34)
        clear hown4 hg4 hb34 hb3 HO3 HR
        have HT4 := Lib.hid (ownsRow_t HO4.out)
        obtain ⟨a8, c8, e8, -, -, -⟩ := HT4.out
        subst e8
        clear HO4
        have hnl : (beg ++ [(k : Int)]).length ≤ 9 := by simp; omega
        by_cases hch : chErr F (beg ++ [(k : Int)]) = 0
        · have hcn : (chErr F (beg ++ [(k : Int)]) == 0) = true := by simp [hch]
          have HIF := Lib.hid (HST.out.trans (by rw [if_pos (by rw [HNX.out]; exact decT hch)]))
          have HOK2 := Lib.hid (chErr_ok.1 hch)
          have HD2 : Hid (F.length ≤ frm (beg ++ [(k : Int)]) + (d - 1)) := Lib.hid (by rw [frm_snoc]; have := HD.out; omega)
          have HFR := Lib.hid (HF.out.below B4 (Nat.le_refl _))
          have HL1 := Lib.hid (accC_len (F := F) (by have := HM.out; omega) (d - 1) beg (k := k) (by omega))
          have HL2 := Lib.hid (allC_len (F := F) (by have := HM.out; omega) (d - 1) (beg ++ [(k : Int)]))
          have HP1 := Lib.hid (pow9_8 (d := d - 1 + 1) (by omega))
          have HP2 := Lib.hid (pow9_8 (d := d - 1) (by omega))
          clear hch HST HNX
          generalize hnb : beg ++ [(k : Int)] = nb at *
          clear hnb
          go_wp2_with fail
          refine (chosen_c fa m fc F a8 nb.length c8 nb w4 HFR.out HT4.out.isV.isO (by omega) (by omega) H0.out).mono ?_
          rintro e w5 ⟨rfl, hb5⟩
          have B5 := btr B4 hb5
          have HR5 := Lib.hid (HR4.out.below hb5)
          have HT5 := Lib.hid (HT4.out.below hb5)
          clear hb5 HR4 HT4 HFR B4
          go_wp2_with fail
          refine (IH.out (d - 1) (by omega) nb a8 c8 w5 (by omega) (HF.out.below B5 (Nat.le_refl _)) HOK2.out HD2.out HT5.out).mono ?_
          rintro e w6 ⟨v41, rfl, hr6, hb6⟩
          have B6 := btr B5 hb6
          have HR6 := Lib.hid (HR5.out.below hb6)
          obtain ⟨us, uo, ut⟩ := hr6
          have hup := allC_pos F (d - 1) nb
          obtain ⟨g6, cap6, e6, hg61, hg62, uo'⟩ := own_open uo (by omega)
          subst e6
          have HUO := Lib.hid uo'
          have HUT := Lib.hid ut
          obtain ⟨vs, vo, vt⟩ := HR6.out
          have HVO := Lib.hid vo
          have HVT := Lib.hid vt
          obtain ⟨i26, hi26, hz260, hz261, hz262⟩ := info_parts info26
          clear vo vt uo uo' ut hb6 HR5 HR6 HT5 IH
          go_wp2_with (at_builtin; refine wpList_append_own _ rfl _ _ 102 rfl w.heap.size 26 i26 (.slice none 0 0) 1 24 Try.underlying102 hi26 hz260 hz261 hz262 rfl (by decide) _ _ _ rfl HVO.out ⟨g6, 0, none⟩ (allC F (d - 1) nb).length cap6 us rfl (by have := HUO.out.1; omega) (row_cells HUO.out) (rows_one (by have := HUO.out.1; omega) HUT.out) (by unfold maxLen; have := HL1.out; have := HL2.out; have := HP1.out; have := HP2.out; omega) (by have := HL1.out; have := HL2.out; have := HP1.out; have := HP2.out; omega) B6.size ?_)
          intro v5 w7 hown7 hg7 _
          have B7 : Below w.heap.size w w7 := B6.grown hg7 B6.size (fun q hq => (HVO.out.lt q hq).1)
          have HR7 := Lib.hid (RowC.append HVO.out HVT.out HUT.out rfl hown7 hg7)
          clear hown7 hg7 HVO HVT HUO HUT
          go_wp2_with fail
          exact ⟨⟨k + 1, by omega, by omega, by go_num, B7, by rw [HIF.out]; exact HR7.out⟩, by simp [intOf]; omega⟩
        · have hcn : (chErr F (beg ++ [(k : Int)]) == 0) = false := by simp [hch]
          have HIF := Lib.hid (HST.out.trans (by rw [if_neg (by rw [HNX.out]; simp [hch]), List.append_nil]))
          have HFR := Lib.hid (HF.out.below B4 (Nat.le_refl _))
          clear hch HST HNX
          generalize hnb : beg ++ [(k : Int)] = nb at *
          clear hnb
          go_wp2_with fail
          refine (chosen_c fa m fc F a8 nb.length c8 nb w4 HFR.out HT4.out.isV.isO (by omega) (by omega) H0.out).mono ?_
          rintro e w5 ⟨rfl, hb5⟩
          have B5 := btr B4 hb5
          have HR5 := Lib.hid (HR4.out.below hb5)
          clear hb5 HR4 HT4 HFR B4
          go_wp2_with fail
          exact ⟨⟨k + 1, by omega, by omega, by go_num, B5, by rw [HIF.out]; exact HR5.out⟩, by simp [intOf]; omega⟩
      · have HKM : Hid (k = F.length) := Lib.hid (by have := HM.out; omega)
        have hd2 : ¬ (k : Int) < m := by omega
        clear hlt
        go_wp2_with fail
        go_ret
        refine ⟨_, rfl, ?_, hb⟩
        have h := HR.out
        rw [HKM.out] at h
        exact h
end Go.Proofs.Ytplindidegmlkaa
