/- Clone; the budget with a choice: budget and its reference. -/
import Derived.Test.YtplindidegmlkaaMath4
namespace Go.Proofs.Ytplindidegmlkaa
open Go.RowKit Go.Sort

theorem info98 : (Try.prog.info? 98).map (fun i => (i.zero, i.size, i.bytes)) = some (some (.agg #[.int .i64 0, .int .i64 0, .int .i64 0, .int .i64 0]), 4, 32) := by kernel_rfl
theorem info4 : (Try.prog.info? 4).map (fun i => (i.zero, i.size, i.bytes)) = some (some (.bool false), 1, 1) := by kernel_rfl

theorem itCells_cells {w : World} {b o n : Nat} {L : List It} (h : Sl w b o n L) : ∀ j u, (itCells L)[j]? = some u → w.cell? ((⟨b, o, none⟩ : Addr).add j) = some u := by
  intro j u hj
  have hlt : j < (itCells L).length := (List.getElem?_eq_some_iff.1 hj).1
  rw [itCells_length] at hlt
  have ha : (⟨b, o, none⟩ : Addr).add j = ⟨b, o + j, none⟩ := by
    unfold Addr.add
    split
    · rename_i h0; rw [h0, Nat.add_zero]
    · rfl
  rw [ha]
  have hi : j / 3 < L.length := by omega
  have hin : j / 3 < n := by rw [h.len]; exact hi
  obtain ⟨r0, r1, r2⟩ := itCells_at L (j / 3) hi
  have hm : j % 3 = 0 ∨ j % 3 = 1 ∨ j % 3 = 2 := by omega
  rcases hm with hm | hm | hm
  · have e : j = j / 3 * 3 := by omega
    rw [← e] at r0
    rw [hj] at r0
    rw [show o + j = o + j / 3 * 3 by omega, h.c0 _ hin, r0]
  · have e : j = j / 3 * 3 + 1 := by omega
    rw [← e] at r1
    rw [hj] at r1
    rw [show o + j = o + j / 3 * 3 + 1 by omega, h.c1 _ hin, r1]
  · have e : j = j / 3 * 3 + 2 := by omega
    rw [← e] at r2
    rw [hj] at r2
    rw [show o + j = o + j / 3 * 3 + 2 by omega, h.c2 _ hin, r2]
theorem itCells_one (L : List It) : ∀ u ∈ itCells L, u.oneCell' = true := by
  intro u hu
  simp only [itCells, List.mem_flatMap, List.mem_cons, List.not_mem_nil, or_false] at hu
  obtain ⟨x, _, rfl | rfl | rfl⟩ := hu <;> rfl

/-- A row of items of the call's own comes back. -/
def RetOwn (w : World) (L : List It) (e : Ending) (w' : World) : Prop :=
  ∃ v, e = .returned v ∧ w'.ownsRow w.heap.size 31 3 v L.length (itCells L) ∧ Below w.heap.size w w'

theorem Clone_pos (b o n c : Nat) (L : List It) (w : World) (h : Sl w b o n L) (hn : n ≤ 1000000) : Calls Try.prog 85 #[.slice (some ⟨b, o, none⟩) n c] w (RetOwn w L) := by
  have HS := Lib.hid h
  have HL := Lib.hid h.len
  clear h
  obtain ⟨i0, hi, hz0, hz1, hz2⟩ := info_parts info31
  have hnil := fun W => Lib.run_eql_slice_nil (P := Try.prog) W 22 31 (some ⟨b, o, none⟩) n c 0 0 Try.underlying22
  simp only [Option.isNone_some] at hnil
  go_enter Try.func85, Try.ntmps85
  go_wp2_with (at_builtin; refine wpList_append_own _ rfl _ _ 22 rfl w.heap.size 31 i0 (.agg #[.int .i64 0, .int .i64 0, .int .i64 0]) 3 24 Try.underlying22 hi hz0 hz1 hz2 rfl (by decide) _ _ _ rfl (World.ownsRow_made _ #[] 0 (Nat.le_refl _) (Nat.zero_le _) rfl) ⟨b, o, none⟩ n c (itCells L) rfl (by rw [itCells_length, ← HL.out]) (itCells_cells (HS.out.below ((Below.refl _ _).alloc (Nat.le_refl _) _) (Nat.le_refl _))) (itCells_one L) (by unfold maxLen; omega) (by omega) (by simp) ?_)
  intro v' w5 hown5 hg5 _
  have hb5 : Below w.heap.size w w5 := ((Below.refl _ _).alloc (Nat.le_refl _) _).grown hg5 (by simp) (fun q hq => by cases hq; exact Nat.le_refl _)
  have HO5 : Hid (w5.ownsRow w.heap.size 31 3 v' n (itCells L)) := Lib.hid (by simpa using hown5)
  clear hown5 hg5
  go_wp2_with fail
  go_ret
  exact ⟨_, rfl, by rw [← HL.out]; exact HO5.out, hb5⟩

theorem Clone_zero (ad : Addr) (c : Nat) (w : World) : Calls Try.prog 85 #[.slice (some ad) 0 c] w (RetOwn w []) := by
  obtain ⟨i0, hi, hz0, hz1, hz2⟩ := info_parts info31
  have hnil := fun W => Lib.run_eql_slice_nil (P := Try.prog) W 22 31 (some ad) 0 c 0 0 Try.underlying22
  simp only [Option.isNone_some] at hnil
  go_enter Try.func85, Try.ntmps85
  go_wp2_with (at_builtin; refine wpList_append_own _ rfl _ _ 22 rfl w.heap.size 31 i0 (.agg #[.int .i64 0, .int .i64 0, .int .i64 0]) 3 24 Try.underlying22 hi hz0 hz1 hz2 rfl (by decide) _ _ _ rfl (World.ownsRow_made _ #[] 0 (Nat.le_refl _) (Nat.zero_le _) rfl) ad 0 c [] rfl rfl (fun j u hu => by simp at hu) (fun u hu => by simp at hu) (by unfold maxLen; omega) (by omega) (by simp) ?_)
  intro v' w5 hown5 hg5 _
  have hb5 : Below w.heap.size w w5 := ((Below.refl _ _).alloc (Nat.le_refl _) _).grown hg5 (by simp) (fun q hq => by cases hq; exact Nat.le_refl _)
  have HO5 : Hid (w5.ownsRow w.heap.size 31 3 v' 0 (itCells [])) := Lib.hid (by simpa [itCells] using hown5)
  clear hown5 hg5
  go_wp2_with fail
  go_ret
  exact ⟨_, rfl, HO5.out, hb5⟩

theorem Clone_nil (n c : Nat) (w : World) : Calls Try.prog 85 #[.slice none n c] w (RetOwn w []) := by
  have hnil := fun W => Lib.run_eql_slice_nil (P := Try.prog) W 22 31 none n c 0 0 Try.underlying22
  simp only [Option.isNone_none] at hnil
  go_enter Try.func85, Try.ntmps85
  go_wp2_with fail
  go_ret
  exact ⟨_, rfl, World.ownsRow_nil _ _ _ _, Below.refl _ _⟩

theorem Clone_c (a : Option Addr) (n c : Nat) (L : List It) (w : World) (h : SlO w a n L) (hn : n ≤ 1000000) : Calls Try.prog 85 #[.slice a n c] w (RetOwn w L) := by
  obtain ⟨h1, h2⟩ := h
  rcases h2 with h2 | ⟨b, o, rfl, hS⟩
  · have hL : L = [] := List.eq_nil_of_length_eq_zero (by omega)
    subst hL
    subst h2
    cases a with
    | none => exact Clone_nil _ _ _
    | some ad => exact Clone_zero _ _ _
  · exact Clone_pos _ _ _ _ _ _ hS hn

/-- What is owned is a slice value over a row, if there is something in it. -/
theorem own_open {w : World} {base : Nat} {e : TypeId} {size : Nat} {v : Value} {n : Nat} {xs : List Value} (h : w.ownsRow base e size v n xs) (hn : n ≠ 0) :
    ∃ g cap, v = .slice (some ⟨g, 0, none⟩) n cap ∧ base ≤ g ∧ g < w.heap.size ∧ w.ownsRow base e size (.slice (some ⟨g, 0, none⟩) n cap) n xs := by
  have h0 := h
  obtain ⟨h1, h2⟩ := h
  rcases h2 with ⟨_, h3⟩ | ⟨g, cap, cur, hv, hg, hh, _⟩
  · exact absurd h3 hn
  · exact ⟨g, cap, hv, hg, (Array.getElem?_eq_some_iff.1 hh).1, hv ▸ h0⟩
theorem own_mono {w : World} {base base' : Nat} {e : TypeId} {size : Nat} {v : Value} {n : Nat} {xs : List Value} (h : w.ownsRow base e size v n xs) (hb : base' ≤ base) : w.ownsRow base' e size v n xs := by
  obtain ⟨q1, q2⟩ := h
  refine ⟨q1, ?_⟩
  rcases q2 with q2 | ⟨g', cap', cur, hv', hg', rest⟩
  · exact .inl q2
  · exact .inr ⟨g', cap', cur, hv', Nat.le_trans hb hg', rest⟩

theorem itCells_set : ∀ (L : List It) (i : Nat) (x : It), i < L.length →
    ((((itCells L).set (i * 3) (.int .i64 x.u)).set (i * 3 + 1) (.int .i64 x.n)).set (i * 3 + 2) (.int .i64 x.d)) = itCells (L.set i x)
  | [], i, x, h => absurd h (by simp)
  | y :: L, 0, x, _ => by simp [itCells]
  | y :: L, i + 1, x, h => by
    have ih := itCells_set L i x (by simpa using h)
    have e : ∀ (l : List Value) (a b c u : Value) (k : Nat), (a :: b :: c :: l).set (k + 3) u = a :: b :: c :: l.set k u := fun l a b c u k => by simp
    have e1 : itCells (y :: L) = .int .i64 y.u :: .int .i64 y.n :: .int .i64 y.d :: itCells L := by simp [itCells]
    have e2 : itCells ((y :: L).set (i + 1) x) = .int .i64 y.u :: .int .i64 y.n :: .int .i64 y.d :: itCells (L.set i x) := by simp [itCells]
    rw [e1, e2, ← ih, show (i + 1) * 3 = i * 3 + 3 by omega, e, show i * 3 + 3 + 1 = (i * 3 + 1) + 3 by omega, e, show i * 3 + 3 + 2 = (i * 3 + 2) + 3 by omega, e]
theorem itCells_set12 (L : List It) (i : Nat) (n d : Int) (h : i < L.length) : ((itCells L).set (i * 3 + 1) (.int .i64 n)).set (i * 3 + 2) (.int .i64 d) = itCells (setR L i n d) := by
  obtain ⟨r0, r1, r2⟩ := itCells_at L i h
  unfold setR
  rw [← itCells_set L i _ h]
  congr 2
  apply List.ext_getElem?
  intro j
  by_cases hj : i * 3 = j
  · subst hj
    rw [List.getElem?_set_self (by rw [itCells_length]; omega), r0]
  · rw [List.getElem?_set_ne hj]

/-- A budget with a choice, its cost, and a truth come back. -/
def RetW (w : World) (L : List It) (cost : Int) (ok : Bool) (e : Ending) (w' : World) : Prop :=
  ∃ v, e = .returned (.tuple #[v, .int .i64 cost, .bool ok]) ∧ w'.ownsRow w.heap.size 31 3 v L.length (itCells L) ∧ Below w.heap.size w w'
def wtL (L : List It) (F : List Fx) (ch : List Int) : List It := if twB F ch = true then [] else wiL L F ch
def wtC (F : List Fx) (ch : List Int) : Int := if twB F ch = true then 0 else wcL F ch
theorem wt_tw {L : List It} {F : List Fx} {ch : List Int} (h : twB F ch = true) : wtL L F ch = [] ∧ wtC F ch = 0 := ⟨if_pos h, if_pos h⟩
theorem wt_ok {L : List It} {F : List Fx} {ch : List Int} (h : twB F ch = false) : wtL L F ch = wiL L F ch ∧ wtC F ch = wcL F ch := ⟨if_neg (by simp [h]), if_neg (by simp [h])⟩

theorem dup_no {F : List Fx} {ch : List Int} {k : Nat} (hs : scanJ (dupB F ch) ch.length 0 = scanJ (dupB F ch) (ch.length - k) k) (hk : k < ch.length) (hd : dupB F ch k = false) : scanJ (dupB F ch) ch.length 0 = scanJ (dupB F ch) (ch.length - (k + 1)) (k + 1) := by rw [hs, scan_no hk hd]
theorem dup_end {F : List Fx} {ch : List Int} {k : Nat} (hs : scanJ (dupB F ch) ch.length 0 = scanJ (dupB F ch) (ch.length - k) k) (hk : ¬ k < ch.length) : twB F ch = false := by unfold twB; rw [hs, scan_end hk]; rfl

theorem us_map_set (n : Nat) (F : List Fx) (ch : List Int) (k : Nat) : ((usK n F ch k).map Value.bool).set (ix F ch k) (.bool true) = (usK n F ch (k + 1)).map Value.bool := by
  rw [usK, List.map_set]
theorem us_map_at {n : Nat} {F : List Fx} {ch : List Int} {k : Nat} (hi : ix F ch k < n) : ((usK n F ch k).map Value.bool)[ix F ch k]? = some (.bool (dupB F ch k)) := by
  rw [← usK_dup hi, List.getElem?_map, List.getD_eq_getElem?_getD, List.getElem?_eq_getElem (by rw [usK_length]; exact hi)]
  rfl
theorem us_zero (n : Nat) (F : List Fx) (ch : List Int) : (usK n F ch 0).map Value.bool = List.replicate n (.bool false) := by simp [usK]

set_option maxRecDepth 100000 in
set_option maxHeartbeats 3200000 in
theorem with_c (a : Option Addr) (n c : Nat) (L : List It) (fa : Option Addr) (m fc : Nat) (F : List Fx) (ca : Option Addr) (p cc : Nat) (ch : List Int) (w : World) (h : SlO w a n L) (hf : FlO w fa m F) (hc : IsO w ca p ch) (hv : ValidF L F) (hr : inR F ch) (hp : p ≤ 1000) :
    Calls Try.prog 77 #[.slice a n c, .slice fa m fc, .slice ca p cc] w (RetW w (wtL L F ch) (wtC F ch) (!twB F ch)) := by
  have HV := Lib.hid hv
  have HR := Lib.hid hr
  have HLn := Lib.hid h.1
  have HFn := Lib.hid hf.1
  have HCn := Lib.hid hc.1
  have hn6 : n ≤ 6 := by have := h.1; have := hv.v.le; omega
  have hm8 : m ≤ 8 := by have := hf.1; have := hv.le; omega
  have TY : Hid (twB F ch = true → wtL L F ch = [] ∧ wtC F ch = 0) := Lib.hid wt_tw
  have TN : Hid (twB F ch = false → wtL L F ch = wiL L F ch ∧ wtC F ch = wcL F ch) := Lib.hid wt_ok
  have HTY := fun k => Lib.hid (tw_yes (F := F) (ch := ch) (k := k))
  have HTN := fun k => Lib.hid (dup_end (F := F) (ch := ch) (k := k))
  generalize twB F ch = tw at *
  generalize wtL L F ch = wl at *
  generalize wtC F ch = wc at *
  have HF := Lib.hid hf
  have HC := Lib.hid hc
  obtain ⟨i4, hi4, hz40, hz41, hz42⟩ := info_parts info4
  clear hf hc hv hr
  go_enter Try.func77, Try.ntmps77
  go_wp2_with fail
  refine (Clone_c _ _ _ _ _ h (by omega)).mono ?_
  rintro e w1 ⟨v9, rfl, hown1, hb1⟩
  rw [← HLn.out] at hown1
  have HO1 := Lib.hid hown1
  clear hown1 h
  go_wp2_with (refine wpList_make_full _ rfl _ _ 115 rfl w1.heap.size 4 i4 (.bool false) 1 Try.underlying115 hi4 hz40 hz41 .i64 .i64 _ _ n rfl rfl rfl rfl (by rw [hz42]; omega) (by unfold maxLen; omega) (Nat.le_refl _) ?_)
  intro w2 hown2 hg2
  have hb2 : Below w1.heap.size w1 w2 := (Below.refl _ _).grown hg2 (Nat.le_refl _) (fun q hq => by cases hq)
  have HO2 : Hid (w2.ownsRow w1.heap.size 4 1 (.slice (some ⟨w1.heap.size, 0, none⟩) n n) n ((usK n F ch 0).map Value.bool)) := Lib.hid (by
    have h : w2.ownsRow w1.heap.size 4 1 (.slice (some ⟨w1.heap.size, 0, none⟩) n n) n (madeCells #[.bool false] n).toList := by simpa using hown2
    rw [toList_madeCells_one] at h
    rw [us_zero]; exact h)
  have B2 : Below w.heap.size w w2 := btr hb1 hb2
  have HO1' := Lib.hid (ownsRow_below HO1.out hb2)
  have H12 : Hid (w.heap.size ≤ w1.heap.size) := Lib.hid hb1.size
  have HNE0 : Hid (∀ b, v9.ownBlock = some b → b ≠ w1.heap.size) := Lib.hid (fun b hb => by have := HO1.out.lt b hb; omega)
  clear hown2 hg2 hb2 hb1 HO1
  have hg10 : w.heap.size ≤ w1.heap.size := H12.out
  generalize w1.heap.size = g10 at *
  go_wp2_with fail
  go_loopw [11, 22] (fun u i wr => ∃ k : Nat, k ≤ p ∧ u = .int .i64 (wcK F ch k) ∧ i = .int .i64 k ∧ Below w.heap.size w wr ∧ wr.ownsRow w.heap.size 31 3 v9 n (itCells (wiK L F ch k)) ∧ wr.ownsRow g10 4 1 (.slice (some ⟨g10, 0, none⟩) n n) n ((usK n F ch k).map Value.bool) ∧ scanJ (dupB F ch) ch.length 0 = scanJ (dupB F ch) (ch.length - k) k ∧ (∀ b, v9.ownBlock = some b → b ≠ g10)) (fun _ i _ => p - (intOf i).toNat)
  case atStart => exact ⟨0, Nat.zero_le _, rfl, rfl, B2, HO1'.out, HO2.out, rfl, HNE0.out⟩
  case round =>
    obtain ⟨k, hk, rfl, rfl, hb, ho9, ho10, hsc, hne⟩ := hrel
    have O9 := Lib.hid ho9
    have O10 := Lib.hid ho10
    have HSC := Lib.hid hsc
    have HNE := Lib.hid hne
    clear ho9 ho10 hsc hne HO1' HO2 HNE0
    obtain ⟨wc1, wc2⟩ := wcK_bd HV.out HR.out k (by have := HCn.out; omega)
    by_cases hlt : k < p
    · obtain ⟨bc, oc, rfl, hC⟩ : ∃ b o, ca = some ⟨b, o, none⟩ ∧ Is w b o p ch := by
        rcases HC.out.2 with h' | h'
        · omega
        · exact h'
      have hkc : k < ch.length := by have := HCn.out; omega
      obtain ⟨⟨x1, x2⟩, ⟨x3, x4, x5, x6⟩, ⟨x7, x8⟩, x9⟩ := HV.out.bd HR.out hkc
      obtain ⟨y1, y2⟩ := HR.out k hkc
      have HST := Lib.hid (wcK_step F ch k)
      obtain ⟨bf, of, rfl, hF⟩ : ∃ b o, fa = some ⟨b, o, none⟩ ∧ Fl w b o m F := by
        rcases HF.out.2 with h' | h'
        · have := HFn.out; omega
        · exact h'
      have c0 := (hC.below hb (Nat.le_refl _)).c0 k hlt
      obtain ⟨q, hq⟩ := Int.eq_ofNat_of_zero_le y1
      have hqm : q < m := by have := HFn.out; omega
      have hF' := hF.below hb (Nat.le_refl _)
      have f0 := hF'.c0 q hqm
      have f1 := hF'.c1 q hqm
      have f2 := hF'.c2 q hqm
      have f3 := hF'.c3 q hqm
      have hfk : fk F ch k = fx F q := by unfold fk; rw [hq]; rfl
      rw [← hfk] at f0 f1 f2 f3
      rw [x1] at f0
      rw [hq] at c0
      have hjn : ix F ch k < n := by have := HLn.out; omega
      obtain ⟨g, cap, rfl, hg, hgw, ho9⟩ := own_open O9.out (by omega)
      have hgne : g ≠ g10 := HNE.out g rfl
      have r0 : wr.cell? ⟨g10, ix F ch k, none⟩ = some (.bool (dupB F ch k)) := by rw [O10.out.cellAt _ (by omega)]; exact us_map_at hjn
      have r1 : wr.frozen? ⟨g10, ix F ch k, none⟩ = false := O10.out.frozenAt _
      have hM : ix F ch k < (wiK L F ch k).length := by rw [wiK_length]; have := HLn.out; omega
      obtain ⟨e0, e1, e2⟩ := itCells_at (wiK L F ch k) (ix F ch k) hM
      have s1 : wr.cell? ⟨g, ix F ch k * 3 + 1, none⟩ = some (.int .i64 (at_ (wiK L F ch k) (ix F ch k)).n) := by rw [ho9.cellAt _ (by omega)]; exact e1
      have s2 : wr.cell? ⟨g, ix F ch k * 3 + 2, none⟩ = some (.int .i64 (at_ (wiK L F ch k) (ix F ch k)).d) := by rw [ho9.cellAt _ (by omega)]; exact e2
      have s3 : wr.frozen? ⟨g, ix F ch k * 3 + 1, none⟩ = false := ho9.frozenAt _
      have s4 : wr.frozen? ⟨g, ix F ch k * 3 + 2, none⟩ = false := ho9.frozenAt _
      have hgw0 : g10 < wr.heap.size := (O10.out.lt g10 rfl).2
      cases hdp : dupB F ch k
      · have HDN := Lib.hid (dup_no HSC.out hkc hdp)
        have O9' := Lib.hid ho9
        rw [hdp] at r0
        have hwg : wr.heap.size ≠ g10 := by omega
        have hwg2 : wr.heap.size ≠ g := by omega
        have hg9 : w.heap.size ≤ g := hg
        clear hdp HTY HTN TN TY O9 ho9 hC hF' hF hfk hq y1 y2 e0 e1 e2 x9
        go_wp2_with fail
        refine ⟨⟨k + 1, by omega, by rw [HST.out], by go_num, (((hb.setCell hg10 _).setCell hg9 _).setCell hg9 _).alloc (by simpa [World.setCell] using hb.size) _, ?_, ?_, HDN.out, HNE.out⟩, by simp [intOf]; omega⟩
        · rw [wiK, ← itCells_set12 _ _ _ _ hM]
          exact ((((ownsRow_setCell_other O9'.out (by simp [Value.ownBlock]; omega) _).stored _ _).1.stored _ _).1).alloc _
        · rw [← us_map_set]
          exact (ownsRow_setCell_other (ownsRow_setCell_other (O10.out.stored _ _).1 (by simp [Value.ownBlock]; omega) _) (by simp [Value.ownBlock]; omega) _).alloc _
      · have HTW := Lib.hid ((HTY k).out hkc hdp)
        have R := Lib.hid (TY.out HTW.out)
        rw [hdp] at r0
        clear hdp HTY HTN TN TY O9 ho9 hC hF' hF hfk hq y1 y2 s1 s2 s3 s4 e0 e1 e2 hM x9
        go_wp2_with fail
        go_ret3
        refine ⟨.slice none 0 0, by rw [R.out.2, HTW.out]; rfl, ?_, hb.alloc hb.size _⟩
        rw [R.out.1]
        exact World.ownsRow_nil _ _ _ _
    · have hd : ¬ (k : Int) < p := by omega
      have hkp : Hid (k = ch.length) := Lib.hid (by have := HCn.out; omega)
      have HE := Lib.hid ((HTN k).out HSC.out (by have := hkp.out; omega))
      have R := Lib.hid (TN.out HE.out)
      clear hlt
      go_wp2_with fail
      go_ret3
      refine ⟨v9, ?_, ?_, hb⟩
      · rw [R.out.2, HE.out, hkp.out]; rfl
      · rw [R.out.1]
        unfold wiL
        rw [wiK_length, ← HLn.out, ← hkp.out]
        exact O9.out

theorem run_append_none {P : Program} {w : World} (base : Nat) (t ty e : TypeId) (i : TypeInfo) (size c : Nat) (ht : P.underlying t = some (.slice e)) (hi : P.info? e = some i)
    (v : Value) (n : Nat) (xs : List Value) (hown : w.ownsRow base e size v n xs) :
    (Builtin.append_ #[t, t] ty #[v, .slice none 0 c]).run P w = .ok v w := by
  rcases hown.2 with ⟨rfl, rfl⟩ | ⟨g, cap, cur, rfl, _, _, hnc, _⟩
  · simp [Builtin.append_, run_underlying ht, sizeOf, typeInfo, hi, Builtin.lenOf, Builtin.firstCells]
  · simp [Builtin.append_, run_underlying ht, sizeOf, typeInfo, hi, Builtin.lenOf, Builtin.firstCells, hnc, storeCells]

theorem grown_refl (w : World) (row : Option Nat) : w.grownBy w row := ⟨rfl, rfl, rfl, Nat.le_refl _, fun _ _ _ => rfl⟩

/-- append(own, l...), l a slice of items, empty or nil or not. -/
theorem wpList_append_its {w : World} {ops : Array Oper} {rest : List Oper} {o : Oper} {a : Act} {Q : Exit → Act → World → Prop} (hgd : o.guard = none) (s x : Operand)
    (ho : o.op = .call { callee := .builtin .append, args := #[s, x], argTypes := #[22, 22] })
    (base : Nat) (v : Value) (n : Nat) (xs : List Value) (hs : a.eval s = v) (hown : w.ownsRow base 31 3 v n xs)
    (a' : Option Addr) (m c : Nat) (L : List It) (hx : a.eval x = .slice a' m c) (hL : SlO w a' m L) (hbd : n + m ≤ 1000000) (hbase : base ≤ w.heap.size)
    (h : ∀ v' w', w'.ownsRow base 31 3 v' (n + m) (xs ++ itCells L) → w.grownBy w' v.ownBlock → wpList Try.prog ops Q rest (a.put o.dst v') w') : wpList Try.prog ops Q (o :: rest) a w := by
  obtain ⟨i0, hi, hz0, hz1, hz2⟩ := info_parts info31
  obtain ⟨hl, h2⟩ := hL
  rcases h2 with h2 | ⟨b, of, rfl, hS⟩
  · subst h2
    have hL0 : L = [] := List.eq_nil_of_length_eq_zero hl.symm
    subst hL0
    cases a' with
    | none =>
      refine wpList_plain hgd fun K hK => ?_
      have hrun := run_append_none (P := Try.prog) (w := w) base 22 o.type 31 i0 3 c Try.underlying22 hi v n xs hown
      unfold Oper.wp
      simp [execOp, ho, resolve, invoke, builtin, hs, hx, hrun, Result.andThen]
      exact hK _ _ (h v w (by simpa [itCells] using hown) (grown_refl _ _))
    | some ad =>
      exact wpList_append_own _ hgd s x 22 ho base 31 i0 (.agg #[.int .i64 0, .int .i64 0, .int .i64 0]) 3 24 Try.underlying22 hi hz0 hz1 hz2 rfl (by decide) v n xs hs hown ad 0 c [] hx rfl (fun j u hu => by simp at hu) (fun u hu => by simp at hu) (by unfold maxLen; omega) (by omega) hbase (fun v' w' h1 h2 _ => h v' w' (by simpa [itCells] using h1) h2)
  · exact wpList_append_own _ hgd s x 22 ho base 31 i0 (.agg #[.int .i64 0, .int .i64 0, .int .i64 0]) 3 24 Try.underlying22 hi hz0 hz1 hz2 rfl (by decide) v n xs hs hown ⟨b, of, none⟩ m c (itCells L) hx (by rw [itCells_length, ← hl]) (itCells_cells hS) (itCells_one L) (by unfold maxLen; omega) (by omega) hbase (fun v' w' h1 h2 _ => h v' w' h1 h2)

/-- A budget with a choice and its cost come back. -/
def RetRW (w : World) (L : List It) (cost : Int) (e : Ending) (w' : World) : Prop :=
  ∃ v, e = .returned (.tuple #[v, .int .i64 cost]) ∧ w'.ownsRow w.heap.size 31 3 v L.length (itCells L) ∧ Below w.heap.size w w'

set_option maxRecDepth 100000 in
set_option maxHeartbeats 3200000 in
theorem rwith_c (a : Option Addr) (n c : Nat) (L : List It) (fa : Option Addr) (m fc : Nat) (F : List Fx) (ca : Option Addr) (p cc : Nat) (ch : List Int) (w : World) (h : SlO w a n L) (hf : FlO w fa m F) (hc : IsO w ca p ch) (hv : ValidF L F) (hr : inR F ch) (hp : p ≤ 1000) :
    Calls Try.prog 87 #[.slice a n c, .slice fa m fc, .slice ca p cc] w (RetRW w (wiL L F ch) (wcL F ch)) := by
  have HV := Lib.hid hv
  have HR := Lib.hid hr
  have HLn := Lib.hid h.1
  have HFn := Lib.hid hf.1
  have HCn := Lib.hid hc.1
  have hn6 : n ≤ 6 := by have := h.1; have := hv.v.le; omega
  have hm8 : m ≤ 8 := by have := hf.1; have := hv.le; omega
  have HF := Lib.hid hf
  have HC := Lib.hid hc
  have HH := Lib.hid h
  clear hf hc hv hr h
  go_enter Try.func87, Try.ntmps87
  go_wp2_with (at_builtin; refine wpList_append_its rfl _ _ rfl w.heap.size _ 0 [] rfl (World.ownsRow_made _ #[] 0 (Nat.le_refl _) (Nat.zero_le _) rfl) a n c L rfl (HH.out.below ((Below.refl _ _).alloc (Nat.le_refl _) _) (Nat.le_refl _)) (by omega) (by simp) ?_)
  intro v8 w1 hown1 hg1
  have B1 : Below w.heap.size w w1 := ((Below.refl _ _).alloc (Nat.le_refl _) _).grown hg1 (by simp) (fun q hq => by cases hq; exact Nat.le_refl _)
  have HO1 : Hid (w1.ownsRow w.heap.size 31 3 v8 n (itCells L)) := Lib.hid (by simpa using hown1)
  clear hown1 hg1
  go_wp2_with fail
  go_loopw [9, 10] (fun u i wr => ∃ k : Nat, k ≤ p ∧ u = .int .i64 (wcK F ch k) ∧ i = .int .i64 k ∧ Below w.heap.size w wr ∧ wr.ownsRow w.heap.size 31 3 v8 n (itCells (wiK L F ch k))) (fun _ i _ => p - (intOf i).toNat)
  case atStart => exact ⟨0, Nat.zero_le _, rfl, rfl, B1, HO1.out⟩
  case round =>
    obtain ⟨k, hk, rfl, rfl, hb, ho9⟩ := hrel
    have O9 := Lib.hid ho9
    clear ho9 HO1 B1
    obtain ⟨wc1, wc2⟩ := wcK_bd HV.out HR.out k (by have := HCn.out; omega)
    by_cases hlt : k < p
    · obtain ⟨bc, oc, rfl, hC⟩ : ∃ b o, ca = some ⟨b, o, none⟩ ∧ Is w b o p ch := by
        rcases HC.out.2 with h' | h'
        · omega
        · exact h'
      have hkc : k < ch.length := by have := HCn.out; omega
      obtain ⟨⟨x1, x2⟩, ⟨x3, x4, x5, x6⟩, ⟨x7, x8⟩, x9⟩ := HV.out.bd HR.out hkc
      obtain ⟨y1, y2⟩ := HR.out k hkc
      have HST := Lib.hid (wcK_step F ch k)
      obtain ⟨bf, of, rfl, hF⟩ : ∃ b o, fa = some ⟨b, o, none⟩ ∧ Fl w b o m F := by
        rcases HF.out.2 with h' | h'
        · have := HFn.out; omega
        · exact h'
      have c0 := (hC.below hb (Nat.le_refl _)).c0 k hlt
      obtain ⟨q, hq⟩ := Int.eq_ofNat_of_zero_le y1
      have hqm : q < m := by have := HFn.out; omega
      have hF' := hF.below hb (Nat.le_refl _)
      have f0 := hF'.c0 q hqm
      have f1 := hF'.c1 q hqm
      have f2 := hF'.c2 q hqm
      have f3 := hF'.c3 q hqm
      have hfk : fk F ch k = fx F q := by unfold fk; rw [hq]; rfl
      rw [← hfk] at f0 f1 f2 f3
      rw [x1] at f0
      rw [hq] at c0
      have hjn : ix F ch k < n := by have := HLn.out; omega
      obtain ⟨g, cap, rfl, hg, hgw, ho9⟩ := own_open O9.out (by omega)
      have hM : ix F ch k < (wiK L F ch k).length := by rw [wiK_length]; have := HLn.out; omega
      obtain ⟨e0, e1, e2⟩ := itCells_at (wiK L F ch k) (ix F ch k) hM
      have s1 : wr.cell? ⟨g, ix F ch k * 3 + 1, none⟩ = some (.int .i64 (at_ (wiK L F ch k) (ix F ch k)).n) := by rw [ho9.cellAt _ (by omega)]; exact e1
      have s2 : wr.cell? ⟨g, ix F ch k * 3 + 2, none⟩ = some (.int .i64 (at_ (wiK L F ch k) (ix F ch k)).d) := by rw [ho9.cellAt _ (by omega)]; exact e2
      have s3 : wr.frozen? ⟨g, ix F ch k * 3 + 1, none⟩ = false := ho9.frozenAt _
      have s4 : wr.frozen? ⟨g, ix F ch k * 3 + 2, none⟩ = false := ho9.frozenAt _
      have O9' := Lib.hid ho9
      have hwg2 : wr.heap.size ≠ g := by omega
      have hg9 : w.heap.size ≤ g := hg
      clear O9 ho9 hC hF' hF hfk hq y1 y2 e0 e1 e2 x9
      go_wp2_with fail
      refine ⟨⟨k + 1, by omega, by rw [HST.out], by go_num, ((hb.setCell hg9 _).setCell hg9 _).alloc (by simpa [World.setCell] using hb.size) _, ?_⟩, by simp [intOf]; omega⟩
      rw [wiK, ← itCells_set12 _ _ _ _ hM]
      exact (((O9'.out.stored _ _).1.stored _ _).1).alloc _
    · have hd : ¬ (k : Int) < p := by omega
      have hkp : Hid (k = ch.length) := Lib.hid (by have := HCn.out; omega)
      clear hlt
      go_wp2_with fail
      go_ret2
      refine ⟨v8, ?_, ?_, hb⟩
      · rw [hkp.out]; rfl
      · unfold wiL
        rw [wiK_length, ← HLn.out, ← hkp.out]
        exact O9.out
end Go.Proofs.Ytplindidegmlkaa
