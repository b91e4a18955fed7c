/- Tight: all (a map), tight of the program and of the reference: contracts. -/
import Derived.Test.YtgbdcemlnklmoaaMath6
import Derived.Test.YtgbdcemlnklmoaaN
import Derived.Test.YtgbdcemlnklmoaaH
import Derived.Test.YtgbdcemlnklmoaaF
import Derived.Maps.Own
import Derived.Maps.OwnSet
import Derived.Maps.OwnOps
import Derived.Maps.Views
namespace Go.Proofs.Ytgbdcemlnklmoaa
open Go.RowKit Go.Sort Go.Maps

def pairD (a b : Int) : DataW Unit := .agg [.lit (.int .i64 a), .lit (.int .i64 b)]
def R2 (v : Value) : Option (DataW Unit × List MemPlace) :=
  match v with
  | .agg cs => match cs.toList with
    | [.int .i64 a, .int .i64 b] => some (pairD a b, [])
    | _ => none
  | _ => none
theorem R2_mk (a b : Int) : R2 (.agg #[.int .i64 a, .int .i64 b]) = some (pairD a b, []) := rfl
theorem R2_inv {v : Value} {a b : Int} {ps : List MemPlace} (h : R2 v = some (pairD a b, ps)) : v = .agg #[.int .i64 a, .int .i64 b] := by
  unfold R2 at h
  split at h
  · rename_i cs
    split at h
    · rename_i x y e
      simp [pairD] at h
      obtain ⟨⟨rfl, rfl⟩, _⟩ := h
      rw [← Array.toArray_toList (xs := cs), e]
    · cases h
  · cases h

theorem key_wf {t : Int} (h0 : 0 ≤ t) (h1 : t ≤ 1000) : (Lit.int .i64 t).wf = true := by
  have h := wrap64_wf t
  rw [show wrap64 t = t by unfold wrap64; omega] at h
  exact h

theorem map_below {H : Type} {w w' : World} {P : Program} {k : TypeId} {R : Value → Option (DataW H × List MemPlace)} {b n : Nat} {D : DataW H} (h : w.ownsMap P k R b n D) (hb : Below w.heap.size w w') : w'.ownsMap P k R b n D :=
  h.kept (row := none) ⟨hb.os, hb.tape, hb.output, hb.size, fun i hi _ => hb.block i hi⟩ (by simp)

def Has (L : List Rd) (r : Int) (k : Nat) (D : DataW Unit) : Prop := ∀ i, i < k → ∀ z, D.atKey (.int .i64 (at_ L i).t) z = pairD (loB L r (at_ L i).t) (hiB L r (at_ L i).t)

theorem Has.step {L : List Rd} {r : Int} {k : Nat} {D : DataW Unit} (hv : Valid L) (hk : k < L.length) (hm : IsMap D) (h : Has L r k D) : Has L r (k + 1) (D.put (.int .i64 (at_ L k).t) (pairD (loB L r (at_ L k).t) (hiB L r (at_ L k).t))) := by
  intro i hi z
  rcases Nat.lt_or_ge i k with h1 | h1
  · have hne := hv.lt i k h1 hk
    rw [atKey_put_other (fun e => by injection e with _ e2; omega)]
    exact h i h1 z
  · obtain rfl : i = k := by omega
    exact atKey_put_same hm (by simp [WideAt.IsKeyLit]) _ _

def RetAll (w : World) (L : List Rd) (r : Int) (e : Ending) (w' : World) : Prop :=
  ∃ b D, e = .returned (.map (some b)) ∧ w.heap.size ≤ b ∧ w'.ownsMap Try.prog 3 R2 b L.length D ∧ Has L r L.length D ∧ Below w.heap.size w w'

set_option maxRecDepth 100000 in
set_option maxHeartbeats 3200000 in
theorem all_c (b o n c : Nat) (L : List Rd) (r : Int) (w : World) (hS : Sl w b o n L) (hc : n ≤ c) (hm : c ≤ maxLen) (hv : Valid L) (hr : 0 ≤ r) (hr9 : r ≤ 9) :
    Calls Try.prog 85 #[.slice (some ⟨b, o, none⟩) n c, .int .i64 r] w (RetAll w L r) := by
  have hmm := @run_makeMap Try.prog
  have HLn := Lib.hid hS.len
  have hn8 : n ≤ 8 := by have := hv.le; have := hS.len; omega
  have HV := Lib.hid hv
  have HS := Lib.hid hS
  have HB0 : Hid (Below w.heap.size w (w.alloc (.map #[] 0))) := (Below.refl _ _).alloc (Nat.le_refl _) _
  have HO0 : Hid ((w.alloc (.map #[] 0)).ownsMap Try.prog 3 R2 w.heap.size 0 (.map [])) := World.ownsMap_made _ _ _ _
  clear hS hv
  go_enter Try.func85, Try.ntmps85
  go_wp2_with fail
  go_loopw [13] (fun i wr => ∃ (k : Nat) (D : DataW Unit), k ≤ n ∧ i = .int .i64 k ∧ Below w.heap.size w wr ∧ wr.ownsMap Try.prog 3 R2 w.heap.size k D ∧ Has L r k D) (fun i _ => n - (intOf i).toNat)
  case atStart => exact ⟨0, _, Nat.zero_le _, rfl, HB0.out, HO0.out, fun i hi => absurd hi (by omega)⟩
  case round =>
    obtain ⟨k, D, hk, rfl, hb, hown, hh⟩ := hrel
    have HO := Lib.hid hown
    have HH := Lib.hid hh
    clear hown hh
    by_cases hlt : k < n
    · have hkL : k < L.length := by have := HLn.out; omega
      have hS' := HS.out.below hb (Nat.le_refl _)
      have c0 := hS'.c0 k hlt
      have c1 := hS'.c1 k hlt
      have c2 := hS'.c2 k hlt
      obtain ⟨⟨a1, a2⟩, _, _⟩ := HV.out.bd hkL
      clear hS'
      have hb1 : Below w.heap.size w (wr.alloc (.cells #[.int .i64 (at_ L k).t, .int .i64 (at_ L k).lo, .int .i64 (at_ L k).hi] 54)) := hb.alloc hb.size _
      have HO1 := Lib.hid (HO.out.alloc (.cells #[.int .i64 (at_ L k).t, .int .i64 (at_ L k).lo, .int .i64 (at_ L k).hi] 54))
      have x0 : (wr.alloc (.cells #[.int .i64 (at_ L k).t, .int .i64 (at_ L k).lo, .int .i64 (at_ L k).hi] 54)).cell? ⟨wr.heap.size, 0, none⟩ = some (.int .i64 (at_ L k).t) := by simp [go_sem]
      go_wp2_with fail
      generalize wr.alloc (.cells #[.int .i64 (at_ L k).t, .int .i64 (at_ L k).lo, .int .i64 (at_ L k).hi] 54) = w2 at *
      refine (bounds_c _ _ _ _ _ _ _ _ (HS.out.below hb1 (Nat.le_refl _)) hc hm HV.out hr hr9 a1 (by omega)).mono ?_
      rintro e w3 ⟨rfl, hb3⟩
      have HO3 := Lib.hid (map_below HO1.out hb3)
      have y0 := cellB hb3 x0
      have hb13 := btr hb1 hb3
      have HK := Lib.hid (keyOf_int_mk (P := Try.prog) Try.underlying3 (key_wf a1 a2))
      clear x0 c0 c1 c2 hb3 hb1
      go_wp2_with (at_mapUpdate; refine wpList_mapUpdate_own _ rfl _ _ _ 86 rfl 3 57 (int_keyed Try.underlying3) Try.underlying86 R2 w.heap.size k D rfl HO3.out (by unfold maxLen; omega) _ _ _ rfl rfl HK.out _ [] (R2_mk _ _) ?_; intro w4 hown4 hg4)
      have hb4 := hb13.grown hg4 hb13.size (fun q hq => by cases hq; exact Nat.le_refl _)
      refine ⟨⟨k + 1, _, by omega, by go_num, hb4, hown4, ?_⟩, by simp [intOf]; omega⟩
      have := HH.out.step HV.out hkL HO1.out.isMap
      unfold loB hiB at this
      rw [← HLn.out] at this
      exact this
    · have hkn : k = n := by omega
      have hd : ¬ (k : Int) < n := by omega
      have HK := Lib.hid hkn
      clear hlt hkn
      go_wp2_with fail
      go_ret
      refine ⟨w.heap.size, D, rfl, Nat.le_refl _, ?_, ?_, hb⟩
      · rw [← HLn.out, ← HK.out]; exact HO.out
      · rw [← HLn.out, ← HK.out]; exact HH.out


theorem zero57 (w : World) : (zeroValue 57).run Try.prog w = .ok (.agg #[.int .i64 0, .int .i64 0]) w := by
  have h : (Try.prog.info? 57).map (fun i => (i.zero, i.size, i.bytes)) = some (some (.agg #[.int .i64 0, .int .i64 0]), 2, 16) := by kernel_rfl
  obtain ⟨i0, hi, hz0, _, _⟩ := info_parts h
  simp [zeroValue, typeInfo, hi, hz0]

theorem look_c {w : World} {b n k : Nat} {D : DataW Unit} {L : List Rd} {r : Int} (h : w.ownsMap Try.prog 3 R2 b n D) (hh : Has L r n D) (hk : k < n) (h0 : 0 ≤ (at_ L k).t) (h1 : (at_ L k).t ≤ 1000) :
    (Instr.lookup 86 (.map (some b)) (.int .i64 (at_ L k).t) false).run Try.prog w = .ok (.agg #[.int .i64 (loB L r (at_ L k).t), .int .i64 (hiB L r (at_ L k).t)]) w := by
  obtain ⟨v, ps, hrun, hR⟩ := h.lookup (int_keyed Try.underlying3) Try.underlying86 (zero57 w) (R2_mk 0 0) (keyOf_int_mk (P := Try.prog) Try.underlying3 (key_wf h0 h1))
  rw [hh k hk] at hR
  rw [R2_inv hR] at hrun
  exact hrun

theorem idx57_0 (a b : Int) (w : World) : (Instr.index 57 (.agg #[.int .i64 a, .int .i64 b]) (.int .i64 0)).run Try.prog w = .ok (.int .i64 a) w := by
  simp [Instr.index, run_underlying Try.underlying57, asIntOf, part, go_sem]
theorem idx57_1 (a b : Int) (w : World) : (Instr.index 57 (.agg #[.int .i64 a, .int .i64 b]) (.int .i64 1)).run Try.prog w = .ok (.int .i64 b) w := by
  simp [Instr.index, run_underlying Try.underlying57, asIntOf, part, go_sem]

/-- A row of readings comes back. -/
def RetRow (w : World) (L : List Rd) (e : Ending) (w' : World) : Prop :=
  ∃ v, e = .returned v ∧ RdV w' w.heap.size v L ∧ Below w.heap.size w w'

theorem range_tight {L : List Rd} {r : Int} {n : Nat} (h : n = L.length) : (List.range n).map (fun i => tiF L r (at_ L i)) = tightL L r := by
  rw [h]; exact map_at L (tiF L r)

set_option maxRecDepth 100000 in
set_option maxHeartbeats 3200000 in
theorem tight_c (b o n c : Nat) (L : List Rd) (r : Int) (w : World) (hS : Sl w b o n L) (hc : n ≤ c) (hm : c ≤ maxLen) (hv : Valid L) (hr : 0 ≤ r) (hr9 : r ≤ 9) :
    Calls Try.prog 71 #[.slice (some ⟨b, o, none⟩) n c, .int .i64 r] w (RetRow w (tightL L r)) := by
  obtain ⟨i0, hi, hz0, hz1, hz2⟩ := info_parts info54
  have HLn := Lib.hid hS.len
  have hn8 : n ≤ 8 := by have := hv.le; have := hS.len; omega
  have HV := Lib.hid hv
  have HS := Lib.hid hS
  clear hS hv
  go_enter Try.func71, Try.ntmps71
  go_wp2_with fail
  refine (all_c _ _ _ _ _ _ _ HS.out hc hm HV.out hr hr9).mono ?_
  rintro e w2 ⟨bm, D, rfl, hbm, hmap, hhas, hb2⟩
  rw [← HLn.out] at hmap hhas
  have HM := Lib.hid hmap
  have HH := Lib.hid hhas
  clear hmap hhas
  go_wp2_with fail
  go_loopw [6, 14] (fun v i wr => ∃ k : Nat, k ≤ n ∧ i = .int .i64 k ∧ Below w2.heap.size w2 wr ∧ wr.ownsRow w2.heap.size 54 3 v k (rdCells ((List.range k).map (fun i => tiF L r (at_ L i))))) (fun _ i _ => n - (intOf i).toNat)
  case atStart => exact ⟨0, Nat.zero_le _, rfl, Below.refl _ _, World.ownsRow_nil _ _ _ _⟩
  case round =>
    obtain ⟨k, hk, rfl, hb, hown⟩ := hrel
    have HO := Lib.hid hown
    clear hown
    by_cases hlt : k < n
    · have hkL : k < L.length := by have := HLn.out; omega
      have hS' := HS.out.below (btr hb2 hb) (Nat.le_refl _)
      have c0 := hS'.c0 k hlt
      have c1 := hS'.c1 k hlt
      have c2 := hS'.c2 k hlt
      obtain ⟨⟨a1, a2⟩, _, _⟩ := HV.out.bd hkL
      clear hS'
      have hb1 : Below w2.heap.size w2 (wr.alloc (.cells #[.int .i64 (at_ L k).t, .int .i64 (at_ L k).lo, .int .i64 (at_ L k).hi] 54)) := hb.alloc hb.size _
      have HO1 := Lib.hid (HO.out.alloc (.cells #[.int .i64 (at_ L k).t, .int .i64 (at_ L k).lo, .int .i64 (at_ L k).hi] 54))
      have x0 : (wr.alloc (.cells #[.int .i64 (at_ L k).t, .int .i64 (at_ L k).lo, .int .i64 (at_ L k).hi] 54)).cell? ⟨wr.heap.size, 0, none⟩ = some (.int .i64 (at_ L k).t) := by simp [go_sem]
      have hi0 := idx57_0
      have hi1 := idx57_1
      have hlk := look_c (map_below HM.out hb1) HH.out hlt a1 a2
      go_wp2_with (at_builtin; refine wpList_append_own _ rfl _ _ 22 rfl w2.heap.size 54 i0 (.agg #[.int .i64 0, .int .i64 0, .int .i64 0]) 3 24 Try.underlying22 hi hz0 hz1 hz2 rfl (by decide) _ _ _ rfl (HO1.out.alloc _) ⟨wr.heap.size + 1, 0, none⟩ 1 1 [.int .i64 (at_ L k).t, .int .i64 (loB L r (at_ L k).t), .int .i64 (hiB L r (at_ L k).t)] rfl rfl (by have := cells3_new (wr.alloc (.cells #[.int .i64 (at_ L k).t, .int .i64 (at_ L k).lo, .int .i64 (at_ L k).hi] 54)) (.int .i64 (at_ L k).t) (.int .i64 (loB L r (at_ L k).t)) (.int .i64 (hiB L r (at_ L k).t)) 54; simpa using this) (one3 _ _ _) (by unfold maxLen; omega) (by omega) (by have := hb.size; simp; omega) ?_; intro v' w5 hown5 hg5 _)
      have hb5 : Below w2.heap.size w2 w5 := (hb1.alloc hb1.size _).grown hg5 (by have := hb.size; simp; omega) (fun q hq => (HO1.out.lt q hq).1)
      exact ⟨⟨k + 1, by omega, by go_num, hb5, by rw [snoc_own]; exact hown5⟩, by simp [intOf]; omega⟩
    · have HK : Hid (k = n) := Lib.hid (by omega)
      have hd : ¬ (k : Int) < n := by omega
      clear hlt
      go_wp2_with fail
      go_ret
      have := HO.out
      rw [HK.out, range_tight HLn.out] at this
      have hv := ownsRow_rd this
      obtain ⟨a3, c3, e3, s3, l3, m3, g3⟩ := hv
      exact ⟨_, rfl, ⟨a3, c3, e3, s3, l3, m3, fun x hx => Nat.le_trans hb2.size (g3 x hx)⟩, btr hb2 hb⟩


set_option maxRecDepth 100000 in
set_option maxHeartbeats 3200000 in
theorem rtight_c (b o n c : Nat) (L : List Rd) (r : Int) (w : World) (hS : Sl w b o n L) (hv : Valid L) (hr : 0 ≤ r) (hr9 : r ≤ 9) :
    Calls Try.prog 72 #[.slice (some ⟨b, o, none⟩) n c, .int .i64 r] w (RetRow w (tightL L r)) := by
  obtain ⟨i0, hi, hz0, hz1, hz2⟩ := info_parts info54
  have HLn := Lib.hid hS.len
  have hn8 : n ≤ 8 := by have := hv.le; have := hS.len; omega
  have HV := Lib.hid hv
  have HS := Lib.hid hS
  clear hS hv
  go_enter Try.func72, Try.ntmps72
  go_wp2_with fail
  go_loopw [5, 6] (fun v i wr => ∃ k : Nat, k ≤ n ∧ i = .int .i64 k ∧ Below w.heap.size w wr ∧ wr.ownsRow w.heap.size 54 3 v k (rdCells ((List.range k).map (fun i => tiF L r (at_ L i))))) (fun _ i _ => n - (intOf i).toNat)
  case atStart => exact ⟨0, Nat.zero_le _, rfl, Below.refl _ _, World.ownsRow_nil _ _ _ _⟩
  case round =>
    obtain ⟨k, hk, rfl, hb, hown⟩ := hrel
    have HO := Lib.hid hown
    clear hown
    by_cases hlt : k < n
    · have hkL : k < L.length := by have := HLn.out; omega
      have hS' := HS.out.below hb (Nat.le_refl _)
      have c0 := hS'.c0 k hlt
      obtain ⟨⟨a1, a2⟩, _, _⟩ := HV.out.bd hkL
      clear hS'
      go_wp2_with fail
      refine (rbounds_c _ _ _ _ _ _ _ _ (HS.out.below hb (Nat.le_refl _)) HV.out hr hr9 a1 (by omega)).mono ?_
      rintro e w3 ⟨rfl, hb3⟩
      have y0 := cellB hb3 c0
      have hb13 := btr hb hb3
      have HO3 := Lib.hid (ownsRow_below HO.out hb3)
      have HT : Hid (tiF L r (at_ L k) = ⟨(at_ L k).t, loP L r (at_ L k).t (n - 1), hiP L r (at_ L k).t (n - 1)⟩) := Lib.hid (by rw [HLn.out]; rfl)
      clear c0 hb3
      go_wp2_with (at_builtin; refine wpList_append_own _ rfl _ _ 22 rfl w.heap.size 54 i0 (.agg #[.int .i64 0, .int .i64 0, .int .i64 0]) 3 24 Try.underlying22 hi hz0 hz1 hz2 rfl (by decide) _ _ _ rfl (HO3.out.alloc _) ⟨w3.heap.size, 0, none⟩ 1 1 [.int .i64 (at_ L k).t, .int .i64 (loP L r (at_ L k).t (n - 1)), .int .i64 (hiP L r (at_ L k).t (n - 1))] rfl rfl (cells3_new _ _ _ _ _) (one3 _ _ _) (by unfold maxLen; omega) (by omega) (by have := hb13.size; simp; omega) ?_; intro v' w5 hown5 hg5 _)
      have hb5 : Below w.heap.size w w5 := (hb13.alloc hb13.size _).grown hg5 (by have := hb13.size; simp; omega) (fun q hq => (HO3.out.lt q hq).1)
      exact ⟨⟨k + 1, by omega, by go_num, hb5, by rw [snoc_own, HT.out]; exact hown5⟩, by simp [intOf]; omega⟩
    · have HK : Hid (k = n) := Lib.hid (by omega)
      have hd : ¬ (k : Int) < n := by omega
      clear hlt
      go_wp2_with fail
      go_ret
      have := HO.out
      rw [HK.out, range_tight HLn.out] at this
      exact ⟨_, rfl, ownsRow_rd this, hb⟩


/-- Readings, whether they agree, and an errno come back. -/
def RetTg (w : World) (L : List Rd) (r : Int) (e : Ending) (w' : World) : Prop :=
  ∃ v, e = .returned (.tuple #[v, .bool (aOk L r), .int .i64 (rErr L r)]) ∧ RdV w' w.heap.size v (tgR L r) ∧ Below w.heap.size w w'


set_option maxRecDepth 100000 in
set_option maxHeartbeats 1600000 in
theorem Tight_c (a : Option Addr) (n c : Nat) (L : List Rd) (r : Int) (w : World) (h : SlO w a n L) (hc : n ≤ c) (hm : c ≤ maxLen) : Calls Try.prog 37 #[.slice a n c, .int .i64 r] w (RetTg w L r) := by
  have _ := hc
  have _ := hm
  by_cases h0 : rErr L r = 0
  · have hv0 : (rErr L r != 0) = false := by rw [h0]; rfl
    obtain ⟨hv, hr, hr9⟩ := rErr_zero.1 h0
    obtain ⟨b, o, rfl, hS⟩ : ∃ b o, a = some ⟨b, o, none⟩ ∧ Sl w b o n L := by
      rcases h.2 with h' | h'
      · have := hv.pos; have := h.1; omega
      · exact h'
    have HV := Lib.hid hv
    have HS := Lib.hid hS
    clear hv hS
    by_cases ha : agreeB L r = true
    · have HQ : Hid (aOk L r = true ∧ rErr L r = 0 ∧ tgR L r = tightL L r) := by
        have e1 : aOk L r = true := aOk_true.2 ⟨h0, ha⟩
        exact ⟨e1, h0, if_pos e1⟩
      clear h0
      unfold RetTg
      rw [HQ.out.1, HQ.out.2.1, HQ.out.2.2]
      go_enter Try.func37, Try.ntmps37
      go_wp2_with fail
      refine (rated_c _ _ _ _ _ _ h).mono ?_
      rintro e w1 ⟨rfl, hb1⟩
      go_wp2_with fail
      refine (agree_c _ _ _ _ _ _ _ (HS.out.below hb1 (Nat.le_refl _)) HV.out hr hr9).mono ?_
      rintro e w2 ⟨rfl, hb2⟩
      rw [ha]
      go_wp2_with fail
      refine (tight_c _ _ _ _ _ _ _ (HS.out.below (btr hb1 hb2) (Nat.le_refl _)) hc hm HV.out hr hr9).mono ?_
      rintro e w3 ⟨v, rfl, hv3, hb3⟩
      obtain ⟨a3, c3, e3, s3, l3, m3, g3⟩ := hv3
      have hsz := (btr hb1 hb2).size
      rw [e3]
      go_wp2_with fail
      go_ret3
      exact ⟨_, rfl, ⟨a3, c3, rfl, s3, l3, m3, fun x hx => Nat.le_trans hsz (g3 x hx)⟩, btr (btr hb1 hb2) hb3⟩
    · replace ha : agreeB L r = false := by simpa using ha
      have HQ : Hid (aOk L r = false ∧ rErr L r = 0 ∧ tgR L r = []) := by
        have e1 : aOk L r = false := by simp [aOk, ha]
        exact ⟨e1, h0, by unfold tgR; rw [e1]; rfl⟩
      clear h0
      unfold RetTg
      rw [HQ.out.1, HQ.out.2.1, HQ.out.2.2]
      go_enter Try.func37, Try.ntmps37
      go_wp2_with fail
      refine (rated_c _ _ _ _ _ _ h).mono ?_
      rintro e w1 ⟨rfl, hb1⟩
      go_wp2_with fail
      refine (agree_c _ _ _ _ _ _ _ (HS.out.below hb1 (Nat.le_refl _)) HV.out hr hr9).mono ?_
      rintro e w2 ⟨rfl, hb2⟩
      rw [ha]
      go_wp2_with fail
      go_ret3
      exact ⟨_, rfl, RdV.nil _ _, btr hb1 hb2⟩
  · have hv0 : (rErr L r != 0) = true := by simpa using h0
    have HQ : Hid (aOk L r = false ∧ tgR L r = []) := by
      have e1 : aOk L r = false := by simp [aOk, h0]
      exact ⟨e1, by unfold tgR; rw [e1]; rfl⟩
    clear h0
    unfold RetTg
    rw [HQ.out.1, HQ.out.2]
    go_enter Try.func37, Try.ntmps37
    go_wp2_with fail
    refine (rated_c _ _ _ _ _ _ h).mono ?_
    rintro e w1 ⟨rfl, hb1⟩
    go_wp2_with fail
    go_ret3
    exact ⟨_, rfl, RdV.nil _ _, hb1⟩


set_option maxRecDepth 100000 in
set_option maxHeartbeats 1600000 in
theorem rTight_c (a : Option Addr) (n c : Nat) (L : List Rd) (r : Int) (w : World) (h : SlO w a n L) (hc : n ≤ c) (hm : c ≤ maxLen) : Calls Try.prog 38 #[.slice a n c, .int .i64 r] w (RetTg w L r) := by
  have _ := hc
  have _ := hm
  by_cases h0 : rErr L r = 0
  · have hv0 : (rErr L r != 0) = false := by rw [h0]; rfl
    obtain ⟨hv, hr, hr9⟩ := rErr_zero.1 h0
    obtain ⟨b, o, rfl, hS⟩ : ∃ b o, a = some ⟨b, o, none⟩ ∧ Sl w b o n L := by
      rcases h.2 with h' | h'
      · have := hv.pos; have := h.1; omega
      · exact h'
    have HV := Lib.hid hv
    have HS := Lib.hid hS
    clear hv hS
    by_cases ha : agreeB L r = true
    · have HQ : Hid (aOk L r = true ∧ rErr L r = 0 ∧ tgR L r = tightL L r) := by
        have e1 : aOk L r = true := aOk_true.2 ⟨h0, ha⟩
        exact ⟨e1, h0, if_pos e1⟩
      clear h0
      unfold RetTg
      rw [HQ.out.1, HQ.out.2.1, HQ.out.2.2]
      go_enter Try.func38, Try.ntmps38
      go_wp2_with fail
      refine (rrated_c _ _ _ _ _ _ h).mono ?_
      rintro e w1 ⟨rfl, hb1⟩
      go_wp2_with fail
      refine (ragree_c _ _ _ _ _ _ _ (HS.out.below hb1 (Nat.le_refl _)) HV.out hr hr9).mono ?_
      rintro e w2 ⟨rfl, hb2⟩
      rw [ha]
      go_wp2_with fail
      refine (rtight_c _ _ _ _ _ _ _ (HS.out.below (btr hb1 hb2) (Nat.le_refl _)) HV.out hr hr9).mono ?_
      rintro e w3 ⟨v, rfl, hv3, hb3⟩
      obtain ⟨a3, c3, e3, s3, l3, m3, g3⟩ := hv3
      have hsz := (btr hb1 hb2).size
      rw [e3]
      go_wp2_with fail
      go_ret3
      exact ⟨_, rfl, ⟨a3, c3, rfl, s3, l3, m3, fun x hx => Nat.le_trans hsz (g3 x hx)⟩, btr (btr hb1 hb2) hb3⟩
    · replace ha : agreeB L r = false := by simpa using ha
      have HQ : Hid (aOk L r = false ∧ rErr L r = 0 ∧ tgR L r = []) := by
        have e1 : aOk L r = false := by simp [aOk, ha]
        exact ⟨e1, h0, by unfold tgR; rw [e1]; rfl⟩
      clear h0
      unfold RetTg
      rw [HQ.out.1, HQ.out.2.1, HQ.out.2.2]
      go_enter Try.func38, Try.ntmps38
      go_wp2_with fail
      refine (rrated_c _ _ _ _ _ _ h).mono ?_
      rintro e w1 ⟨rfl, hb1⟩
      go_wp2_with fail
      refine (ragree_c _ _ _ _ _ _ _ (HS.out.below hb1 (Nat.le_refl _)) HV.out hr hr9).mono ?_
      rintro e w2 ⟨rfl, hb2⟩
      rw [ha]
      go_wp2_with fail
      go_ret3
      exact ⟨_, rfl, RdV.nil _ _, btr hb1 hb2⟩
  · have hv0 : (rErr L r != 0) = true := by simpa using h0
    have HQ : Hid (aOk L r = false ∧ tgR L r = []) := by
      have e1 : aOk L r = false := by simp [aOk, h0]
      exact ⟨e1, by unfold tgR; rw [e1]; rfl⟩
    clear h0
    unfold RetTg
    rw [HQ.out.1, HQ.out.2]
    go_enter Try.func38, Try.ntmps38
    go_wp2_with fail
    refine (rrated_c _ _ _ _ _ _ h).mono ?_
    rintro e w1 ⟨rfl, hb1⟩
    go_wp2_with fail
    go_ret3
    exact ⟨_, rfl, RdV.nil _ _, hb1⟩

end Go.Proofs.Ytgbdcemlnklmoaa
