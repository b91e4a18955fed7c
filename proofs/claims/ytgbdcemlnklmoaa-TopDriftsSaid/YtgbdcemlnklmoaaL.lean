/- Without: Delete, without, less, Without of the program and of the reference: contracts. -/
import Derived.Test.YtgbdcemlnklmoaaH
import Derived.Test.YtgbdcemlnklmoaaE
import Derived.Shelf.RegionOpenPlain
import Derived.Deep.RegionLaw
import Derived.Lib.EndianMore
import Derived.WalkSmall
namespace Go.Proofs.Ytgbdcemlnklmoaa
open Go.RowKit Go.Sort

theorem step_own {P : Program} {ops : Array Oper} {o : Oper} {a : Act} {w : World} {K : Act → World → Prop} {Q : Exit → Act → World → Prop} {E : Prop} (hgd : o.guard = none) (s x : Operand) (t : TypeId)
    (ho : o.op = .call { callee := .builtin .append, args := #[s, x], argTypes := #[t, t] })
    (base : Nat) (e : TypeId) (i : TypeInfo) (z : Value) (size bytes : Nat) (ht : P.underlying t = some (.slice e)) (hi : P.info? e = some i) (hz : i.zero = some z)
    (hsize : i.size = size) (hby : i.bytes = bytes) (hzs : z.cells.size = size) (hsz : 0 < size)
    (v : Value) (n : Nat) (xs : List Value) (hs : a.eval s = v) (hown : w.ownsRow base e size v n xs)
    (ad : Addr) (m c : Nat) (news : List Value) (hx : a.eval x = .slice (some ad) m c) (hl : news.length = m * size) (hnews : ∀ j u, news[j]? = some u → w.cell? (ad.add j) = some u) (h1 : ∀ u ∈ news, u.oneCell' = true)
    (h63 : n + m ≤ maxLen) (hbytes : (n + m) * bytes ≤ 140737488355328) (hbase : base ≤ w.heap.size)
    (h : ∀ v' w', w'.ownsRow base e size v' (n + m) (xs ++ news) → w.grownBy w' v.ownBlock → K (a.put o.dst v') w') :
    if Region.wanted o (yielded ops a.tmps) = true then Oper.wp P o a w K Q else E := by
  have hw : Region.wanted o (yielded ops a.tmps) = true := by simp [Region.wanted, hgd]
  rw [if_pos hw]
  exact wp_append_own w s x t ho base e i z size bytes ht hi hz hsize hby hzs hsz v n xs hs hown ad m c news hx hl hnews h1 h63 hbytes hbase fun v' w' h2 h3 _ => h v' w' h2 h3

/-- Many cells of an own row are stored. -/
theorem ownsRow_setCells {base : Nat} {e : TypeId} {size g n cap : Nat} : ∀ (vs : List Value) (o : Nat) (xs : List Value) (w : World), w.ownsRow base e size (.slice (some ⟨g, 0, none⟩) n cap) n xs → o + vs.length ≤ xs.length →
    (w.setCells g o vs).ownsRow base e size (.slice (some ⟨g, 0, none⟩) n cap) n (xs.take o ++ vs ++ xs.drop (o + vs.length))
  | [], o, xs, w, h, _ => by
    have : xs.take o ++ [] ++ xs.drop (o + 0) = xs := by simp
    rw [List.length_nil, this]
    exact h
  | v :: vs, o, xs, w, h, hle => by
    rw [List.length_cons] at hle
    have h1 := (h.stored o v).1
    have h2 := ownsRow_setCells vs (o + 1) (xs.set o v) _ h1 (by rw [List.length_set]; omega)
    have e : (xs.set o v).take (o + 1) ++ vs ++ (xs.set o v).drop (o + 1 + vs.length) = xs.take o ++ v :: vs ++ xs.drop (o + (v :: vs).length) := by
      rw [List.drop_set_of_lt (by omega), List.length_cons, show o + (vs.length + 1) = o + 1 + vs.length by omega]
      congr 1
      rw [List.take_add_one, List.take_set_of_le (Nat.le_refl _), List.getElem?_set_self (by omega)]
      simp
    rw [e] at h2
    exact h2

theorem rdCells_app (A B : List Rd) : rdCells (A ++ B) = rdCells A ++ rdCells B := by simp [rdCells]
theorem rdCells_take (L : List Rd) (k : Nat) (h : k ≤ L.length) : (rdCells L).take (k * 3) = rdCells (L.take k) := by
  have e : rdCells L = rdCells (L.take k) ++ rdCells (L.drop k) := by rw [← rdCells_app, List.take_append_drop]
  rw [e, List.take_left' (by rw [rdCells_length, List.length_take]; omega)]
theorem rdCells_drop (L : List Rd) (k : Nat) (h : k ≤ L.length) : (rdCells L).drop (k * 3) = rdCells (L.drop k) := by
  have e : rdCells L = rdCells (L.take k) ++ rdCells (L.drop k) := by rw [← rdCells_app, List.take_append_drop]
  rw [e, List.drop_left' (by rw [rdCells_length, List.length_take]; omega)]

theorem isSome_at {l : List Value} {j : Nat} (h : j < l.length) : (l[j]?).isSome = true := by rw [List.getElem?_eq_getElem h]; rfl

/-- clear of one reading. -/
theorem run_clear3 (w : World) (ty : TypeId) (b o c : Nat) (hc : ∀ j, j < 3 → (w.cell? ⟨b, o + j, none⟩).isSome = true) (hf : ∀ j, j < 3 → w.frozen? ⟨b, o + j, none⟩ = false) :
    (Builtin.clear_ #[22] ty #[.slice (some ⟨b, o, none⟩) 1 c]).run Try.prog w = .ok (.tuple #[]) (w.setCells b o [.int .i64 0, .int .i64 0, .int .i64 0]) := by
  have hst := run_storeCells_cells (P := Try.prog) b o [.int .i64 0, .int .i64 0, .int .i64 0] 0 w (by simpa using hc) (by simpa using hf) (by intro v hv'; simp at hv'; subst hv'; rfl)
  simp only [Nat.add_zero] at hst
  have hzc : (Builtin.zeroCells (Value.cells (.agg #[.int .i64 0, .int .i64 0, .int .i64 0])) 1).toList = [.int .i64 0, .int .i64 0, .int .i64 0] := by kernel_rfl
  have hv : (zeroValue 54).run Try.prog w = .ok (.agg #[.int .i64 0, .int .i64 0, .int .i64 0]) w := by
    obtain ⟨i0, hi, hz0, _, _⟩ := info_parts info54
    simp [zeroValue, typeInfo, hi, hz0]
  simp [Builtin.clear_, run_underlying Try.underlying22, hv, hzc, hst]

set_option maxRecDepth 100000 in
set_option maxHeartbeats 3200000 in
theorem Delete_c (g n cap k j B : Nat) (L : List Rd) (w : World) (h : w.ownsRow B 54 3 (.slice (some ⟨g, 0, none⟩) n cap) n (rdCells L)) (hn : n ≤ 1000) (hk : k < n) (hj : j = k + 1) :
    Calls Try.prog 90 #[.slice (some ⟨g, 0, none⟩) n cap, .int .i64 k, .int .i64 j] w fun e w' => e = .returned (.slice (some ⟨g, 0, none⟩) (n - 1) cap) ∧ w'.ownsRow B 54 3 (.slice (some ⟨g, 0, none⟩) (n - 1) cap) (n - 1) (rdCells (lessL L k)) ∧ Below B w w' := by
  obtain ⟨i0, hi, hz0, hz1, hz2⟩ := info_parts info54
  have hLn : L.length = n := by have := h.1; rw [rdCells_length] at this; omega
  obtain ⟨hBg, hcap, hcm, hglt⟩ : B ≤ g ∧ n ≤ cap ∧ cap ≤ maxLen ∧ g < w.heap.size := by
    have := h.lt g rfl
    rcases h.2 with ⟨h', _⟩ | ⟨g', cap', cur, h', _, _, h5, h6, _⟩
    · cases h'
    · cases h'
      exact ⟨this.1, h5, h6, this.2⟩
  unfold maxLen at hcm
  obtain ⟨news, hnews⟩ : ∃ news, news = rdCells (L.drop j) := ⟨_, rfl⟩
  have hlen : news.length = (n - j) * 3 := by rw [hnews, rdCells_length, List.length_drop, hLn]
  obtain ⟨A, hA, hsrc⟩ : ∃ A : Addr, (if cap = j then some (⟨g, 0, none⟩ : Addr) else some ⟨g, j * 3, none⟩) = some A ∧ Hid (∀ t u, news[t]? = some u → w.drew.cell? (A.add t) = some u) := by
    by_cases hh : cap = j
    · refine ⟨⟨g, 0, none⟩, by simp [hh], fun t u hu => ?_⟩
      have h0 : news.length = 0 := by rw [hlen]; omega
      rw [List.length_eq_zero_iff.1 h0] at hu
      simp at hu
    · refine ⟨⟨g, j * 3, none⟩, by simp [hh], fun t u hu => ?_⟩
      have ht : t < (n - j) * 3 := by
        have := (List.getElem?_eq_some_iff.1 hu).1
        rwa [hlen] at this
      rw [Addr.add_lit]
      show w.cell? _ = _
      rw [h.cellAt _ (by omega), ← hu, hnews, ← rdCells_drop _ _ (by omega), List.getElem?_drop]
  have s1 : Hid (news.length = (n - j) * 3) := hlen
  have s2 : Hid (∀ u ∈ news, u.oneCell' = true) := by rw [hnews]; exact rdCells_one _
  have s3 : Hid (∀ t, t < news.length → (w.drew.cell? ⟨g, 0 + k * 3 + t, none⟩).isSome = true ∧ w.drew.frozen? ⟨g, 0 + k * 3 + t, none⟩ = false) := by
    intro t ht
    rw [hlen] at ht
    refine ⟨?_, h.frozenAt _⟩
    show (w.cell? _).isSome = true
    rw [h.cellAt _ (by omega)]
    exact isSome_at (by rw [rdCells_length, hLn]; omega)
  obtain ⟨W1, hW1⟩ : ∃ W1, W1 = w.drew.setCells g (0 + k * 3) news := ⟨_, rfl⟩
  have own1 : W1.ownsRow B 54 3 (.slice (some ⟨g, 0, none⟩) n cap) n (rdCells (lessL L k) ++ rdCells (L.drop (n - 1))) := by
    have := ownsRow_setCells news (k * 3) _ _ h.drew (by rw [hlen, rdCells_length, hLn]; omega)
    rw [hlen, show k * 3 + (n - j) * 3 = (n - 1) * 3 by omega, rdCells_take _ _ (by omega), rdCells_drop _ _ (by omega), hnews, ← rdCells_app] at this
    rw [hW1, Nat.zero_add, hnews]
    have e : lessL L k = L.take k ++ L.drop j := by rw [hj]; rfl
    rw [e]
    exact this
  have own2 := ownsRow_setCells [.int .i64 0, .int .i64 0, .int .i64 0] ((n - 1) * 3) _ _ own1 (by
    rw [List.length_append, rdCells_length, rdCells_length, List.length_drop, hLn, less_length (by omega), hLn]
    simp only [List.length_cons, List.length_nil]
    omega)
  have ll : (rdCells (lessL L k)).length = (n - 1) * 3 := by rw [rdCells_length, less_length (by omega), hLn]
  rw [List.take_left' ll, List.append_assoc] at own2
  have own3 := ownsRow_pop (n := n - 1) ll (by rw [show n - 1 + 1 = n by omega]; exact own2)
  have hcl : ∀ ty, (Builtin.clear_ #[22] ty #[.slice (some ⟨g, (n - 1) * 3, none⟩) 1 (cap - (n - 1))]).run Try.prog W1 = .ok (.tuple #[]) (W1.setCells g ((n - 1) * 3) [.int .i64 0, .int .i64 0, .int .i64 0]) :=
    fun ty => run_clear3 W1 ty g _ _ (fun t ht => by
      rw [own1.cellAt _ (by omega)]
      exact isSome_at (by rw [List.length_append, ll, rdCells_length, List.length_drop, hLn]; omega)) (fun t ht => own1.frozenAt _)
  have OUT : Hid ((W1.setCells g ((n - 1) * 3) [.int .i64 0, .int .i64 0, .int .i64 0]).ownsRow B 54 3 (.slice (some ⟨g, 0, none⟩) (n - 1) cap) (n - 1) (rdCells (lessL L k)) ∧ Below B w (W1.setCells g ((n - 1) * 3) [.int .i64 0, .int .i64 0, .int .i64 0])) :=
    ⟨own3, by
      have b1 : Below B w.drew W1 := by rw [hW1]; exact Go.Lib.below_setCells_w hBg _ _ _
      have b2 : Below B W1 (W1.setCells g ((n - 1) * 3) [.int .i64 0, .int .i64 0, .int .i64 0]) := Go.Lib.below_setCells_w hBg _ _ _
      exact Below.trans (Below.trans (Below.refl _ _).drew b1) b2⟩
  have hW : Hid (W1 = w.drew.setCells g (0 + k * 3) news) := hW1
  generalize W1.setCells g ((n - 1) * 3) [.int .i64 0, .int .i64 0, .int .i64 0] = W2 at *
  have hne : ((k : Int) == (j : Int)) = false := by simp; omega
  have hkj : k < j := by omega
  have hjn : j ≤ n := by omega
  have hq : n - (n - 1) = 1 := by omega
  have hnc : n - 1 ≤ n := by omega
  have hic : k ≤ cap := by omega
  have hjc : j ≤ cap := by omega
  have hkk : k + (n - j) = n - 1 := by omega
  clear own1 own2 own3 ll hW1 h hnews hlen hLn hj
  go_enter Try.func90, Try.ntmps90
  go_wp2_with fail
  go_region_law (refine step_append_room rfl (.tmp 22) (.tmp 25) 22 rfl 54 i0 3 Try.underlying22 hi hz1 g 0 k cap (by simp [Act.eval, Act.put]) A (n - j) (cap - j) news (by simp [Act.eval, Act.put]) s1.out hsrc.out s2.out (by omega) s3.out ?_; rw [← hW.out])
  go_wp2_with fail
  go_ret
  exact ⟨rfl, OUT.out.1, OUT.out.2⟩


/-- A row of readings of the call's own, shorter by one. -/
def RetLess (w : World) (L : List Rd) (k : Nat) (e : Ending) (w' : World) : Prop :=
  ∃ v, e = .returned v ∧ RdV w' w.heap.size v (lessL L k) ∧ Below w.heap.size w w'

set_option maxRecDepth 100000 in
set_option maxHeartbeats 1600000 in
theorem without_c (b o n c k : Nat) (L : List Rd) (w : World) (h : Sl w b o n L) (hn : n ≤ 1000) (hk : k < n) : Calls Try.prog 82 #[.slice (some ⟨b, o, none⟩) n c, .int .i64 k] w (RetLess w L k) := by
  have HS := Lib.hid h
  have hLn := Lib.hid h.len
  clear h
  go_enter Try.func82, Try.ntmps82
  go_wp2_with fail
  refine (Clone_c _ _ _ _ _ _ HS.out (by omega)).mono ?_
  rintro e w1 ⟨v, rfl, hown, hb1⟩
  rw [← hLn.out] at hown
  obtain ⟨g, cap, rfl, hg⟩ : ∃ g cap, v = .slice (some ⟨g, 0, none⟩) n cap ∧ w.heap.size ≤ g := by
    rcases hown.2 with ⟨_, h0⟩ | ⟨g, cap, cur, h', hb, _⟩
    · omega
    · exact ⟨g, cap, h', hb⟩
  have HO := Lib.hid hown
  clear hown
  go_wp2_with fail
  rw [show (k : Int) + 1 = ((k + 1 : Nat) : Int) by omega]
  refine (Delete_c _ _ _ _ _ w.heap.size L _ HO.out hn hk rfl).mono ?_
  rintro e w2 ⟨rfl, hown2, hb2⟩
  go_wp2_with fail
  go_ret
  exact ⟨_, rfl, ownsRow_rd hown2, hb1.trans hb2⟩


set_option maxRecDepth 100000 in
set_option maxHeartbeats 3200000 in
theorem less_c (b o n c k : Nat) (L : List Rd) (w : World) (h : Sl w b o n L) (hn : n ≤ 1000) (hc : n ≤ c) (hk : k < n) : Calls Try.prog 83 #[.slice (some ⟨b, o, none⟩) n c, .int .i64 k] w (RetLess w L k) := by
  obtain ⟨i0, hi, hz0, hz1, hz2⟩ := info_parts info54
  have hLn := h.len
  obtain ⟨j, hj⟩ : ∃ j, j = k + 1 := ⟨_, rfl⟩
  have hblt : b < w.heap.size := by
    exact block_lt_of_cell (h.c0 0 (by omega))
  have hcells := rdCells_cells h
  have C1 : Hid (∀ t u, (rdCells (L.take k))[t]? = some u → w.cell? ((⟨b, o, none⟩ : Addr).add t) = some u) := by
    intro t u hu
    rw [← rdCells_take _ _ (by omega)] at hu
    exact hcells t u (by
      have h1 := (List.getElem?_eq_some_iff.1 hu).1
      rw [List.length_take] at h1
      rw [List.getElem?_take_of_lt (by omega)] at hu
      exact hu)
  obtain ⟨A, hA, hAb, C2⟩ : ∃ A : Addr, (if c = j then some (⟨b, o, none⟩ : Addr) else some ⟨b, o + j * 3, none⟩) = some A ∧ (∀ q, (A.add q).block = b) ∧ Hid (∀ t u, (rdCells (L.drop j))[t]? = some u → w.cell? (A.add t) = some u) := by
    by_cases hh : c = j
    · refine ⟨⟨b, o, none⟩, by simp [hh], fun q => by rw [Addr.add_lit], fun t u hu => ?_⟩
      have h0 : (rdCells (L.drop j)).length = 0 := by rw [rdCells_length, List.length_drop]; omega
      rw [List.length_eq_zero_iff.1 h0] at hu
      simp at hu
    · refine ⟨⟨b, o + j * 3, none⟩, by simp [hh], fun q => by rw [Addr.add_lit], fun t u hu => ?_⟩
      rw [← rdCells_drop _ _ (by omega), List.getElem?_drop] at hu
      have := hcells _ _ hu
      rw [Addr.add_lit] at this ⊢
      rw [← this, show o + j * 3 + t = o + (j * 3 + t) by omega]
  have hwr : IntKind.i64.wrap ((k : Int) + 1) = (j : Int) := by rw [show (k : Int) + 1 = (j : Int) by omega]; exact wrap_small _ (by omega) (by omega)
  have hjn : j ≤ n := by omega
  have hjc : j ≤ c := by omega
  have hkc : k ≤ c := by omega
  have L1 : Hid ((rdCells (L.take k)).length = k * 3) := by rw [rdCells_length, List.length_take]; show _ = _; omega
  have HM : Hid (k + (n - j) ≤ 1000) := Lib.hid (by omega)
  have L2 : Hid ((rdCells (L.drop j)).length = (n - j) * 3) := by rw [rdCells_length, List.length_drop, hLn]; rfl
  have HL : Hid (rdCells (L.take k) ++ rdCells (L.drop j) = rdCells (lessL L k)) := by rw [← rdCells_app, hj]; exact rfl
  clear h hcells hLn hj
  go_enter Try.func83, Try.ntmps83
  go_wp2_with fail
  go_region_law (first | (refine step_own rfl (.tmp 5) (.tmp 8) 22 rfl w.heap.size 54 i0 (.agg #[.int .i64 0, .int .i64 0, .int .i64 0]) 3 24 Try.underlying22 hi hz0 hz1 hz2 rfl (by decide) (.slice (some ⟨w.heap.size, 0, none⟩) 0 0) 0 _ (by simp [Act.eval]) (World.ownsRow_lit w.drew #[] 0 (Nat.le_refl _) (by decide) rfl) ⟨b, o, none⟩ k c (rdCells (L.take k)) (by simp [Act.eval]) L1.out (fun t u hu => cellB ((Below.refl w.heap.size w).drew.alloc (Nat.le_refl _) _) (C1.out t u hu)) (rdCells_one _) (by have := HM.out; unfold maxLen; omega) (by have := HM.out; omega) (((Below.refl w.heap.size w).drew.alloc (Nat.le_refl _) _)).size ?_; intro v1 w1 hown1 hg1; have hb1 := ((Below.refl w.heap.size w).drew.alloc (Nat.le_refl _) _).grown hg1 (by simp) (fun q hq => by cases hq; exact Nat.le_refl _)) | (refine step_own rfl (.tmp 9) (.tmp 13) 22 rfl w.heap.size 54 i0 (.agg #[.int .i64 0, .int .i64 0, .int .i64 0]) 3 24 Try.underlying22 hi hz0 hz1 hz2 rfl (by decide) v1 (0 + k) _ (by simp [Act.eval]) (hown1) A (n - j) (c - j) (rdCells (L.drop j)) (by simp [Act.eval]) L2.out (fun t u hu => cellB hb1 (C2.out t u hu)) (rdCells_one _) (by have := HM.out; unfold maxLen; omega) (by have := HM.out; omega) (hb1).size ?_; intro v2 w2 hown2 hg2; have hb2 := hb1.grown hg2 hb1.size (fun q hq => (hown1.lt q hq).1)))
  go_wp2_with fail
  go_ret
  rw [List.nil_append, HL.out] at hown2
  exact ⟨_, rfl, ownsRow_rd hown2, hb2⟩


theorem num_one {L : List Rd} {i : Int} (h0 : vErr L = 0) : numErr L [i] = if inN L i = true then 0 else 4 := by
  have hs : (scanJ (badN L.length [i]) [i].length 0).isSome = !(inN L i) := by
    simp only [List.length_cons, List.length_nil]
    unfold scanJ scanJ badN inN gi
    simp only [List.getD_cons_zero]
    cases inB i 0 ((L.length : Int) - 1) <;> rfl
  unfold numErr
  rw [if_neg (by simp [h0]), hs]
  cases inN L i <;> rfl
theorem num_v {L : List Rd} {xs : List Int} (h : ¬ vErr L = 0) : numErr L xs = vErr L := by simp [numErr, h]
theorem wo_v {L : List Rd} {k : Int} (h : ¬ vErr L = 0) : woErr L k = vErr L ∧ woR L k = [] := by
  have e : woErr L k = vErr L := by simp [woErr, h]
  exact ⟨e, by unfold woR; rw [e, if_neg h]⟩
theorem wo_4 {L : List Rd} {k : Int} (h : vErr L = 0) (h2 : inN L k = false) : woErr L k = 4 ∧ woR L k = [] := by
  have h3 : ¬ inB k 0 ((L.length : Int) - 1) = true := by unfold inN at h2; rw [h2]; decide
  have e : woErr L k = 4 := by unfold woErr; rw [if_neg (by simp [h]), if_pos h3]
  exact ⟨e, by unfold woR; rw [e]; rfl⟩
theorem wo_8 {L : List Rd} {k : Int} (h : vErr L = 0) (h2 : inN L k = true) (h1 : L.length = 1) : woErr L k = 8 ∧ woR L k = [] := by
  have h3 : ¬ ¬ inB k 0 ((L.length : Int) - 1) = true := by unfold inN at h2; simp [h2]
  have e : woErr L k = 8 := by unfold woErr; rw [if_neg (by simp [h]), if_neg h3, if_pos h1]
  exact ⟨e, by unfold woR; rw [e]; rfl⟩
theorem wo_0 {L : List Rd} {k : Int} (h : vErr L = 0) (h2 : inN L k = true) (h1 : ¬ L.length = 1) : woErr L k = 0 ∧ woR L k = lessL L k.toNat := by
  have h3 : ¬ ¬ inB k 0 ((L.length : Int) - 1) = true := by unfold inN at h2; simp [h2]
  have e : woErr L k = 0 := by unfold woErr; rw [if_neg (by simp [h]), if_neg h3, if_neg h1]
  exact ⟨e, by unfold woR; rw [if_pos e]⟩


set_option maxRecDepth 100000 in
set_option maxHeartbeats 3200000 in
theorem Without_c (a : Option Addr) (n c : Nat) (L : List Rd) (k : Int) (w : World) (h : SlO w a n L) (hn : n ≤ 9223372036854775807) : Calls Try.prog 49 #[.slice a n c, .int .i64 k] w (RetRd w (woR L k) (woErr L k)) := by
  have hA : Below w.heap.size w (w.alloc (.cells #[.int .i64 k] 3)) := (Below.refl _ _).alloc (Nat.le_refl _) _
  have HA := Lib.hid hA
  have hI : IsO (w.alloc (.cells #[.int .i64 k] 3)) (some ⟨w.heap.size, 0, none⟩) 1 [k] := IsO.of ⟨rfl, by simp, fun q hq => by
    have hq' : q = 0 := by omega
    subst hq'
    simp [go_sem, gi]⟩
  have HI := Lib.hid hI
  clear hA hI
  by_cases h0 : vErr L = 0
  · have hv0 : (vErr L != 0) = false := by rw [h0]; rfl
    have hLn := h.1
    have hpos := (vErr_zero.1 h0).pos
    have hle := (vErr_zero.1 h0).le
    obtain ⟨b, o, rfl, hS⟩ : ∃ b o, a = some ⟨b, o, none⟩ ∧ Sl w b o n L := by
      rcases h.2 with h' | h'
      · omega
      · exact h'
    have HS := Lib.hid hS
    clear hS
    cases h2 : inN L k
    · obtain ⟨q1, q2⟩ := wo_4 h0 h2
      rw [q1, q2]
      have hnn : (numErr L [k] != 0) = true := by rw [num_one h0, h2]; rfl
      have HN : Hid (numErr L [k] = 4) := Lib.hid (by rw [num_one h0, h2]; rfl)
      clear q1 q2 h2 h0 hLn
      go_enter Try.func49, Try.ntmps49
      go_wp2_with fail
      refine (numbered_c _ _ _ _ _ _ _ _ _ (h.below HA.out (Nat.le_refl _)) HI.out hn (by omega)).mono ?_
      rintro e w1 ⟨rfl, hb1⟩
      have B1 : Below w.heap.size w w1 := btr HA.out hb1
      go_wp2_with fail
      go_ret2
      exact ⟨_, by rw [HN.out]; rfl, RdV.nil _ _, B1⟩
    · have hnn : (numErr L [k] != 0) = false := by rw [num_one h0, h2]; rfl
      by_cases h1 : n = 1
      · obtain ⟨q1, q2⟩ := wo_8 h0 h2 (by omega)
        rw [q1, q2]
        have d1 : ((n : Int) == 1) = true := by simp [h1]
        clear q1 q2 h2 h0 hLn h1
        go_enter Try.func49, Try.ntmps49
        go_wp2_with fail
        refine (numbered_c _ _ _ _ _ _ _ _ _ (h.below HA.out (Nat.le_refl _)) HI.out hn (by omega)).mono ?_
        rintro e w1 ⟨rfl, hb1⟩
        have B1 : Below w.heap.size w w1 := btr HA.out hb1
        go_wp2_with fail
        go_ret2
        exact ⟨_, rfl, RdV.nil _ _, B1⟩
      · obtain ⟨q1, q2⟩ := wo_0 h0 h2 (by omega)
        rw [q1, q2]
        have d1 : ((n : Int) == 1) = false := by simp; omega
        obtain ⟨hk0, hk1⟩ : 0 ≤ k ∧ k < n := by
          unfold inN at h2
          rw [inB_true] at h2
          omega
        obtain ⟨kk, rfl⟩ : ∃ kk : Nat, k = kk := ⟨k.toNat, by omega⟩
        rw [Int.toNat_natCast]
        clear q1 q2 h2 h0 h1
        have HLn := Lib.hid hLn
        clear hLn
        go_enter Try.func49, Try.ntmps49
        go_wp2_with fail
        refine (numbered_c _ _ _ _ _ _ _ _ _ (h.below HA.out (Nat.le_refl _)) HI.out hn (by omega)).mono ?_
        rintro e w1 ⟨rfl, hb1⟩
        have B1 : Below w.heap.size w w1 := btr HA.out hb1
        go_wp2_with fail
        have hsz := B1.size
        refine (without_c _ _ _ _ kk L _ (HS.out.below B1 (Nat.le_refl _)) (by have := HLn.out; omega) (by omega)).mono ?_
        rintro e w3 ⟨v, rfl, hv, hb3⟩
        obtain ⟨a3, c3, hvv, hs3, lc3, lm3, hge⟩ := hv
        rw [hvv]
        clear hvv
        go_wp2_with fail
        go_ret2
        exact ⟨_, rfl, ⟨a3, c3, rfl, hs3, lc3, lm3, fun x hx => Nat.le_trans hsz (hge x hx)⟩, btr B1 hb3⟩
  · have hv0 : (vErr L != 0) = true := by simpa using h0
    obtain ⟨q1, q2⟩ := wo_v (k := k) h0
    rw [q1, q2]
    have HN := Lib.hid (num_v (xs := [k]) h0)
    have hnn : (numErr L [k] != 0) = true := by rw [HN.out]; exact hv0
    clear q1 q2 h0
    go_enter Try.func49, Try.ntmps49
    go_wp2_with fail
    refine (numbered_c _ _ _ _ _ _ _ _ _ (h.below HA.out (Nat.le_refl _)) HI.out hn (by omega)).mono ?_
    rintro e w1 ⟨rfl, hb1⟩
    have B1 : Below w.heap.size w w1 := btr HA.out hb1
    go_wp2_with fail
    go_ret2
    exact ⟨_, by rw [HN.out]; rfl, RdV.nil _ _, B1⟩


set_option maxRecDepth 100000 in
set_option maxHeartbeats 3200000 in
theorem rWithout_c (a : Option Addr) (n c : Nat) (L : List Rd) (k : Int) (w : World) (h : SlO w a n L) (hc : n ≤ c) (hn : n ≤ 9223372036854775807) : Calls Try.prog 50 #[.slice a n c, .int .i64 k] w (RetRd w (woR L k) (woErr L k)) := by
  by_cases h0 : vErr L = 0
  · have hv0 : (vErr L != 0) = false := by rw [h0]; rfl
    have hLn := h.1
    have hpos := (vErr_zero.1 h0).pos
    have hle := (vErr_zero.1 h0).le
    obtain ⟨b, o, rfl, hS⟩ : ∃ b o, a = some ⟨b, o, none⟩ ∧ Sl w b o n L := by
      rcases h.2 with h' | h'
      · omega
      · exact h'
    have HS := Lib.hid hS
    clear hS
    cases h2 : inN L k
    · obtain ⟨q1, q2⟩ := wo_4 h0 h2
      rw [q1, q2]
      have hin : inB k 0 ((n : Int) - 1) = false := by rw [hLn]; exact h2
      clear q1 q2 h2 h0 hLn
      go_enter Try.func50, Try.ntmps50
      go_wp2_with fail
      refine (rvalidate_c _ _ _ _ _ h).mono ?_
      rintro e w1 ⟨rfl, hb1⟩
      have B1 : Below w.heap.size w w1 := hb1
      go_wp2_with fail
      refine (rwithin_c _ _ _ _).mono ?_
      rintro e w2 ⟨rfl, rfl⟩
      simp only [hin]
      go_wp2_with fail
      go_ret2
      exact ⟨_, rfl, RdV.nil _ _, B1⟩
    · have hin : inB k 0 ((n : Int) - 1) = true := by rw [hLn]; exact h2
      by_cases h1 : n = 1
      · obtain ⟨q1, q2⟩ := wo_8 h0 h2 (by omega)
        rw [q1, q2]
        have d1 : ((n : Int) == 1) = true := by simp [h1]
        clear q1 q2 h2 h0 hLn h1
        go_enter Try.func50, Try.ntmps50
        go_wp2_with fail
        refine (rvalidate_c _ _ _ _ _ h).mono ?_
        rintro e w1 ⟨rfl, hb1⟩
        have B1 : Below w.heap.size w w1 := hb1
        go_wp2_with fail
        refine (rwithin_c _ _ _ _).mono ?_
        rintro e w2 ⟨rfl, rfl⟩
        simp only [hin]
        go_wp2_with fail
        go_ret2
        exact ⟨_, rfl, RdV.nil _ _, B1⟩
      · obtain ⟨q1, q2⟩ := wo_0 h0 h2 (by omega)
        rw [q1, q2]
        have d1 : ((n : Int) == 1) = false := by simp; omega
        obtain ⟨hk0, hk1⟩ : 0 ≤ k ∧ k < n := by
          unfold inN at h2
          rw [inB_true] at h2
          omega
        obtain ⟨kk, rfl⟩ : ∃ kk : Nat, k = kk := ⟨k.toNat, by omega⟩
        rw [Int.toNat_natCast]
        clear q1 q2 h2 h0 h1
        have HLn := Lib.hid hLn
        clear hLn
        go_enter Try.func50, Try.ntmps50
        go_wp2_with fail
        refine (rvalidate_c _ _ _ _ _ h).mono ?_
        rintro e w1 ⟨rfl, hb1⟩
        have B1 : Below w.heap.size w w1 := hb1
        go_wp2_with fail
        refine (rwithin_c _ _ _ _).mono ?_
        rintro e w2 ⟨rfl, rfl⟩
        simp only [hin]
        go_wp2_with fail
        have hsz := B1.size
        refine (less_c _ _ _ _ kk L _ (HS.out.below B1 (Nat.le_refl _)) (by have := HLn.out; omega) hc (by omega)).mono ?_
        rintro e w3 ⟨v, rfl, hv, hb3⟩
        obtain ⟨a3, c3, hvv, hs3, lc3, lm3, hge⟩ := hv
        rw [hvv]
        clear hvv
        go_wp2_with fail
        go_ret2
        exact ⟨_, rfl, ⟨a3, c3, rfl, hs3, lc3, lm3, fun x hx => Nat.le_trans hsz (hge x hx)⟩, btr B1 hb3⟩
  · have hv0 : (vErr L != 0) = true := by simpa using h0
    obtain ⟨q1, q2⟩ := wo_v (k := k) h0
    rw [q1, q2]
    clear q1 q2 h0
    go_enter Try.func50, Try.ntmps50
    go_wp2_with fail
    refine (rvalidate_c _ _ _ _ _ h).mono ?_
    rintro e w1 ⟨rfl, hb1⟩
    have B1 : Below w.heap.size w w1 := hb1
    go_wp2_with fail
    go_ret2
    exact ⟨_, rfl, RdV.nil _ _, B1⟩

end Go.Proofs.Ytgbdcemlnklmoaa
