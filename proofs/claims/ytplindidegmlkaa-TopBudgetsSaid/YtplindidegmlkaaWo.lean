/- Without of budget and of its reference. -/
import Derived.Test.YtplindidegmlkaaW
import Derived.Shelf.RegionOpenPlain
import Derived.Deep.RegionLaw
import Derived.Lib.EndianMore
import Derived.WalkSmall
namespace Go.Proofs.Ytplindidegmlkaa
open Go.RowKit Go.Sort

/-- Without the k-th. -/
def lessL (L : List It) (k : Nat) : List It := L.take k ++ L.drop (k + 1)
theorem less_length {L : List It} {k : Nat} (h : k < L.length) : (lessL L k).length = L.length - 1 := by
  simp [lessL]; omega
def woErr (L : List It) (k : Int) : Int := if vErr L ≠ 0 then vErr L else if inB k 0 ((L.length : Int) - 1) = true then 0 else 4
def woL (L : List It) (k : Int) : List It := if woErr L k = 0 then lessL L k.toNat else []
theorem wo_v {L : List It} {k : Int} (h : vErr L ≠ 0) : woErr L k = vErr L ∧ woL L k = [] := by
  have e : woErr L k = vErr L := if_pos h
  exact ⟨e, if_neg (by rw [e]; exact h)⟩
theorem wo_4 {L : List It} {k : Int} (h : vErr L = 0) (h2 : inB k 0 ((L.length : Int) - 1) = false) : woErr L k = 4 ∧ woL L k = [] := by
  have e : woErr L k = 4 := by unfold woErr; rw [if_neg (by simp [h]), if_neg (by simp [h2])]
  exact ⟨e, if_neg (by rw [e]; decide)⟩
theorem wo_0 {L : List It} {k : Int} (h : vErr L = 0) (h2 : inB k 0 ((L.length : Int) - 1) = true) : woErr L k = 0 ∧ woL L k = lessL L k.toNat := by
  have e : woErr L k = 0 := by unfold woErr; rw [if_neg (by simp [h]), if_pos h2]
  exact ⟨e, if_pos e⟩
theorem woErr_zero {L : List It} {k : Int} : woErr L k = 0 ↔ Valid L ∧ 0 ≤ k ∧ k < L.length := by
  rw [← vErr_zero]
  by_cases h : vErr L = 0
  · cases h2 : inB k 0 ((L.length : Int) - 1)
    · rw [(wo_4 h h2).1]
      rw [inB_false] at h2
      simp; omega
    · rw [(wo_0 h h2).1]
      rw [inB_true] at h2
      simp [h]; omega
  · rw [(wo_v h).1]; simp [h]

theorem step_own {P : Program} {ops : Array Oper} {o : Oper} {a : Act} {w : World} {K : Act → World → Prop} {Q : Exit → Act → World → Prop} {E : Prop} (hgd : o.guard = none) (s x : Operand) (t : TypeId)
    (ho : o.op = .call { callee := .builtin .append, args := #[s, x], argTypes := #[t, t] })
    (base : Nat) (e : TypeId) (i : TypeInfo) (z : Value) (size bytes : Nat) (ht : P.underlying t = some (.slice e)) (hi : P.info? e = some i) (hz : i.zero = some z)
    (hsize : i.size = size) (hby : i.bytes = bytes) (hzs : z.cells.size = size) (hsz : 0 < size)
    (v : Value) (n : Nat) (xs : List Value) (hs : a.eval s = v) (hown : w.ownsRow base e size v n xs)
    (ad : Addr) (m c : Nat) (news : List Value) (hx : a.eval x = .slice (some ad) m c) (hl : news.length = m * size) (hnews : ∀ j u, news[j]? = some u → w.cell? (ad.add j) = some u) (h1 : ∀ u ∈ news, u.oneCell' = true)
    (h63 : n + m ≤ maxLen) (hbytes : (n + m) * bytes ≤ 140737488355328) (hbase : base ≤ w.heap.size)
    (h : ∀ v' w', w'.ownsRow base e size v' (n + m) (xs ++ news) → w.grownBy w' v.ownBlock → K (a.put o.dst v') w') :
    if Region.wanted o (yielded ops a.tmps) = true then Oper.wp P o a w K Q else E := by
  have hw : Region.wanted o (yielded ops a.tmps) = true := by simp [Region.wanted, hgd]
  rw [if_pos hw]
  exact wp_append_own w s x t ho base e i z size bytes ht hi hz hsize hby hzs hsz v n xs hs hown ad m c news hx hl hnews h1 h63 hbytes hbase fun v' w' h2 h3 _ => h v' w' h2 h3

/-- Many cells of an own row are stored. -/
theorem ownsRow_setCells {base : Nat} {e : TypeId} {size g n cap : Nat} : ∀ (vs : List Value) (o : Nat) (xs : List Value) (w : World), w.ownsRow base e size (.slice (some ⟨g, 0, none⟩) n cap) n xs → o + vs.length ≤ xs.length →
    (w.setCells g o vs).ownsRow base e size (.slice (some ⟨g, 0, none⟩) n cap) n (xs.take o ++ vs ++ xs.drop (o + vs.length))
  | [], o, xs, w, h, _ => by
    have : xs.take o ++ [] ++ xs.drop (o + 0) = xs := by simp
    rw [List.length_nil, this]
    exact h
  | v :: vs, o, xs, w, h, hle => by
    rw [List.length_cons] at hle
    have h1 := (h.stored o v).1
    have h2 := ownsRow_setCells vs (o + 1) (xs.set o v) _ h1 (by rw [List.length_set]; omega)
    have e : (xs.set o v).take (o + 1) ++ vs ++ (xs.set o v).drop (o + 1 + vs.length) = xs.take o ++ v :: vs ++ xs.drop (o + (v :: vs).length) := by
      rw [List.drop_set_of_lt (by omega), List.length_cons, show o + (vs.length + 1) = o + 1 + vs.length by omega]
      congr 1
      rw [List.take_add_one, List.take_set_of_le (Nat.le_refl _), List.getElem?_set_self (by omega)]
      simp
    rw [e] at h2
    exact h2

theorem itCells_app (A B : List It) : itCells (A ++ B) = itCells A ++ itCells B := by simp [itCells]
theorem itCells_take (L : List It) (k : Nat) (h : k ≤ L.length) : (itCells L).take (k * 3) = itCells (L.take k) := by
  have e : itCells L = itCells (L.take k) ++ itCells (L.drop k) := by rw [← itCells_app, List.take_append_drop]
  rw [e, List.take_left' (by rw [itCells_length, List.length_take]; omega)]
theorem itCells_drop (L : List It) (k : Nat) (h : k ≤ L.length) : (itCells L).drop (k * 3) = itCells (L.drop k) := by
  have e : itCells L = itCells (L.take k) ++ itCells (L.drop k) := by rw [← itCells_app, List.take_append_drop]
  rw [e, List.drop_left' (by rw [itCells_length, List.length_take]; omega)]

theorem isSome_at {l : List Value} {j : Nat} (h : j < l.length) : (l[j]?).isSome = true := by rw [List.getElem?_eq_getElem h]; rfl

/-- clear of one reading. -/
theorem run_clear3 (w : World) (ty : TypeId) (b o c : Nat) (hc : ∀ j, j < 3 → (w.cell? ⟨b, o + j, none⟩).isSome = true) (hf : ∀ j, j < 3 → w.frozen? ⟨b, o + j, none⟩ = false) :
    (Builtin.clear_ #[22] ty #[.slice (some ⟨b, o, none⟩) 1 c]).run Try.prog w = .ok (.tuple #[]) (w.setCells b o [.int .i64 0, .int .i64 0, .int .i64 0]) := by
  have hst := run_storeCells_cells (P := Try.prog) b o [.int .i64 0, .int .i64 0, .int .i64 0] 0 w (by simpa using hc) (by simpa using hf) (by intro v hv'; simp at hv'; subst hv'; rfl)
  simp only [Nat.add_zero] at hst
  have hzc : (Builtin.zeroCells (Value.cells (.agg #[.int .i64 0, .int .i64 0, .int .i64 0])) 1).toList = [.int .i64 0, .int .i64 0, .int .i64 0] := by kernel_rfl
  have hv : (zeroValue 31).run Try.prog w = .ok (.agg #[.int .i64 0, .int .i64 0, .int .i64 0]) w := by
    obtain ⟨i0, hi, hz0, _, _⟩ := info_parts info31
    simp [zeroValue, typeInfo, hi, hz0]
  simp [Builtin.clear_, run_underlying Try.underlying22, hv, hzc, hst]

set_option maxRecDepth 100000 in
set_option maxHeartbeats 3200000 in
theorem Delete_c (g n cap k j B : Nat) (L : List It) (w : World) (h : w.ownsRow B 31 3 (.slice (some ⟨g, 0, none⟩) n cap) n (itCells L)) (hn : n ≤ 1000) (hk : k < n) (hj : j = k + 1) :
    Calls Try.prog 90 #[.slice (some ⟨g, 0, none⟩) n cap, .int .i64 k, .int .i64 j] w fun e w' => e = .returned (.slice (some ⟨g, 0, none⟩) (n - 1) cap) ∧ w'.ownsRow B 31 3 (.slice (some ⟨g, 0, none⟩) (n - 1) cap) (n - 1) (itCells (lessL L k)) ∧ Below B w w' := by
  obtain ⟨i0, hi, hz0, hz1, hz2⟩ := info_parts info31
  have hLn : L.length = n := by have := h.1; rw [itCells_length] at this; omega
  obtain ⟨hBg, hcap, hcm, hglt⟩ : B ≤ g ∧ n ≤ cap ∧ cap ≤ maxLen ∧ g < w.heap.size := by
    have := h.lt g rfl
    rcases h.2 with ⟨h', _⟩ | ⟨g', cap', cur, h', _, _, h5, h6, _⟩
    · cases h'
    · cases h'
      exact ⟨this.1, h5, h6, this.2⟩
  unfold maxLen at hcm
  obtain ⟨news, hnews⟩ : ∃ news, news = itCells (L.drop j) := ⟨_, rfl⟩
  have hlen : news.length = (n - j) * 3 := by rw [hnews, itCells_length, List.length_drop, hLn]
  obtain ⟨A, hA, hsrc⟩ : ∃ A : Addr, (if cap = j then some (⟨g, 0, none⟩ : Addr) else some ⟨g, j * 3, none⟩) = some A ∧ Hid (∀ t u, news[t]? = some u → w.drew.cell? (A.add t) = some u) := by
    by_cases hh : cap = j
    · refine ⟨⟨g, 0, none⟩, by simp [hh], fun t u hu => ?_⟩
      have h0 : news.length = 0 := by rw [hlen]; omega
      rw [List.length_eq_zero_iff.1 h0] at hu
      simp at hu
    · refine ⟨⟨g, j * 3, none⟩, by simp [hh], fun t u hu => ?_⟩
      have ht : t < (n - j) * 3 := by
        have := (List.getElem?_eq_some_iff.1 hu).1
        rwa [hlen] at this
      rw [Addr.add_lit]
      show w.cell? _ = _
      rw [h.cellAt _ (by omega), ← hu, hnews, ← itCells_drop _ _ (by omega), List.getElem?_drop]
  have s1 : Hid (news.length = (n - j) * 3) := hlen
  have s2 : Hid (∀ u ∈ news, u.oneCell' = true) := by rw [hnews]; exact itCells_one _
  have s3 : Hid (∀ t, t < news.length → (w.drew.cell? ⟨g, 0 + k * 3 + t, none⟩).isSome = true ∧ w.drew.frozen? ⟨g, 0 + k * 3 + t, none⟩ = false) := by
    intro t ht
    rw [hlen] at ht
    refine ⟨?_, h.frozenAt _⟩
    show (w.cell? _).isSome = true
    rw [h.cellAt _ (by omega)]
    exact isSome_at (by rw [itCells_length, hLn]; omega)
  obtain ⟨W1, hW1⟩ : ∃ W1, W1 = w.drew.setCells g (0 + k * 3) news := ⟨_, rfl⟩
  have own1 : W1.ownsRow B 31 3 (.slice (some ⟨g, 0, none⟩) n cap) n (itCells (lessL L k) ++ itCells (L.drop (n - 1))) := by
    have := ownsRow_setCells news (k * 3) _ _ h.drew (by rw [hlen, itCells_length, hLn]; omega)
    rw [hlen, show k * 3 + (n - j) * 3 = (n - 1) * 3 by omega, itCells_take _ _ (by omega), itCells_drop _ _ (by omega), hnews, ← itCells_app] at this
    rw [hW1, Nat.zero_add, hnews]
    have e : lessL L k = L.take k ++ L.drop j := by rw [hj]; rfl
    rw [e]
    exact this
  have own2 := ownsRow_setCells [.int .i64 0, .int .i64 0, .int .i64 0] ((n - 1) * 3) _ _ own1 (by
    rw [List.length_append, itCells_length, itCells_length, List.length_drop, hLn, less_length (by omega), hLn]
    simp only [List.length_cons, List.length_nil]
    omega)
  have ll : (itCells (lessL L k)).length = (n - 1) * 3 := by rw [itCells_length, less_length (by omega), hLn]
  rw [List.take_left' ll, List.append_assoc] at own2
  have own3 := ownsRow_pop (n := n - 1) ll (by rw [show n - 1 + 1 = n by omega]; exact own2)
  have hcl : ∀ ty, (Builtin.clear_ #[22] ty #[.slice (some ⟨g, (n - 1) * 3, none⟩) 1 (cap - (n - 1))]).run Try.prog W1 = .ok (.tuple #[]) (W1.setCells g ((n - 1) * 3) [.int .i64 0, .int .i64 0, .int .i64 0]) :=
    fun ty => run_clear3 W1 ty g _ _ (fun t ht => by
      rw [own1.cellAt _ (by omega)]
      exact isSome_at (by rw [List.length_append, ll, itCells_length, List.length_drop, hLn]; omega)) (fun t ht => own1.frozenAt _)
  have OUT : Hid ((W1.setCells g ((n - 1) * 3) [.int .i64 0, .int .i64 0, .int .i64 0]).ownsRow B 31 3 (.slice (some ⟨g, 0, none⟩) (n - 1) cap) (n - 1) (itCells (lessL L k)) ∧ Below B w (W1.setCells g ((n - 1) * 3) [.int .i64 0, .int .i64 0, .int .i64 0])) :=
    ⟨own3, by
      have b1 : Below B w.drew W1 := by rw [hW1]; exact Go.Lib.below_setCells_w hBg _ _ _
      have b2 : Below B W1 (W1.setCells g ((n - 1) * 3) [.int .i64 0, .int .i64 0, .int .i64 0]) := Go.Lib.below_setCells_w hBg _ _ _
      exact Below.trans (Below.trans (Below.refl _ _).drew b1) b2⟩
  have hW : Hid (W1 = w.drew.setCells g (0 + k * 3) news) := hW1
  generalize W1.setCells g ((n - 1) * 3) [.int .i64 0, .int .i64 0, .int .i64 0] = W2 at *
  have hne : ((k : Int) == (j : Int)) = false := by simp; omega
  have hkj : k < j := by omega
  have hjn : j ≤ n := by omega
  have hq : n - (n - 1) = 1 := by omega
  have hnc : n - 1 ≤ n := by omega
  have hic : k ≤ cap := by omega
  have hjc : j ≤ cap := by omega
  have hkk : k + (n - j) = n - 1 := by omega
  clear own1 own2 own3 ll hW1 h hnews hlen hLn hj
  go_enter Try.func90, Try.ntmps90
  go_wp2_with fail
  go_region_law (refine step_append_room rfl (.tmp 22) (.tmp 25) 22 rfl 31 i0 3 Try.underlying22 hi hz1 g 0 k cap (by simp [Act.eval, Act.put]) A (n - j) (cap - j) news (by simp [Act.eval, Act.put]) s1.out hsrc.out s2.out (by omega) s3.out ?_; rw [← hW.out])
  go_wp2_with fail
  go_ret
  exact ⟨rfl, OUT.out.1, OUT.out.2⟩


set_option maxRecDepth 100000 in
set_option maxHeartbeats 3200000 in
theorem Without_c (a : Option Addr) (n c : Nat) (L : List It) (k : Int) (w : World) (h : SlO w a n L) (hc : n ≤ c) (hm : c ≤ maxLen) : Calls Try.prog 53 #[.slice a n c, .int .i64 k] w (RetIt w (woL L k) (woErr L k)) := by
  have hn9 : n ≤ 9223372036854775807 := by unfold maxLen at hm; omega
  have hLn := h.1
  by_cases h0 : vErr L = 0
  · have hv0 : (vErr L != 0) = false := by rw [h0]; rfl
    have hle := (vErr_zero.1 h0).le
    cases h2 : inB k 0 ((L.length : Int) - 1)
    · obtain ⟨q1, q2⟩ := wo_4 h0 h2
      rw [q1, q2]
      have hin : inB k 0 ((n : Int) - 1) = false := by rw [hLn]; exact h2
      clear q1 q2 h2 h0 hLn
      go_enter Try.func53, Try.ntmps53
      go_wp2_with fail
      refine (Validate_c _ _ _ _ _ h).mono ?_
      rintro e w1 ⟨rfl, hb1⟩
      go_wp2_with fail
      refine (within_c _ _ _ _).mono ?_
      rintro e w2 ⟨rfl, rfl⟩
      simp only [hin]
      go_wp2_with fail
      go_ret2
      exact ⟨_, rfl, ItV.nil _ _, hb1⟩
    · have hin : inB k 0 ((n : Int) - 1) = true := by rw [hLn]; exact h2
      obtain ⟨q1, q2⟩ := wo_0 h0 h2
      rw [q1, q2]
      obtain ⟨hk0, hk1⟩ : 0 ≤ k ∧ k < n := by
        rw [inB_true] at h2
        omega
      obtain ⟨kk, rfl⟩ : ∃ kk : Nat, k = kk := ⟨k.toNat, by omega⟩
      rw [Int.toNat_natCast]
      obtain ⟨b, o, rfl, hS⟩ : ∃ b o, a = some ⟨b, o, none⟩ ∧ Sl w b o n L := by
        rcases h.2 with h' | h'
        · omega
        · exact h'
      have HS := Lib.hid hS
      clear q1 q2 h2 h0 hS
      have HLn := Lib.hid hLn
      have hn6 : n ≤ 6 := by omega
      clear hLn
      go_enter Try.func53, Try.ntmps53
      go_wp2_with fail
      refine (Validate_c _ _ _ _ _ h).mono ?_
      rintro e w1 ⟨rfl, hb1⟩
      go_wp2_with fail
      refine (within_c _ _ _ _).mono ?_
      rintro e w2 ⟨rfl, rfl⟩
      simp only [hin]
      go_wp2_with fail
      refine (Clone_pos b o n c L _ (HS.out.below hb1 (Nat.le_refl _)) (by omega)).mono ?_
      rintro e w3 ⟨v, rfl, hown, hb3⟩
      rw [← HLn.out] at hown
      obtain ⟨g, cap, hge, hg1, hg2, hown'⟩ := own_open hown (by omega)
      subst hge
      have HO := Lib.hid hown'
      have B3 := Lib.hid hb3
      have B1 := Lib.hid hb1
      clear hown hown' hb3 hb1
      go_wp2_with fail
      rw [show (kk : Int) + 1 = ((kk + 1 : Nat) : Int) by omega]
      refine (Delete_c _ _ _ _ _ w1.heap.size L _ HO.out (by omega) (by omega) rfl).mono ?_
      rintro e w4 ⟨rfl, hown2, hb2⟩
      have HR := Lib.hid (ownsRow_it hown2)
      have hB := Lib.hid (btr B1.out (Below.trans B3.out hb2))
      have hsz := B1.out.size
      clear hown2 hb2
      go_wp2_with fail
      go_ret2
      obtain ⟨a3, c3, e3, q1, q2, q3, q4⟩ := HR.out
      exact ⟨_, rfl, ⟨a3, c3, e3, q1, q2, q3, fun x hx => Nat.le_trans hsz (q4 x hx)⟩, hB.out⟩
  · have hv0 : (vErr L != 0) = true := by simpa using h0
    obtain ⟨q1, q2⟩ := wo_v (k := k) h0
    rw [q1, q2]
    clear h0 q1 q2 hLn
    go_enter Try.func53, Try.ntmps53
    go_wp2_with fail
    refine (Validate_c _ _ _ _ _ h).mono ?_
    rintro e w1 ⟨rfl, hb1⟩
    go_wp2_with fail
    go_ret2
    exact ⟨_, rfl, ItV.nil _ _, hb1⟩

set_option maxRecDepth 100000 in
set_option maxHeartbeats 3200000 in
theorem rWithout_c (a : Option Addr) (n c : Nat) (L : List It) (k : Int) (w : World) (h : SlO w a n L) (hc : n ≤ c) (hm : c ≤ maxLen) : Calls Try.prog 54 #[.slice a n c, .int .i64 k] w (RetIt w (woL L k) (woErr L k)) := by
  have hn9 : n ≤ 9223372036854775807 := by unfold maxLen at hm; omega
  have hLn := h.1
  by_cases h0 : vErr L = 0
  · have hv0 : (vErr L != 0) = false := by rw [h0]; rfl
    have hle := (vErr_zero.1 h0).le
    cases h2 : inB k 0 ((L.length : Int) - 1)
    · obtain ⟨q1, q2⟩ := wo_4 h0 h2
      rw [q1, q2]
      have hin : inB k 0 ((n : Int) - 1) = false := by rw [hLn]; exact h2
      clear q1 q2 h2 h0 hLn
      go_enter Try.func54, Try.ntmps54
      go_wp2_with fail
      refine (rValidate_c _ _ _ _ _ h).mono ?_
      rintro e w1 ⟨rfl, hb1⟩
      go_wp2_with fail
      refine (rWithin_c _ _ _ _).mono ?_
      rintro e w2 ⟨rfl, rfl⟩
      simp only [hin]
      go_wp2_with fail
      go_ret2
      exact ⟨_, rfl, ItV.nil _ _, hb1⟩
    · have hin : inB k 0 ((n : Int) - 1) = true := by rw [hLn]; exact h2
      obtain ⟨q1, q2⟩ := wo_0 h0 h2
      rw [q1, q2]
      obtain ⟨hk0, hk1⟩ : 0 ≤ k ∧ k < n := by
        rw [inB_true] at h2
        omega
      obtain ⟨kk, rfl⟩ : ∃ kk : Nat, k = kk := ⟨k.toNat, by omega⟩
      rw [Int.toNat_natCast]
      obtain ⟨b, o, rfl, hS⟩ : ∃ b o, a = some ⟨b, o, none⟩ ∧ Sl w b o n L := by
        rcases h.2 with h' | h'
        · omega
        · exact h'
      have HS := Lib.hid hS
      clear q1 q2 h2 h0 hS
      have HLn := Lib.hid hLn
      have hn6 : n ≤ 6 := by omega
      clear hLn
      go_enter Try.func54, Try.ntmps54
      go_wp2_with fail
      refine (rValidate_c _ _ _ _ _ h).mono ?_
      rintro e w1 ⟨rfl, hb1⟩
      go_wp2_with fail
      refine (rWithin_c _ _ _ _).mono ?_
      rintro e w2 ⟨rfl, rfl⟩
      simp only [hin]
      obtain ⟨i0, hi, hz0, hz1, hz2⟩ := info_parts info31
      obtain ⟨j, hj⟩ : ∃ j, j = kk + 1 := ⟨_, rfl⟩
      have hLn := HLn.out
      have hS1 := HS.out.below hb1 (Nat.le_refl _)
      have hblt : b < w1.heap.size := hS1.lt
      have hcells := itCells_cells hS1
      have C1 : Hid (∀ t u, (itCells (L.take kk))[t]? = some u → w1.cell? ((⟨b, o, none⟩ : Addr).add t) = some u) := by
        intro t u hu
        rw [← itCells_take _ _ (by omega)] at hu
        exact hcells t u (by
          have h1 := (List.getElem?_eq_some_iff.1 hu).1
          rw [List.length_take] at h1
          rw [List.getElem?_take_of_lt (by omega)] at hu
          exact hu)
      obtain ⟨A, hA, hAb, C2⟩ : ∃ A : Addr, (if c = j then some (⟨b, o, none⟩ : Addr) else some ⟨b, o + j * 3, none⟩) = some A ∧ (∀ q, (A.add q).block = b) ∧ Hid (∀ t u, (itCells (L.drop j))[t]? = some u → w1.cell? (A.add t) = some u) := by
        by_cases hh : c = j
        · refine ⟨⟨b, o, none⟩, by simp [hh], fun q => by rw [Addr.add_lit], fun t u hu => ?_⟩
          have h0 : (itCells (L.drop j)).length = 0 := by rw [itCells_length, List.length_drop]; omega
          rw [List.length_eq_zero_iff.1 h0] at hu
          simp at hu
        · refine ⟨⟨b, o + j * 3, none⟩, by simp [hh], fun q => by rw [Addr.add_lit], fun t u hu => ?_⟩
          rw [← itCells_drop _ _ (by omega), List.getElem?_drop] at hu
          have := hcells _ _ hu
          rw [Addr.add_lit] at this ⊢
          rw [← this, show o + j * 3 + t = o + (j * 3 + t) by omega]
      have hwr : IntKind.i64.wrap ((kk : Int) + 1) = (j : Int) := by rw [show (kk : Int) + 1 = (j : Int) by omega]; exact wrap_small _ (by omega) (by omega)
      have hjn : j ≤ n := by omega
      have hjc : j ≤ c := by omega
      have hkc : kk ≤ c := by omega
      have L1 : Hid ((itCells (L.take kk)).length = kk * 3) := by rw [itCells_length, List.length_take]; show _ = _; omega
      have HM : Hid (kk + (n - j) ≤ 1000) := Lib.hid (by omega)
      have L2 : Hid ((itCells (L.drop j)).length = (n - j) * 3) := by rw [itCells_length, List.length_drop, hLn]; rfl
      have HL : Hid (itCells (L.take kk) ++ itCells (L.drop j) = itCells (lessL L kk)) := by rw [← itCells_app, hj]; exact rfl
      have B1 := Lib.hid hb1
      clear hcells hLn hj hS1 hb1 h
      go_wp2_with fail
      go_region_law (first | (refine step_own rfl (.tmp 18) (.tmp 21) 22 rfl w1.heap.size 31 i0 (.agg #[.int .i64 0, .int .i64 0, .int .i64 0]) 3 24 Try.underlying22 hi hz0 hz1 hz2 rfl (by decide) (.slice (some ⟨w1.heap.size, 0, none⟩) 0 0) 0 _ (by simp [Act.eval]) (World.ownsRow_lit w1.drew #[] 0 (Nat.le_refl _) (by decide) rfl) ⟨b, o, none⟩ kk c (itCells (L.take kk)) (by simp [Act.eval]) L1.out (fun t u hu => cellB ((Below.refl w1.heap.size w1).drew.alloc (Nat.le_refl _) _) (C1.out t u hu)) (itCells_one _) (by have := HM.out; unfold maxLen; omega) (by have := HM.out; omega) (((Below.refl w1.heap.size w1).drew.alloc (Nat.le_refl _) _)).size ?_; intro v1 w3 hown1 hg1; have hb3 := ((Below.refl w1.heap.size w1).drew.alloc (Nat.le_refl _) _).grown hg1 (by simp) (fun q hq => by cases hq; exact Nat.le_refl _)) | (refine step_own rfl (.tmp 22) (.tmp 26) 22 rfl w1.heap.size 31 i0 (.agg #[.int .i64 0, .int .i64 0, .int .i64 0]) 3 24 Try.underlying22 hi hz0 hz1 hz2 rfl (by decide) v1 (0 + kk) _ (by simp [Act.eval]) (hown1) A (n - j) (c - j) (itCells (L.drop j)) (by simp [Act.eval]) L2.out (fun t u hu => cellB hb3 (C2.out t u hu)) (itCells_one _) (by have := HM.out; unfold maxLen; omega) (by have := HM.out; omega) (hb3).size ?_; intro v2 w4 hown2 hg2; have hb4 := hb3.grown hg2 hb3.size (fun q hq => (hown1.lt q hq).1)))
      rw [List.nil_append, HL.out] at hown2
      have HR := Lib.hid (ownsRow_it hown2)
      have hB := Lib.hid (btr B1.out hb4)
      have hsz := B1.out.size
      clear hown1 hown2 hg1 hg2 hb3 hb4
      go_wp2_with fail
      go_ret2
      obtain ⟨a3, c3, e3, q1, q2, q3, q4⟩ := HR.out
      exact ⟨_, rfl, ⟨a3, c3, e3, q1, q2, q3, fun x hx => Nat.le_trans hsz (q4 x hx)⟩, hB.out⟩
  · have hv0 : (vErr L != 0) = true := by simpa using h0
    obtain ⟨q1, q2⟩ := wo_v (k := k) h0
    rw [q1, q2]
    clear h0 q1 q2 hLn
    go_enter Try.func54, Try.ntmps54
    go_wp2_with fail
    refine (rValidate_c _ _ _ _ _ h).mono ?_
    rintro e w1 ⟨rfl, hb1⟩
    go_wp2_with fail
    go_ret2
    exact ⟨_, rfl, ItV.nil _ _, hb1⟩

end Go.Proofs.Ytplindidegmlkaa
