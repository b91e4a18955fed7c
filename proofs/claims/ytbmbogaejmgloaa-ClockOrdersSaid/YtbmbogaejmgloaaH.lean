/- Jobs without one: program and reference; slices.Concat, slices.Grow. -/
import Derived.Test.YtbmbogaejmgloaaK
import Derived.Test.YtbmbogaejmgloaaG
import Derived.Test.YtbmbogaejmgloaaTail
import Derived.Shelf.RegionOpenPlain
import Derived.Deep.RegionLaw
import Derived.Lib.EndianMore
import Derived.Lib.AppendZeros
import Derived.WalkSmall
namespace Go.Proofs.Ytbmbogaejmgloaa
open Go.RowKit Go.Sort

/-- Slices of jobs as cells: each job lies there. -/
theorem jbCells_cells {w : World} {b o n : Nat} {L : List Jb} (h : Sl w b o n L) : ∀ j u, (jbCells L)[j]? = some u → w.cell? ((⟨b, o, none⟩ : Addr).add j) = some u := by
  intro j u hj
  have hlt : j < (jbCells L).length := (List.getElem?_eq_some_iff.1 hj).1
  rw [jbCells_length] at hlt
  have ha : (⟨b, o, none⟩ : Addr).add j = ⟨b, o + j, none⟩ := by
    unfold Addr.add
    split
    · rename_i h0; rw [h0, Nat.add_zero]
    · rfl
  rw [ha]
  have hi : j / 3 < L.length := by omega
  have hin : j / 3 < n := by rw [h.len]; exact hi
  obtain ⟨r0, r1, r2⟩ := jbCells_at L (j / 3) hi
  have hm : j % 3 = 0 ∨ j % 3 = 1 ∨ j % 3 = 2 := by omega
  rcases hm with hm | hm | hm
  · have e : j = j / 3 * 3 := by omega
    rw [← e] at r0
    rw [hj] at r0
    rw [show o + j = o + j / 3 * 3 by omega, h.c0 _ hin, r0]
  · have e : j = j / 3 * 3 + 1 := by omega
    rw [← e] at r1
    rw [hj] at r1
    rw [show o + j = o + j / 3 * 3 + 1 by omega, h.c1 _ hin, r1]
  · have e : j = j / 3 * 3 + 2 := by omega
    rw [← e] at r2
    rw [hj] at r2
    rw [show o + j = o + j / 3 * 3 + 2 by omega, h.c2 _ hin, r2]

theorem jbCells_one (L : List Jb) : ∀ u ∈ jbCells L, u.oneCell' = true := by
  intro u hu
  simp only [jbCells, List.mem_flatMap, List.mem_cons, List.not_mem_nil, or_false] at hu
  obtain ⟨x, _, rfl | rfl | rfl⟩ := hu <;> rfl

/-- What is owned is a slice value over a row, if there is something in it. -/
theorem own_open {w : World} {base : Nat} {e : TypeId} {size : Nat} {v : Value} {n : Nat} {xs : List Value} (h : w.ownsRow base e size v n xs) (hn : n ≠ 0) :
    ∃ g cap, v = .slice (some ⟨g, 0, none⟩) n cap ∧ base ≤ g ∧ g < w.heap.size ∧ w.ownsRow base e size (.slice (some ⟨g, 0, none⟩) n cap) n xs := by
  have h0 := h
  obtain ⟨h1, h2⟩ := h
  rcases h2 with ⟨_, h3⟩ | ⟨g, cap, cur, hv, hg, hh, _⟩
  · exact absurd h3 hn
  · exact ⟨g, cap, hv, hg, (Array.getElem?_eq_some_iff.1 hh).1, hv ▸ h0⟩

theorem step_own {P : Program} {ops : Array Oper} {o : Oper} {a : Act} {w : World} {K : Act → World → Prop} {Q : Exit → Act → World → Prop} {E : Prop} (hgd : o.guard = none) (s x : Operand) (t : TypeId)
    (ho : o.op = .call { callee := .builtin .append, args := #[s, x], argTypes := #[t, t] })
    (base : Nat) (e : TypeId) (i : TypeInfo) (z : Value) (size bytes : Nat) (ht : P.underlying t = some (.slice e)) (hi : P.info? e = some i) (hz : i.zero = some z)
    (hsize : i.size = size) (hby : i.bytes = bytes) (hzs : z.cells.size = size) (hsz : 0 < size)
    (v : Value) (n : Nat) (xs : List Value) (hs : a.eval s = v) (hown : w.ownsRow base e size v n xs)
    (ad : Addr) (m c : Nat) (news : List Value) (hx : a.eval x = .slice (some ad) m c) (hl : news.length = m * size) (hnews : ∀ j u, news[j]? = some u → w.cell? (ad.add j) = some u) (h1 : ∀ u ∈ news, u.oneCell' = true)
    (h63 : n + m ≤ maxLen) (hbytes : (n + m) * bytes ≤ 140737488355328) (hbase : base ≤ w.heap.size)
    (h : ∀ v' w', w'.ownsRow base e size v' (n + m) (xs ++ news) → w.grownBy w' v.ownBlock → K (a.put o.dst v') w') :
    if Region.wanted o (yielded ops a.tmps) = true then Oper.wp P o a w K Q else E := by
  have hw : Region.wanted o (yielded ops a.tmps) = true := by simp [Region.wanted, hgd]
  rw [if_pos hw]
  exact wp_append_own w s x t ho base e i z size bytes ht hi hz hsize hby hzs hsz v n xs hs hown ad m c news hx hl hnews h1 h63 hbytes hbase fun v' w' h2 h3 _ => h v' w' h2 h3

theorem jbCells_app (A B : List Jb) : jbCells (A ++ B) = jbCells A ++ jbCells B := by simp [jbCells]
theorem jbCells_take (L : List Jb) (k : Nat) (h : k ≤ L.length) : (jbCells L).take (k * 3) = jbCells (L.take k) := by
  have e : jbCells L = jbCells (L.take k) ++ jbCells (L.drop k) := by rw [← jbCells_app, List.take_append_drop]
  rw [e, List.take_left' (by rw [jbCells_length, List.length_take]; omega)]
theorem jbCells_drop (L : List Jb) (k : Nat) (h : k ≤ L.length) : (jbCells L).drop (k * 3) = jbCells (L.drop k) := by
  have e : jbCells L = jbCells (L.take k) ++ jbCells (L.drop k) := by rw [← jbCells_app, List.take_append_drop]
  rw [e, List.drop_left' (by rw [jbCells_length, List.length_take]; omega)]


/-- A row of jobs of the call's own comes back. -/
def RetRow (w : World) (m : Nat) (L : List Jb) (e : Ending) (w' : World) : Prop :=
  ∃ v, e = .returned v ∧ w'.ownsRow w.heap.size 30 3 v m (jbCells L) ∧ Below w.heap.size w w'

theorem Grow_c (m : Nat) (w : World) (hm : m ≤ 1000) : Calls Try.prog 78 #[.slice none 0 0, .int .i64 m] w (RetRow w 0 []) := by
  by_cases h0 : m = 0
  · subst h0
    go_enter Try.func78, Try.ntmps78
    go_wp2_with fail
    go_ret
    exact ⟨_, rfl, World.ownsRow_nil _ _ _ _, Below.refl _ _⟩
  · have d0 : decide (0 < m) = true := decT (by omega)
    have h1 : 0 < m := by omega
    obtain ⟨i0, hi, hz0, hz1, hz2⟩ := info_parts info30
    have happ := fun W => Lib.run_append_nil_zeros (P := Try.prog) W 22 3 22 30 i0 (.agg #[.int .i64 0, .int .i64 0, .int .i64 0]) .i64 .i64 Try.underlying22 Try.underlying3 hi hz0 m h1 (by rw [hz1]; decide) (by omega) (by rw [hz2]; omega)
    have hge := fun W => grownCap_ge W m 0 30
    have hle := fun W => grownCap_le_maxLen W m 0 30 (by unfold maxLen; omega)
    have hcs : (Value.cells (.agg #[.int .i64 0, .int .i64 0, .int .i64 0])).size = 3 := rfl
    have hsz : ∀ W, (Builtin.zeroCells (Value.cells (.agg #[.int .i64 0, .int .i64 0, .int .i64 0])) m ++ Builtin.zeroCells (Value.cells (.agg #[.int .i64 0, .int .i64 0, .int .i64 0])) (grownCap W m 0 30 - m)).size = grownCap W m 0 30 * 3 := fun W => by
      rw [Array.size_append, size_zeroCells, size_zeroCells, hcs]
      have := hge W
      omega
    have HAPP := Lib.hid happ
    have HSZ := Lib.hid hsz
    have HGE := Lib.hid hge
    have HLE := Lib.hid hle
    clear happ hge hle hcs hsz
    go_enter Try.func78, Try.ntmps78
    go_wp2_with (at_builtin; refine Lib.wpList_append_run _ rfl _ _ 22 3 rfl _ _ rfl rfl _ _ (HAPP.out _) ?_)
    go_ret
    exact ⟨_, rfl, (World.ownsRow_made w _ _ (Nat.le_refl _) (HLE.out w) (HSZ.out w)).drew, ((Below.refl _ _).alloc (Nat.le_refl _) _).drew⟩

def szC (n1 n2 k : Nat) : Nat := if k = 0 then 0 else if k = 1 then n1 else n1 + n2
def catC (A B : List Jb) (k : Nat) : List Jb := if k = 0 then [] else if k = 1 then A else A ++ B

set_option maxRecDepth 100000 in
set_option maxHeartbeats 3200000 in
theorem Concat_c (BB n1 c1 n2 c2 : Nat) (ad1 ad2 : Addr) (A B : List Jb) (w : World) (h1 : w.cell? ⟨BB, 0, none⟩ = some (.slice (some ad1) n1 c1)) (h2 : w.cell? ⟨BB, 1, none⟩ = some (.slice (some ad2) n2 c2))
    (hA : n1 = A.length) (hB : n2 = B.length) (hca : ∀ W, Below w.heap.size w W → ∀ j u, (jbCells A)[j]? = some u → W.cell? (ad1.add j) = some u) (hcb : ∀ W, Below w.heap.size w W → ∀ j u, (jbCells B)[j]? = some u → W.cell? (ad2.add j) = some u) (hn : n1 + n2 ≤ 1000) :
    Calls Try.prog 75 #[.slice (some ⟨BB, 0, none⟩) 2 2] w (RetRow w (n1 + n2) (A ++ B)) := by
  have H1 := Lib.hid h1
  have H2 := Lib.hid h2
  have HA := Lib.hid hA
  have HB := Lib.hid hB
  have HCA := Lib.hid hca
  have HCB := Lib.hid hcb
  obtain ⟨i0, hi, hz0, hz1, hz2⟩ := info_parts info30
  clear h1 h2 hA hB hca hcb
  go_enter Try.func75, Try.ntmps75
  go_wp2_with fail
  go_loopw [3, 11] (fun s i wr => ∃ k : Nat, k ≤ 2 ∧ i = .int .i64 k ∧ s = .int .i64 (szC n1 n2 k : Nat) ∧ w = wr) (fun _ i _ => 2 - (intOf i).toNat)
  case atStart => exact ⟨0, Nat.zero_le _, rfl, rfl, rfl⟩
  case round =>
    obtain ⟨k, hk, rfl, rfl, rfl⟩ := hrel
    by_cases hlt : k < 2
    · have hk' : k = 0 ∨ k = 1 := by omega
      rcases hk' with rfl | rfl
      · have q1 := H1.out
        simp only [szC]
        go_wp2_with fail
        exact ⟨⟨1, by omega, rfl, by simp, trivial⟩, by simp [intOf]⟩
      · have q2 := H2.out
        simp only [szC]
        go_wp2_with fail
        exact ⟨⟨2, by omega, rfl, by simp, trivial⟩, by simp [intOf]⟩
    · obtain rfl : k = 2 := by omega
      simp only [szC]
      go_wp2_with fail
      rw [← Int.natCast_add]
      refine (Grow_c _ _ (by omega)).mono ?_
      rintro e w1 ⟨v1, rfl, hv1, hb1⟩
      have HV1 := Lib.hid hv1
      clear hv1
      go_wp2_with fail
      go_loopw [6, 27] (fun v i wr => ∃ k : Nat, k ≤ 2 ∧ i = .int .i64 k ∧ Below w.heap.size w wr ∧ wr.ownsRow w.heap.size 30 3 v (szC n1 n2 k) (jbCells (catC A B k))) (fun _ i _ => 2 - (intOf i).toNat)
      case atStart => exact ⟨0, Nat.zero_le _, rfl, hb1, HV1.out⟩
      case round =>
        obtain ⟨k, hk, rfl, hb, hown⟩ := hrel
        have HO := Lib.hid hown
        clear hown hb1 HV1
        by_cases hlt : k < 2
        · have hk' : k = 0 ∨ k = 1 := by omega
          rcases hk' with rfl | rfl
          · have q0 := cellB hb H1.out
            have HC0 := Lib.hid (HCA.out _ hb)
            have hO : wr.ownsRow w.heap.size 30 3 u6 0 (jbCells []) := by simpa [szC, catC] using HO.out
            have HO2 := Lib.hid hO
            clear hO
            go_wp2_with (at_builtin; refine wpList_append_own _ rfl _ _ 22 rfl w.heap.size 30 i0 (.agg #[.int .i64 0, .int .i64 0, .int .i64 0]) 3 24 Try.underlying22 hi hz0 hz1 hz2 rfl (by decide) _ _ _ rfl HO2.out ad1 n1 c1 (jbCells A) rfl (by rw [jbCells_length, ← HA.out]) HC0.out (jbCells_one _) (by unfold maxLen; omega) (by omega) hb.size ?_)
            intro v' w4 hown4 hg4 _
            have hb4 : Below w.heap.size w w4 := hb.grown hg4 hb.size (fun q hq => (HO2.out.lt q hq).1)
            have HO4 := Lib.hid hown4
            clear hown4 hg4
            go_wp2_with fail
            exact ⟨⟨1, by omega, rfl, hb4, by simpa [szC, catC, jbCells] using HO4.out⟩, by simp [intOf]⟩
          · have q0 := cellB hb H2.out
            have HC0 := Lib.hid (HCB.out _ hb)
            have hO : wr.ownsRow w.heap.size 30 3 u6 n1 (jbCells A) := by simpa [szC, catC] using HO.out
            have HO2 := Lib.hid hO
            clear hO
            go_wp2_with (at_builtin; refine wpList_append_own _ rfl _ _ 22 rfl w.heap.size 30 i0 (.agg #[.int .i64 0, .int .i64 0, .int .i64 0]) 3 24 Try.underlying22 hi hz0 hz1 hz2 rfl (by decide) _ _ _ rfl HO2.out ad2 n2 c2 (jbCells B) rfl (by rw [jbCells_length, ← HB.out]) HC0.out (jbCells_one _) (by unfold maxLen; omega) (by omega) hb.size ?_)
            intro v' w4 hown4 hg4 _
            have hb4 : Below w.heap.size w w4 := hb.grown hg4 hb.size (fun q hq => (HO2.out.lt q hq).1)
            have HO4 := Lib.hid hown4
            clear hown4 hg4
            go_wp2_with fail
            exact ⟨⟨2, by omega, rfl, hb4, by simpa [szC, catC, jbCells_app] using HO4.out⟩, by simp [intOf]⟩
        · obtain rfl : k = 2 := by omega
          have hd : ¬ ((2 : Nat) : Int) < 2 := by omega
          go_wp2_with fail
          go_ret
          exact ⟨_, rfl, HO.out, hb⟩

/-- What is left of a slice when one is left out: its two parts, as the program's slice expressions give them. -/
theorem less_parts {b o n c k : Nat} {L : List Jb} {w : World} (h : Sl w b o n L) (hc : n ≤ c) (hk : k < n) :
    (∀ W, Below w.heap.size w W → ∀ t u, (jbCells (L.take k))[t]? = some u → W.cell? ((⟨b, o, none⟩ : Addr).add t) = some u) ∧
    ∃ A : Addr, (if c = k + 1 then some (⟨b, o, none⟩ : Addr) else some ⟨b, o + (k + 1) * 3, none⟩) = some A ∧ ∀ W, Below w.heap.size w W → ∀ t u, (jbCells (L.drop (k + 1)))[t]? = some u → W.cell? (A.add t) = some u := by
  have hLn := h.len
  have hcells := fun W (hb : Below w.heap.size w W) => jbCells_cells (h.below hb (Nat.le_refl _))
  refine ⟨fun W hb t u hu => ?_, ?_⟩
  · rw [← jbCells_take _ _ (by omega)] at hu
    exact hcells W hb t u (by
      have h1 := (List.getElem?_eq_some_iff.1 hu).1
      rw [List.length_take] at h1
      rw [List.getElem?_take_of_lt (by omega)] at hu
      exact hu)
  · by_cases hh : c = k + 1
    · refine ⟨⟨b, o, none⟩, by simp [hh], fun W hb t u hu => ?_⟩
      have h0 : (jbCells (L.drop (k + 1))).length = 0 := by rw [jbCells_length, List.length_drop]; omega
      rw [List.length_eq_zero_iff.1 h0] at hu
      simp at hu
    · refine ⟨⟨b, o + (k + 1) * 3, none⟩, by simp [hh], fun W hb t u hu => ?_⟩
      rw [← jbCells_drop _ _ (by omega), List.getElem?_drop] at hu
      have := hcells W hb _ _ hu
      rw [Addr.add_lit] at this ⊢
      rw [← this, show o + (k + 1) * 3 + t = o + ((k + 1) * 3 + t) by omega]

theorem ls_v {L : List Jb} {k : Int} (h : ¬ vErr L = 0) : lsErr L k = vErr L ∧ lsL L k = [] := by
  have e : lsErr L k = vErr L := if_pos h
  exact ⟨e, by unfold lsL; rw [e, if_neg h]⟩
theorem ls_4 {L : List Jb} {k : Int} (h : vErr L = 0) (h2 : k < 0 ∨ (L.length : Int) ≤ k) : lsErr L k = 4 ∧ lsL L k = [] := by
  have e : lsErr L k = 4 := by unfold lsErr; rw [if_neg (by simp [h]), if_pos h2]
  exact ⟨e, by unfold lsL; rw [e]; rfl⟩
theorem ls_0 {L : List Jb} {k : Int} (h : vErr L = 0) (h2 : ¬ (k < 0 ∨ (L.length : Int) ≤ k)) : lsErr L k = 0 ∧ lsL L k = lessJ L k.toNat := by
  have e : lsErr L k = 0 := by unfold lsErr; rw [if_neg (by simp [h]), if_neg h2]
  exact ⟨e, by unfold lsL; rw [if_pos e]⟩

set_option maxRecDepth 100000 in
set_option maxHeartbeats 3200000 in
theorem rWithout_c (a : Option Addr) (n c : Nat) (L : List Jb) (k : Int) (w : World) (h : SlO w a n L) (hc : n ≤ c) (hm : c ≤ maxLen) : Calls Try.prog 53 #[.slice a n c, .int .i64 k] w (RetJb w (lsL L k) (lsErr L k)) := by
  by_cases h0 : vErr L = 0
  · have hne : (vErr L != 0) = false := by simp [h0]
    have HLn : Hid (n = L.length) := Lib.hid h.1
    have h8 : n ≤ 8 := by have := (vErr_zero.1 h0).le; have := h.1; omega
    have H := Lib.hid h
    by_cases h1 : k < 0
    · have d1 := decT h1
      obtain ⟨e1, e2⟩ := ls_4 h0 (.inl h1)
      rw [e1, e2]
      clear e1 e2 h0
      go_enter Try.func53, Try.ntmps53
      go_wp2_with fail
      refine (rValidate_c _ _ _ _ _ h).mono ?_
      rintro e w1 ⟨rfl, hb1⟩
      go_wp2_with fail
      go_ret2
      exact ⟨_, rfl, JbV.nil _ _, hb1⟩
    · have d1 := decF h1
      by_cases h2 : (n : Int) ≤ k
      · have d2 := decT h2
        obtain ⟨e1, e2⟩ := ls_4 (k := k) h0 (.inr (by rw [← HLn.out]; exact h2))
        rw [e1, e2]
        clear e1 e2 h0
        go_enter Try.func53, Try.ntmps53
        go_wp2_with fail
        refine (rValidate_c _ _ _ _ _ h).mono ?_
        rintro e w1 ⟨rfl, hb1⟩
        go_wp2_with fail
        go_ret2
        exact ⟨_, rfl, JbV.nil _ _, hb1⟩
      · have d2 := decF h2
        obtain ⟨e1, e2⟩ := ls_0 (k := k) h0 (by rw [← HLn.out]; exact fun h => h.elim h1 h2)
        obtain ⟨q, rfl⟩ : ∃ q : Nat, k = q := ⟨k.toNat, by omega⟩
        rw [Int.toNat_natCast] at e2
        rw [e1, e2]
        have HE := Lib.hid h0
        have hqn : q < n := by omega
        obtain ⟨b, o, hab, hS⟩ : ∃ b o, a = some ⟨b, o, none⟩ ∧ Sl w b o n L := by
          rcases h.2 with h' | h'
          · omega
          · exact h'
        subst hab
        obtain ⟨j, hj⟩ : ∃ j, j = q + 1 := ⟨_, rfl⟩
        obtain ⟨c1, A, hA, c2⟩ := less_parts hS hc hqn
        rw [← hj] at hA c2
        have HC1 := Lib.hid c1
        have HC2 := Lib.hid c2
        have hwr : IntKind.i64.wrap ((q : Int) + 1) = (j : Int) := by rw [show (q : Int) + 1 = (j : Int) by omega]; exact wrap_small _ (by omega) (by omega)
        have hjn : j ≤ n := by omega
        have hjc : j ≤ c := by omega
        have hkc : q ≤ c := by omega
        have HL : Hid (L.take q ++ L.drop j = lessJ L q) := Lib.hid (by rw [hj]; rfl)
        have HL1 : Hid (q = (L.take q).length) := Lib.hid (by rw [List.length_take]; have := HLn.out; omega)
        have HL2 : Hid (n - j = (L.drop j).length) := Lib.hid (by rw [List.length_drop, HLn.out])
        have HM : Hid (q + (n - j) ≤ 1000) := Lib.hid (by omega)
        clear e1 e2 h0 h1 h2 c1 c2 hS h hj
        go_enter Try.func53, Try.ntmps53
        go_wp2_with fail
        refine (rValidate_c _ _ _ _ _ H.out).mono ?_
        rintro e w1 ⟨rfl, hb1⟩
        go_wp2_with fail
        obtain ⟨i0, hi, hz0, hz1, hz2⟩ := info_parts info30
        have HB1 := Lib.hid hb1
        go_region_law (first | (refine step_own rfl (.tmp 20) (.tmp 23) 22 rfl w1.heap.size 30 i0 (.agg #[.int .i64 0, .int .i64 0, .int .i64 0]) 3 24 Try.underlying22 hi hz0 hz1 hz2 rfl (by decide) (.slice (some ⟨w1.heap.size, 0, none⟩) 0 0) 0 _ (by simp [Act.eval]) (World.ownsRow_lit w1.drew #[] 0 (Nat.le_refl _) (by decide) rfl) ⟨b, o, none⟩ q c (jbCells (L.take q)) (by simp [Act.eval]) (by rw [jbCells_length, ← HL1.out]) (HC1.out _ (btr HB1.out ((Below.refl w1.heap.size w1).drew.alloc (Nat.le_refl _) _))) (jbCells_one _) (by have := HM.out; unfold maxLen; omega) (by have := HM.out; omega) (((Below.refl w1.heap.size w1).drew.alloc (Nat.le_refl _) _)).size ?_; intro v1 w2 hown1 hg1; have hb2 := ((Below.refl w1.heap.size w1).drew.alloc (Nat.le_refl _) _).grown hg1 (by simp) (fun q hq => by cases hq; exact Nat.le_refl _)) | (refine step_own rfl (.tmp 24) (.tmp 28) 22 rfl w1.heap.size 30 i0 (.agg #[.int .i64 0, .int .i64 0, .int .i64 0]) 3 24 Try.underlying22 hi hz0 hz1 hz2 rfl (by decide) v1 (0 + q) _ (by simp [Act.eval]) (hown1) A (n - j) (c - j) (jbCells (L.drop j)) (by simp [Act.eval]) (by rw [jbCells_length, ← HL2.out]) (HC2.out _ (btr HB1.out hb2)) (jbCells_one _) (by have := HM.out; unfold maxLen; omega) (by have := HM.out; omega) (hb2).size ?_; intro v2 w3 hown2 hg2; have hb3 := hb2.grown hg2 hb2.size (fun q hq => (hown1.lt q hq).1)))
        go_wp2_with fail
        go_ret2
        rw [List.nil_append, ← jbCells_app, HL.out] at hown2
        exact ⟨_, rfl, ownsRow_jb (own_mono hown2 hb1.size), btr hb1 hb3⟩
  · have hne : (vErr L != 0) = true := by simpa using h0
    obtain ⟨e1, e2⟩ := ls_v (k := k) h0
    rw [e1, e2]
    have _ := hc
    have _ := hm
    clear e1 e2 h0
    go_enter Try.func53, Try.ntmps53
    go_wp2_with fail
    refine (rValidate_c _ _ _ _ _ h).mono ?_
    rintro e w1 ⟨rfl, hb1⟩
    go_wp2_with fail
    go_ret2
    exact ⟨_, rfl, JbV.nil _ _, hb1⟩

set_option maxRecDepth 100000 in
set_option maxHeartbeats 3200000 in
theorem Without_c (a : Option Addr) (n c : Nat) (L : List Jb) (k : Int) (w : World) (h : SlO w a n L) (hc : n ≤ c) (hm : c ≤ maxLen) : Calls Try.prog 52 #[.slice a n c, .int .i64 k] w (RetJb w (lsL L k) (lsErr L k)) := by
  by_cases h0 : vErr L = 0
  · have hne : (vErr L != 0) = false := by simp [h0]
    have HLn : Hid (n = L.length) := Lib.hid h.1
    have h8 : n ≤ 8 := by have := (vErr_zero.1 h0).le; have := h.1; omega
    have H := Lib.hid h
    by_cases h1 : k < 0
    · have d1 := decT h1
      obtain ⟨e1, e2⟩ := ls_4 h0 (.inl h1)
      rw [e1, e2]
      clear e1 e2 h0
      go_enter Try.func52, Try.ntmps52
      go_wp2_with fail
      refine (Validate_c _ _ _ _ _ h).mono ?_
      rintro e w1 ⟨rfl, hb1⟩
      go_wp2_with fail
      go_ret2
      exact ⟨_, rfl, JbV.nil _ _, hb1⟩
    · have d1 := decF h1
      by_cases h2 : (n : Int) ≤ k
      · have d2 := decT h2
        obtain ⟨e1, e2⟩ := ls_4 (k := k) h0 (.inr (by rw [← HLn.out]; exact h2))
        rw [e1, e2]
        clear e1 e2 h0
        go_enter Try.func52, Try.ntmps52
        go_wp2_with fail
        refine (Validate_c _ _ _ _ _ h).mono ?_
        rintro e w1 ⟨rfl, hb1⟩
        go_wp2_with fail
        go_ret2
        exact ⟨_, rfl, JbV.nil _ _, hb1⟩
      · have d2 := decF h2
        obtain ⟨e1, e2⟩ := ls_0 (k := k) h0 (by rw [← HLn.out]; exact fun h => h.elim h1 h2)
        obtain ⟨q, rfl⟩ : ∃ q : Nat, k = q := ⟨k.toNat, by omega⟩
        rw [Int.toNat_natCast] at e2
        rw [e1, e2]
        have HE := Lib.hid h0
        have hqn : q < n := by omega
        obtain ⟨b, o, hab, hS⟩ : ∃ b o, a = some ⟨b, o, none⟩ ∧ Sl w b o n L := by
          rcases h.2 with h' | h'
          · omega
          · exact h'
        subst hab
        obtain ⟨j, hj⟩ : ∃ j, j = q + 1 := ⟨_, rfl⟩
        obtain ⟨c1, A, hA, c2⟩ := less_parts hS hc hqn
        rw [← hj] at hA c2
        have HC1 := Lib.hid c1
        have HC2 := Lib.hid c2
        have hwr : IntKind.i64.wrap ((q : Int) + 1) = (j : Int) := by rw [show (q : Int) + 1 = (j : Int) by omega]; exact wrap_small _ (by omega) (by omega)
        have hjn : j ≤ n := by omega
        have hjc : j ≤ c := by omega
        have hkc : q ≤ c := by omega
        have HL : Hid (L.take q ++ L.drop j = lessJ L q) := Lib.hid (by rw [hj]; rfl)
        have HL1 : Hid (q = (L.take q).length) := Lib.hid (by rw [List.length_take]; have := HLn.out; omega)
        have HL2 : Hid (n - j = (L.drop j).length) := Lib.hid (by rw [List.length_drop, HLn.out])
        have HM : Hid (q + (n - j) ≤ 1000) := Lib.hid (by omega)
        clear e1 e2 h0 h1 h2 c1 c2 hS h hj
        go_enter Try.func52, Try.ntmps52
        go_wp2_with fail
        refine (Validate_c _ _ _ _ _ H.out).mono ?_
        rintro e w1 ⟨rfl, hb1⟩
        go_wp2_with fail
        refine wp_region_T 8 (by kernel_rfl) (by kernel_rfl) ?_
        simp only [List.take_succ_cons, List.take_zero, List.drop_succ_cons, List.drop_zero]
        repeat (go_big_quiet_step (fail))
        refine wpQuiet_nil ?_
        intro w2 hb2
        have B2 := btr hb1 hb2
        have HBA : Hid (Below w.heap.size w (w2.alloc (.cells #[.slice (some ⟨b, o, none⟩) q q, .slice (some A) (n - j) (c - j)] 22))) := Lib.hid (B2.alloc B2.size _)
        go_wp2_with fail
        refine (Concat_c w2.heap.size q q (n - j) (c - j) ⟨b, o, none⟩ A (L.take q) (L.drop j) _ (by simp [go_sem]) (by simp [go_sem]) HL1.out HL2.out (fun W hW => HC1.out W (btr HBA.out hW)) (fun W hW => HC2.out W (btr HBA.out hW)) HM.out).mono ?_
        rintro e w3 ⟨v3, rfl, hv3, hb3⟩
        go_wp2_with fail
        go_ret2
        rw [HL.out] at hv3
        exact ⟨_, rfl, ownsRow_jb (own_mono hv3 HBA.out.size), btr HBA.out hb3⟩
  · have hne : (vErr L != 0) = true := by simpa using h0
    obtain ⟨e1, e2⟩ := ls_v (k := k) h0
    rw [e1, e2]
    have _ := hc
    have _ := hm
    clear e1 e2 h0
    go_enter Try.func52, Try.ntmps52
    go_wp2_with fail
    refine (Validate_c _ _ _ _ _ h).mono ?_
    rintro e w1 ⟨rfl, hb1⟩
    go_wp2_with fail
    go_ret2
    exact ⟨_, rfl, JbV.nil _ _, hb1⟩

end Go.Proofs.Ytbmbogaejmgloaa
