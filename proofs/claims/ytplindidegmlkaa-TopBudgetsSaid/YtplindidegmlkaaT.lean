/- Pairs in memory; the shares and the total of budget. -/
import Derived.Test.YtplindidegmlkaaV
namespace Go.Proofs.Ytplindidegmlkaa
open Go.RowKit Go.Sort

def pr (xs : List (Int × Int)) (i : Nat) : Int × Int := xs.getD i (0, 0)
structure P2 (w : World) (b o n : Nat) (xs : List (Int × Int)) : Prop where
  len : n = xs.length
  lt : b < w.heap.size
  c0 : ∀ i, i < n → w.cell? ⟨b, o + i * 2, none⟩ = some (.int .i64 (pr xs i).1)
  c1 : ∀ i, i < n → w.cell? ⟨b, o + i * 2 + 1, none⟩ = some (.int .i64 (pr xs i).2)
theorem P2.below {w w' : World} {B b o n : Nat} {xs : List (Int × Int)} (h : P2 w b o n xs) (hb : Below B w w') (hB : w.heap.size ≤ B) : P2 w' b o n xs :=
  have hl : b < B := Nat.lt_of_lt_of_le h.lt hB
  ⟨h.len, Nat.lt_of_lt_of_le h.lt hb.size, fun i hi => by rw [hb.cell (p := ⟨b, _, none⟩) hl]; exact h.c0 i hi, fun i hi => by rw [hb.cell (p := ⟨b, _, none⟩) hl]; exact h.c1 i hi⟩
def P2O (w : World) (a : Option Addr) (n : Nat) (xs : List (Int × Int)) : Prop := n = xs.length ∧ (n = 0 ∨ ∃ b o, a = some ⟨b, o, none⟩ ∧ P2 w b o n xs)
def P2V (w : World) (B : Nat) (v : Value) (xs : List (Int × Int)) : Prop :=
  ∃ a c, v = .slice a xs.length c ∧ P2O w a xs.length xs ∧ xs.length ≤ c ∧ c ≤ maxLen ∧ ∀ x : Addr, a = some x → B ≤ x.block
def p2Cells (xs : List (Int × Int)) : List Value := xs.flatMap fun x => [.int .i64 x.1, .int .i64 x.2]
theorem p2Cells_length (xs : List (Int × Int)) : (p2Cells xs).length = xs.length * 2 := by
  induction xs with
  | nil => rfl
  | cons x L ih => simp only [p2Cells, List.flatMap_cons, List.length_append, List.length_cons, List.length_nil] at *; omega
theorem p2Cells_at : ∀ (L : List (Int × Int)) (i : Nat), i < L.length → (p2Cells L)[i * 2]? = some (.int .i64 (pr L i).1) ∧ (p2Cells L)[i * 2 + 1]? = some (.int .i64 (pr L i).2)
  | [], i, h => absurd h (by simp)
  | x :: L, 0, _ => ⟨rfl, rfl⟩
  | x :: L, i + 1, h => by
    obtain ⟨h1, h2⟩ := p2Cells_at L i (by simpa using h)
    have e : ∀ k, (p2Cells (x :: L))[k + 2]? = (p2Cells L)[k]? := fun k => by simp [p2Cells]
    have ea : pr (x :: L) (i + 1) = pr L i := rfl
    rw [ea]
    refine ⟨?_, ?_⟩
    · rw [show (i + 1) * 2 = i * 2 + 2 by omega, e]; exact h1
    · rw [show (i + 1) * 2 + 1 = (i * 2 + 1) + 2 by omega, e]; exact h2
theorem p2Cells_snoc (L : List (Int × Int)) (x : Int × Int) : p2Cells (L ++ [x]) = p2Cells L ++ [.int .i64 x.1, .int .i64 x.2] := by simp [p2Cells]
theorem ownsRow_p2 {w : World} {base : Nat} {e : TypeId} {v : Value} {n : Nat} {L : List (Int × Int)} (h : w.ownsRow base e 2 v n (p2Cells L)) : P2V w base v L := by
  obtain ⟨h1, h2⟩ := h
  have hn : n = L.length := by rw [p2Cells_length] at h1; omega
  subst hn
  rcases h2 with ⟨rfl, h0⟩ | ⟨g, cap, cur, hv, hg, hh, hc1, hc2, hsz, htk⟩
  · have : L = [] := List.eq_nil_of_length_eq_zero h0
    subst this
    exact ⟨none, 0, rfl, ⟨rfl, .inl rfl⟩, Nat.le_refl _, Nat.zero_le _, fun _ h => by cases h⟩
  · subst hv
    have hown : w.ownsRow base e 2 (.slice (some ⟨g, 0, none⟩) L.length cap) L.length (p2Cells L) :=
      ⟨p2Cells_length L, .inr ⟨g, cap, cur, rfl, hg, hh, hc1, hc2, hsz, htk⟩⟩
    refine ⟨some ⟨g, 0, none⟩, cap, rfl, ⟨rfl, .inr ⟨g, 0, rfl, ⟨rfl, ?_, fun i hi => ?_, fun i hi => ?_⟩⟩⟩, hc1, hc2, fun x hx => by cases hx; exact hg⟩
    · exact (Array.getElem?_eq_some_iff.1 hh).1
    · rw [Nat.zero_add, hown.cellAt _ (by omega)]; exact (p2Cells_at L i hi).1
    · rw [Nat.zero_add, hown.cellAt _ (by omega)]; exact (p2Cells_at L i hi).2


theorem cells2_new (w : World) (x y : Value) (t : TypeId) : ∀ j u, [x, y][j]? = some u → (w.alloc (.cells #[x, y] t)).cell? ((⟨w.heap.size, 0, none⟩ : Addr).add j) = some u := by
  intro j u hj
  match j, hj with
  | 0, hj => simp at hj; subst hj; simp [go_sem, Addr.add]
  | 1, hj => simp at hj; subst hj; simp [go_sem, Addr.add]
  | j + 2, hj => simp at hj
theorem one2 (a b : Int) : ∀ u ∈ [Value.int .i64 a, .int .i64 b], u.oneCell' = true := by simp [Value.oneCell']

theorem P2O.below {w w' : World} {B n : Nat} {a : Option Addr} {xs : List (Int × Int)} (h : P2O w a n xs) (hb : Below B w w') (hB : w.heap.size ≤ B) : P2O w' a n xs := by
  obtain ⟨h1, h2⟩ := h
  refine ⟨h1, ?_⟩
  rcases h2 with h2 | ⟨b, o, h3, h4⟩
  · exact .inl h2
  · exact .inr ⟨b, o, h3, h4.below hb hB⟩

theorem info_parts {e : TypeId} {z : Value} {s y : Nat} (h : (Try.prog.info? e).map (fun i => (i.zero, i.size, i.bytes)) = some (some z, s, y)) : ∃ i, Try.prog.info? e = some i ∧ i.zero = some z ∧ i.size = s ∧ i.bytes = y := by
  cases hi : Try.prog.info? e with
  | none => rw [hi] at h; cases h
  | some i => rw [hi] at h; simp at h; exact ⟨i, rfl, h.1, h.2.1, h.2.2⟩

def shF (L : List It) (i : Nat) : Int × Int := (shN (at_ L i), shD (at_ L i))
/-- The shares. -/
def shL (L : List It) : List (Int × Int) := (List.range L.length).map (shF L)
theorem shL_length (L : List It) : (shL L).length = L.length := by simp [shL]
theorem pr_shL {L : List It} {i : Nat} (h : i < L.length) : pr (shL L) i = shF L i := by
  unfold pr shL
  simp [List.getD_eq_getElem?_getD, h]

/-- A row of pairs of the call's own comes back. -/
def RetP (w : World) (e1 : TypeId) (m : Nat) (xs : List (Int × Int)) (e : Ending) (w' : World) : Prop :=
  ∃ v, e = .returned v ∧ w'.ownsRow w.heap.size e1 2 v m (p2Cells xs) ∧ Below w.heap.size w w'

set_option maxHeartbeats 1600000 in
theorem shares_c (a : Option Addr) (n c : Nat) (L : List It) (w : World) (h : SlO w a n L) (hv : Valid L) : Calls Try.prog 60 #[.slice a n c] w (RetP w 77 n (shL L)) := by
  have HV := Lib.hid hv
  have HH := Lib.hid h
  have HLn := Lib.hid h.1
  have hn6 : n ≤ 6 := by have := h.1; have := hv.le; omega
  obtain ⟨i0, hi, hz0, hz1, hz2⟩ := info_parts info77
  clear h hv
  go_enter Try.func60, Try.ntmps60
  go_wp2_with fail
  go_loopw [3, 8] (fun v i wr => ∃ k : Nat, k ≤ n ∧ i = .int .i64 k ∧ Below w.heap.size w wr ∧ wr.ownsRow w.heap.size 77 2 v k (p2Cells ((List.range k).map (shF L)))) (fun _ i _ => n - (intOf i).toNat)
  case atStart => exact ⟨0, Nat.zero_le _, rfl, Below.refl _ _, World.ownsRow_nil _ _ _ _⟩
  case round =>
    obtain ⟨k, hk, rfl, hb, hown⟩ := hrel
    have HO := Lib.hid hown
    clear hown
    by_cases hlt : k < n
    · obtain ⟨b, o, rfl, hS⟩ : ∃ b o, a = some ⟨b, o, none⟩ ∧ Sl w b o n L := by
        rcases HH.out.2 with h' | h'
        · omega
        · exact h'
      have hS' := hS.below hb (Nat.le_refl _)
      have c0 := hS'.c0 k hlt
      have c1 := hS'.c1 k hlt
      have c2 := hS'.c2 k hlt
      have HOK : Hid (okI ⟨(at_ L k).u, (at_ L k).n, (at_ L k).d⟩ = true) := Lib.hid (HV.out.ok k (by have := HLn.out; omega))
      clear hS hS'
      go_wp2_with fail
      refine (share_c _ _ _ _ HOK.out).mono ?_
      rintro e w4 ⟨rfl, hb4⟩
      have B4 : Below w.heap.size w w4 := btr (hb.alloc hb.size _) hb4
      have HO4 := Lib.hid (ownsRow_below (HO.out.alloc _) hb4)
      have HSN : Hid (shN ⟨(at_ L k).u, (at_ L k).n, (at_ L k).d⟩ = (shF L k).1 ∧ shD ⟨(at_ L k).u, (at_ L k).n, (at_ L k).d⟩ = (shF L k).2) := Lib.hid ⟨rfl, rfl⟩
      rw [HSN.out.1, HSN.out.2]
      clear hb4 c0 c1 c2 hb
      go_wp2_with (at_builtin; refine wpList_append_own _ rfl _ _ 75 rfl w.heap.size 77 i0 (.agg #[.int .i64 0, .int .i64 0]) 2 16 Try.underlying75 hi hz0 hz1 hz2 rfl (by decide) _ _ _ rfl (HO4.out.alloc _) ⟨w4.heap.size, 0, none⟩ 1 1 [.int .i64 (shF L k).1, .int .i64 (shF L k).2] rfl rfl (cells2_new _ _ _ _) (one2 _ _) (by unfold maxLen; omega) (by omega) (by have := B4.size; simp; omega) ?_)
      intro v' w5 hown5 hg5 _
      have hb5 : Below w.heap.size w w5 := (B4.alloc B4.size _).grown hg5 (by have := B4.size; simp; omega) (fun q hq => (HO4.out.lt q hq).1)
      have HO5 := Lib.hid hown5
      clear hown5 hg5
      go_wp2_with fail
      exact ⟨⟨k + 1, by omega, by go_num, hb5, by rw [List.range_succ, List.map_append, List.map_singleton, p2Cells_snoc]; exact HO5.out⟩, by simp [intOf]; omega⟩
    · have hkn : k = n := by omega
      have hd : ¬ (k : Int) < n := by omega
      have HKN := Lib.hid hkn
      clear hkn hlt
      go_wp2_with fail
      go_ret
      refine ⟨_, rfl, ?_, hb⟩
      have h1 := HO.out
      rw [HKN.out] at h1
      unfold shL
      rw [← HLn.out]
      exact h1
end Go.Proofs.Ytplindidegmlkaa
