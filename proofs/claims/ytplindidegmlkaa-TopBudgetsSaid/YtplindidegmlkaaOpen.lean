/- Arguments that came in, opened to cells: slices of items, of fixes and of numbers; fractions; a plan; a use. -/
import Derived.Test.YtplindidegmlkaaF
import Derived.Deep.Slices
import Derived.Deep.Fields
import Derived.ChangeSame
import Derived.ProofKit
import Derived.OpenShut
import Derived.Lib.SmallJoins
namespace Go.Proofs.Ytplindidegmlkaa
open Go.ChangeShapes Go.WideShapes Go.Deep Go.RowKit Go.ChangeAt

theorem own : ownKnob Try.prog.godebug = none := by kernel_rfl
theorem laidOut : laidOutB Try.prog = true := by kernel_rfl
theorem cells3 : Try.prog.cellsOf 3 = 1 := by kernel_rfl
theorem cells25 : Try.prog.cellsOf 25 = 2 := by kernel_rfl
theorem cells31 : Try.prog.cellsOf 31 = 3 := by kernel_rfl
theorem cells98 : Try.prog.cellsOf 98 = 4 := by kernel_rfl
theorem cells67 : Try.prog.cellsOf 67 = 3 := by kernel_rfl
theorem cells72 : Try.prog.cellsOf 72 = 3 := by kernel_rfl
theorem cells26 : Try.prog.cellsOf 26 = 1 := by kernel_rfl

section
variable {H : Type} {enc : TypeId × Value → H} {W : World} {base : Nat} {spare : Nat → Bool} {held : Bool}

theorem take_one {cs : List Value} {k : Nat} {v : Value} (h : (cs.drop k).take 1 = [v]) : cs[k]? = some v := by
  have e : ((cs.drop k).take 1)[0]? = some v := by rw [h]; rfl
  simpa using e
theorem trod_at {n : Nat} {cs : List Value} {k : Nat} {x : DataW H × List MemPlace} (h : DataW.trod enc Try.prog W base spare held n 3 ((cs.drop k).take (Try.prog.cellsOf 3)) = some x) : ∃ q : Int, cs[k]? = some (.int .i64 q) := by
  obtain ⟨q, hq, _, _⟩ := DataW.trod_int Try.underlying3 h
  rw [cells3] at hq
  exact ⟨q, take_one hq⟩
theorem get_some {α : Type} {xs : List α} {k m : Nat} (h : xs.length = m) (hk : k < m) : ∃ x, xs[k]? = some x := ⟨xs[k]'(by omega), List.getElem?_eq_getElem (by omega)⟩
theorem list2 {cs : List Value} {a b : Value} (hl : cs.length = 2) (h0 : cs[0]? = some a) (h1 : cs[1]? = some b) : cs = [a, b] := by
  match cs, hl with
  | [x, y], _ => simp at h0 h1; subst h0 h1; rfl
theorem list3 {cs : List Value} {a b c : Value} (hl : cs.length = 3) (h0 : cs[0]? = some a) (h1 : cs[1]? = some b) (h2 : cs[2]? = some c) : cs = [a, b, c] := by
  match cs, hl with
  | [x, y, z], _ => simp at h0 h1 h2; subst h0 h1 h2; rfl
theorem list4 {cs : List Value} {a b c d : Value} (hl : cs.length = 4) (h0 : cs[0]? = some a) (h1 : cs[1]? = some b) (h2 : cs[2]? = some c) (h3 : cs[3]? = some d) : cs = [a, b, c, d] := by
  match cs, hl with
  | [x, y, z, u], _ => simp at h0 h1 h2 h3; subst h0 h1 h2 h3; rfl

theorem trod_rat {n : Nat} {cs : List Value} {x : DataW H × List MemPlace} (h : DataW.trod enc Try.prog W base spare held n 25 cs = some x) : ∃ a b : Int, cs = [.int .i64 a, .int .i64 b] := by
  obtain ⟨xs, m, _, _, hl, hx, hf⟩ := DataW.trod_struct Try.underlying25 h
  rw [cells25] at hl
  have hx2 : xs.length = 2 := hx
  obtain ⟨y0, e0⟩ := get_some hx2 (show 0 < 2 by decide)
  obtain ⟨y1, e1⟩ := get_some hx2 (show 1 < 2 by decide)
  obtain ⟨a, ha⟩ := trod_at (k := 0) ((hf 0 _ rfl).trans e0)
  obtain ⟨b, hb⟩ := trod_at (k := 1) ((hf 1 _ rfl).trans e1)
  exact ⟨a, b, list2 hl ha hb⟩
theorem rat_at {n : Nat} {cs : List Value} {k : Nat} {x : DataW H × List MemPlace} (h : DataW.trod enc Try.prog W base spare held n 25 ((cs.drop k).take (Try.prog.cellsOf 25)) = some x) : ∃ a b : Int, cs[k]? = some (.int .i64 a) ∧ cs[k + 1]? = some (.int .i64 b) := by
  rw [cells25] at h
  obtain ⟨a, b, e⟩ := trod_rat h
  have e0 : ((cs.drop k).take 2)[0]? = some (.int .i64 a) := by rw [e]; rfl
  have e1 : ((cs.drop k).take 2)[1]? = some (.int .i64 b) := by rw [e]; rfl
  refine ⟨a, b, ?_, ?_⟩
  · simpa using e0
  · simpa [List.getElem?_take, List.getElem?_drop, Nat.add_comm] using e1
theorem trod_item {n : Nat} {cs : List Value} {x : DataW H × List MemPlace} (h : DataW.trod enc Try.prog W base spare held n 31 cs = some x) : ∃ a b c : Int, cs = [.int .i64 a, .int .i64 b, .int .i64 c] := by
  obtain ⟨xs, m, _, _, hl, hx, hf⟩ := DataW.trod_struct Try.underlying31 h
  rw [cells31] at hl
  have hx2 : xs.length = 2 := hx
  obtain ⟨y0, e0⟩ := get_some hx2 (show 0 < 2 by decide)
  obtain ⟨y1, e1⟩ := get_some hx2 (show 1 < 2 by decide)
  obtain ⟨a, ha⟩ := trod_at (k := 0) ((hf 0 _ rfl).trans e0)
  obtain ⟨b, c, hb, hc⟩ := rat_at (k := 1) ((hf 1 _ rfl).trans e1)
  exact ⟨a, b, c, list3 hl ha hb hc⟩
theorem trod_fix {n : Nat} {cs : List Value} {x : DataW H × List MemPlace} (h : DataW.trod enc Try.prog W base spare held n 98 cs = some x) : ∃ a b c d : Int, cs = [.int .i64 a, .int .i64 b, .int .i64 c, .int .i64 d] := by
  obtain ⟨xs, m, _, _, hl, hx, hf⟩ := DataW.trod_struct Try.underlying98 h
  rw [cells98] at hl
  have hx2 : xs.length = 3 := hx
  obtain ⟨y0, e0⟩ := get_some hx2 (show 0 < 3 by decide)
  obtain ⟨y1, e1⟩ := get_some hx2 (show 1 < 3 by decide)
  obtain ⟨y2, e2⟩ := get_some hx2 (show 2 < 3 by decide)
  obtain ⟨a, ha⟩ := trod_at (k := 0) ((hf 0 _ rfl).trans e0)
  obtain ⟨b, c, hb, hc⟩ := rat_at (k := 1) ((hf 1 _ rfl).trans e1)
  obtain ⟨d, hd⟩ := trod_at (k := 3) ((hf 2 _ rfl).trans e2)
  exact ⟨a, b, c, d, list4 hl ha hb hc hd⟩
end

/-- The number in a cell. -/
def cv (w : World) (a : Addr) : Int := match w.cell? a with | some (.int _ q) => q | _ => 0

theorem add_none (b o k : Nat) : Addr.add ⟨b, o, none⟩ k = ⟨b, o + k, none⟩ := by
  unfold Addr.add
  split
  · rename_i h0; rw [h0, Nat.add_zero]
  · rfl

theorem open_its {H : Type} {enc : TypeId × Value → H} {W : World} {a : Option Addr} {n c : Nat} {d : DataW H} {p : List MemPlace}
    (h : DataW.Trod enc Try.prog W 0 (fun _ => true) true 22 (.slice a n c) d p) : ∃ L, SlO W a n L ∧ n ≤ c ∧ c ≤ maxLen := by
  obtain ⟨fuel, hf⟩ := h
  rcases open_slice Try.underlying22 hf with ⟨hcs, _⟩ | ⟨x, l, k, m, nn, D, Pl, hcs, _, hl, hm, hmm, _, hi⟩
  · simp [Value.cells] at hcs
    obtain ⟨rfl, rfl, rfl⟩ := hcs
    exact ⟨[], ⟨rfl, .inl rfl⟩, Nat.le_refl _, Nat.zero_le _⟩
  · simp [Value.cells] at hcs
    obtain ⟨rfl, rfl, rfl⟩ := hcs
    simp only [if_true] at hmm
    subst hmm
    by_cases h0 : n = 0
    · subst h0
      exact ⟨[], ⟨rfl, .inl rfl⟩, hl, hm⟩
    have hcell : ∀ i, i < n → ∃ q0 q1 q2 : Int, W.cell? (x.add (i * 3)) = some (.int .i64 q0) ∧ W.cell? ((x.add (i * 3)).add 1) = some (.int .i64 q1) ∧ W.cell? ((x.add (i * 3)).add 2) = some (.int .i64 q2) := by
      intro i hin
      obtain ⟨cs', hc, ht⟩ := hi i (by omega)
      rw [cells31] at hc
      obtain ⟨q0, q1, q2, rfl⟩ := trod_item ht
      obtain ⟨_, _, hat⟩ := World.cells?_some hc
      have a0 := hat 0 (by decide)
      have a1 := hat 1 (by decide)
      have a2 := hat 2 (by decide)
      exact ⟨q0, q1, q2, by simpa [Addr.add] using a0, by simpa using a1, by simpa using a2⟩
    obtain ⟨b, o, spot⟩ := x
    have hspot : spot = none := by
      obtain ⟨q0, _, _, h1, _⟩ := hcell 0 (by omega)
      simpa [Addr.add] using World.cell?_spot h1
    subst hspot
    simp only [add_none] at hcell
    refine ⟨(List.range n).map fun i => ⟨cv W ⟨b, o + i * 3, none⟩, cv W ⟨b, o + i * 3 + 1, none⟩, cv W ⟨b, o + i * 3 + 2, none⟩⟩, ⟨by simp, .inr ⟨b, o, rfl, ?_⟩⟩, hl, hm⟩
    have hat : ∀ i, i < n → at_ ((List.range n).map fun i => (⟨cv W ⟨b, o + i * 3, none⟩, cv W ⟨b, o + i * 3 + 1, none⟩, cv W ⟨b, o + i * 3 + 2, none⟩⟩ : It)) i = ⟨cv W ⟨b, o + i * 3, none⟩, cv W ⟨b, o + i * 3 + 1, none⟩, cv W ⟨b, o + i * 3 + 2, none⟩⟩ := by
      intro i hin
      simp [at_, hin]
    refine ⟨by simp, ?_, fun i hin => ?_, fun i hin => ?_, fun i hin => ?_⟩
    · obtain ⟨q0, _, _, h1, _⟩ := hcell 0 (by omega)
      exact block_lt_of_cell h1
    · rw [hat i hin]
      obtain ⟨q0, q1, q2, h1, h2, h3⟩ := hcell i hin
      rw [h1]; simp [cv, h1]
    · rw [hat i hin]
      obtain ⟨q0, q1, q2, h1, h2, h3⟩ := hcell i hin
      rw [h2]; simp [cv, h2]
    · rw [hat i hin]
      obtain ⟨q0, q1, q2, h1, h2, h3⟩ := hcell i hin
      rw [h3]; simp [cv, h3]

theorem open_fxs {H : Type} {enc : TypeId × Value → H} {W : World} {a : Option Addr} {n c : Nat} {d : DataW H} {p : List MemPlace}
    (h : DataW.Trod enc Try.prog W 0 (fun _ => true) true 23 (.slice a n c) d p) : ∃ F, FlO W a n F ∧ n ≤ c ∧ c ≤ maxLen := by
  obtain ⟨fuel, hf⟩ := h
  rcases open_slice Try.underlying23 hf with ⟨hcs, _⟩ | ⟨x, l, k, m, nn, D, Pl, hcs, _, hl, hm, hmm, _, hi⟩
  · simp [Value.cells] at hcs
    obtain ⟨rfl, rfl, rfl⟩ := hcs
    exact ⟨[], ⟨rfl, .inl rfl⟩, Nat.le_refl _, Nat.zero_le _⟩
  · simp [Value.cells] at hcs
    obtain ⟨rfl, rfl, rfl⟩ := hcs
    simp only [if_true] at hmm
    subst hmm
    by_cases h0 : n = 0
    · subst h0
      exact ⟨[], ⟨rfl, .inl rfl⟩, hl, hm⟩
    have hcell : ∀ i, i < n → ∃ q0 q1 q2 q3 : Int, W.cell? (x.add (i * 4)) = some (.int .i64 q0) ∧ W.cell? ((x.add (i * 4)).add 1) = some (.int .i64 q1) ∧ W.cell? ((x.add (i * 4)).add 2) = some (.int .i64 q2) ∧ W.cell? ((x.add (i * 4)).add 3) = some (.int .i64 q3) := by
      intro i hin
      obtain ⟨cs', hc, ht⟩ := hi i (by omega)
      rw [cells98] at hc
      obtain ⟨q0, q1, q2, q3, rfl⟩ := trod_fix ht
      obtain ⟨_, _, hat⟩ := World.cells?_some hc
      have a0 := hat 0 (by decide)
      have a1 := hat 1 (by decide)
      have a2 := hat 2 (by decide)
      have a3 := hat 3 (by decide)
      exact ⟨q0, q1, q2, q3, by simpa [Addr.add] using a0, by simpa using a1, by simpa using a2, by simpa using a3⟩
    obtain ⟨b, o, spot⟩ := x
    have hspot : spot = none := by
      obtain ⟨q0, _, _, _, h1, _⟩ := hcell 0 (by omega)
      simpa [Addr.add] using World.cell?_spot h1
    subst hspot
    simp only [add_none] at hcell
    refine ⟨(List.range n).map fun i => ⟨cv W ⟨b, o + i * 4, none⟩, cv W ⟨b, o + i * 4 + 1, none⟩, cv W ⟨b, o + i * 4 + 2, none⟩, cv W ⟨b, o + i * 4 + 3, none⟩⟩, ⟨by simp, .inr ⟨b, o, rfl, ?_⟩⟩, hl, hm⟩
    have hat : ∀ i, i < n → fx ((List.range n).map fun i => (⟨cv W ⟨b, o + i * 4, none⟩, cv W ⟨b, o + i * 4 + 1, none⟩, cv W ⟨b, o + i * 4 + 2, none⟩, cv W ⟨b, o + i * 4 + 3, none⟩⟩ : Fx)) i = ⟨cv W ⟨b, o + i * 4, none⟩, cv W ⟨b, o + i * 4 + 1, none⟩, cv W ⟨b, o + i * 4 + 2, none⟩, cv W ⟨b, o + i * 4 + 3, none⟩⟩ := by
      intro i hin
      simp [fx, hin]
    refine ⟨by simp, ?_, fun i hin => ?_, fun i hin => ?_, fun i hin => ?_, fun i hin => ?_⟩
    · obtain ⟨q0, _, _, _, h1, _⟩ := hcell 0 (by omega)
      exact block_lt_of_cell h1
    · rw [hat i hin]
      obtain ⟨q0, q1, q2, q3, h1, h2, h3, h4⟩ := hcell i hin
      rw [h1]; simp [cv, h1]
    · rw [hat i hin]
      obtain ⟨q0, q1, q2, q3, h1, h2, h3, h4⟩ := hcell i hin
      rw [h2]; simp [cv, h2]
    · rw [hat i hin]
      obtain ⟨q0, q1, q2, q3, h1, h2, h3, h4⟩ := hcell i hin
      rw [h3]; simp [cv, h3]
    · rw [hat i hin]
      obtain ⟨q0, q1, q2, q3, h1, h2, h3, h4⟩ := hcell i hin
      rw [h4]; simp [cv, h4]

set_option maxRecDepth 100000 in
theorem open_rat {H : Type} {enc : TypeId × Value → H} {W : World} {r : Reach} {b0 : Nat} {v : Value} {d : DataW H} {p : List MemPlace}
    (hv : Value.okWide Try.prog W r b0 25 v) (h : DataW.Trod enc Try.prog W 0 (fun _ => true) true 25 v d p) : ∃ x y : Int, v = .agg #[.int .i64 x, .int .i64 y] := by
  obtain ⟨cs, rfl, hsz⟩ := okWide_struct Try.underlying25 hv
  obtain ⟨fuel, hf⟩ := h
  obtain ⟨a, b, e⟩ := trod_rat hf
  refine ⟨a, b, ?_⟩
  have : cs.toList = [.int .i64 a, .int .i64 b] := e
  rw [← Array.toArray_toList (xs := cs), this]

theorem open_is {H : Type} {enc : TypeId × Value → H} {W : World} {a : Option Addr} {n c : Nat} {d : DataW H} {p : List MemPlace}
    (h : DataW.Trod enc Try.prog W 0 (fun _ => true) true 26 (.slice a n c) d p) : ∃ xs, IsO W a n xs ∧ n ≤ c ∧ c ≤ maxLen := by
  obtain ⟨fuel, hf⟩ := h
  rcases open_ints Try.underlying26 Try.underlying3 (by kernel_rfl) hf with ⟨hcs, _⟩ | ⟨x, l, k, zs, hcs, _, hl, hm, hz, _, hcell, _⟩
  · simp [Value.cells] at hcs
    obtain ⟨rfl, rfl, rfl⟩ := hcs
    exact ⟨[], ⟨rfl, .inl rfl⟩, Nat.le_refl _, Nat.zero_le _⟩
  · simp [Value.cells] at hcs
    obtain ⟨rfl, rfl, rfl⟩ := hcs
    have hz' : zs.length = c := by simpa using hz
    by_cases h0 : n = 0
    · subst h0
      exact ⟨[], ⟨rfl, .inl rfl⟩, hl, hm⟩
    obtain ⟨b, o, spot⟩ := x
    have hc0 := hcell 0 (by omega)
    have hspot : spot = none := by simpa [Addr.add] using World.cell?_spot hc0
    subst hspot
    have hlen : (zs.take n).length = n := by rw [List.length_take]; omega
    refine ⟨zs.take n, ⟨hlen.symm, .inr ⟨b, o, rfl, ⟨hlen.symm, block_lt_of_cell hc0, fun i hi => ?_⟩⟩⟩, hl, hm⟩
    have hc := hcell i (by omega)
    rw [add_none] at hc
    rw [hc]
    simp [gi, hi]

set_option maxRecDepth 100000 in
theorem open_use {H : Type} {enc : TypeId × Value → H} {W : World} {r : Reach} {b0 : Nat} {v : Value} {d : DataW H} {p : List MemPlace}
    (hv : Value.okWide Try.prog W r b0 67 v) (h : DataW.Trod enc Try.prog W 0 (fun _ => true) true 67 v d p) : ∃ x y z : Int, v = .agg #[.int .i64 x, .int .i64 y, .int .i64 z] := by
  obtain ⟨cs, rfl, hsz⟩ := okWide_struct Try.underlying67 hv
  obtain ⟨fuel, hf⟩ := h
  obtain ⟨xs, m, _, _, hl, hx, hf⟩ := DataW.trod_struct Try.underlying67 hf
  rw [cells67] at hl
  have hx2 : xs.length = 2 := hx
  obtain ⟨y0, e0⟩ := get_some hx2 (show 0 < 2 by decide)
  obtain ⟨y1, e1⟩ := get_some hx2 (show 1 < 2 by decide)
  obtain ⟨a, b, ha, hb⟩ := rat_at (k := 0) ((hf 0 _ rfl).trans e0)
  obtain ⟨c, hc⟩ := trod_at (k := 2) ((hf 1 _ rfl).trans e1)
  refine ⟨a, b, c, ?_⟩
  have : cs.toList = [.int .i64 a, .int .i64 b, .int .i64 c] := list3 hl ha hb hc
  rw [← Array.toArray_toList (xs := cs), this]

set_option maxRecDepth 100000 in
theorem open_plan {H : Type} {enc : TypeId × Value → H} {W : World} {r : Reach} {b0 : Nat} {v : Value} {d : DataW H} {p : List MemPlace}
    (hv : Value.okWide Try.prog W r b0 72 v) (h : DataW.Trod enc Try.prog W 0 (fun _ => true) true 72 v d p) : ∃ (x y : Int) (a : Option Addr) (n c : Nat) (xs : List Int), v = .agg #[.int .i64 x, .int .i64 y, .slice a n c] ∧ IsO W a n xs ∧ n ≤ c ∧ c ≤ maxLen := by
  obtain ⟨cs, rfl, hsz⟩ := okWide_struct Try.underlying72 hv
  obtain ⟨fuel, hf⟩ := h
  obtain ⟨xs, m, _, _, hl, hx, hf⟩ := DataW.trod_struct Try.underlying72 hf
  rw [cells72] at hl
  have hx2 : xs.length = 2 := hx
  obtain ⟨y0, e0⟩ := get_some hx2 (show 0 < 2 by decide)
  obtain ⟨y1, e1⟩ := get_some hx2 (show 1 < 2 by decide)
  obtain ⟨a, b, ha, hb⟩ := rat_at (k := 0) ((hf 0 _ rfl).trans e0)
  have h1 := (hf 1 _ rfl).trans e1
  obtain ⟨v2, hv2⟩ := get_some hl (show 2 < 3 by decide)
  have hsl : ∃ (ad : Option Addr) (n c : Nat), v2 = .slice ad n c ∧ DataW.trod enc Try.prog W 0 (fun _ => true) true m 26 (Value.slice ad n c).cells.toList = some y1 := by
    have e2 : ((cs.toList).drop 2).take (Try.prog.cellsOf 26) = [v2] := by
      rw [cells26]
      have hl' : cs.toList.length = 3 := hl
      have hv' : cs.toList[2]? = some v2 := hv2
      obtain ⟨a', b', c', e⟩ : ∃ a' b' c', cs.toList = [a', b', c'] := by
        match h : cs.toList, hl' with
        | [x, y, z], _ => exact ⟨x, y, z, rfl⟩
      rw [e] at hv' ⊢
      simpa using hv'
    have h2 : DataW.trod enc Try.prog W 0 (fun _ => true) true m 26 [v2] = some y1 := by rw [← e2]; exact h1
    rcases open_slice Try.underlying26 h2 with ⟨hcs, _⟩ | ⟨x, l, k, m', nn, D, Pl, hcs, _⟩
    · simp at hcs; subst hcs; exact ⟨_, _, _, rfl, h2⟩
    · simp at hcs; subst hcs; exact ⟨_, _, _, rfl, h2⟩
  obtain ⟨ad, n, c, rfl, ht⟩ := hsl
  obtain ⟨zs, hz, hzc, hzm⟩ := open_is (d := y1.1) (p := y1.2) ⟨m, ht⟩
  refine ⟨a, b, ad, n, c, zs, ?_, hz, hzc, hzm⟩
  have : cs.toList = [.int .i64 a, .int .i64 b, .slice ad n c] := list3 hl ha hb hv2
  rw [← Array.toArray_toList (xs := cs), this]
end Go.Proofs.Ytplindidegmlkaa
