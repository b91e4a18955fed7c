/- Slices of structs that came in, opened to cells: an argument that is a slice of jobs reads as a list. -/
import Derived.Test.YtbmbogaejmgloaaI
import Derived.Deep.Slices
import Derived.Deep.Fields
import Derived.ChangeSame
import Derived.ProofKit
import Derived.OpenShut
import Derived.Lib.SmallJoins
namespace Go.Proofs.Ytbmbogaejmgloaa
open Go.ChangeShapes Go.WideShapes Go.Deep Go.RowKit Go.ChangeAt
section
variable {H : Type} {enc : TypeId × Value → H} {P : Program} {w : World} {base : Nat} {spare : Nat → Bool} {held : Bool}
theorem open_slice_fields {t e : TypeId} {fs : Array Field} {fuel : Nat} {cs : List Value} {x : DataW H × List MemPlace} (ht : P.underlying t = some (.slice e)) (he : P.underlying e = some (.struct fs))
    (hone : oneCellFields P fs = true) (hC : P.cellsOf e = fs.size) (h : DataW.trod enc P w base spare held fuel t cs = some x) :
    (cs = [.slice none 0 0] ∧ x = (.nil, [])) ∨
    ∃ (a : Addr) (len cap m : Nat) (D : Nat → DataW H) (Pl : Nat → List MemPlace), cs = [.slice (some a) len cap] ∧ base ≤ a.block ∧ len ≤ cap ∧ cap ≤ maxLen ∧ m = (if spare a.block then cap else len) ∧
      x = (.slice ((List.range len).map D) ((List.range (m - len)).map fun j => D (len + j)), MemPlace.row a (m * fs.size) ++ (List.range m).flatMap Pl) ∧
      ∀ i, i < m → ∃ (ys : List (DataW H × List MemPlace)) (n : Nat), D i = .agg (ys.map (·.1)) ∧ Pl i = ys.flatMap (·.2) ∧ ys.length = fs.size ∧
        ∀ (j : Nat) (f : Field), fs[j]? = some f → ∃ (v : Value) (y : DataW H × List MemPlace), w.cell? (a.add (i * fs.size + j)) = some v ∧ ys[j]? = some y ∧ DataW.trod enc P w base spare held n f.type [v] = some y := by
  rcases open_slice ht h with h0 | ⟨a, len, cap, m, n, D, Pl, hcs, hb, hl, hm, hmm, hx, hi⟩
  · exact .inl h0
  · refine .inr ⟨a, len, cap, m, D, Pl, hcs, hb, hl, hm, hmm, by rw [hC] at hx; exact hx, fun i him => ?_⟩
    obtain ⟨cs', hc, ht'⟩ := hi i him
    rw [hC] at hc
    obtain ⟨ys, n', hn', hy, hlen, hyl, hf⟩ := DataW.trod_struct he ht'
    obtain ⟨_, hcl, hat⟩ := World.cells?_some hc
    simp only [Prod.mk.injEq] at hy
    refine ⟨ys, n', hy.1, hy.2, hyl, fun j f hj => ?_⟩
    obtain ⟨ho, hk⟩ := hone_of hone j f hj
    have hjl : j < fs.size := (Array.getElem?_eq_some_iff.1 hj).1
    have hcell := hat j hjl
    have hv : cs'[j]? = some (cs'[j]'(by omega)) := List.getElem?_eq_getElem (by omega)
    have h1 := hf j f hj
    rw [ho, hk] at h1
    have hone' : (cs'.drop j).take 1 = [cs'[j]'(by omega)] := by
      rw [List.drop_eq_getElem_cons (by omega)]
      rfl
    rw [hone'] at h1
    have hys : ys[j]? = some (ys[j]'(by omega)) := List.getElem?_eq_getElem (by omega)
    refine ⟨_, _, ?_, hys, h1.trans hys⟩
    rw [← Go.Deep.add_add, hcell, hv]
end

/-- The number in a cell. -/
def cv (w : World) (a : Addr) : Int := match w.cell? a with | some (.int _ q) => q | _ => 0

theorem open_jbs {H : Type} {enc : TypeId × Value → H} {W : World} {a : Option Addr} {n c : Nat} {d : DataW H} {p : List MemPlace}
    (h : DataW.Trod enc Try.prog W 0 (fun _ => true) true 22 (.slice a n c) d p) : ∃ L, SlO W a n L ∧ n ≤ c ∧ c ≤ maxLen := by
  obtain ⟨fuel, hf⟩ := h
  rcases open_slice_fields Try.underlying22 Try.underlying30 (by kernel_rfl) (by kernel_rfl) hf with ⟨hcs, _⟩ | ⟨x, l, k, m, D, Pl, hcs, _, hl, hm, hmm, _, hi⟩
  · simp [Value.cells] at hcs
    obtain ⟨rfl, rfl, rfl⟩ := hcs
    exact ⟨[], ⟨rfl, .inl rfl⟩, Nat.le_refl _, Nat.zero_le _⟩
  · simp [Value.cells] at hcs
    obtain ⟨rfl, rfl, rfl⟩ := hcs
    simp only [if_true] at hmm
    subst hmm
    by_cases h0 : n = 0
    · subst h0
      exact ⟨[], ⟨rfl, .inl rfl⟩, hl, hm⟩
    obtain ⟨b, o, spot⟩ := x
    have hspot : spot = none := by
      obtain ⟨ys, n', _, _, hlen, hfs⟩ := hi 0 (by omega)
      obtain ⟨v, y, hc, hy, ht⟩ := hfs 0 _ rfl
      simpa [Addr.add] using World.cell?_spot hc
    subst hspot
    have hcell : ∀ i, i < n → ∀ j : Nat, j < 3 → ∃ q : Int, W.cell? ⟨b, o + (i * 3 + j), none⟩ = some (.int .i64 q) := by
      intro i hin j hj
      obtain ⟨ys, n', _, _, hlen, hfs⟩ := hi i (by omega)
      have key : ∀ (v : Value) (y : DataW H × List MemPlace), W.cell? (Addr.add ⟨b, o, none⟩ (i * 3 + j)) = some v → DataW.trod enc Try.prog W 0 (fun _ => true) true n' 3 [v] = some y → ∃ q : Int, W.cell? ⟨b, o + (i * 3 + j), none⟩ = some (.int .i64 q) := by
        intro v y hc ht
        obtain ⟨q, hq, _, _⟩ := DataW.trod_int Try.underlying3 ht
        simp at hq
        subst hq
        refine ⟨q, ?_⟩
        rw [← hc]
        unfold Addr.add
        split
        · rename_i h0; rw [show i * 3 + j = 0 from h0, Nat.add_zero]
        · rfl
      have hj' : j = 0 ∨ j = 1 ∨ j = 2 := by omega
      rcases hj' with rfl | rfl | rfl
      · obtain ⟨v, y, hc, _, ht⟩ := hfs 0 _ rfl
        exact key v y hc ht
      · obtain ⟨v, y, hc, _, ht⟩ := hfs 1 _ rfl
        exact key v y hc ht
      · obtain ⟨v, y, hc, _, ht⟩ := hfs 2 _ rfl
        exact key v y hc ht
    refine ⟨(List.range n).map fun i => ⟨cv W ⟨b, o + i * 3, none⟩, cv W ⟨b, o + i * 3 + 1, none⟩, cv W ⟨b, o + i * 3 + 2, none⟩⟩, ⟨by simp, .inr ⟨b, o, rfl, ?_⟩⟩, hl, hm⟩
    have hat : ∀ i, i < n → at_ ((List.range n).map fun i => (⟨cv W ⟨b, o + i * 3, none⟩, cv W ⟨b, o + i * 3 + 1, none⟩, cv W ⟨b, o + i * 3 + 2, none⟩⟩ : Jb)) i = ⟨cv W ⟨b, o + i * 3, none⟩, cv W ⟨b, o + i * 3 + 1, none⟩, cv W ⟨b, o + i * 3 + 2, none⟩⟩ := by
      intro i hin
      simp [at_, hin]
    refine ⟨by simp, ?_, fun i hin => ?_, fun i hin => ?_, fun i hin => ?_⟩
    · obtain ⟨q, hq⟩ := hcell 0 (by omega) 0 (by omega)
      exact block_lt_of_cell hq
    · rw [hat i hin]
      obtain ⟨q, hq⟩ := hcell i hin 0 (by omega)
      simp only [Nat.add_zero] at hq
      rw [hq]; simp [cv, hq]
    · rw [hat i hin]
      obtain ⟨q, hq⟩ := hcell i hin 1 (by omega)
      rw [← Nat.add_assoc] at hq
      rw [hq]; simp [cv, hq]
    · rw [hat i hin]
      obtain ⟨q, hq⟩ := hcell i hin 2 (by omega)
      rw [← Nat.add_assoc] at hq
      rw [hq]; simp [cv, hq]

theorem open_jbz {H : Type} {enc : TypeId × Value → H} {W : World} {a : Option Addr} {n c : Nat} {d : DataW H} {p : List MemPlace}
    (h : DataW.Trod enc Try.prog W 0 (fun _ => true) true 22 (.slice a n c) d p) : a = none → c = 0 := by
  obtain ⟨fuel, hf⟩ := h
  rcases open_slice_fields Try.underlying22 Try.underlying30 (by kernel_rfl) (by kernel_rfl) hf with ⟨hcs, _⟩ | ⟨x, l, k, m, D, Pl, hcs, _, hl, hm, hmm, _, hi⟩
  · simp [Value.cells] at hcs
    exact fun _ => hcs.2.2
  · simp [Value.cells] at hcs
    obtain ⟨rfl, rfl, rfl⟩ := hcs
    exact fun h => by cases h

theorem own : ownKnob Try.prog.godebug = none := by kernel_rfl
theorem laidOut : laidOutB Try.prog = true := by kernel_rfl
theorem cells60 : Try.prog.cellsOf 60 = 2 := by kernel_rfl

theorem open_two {H : Type} {enc : TypeId × Value → H} {W : World} {r : Reach} {b0 : Nat} {v : Value} {d : DataW H} {p : List MemPlace}
    (hv : Value.okWide Try.prog W r b0 60 v) (h : DataW.Trod enc Try.prog W 0 (fun _ => true) true 60 v d p) : ∃ x y : Int, v = .agg #[.int .i64 x, .int .i64 y] := by
  obtain ⟨c0, c1, y0, y1, m, rfl, _, _, hy0, hy1⟩ := Joins.open_agg2 Try.underlying60 (by kernel_rfl) cells60 hv h
  obtain ⟨q0, e0, _, _⟩ := DataW.trod_int Try.underlying3 hy0
  obtain ⟨q1, e1, _, _⟩ := DataW.trod_int Try.underlying3 hy1
  simp at e0 e1
  subst e0 e1
  exact ⟨q0, q1, rfl⟩

theorem open_is {H : Type} {enc : TypeId × Value → H} {W : World} {a : Option Addr} {n c : Nat} {d : DataW H} {p : List MemPlace}
    (h : DataW.Trod enc Try.prog W 0 (fun _ => true) true 23 (.slice a n c) d p) : ∃ xs, IsO W a n xs ∧ n ≤ c ∧ c ≤ maxLen := by
  obtain ⟨fuel, hf⟩ := h
  rcases open_ints Try.underlying23 Try.underlying3 (by kernel_rfl) hf with ⟨hcs, _⟩ | ⟨x, l, k, zs, hcs, _, hl, hm, hz, _, hcell, _⟩
  · simp [Value.cells] at hcs
    obtain ⟨rfl, rfl, rfl⟩ := hcs
    exact ⟨[], ⟨rfl, .inl rfl⟩, Nat.le_refl _, Nat.zero_le _⟩
  · simp [Value.cells] at hcs
    obtain ⟨rfl, rfl, rfl⟩ := hcs
    have hz' : zs.length = c := by simpa using hz
    by_cases h0 : n = 0
    · subst h0
      exact ⟨[], ⟨rfl, .inl rfl⟩, hl, hm⟩
    obtain ⟨b, o, spot⟩ := x
    have hc0 := hcell 0 (by omega)
    have hspot : spot = none := by simpa [Addr.add] using World.cell?_spot hc0
    subst hspot
    have hlen : (zs.take n).length = n := by rw [List.length_take]; omega
    refine ⟨zs.take n, ⟨hlen.symm, .inr ⟨b, o, rfl, ⟨hlen.symm, block_lt_of_cell hc0, fun i hi => ?_⟩⟩⟩, hl, hm⟩
    have hc := hcell i (by omega)
    have ha : Addr.add ⟨b, o, none⟩ i = ⟨b, o + i, none⟩ := by
      unfold Addr.add
      split
      · rename_i h0; rw [h0, Nat.add_zero]
      · rfl
    rw [ha] at hc
    rw [hc]
    simp [gi, hi]

end Go.Proofs.Ytbmbogaejmgloaa
