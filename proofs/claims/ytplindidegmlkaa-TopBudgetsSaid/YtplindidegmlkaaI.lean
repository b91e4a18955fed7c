/- Slices of numbers in memory; slices that a call makes itself. -/
import Derived.Test.YtplindidegmlkaaB
import Derived.OwnWalk
namespace Go.Proofs.Ytplindidegmlkaa
open Go.RowKit Go.Sort


/-- n numbers lie in block b from cell o on. -/
structure Is (w : World) (b o n : Nat) (xs : List Int) : Prop where
  len : n = xs.length
  lt : b < w.heap.size
  c0 : ∀ i, i < n → w.cell? ⟨b, o + i, none⟩ = some (.int .i64 (gi xs i))

theorem Is.below {w w' : World} {B b o n : Nat} {xs : List Int} (h : Is w b o n xs) (hb : Below B w w') (hB : w.heap.size ≤ B) : Is w' b o n xs :=
  have hl : b < B := Nat.lt_of_lt_of_le h.lt hB
  ⟨h.len, Nat.lt_of_lt_of_le h.lt hb.size, fun i hi => by rw [hb.cell (p := ⟨b, _, none⟩) hl]; exact h.c0 i hi⟩

def IsO (w : World) (a : Option Addr) (n : Nat) (xs : List Int) : Prop := n = xs.length ∧ (n = 0 ∨ ∃ b o, a = some ⟨b, o, none⟩ ∧ Is w b o n xs)

theorem IsO.below {w w' : World} {B n : Nat} {a : Option Addr} {xs : List Int} (h : IsO w a n xs) (hb : Below B w w') (hB : w.heap.size ≤ B) : IsO w' a n xs := by
  obtain ⟨h1, h2⟩ := h
  refine ⟨h1, ?_⟩
  rcases h2 with h2 | ⟨b, o, h3, h4⟩
  · exact .inl h2
  · exact .inr ⟨b, o, h3, h4.below hb hB⟩

theorem IsO.of {w : World} {b o n : Nat} {xs : List Int} (h : Is w b o n xs) : IsO w (some ⟨b, o, none⟩) n xs := ⟨h.len, .inr ⟨b, o, rfl, h⟩⟩

/-- A slice value of numbers, in blocks from number B on. -/
def IsV (w : World) (B : Nat) (v : Value) (xs : List Int) : Prop :=
  ∃ a c, v = .slice a xs.length c ∧ IsO w a xs.length xs ∧ xs.length ≤ c ∧ c ≤ maxLen ∧ ∀ x : Addr, a = some x → B ≤ x.block

/-- A slice value of items, in blocks from number B on. -/
def ItV (w : World) (B : Nat) (v : Value) (L : List It) : Prop :=
  ∃ a c, v = .slice a L.length c ∧ SlO w a L.length L ∧ L.length ≤ c ∧ c ≤ maxLen ∧ ∀ x : Addr, a = some x → B ≤ x.block

theorem IsV.nil (w : World) (B : Nat) : IsV w B (.slice none 0 0) [] := ⟨none, 0, rfl, ⟨rfl, .inl rfl⟩, Nat.le_refl _, Nat.zero_le _, fun _ h => by cases h⟩
theorem ItV.nil (w : World) (B : Nat) : ItV w B (.slice none 0 0) [] := ⟨none, 0, rfl, ⟨rfl, .inl rfl⟩, Nat.le_refl _, Nat.zero_le _, fun _ h => by cases h⟩

theorem IsV.below {w w' : World} {B : Nat} {v : Value} {xs : List Int} (h : IsV w B v xs) (hb : Below w.heap.size w w') : IsV w' B v xs := by
  obtain ⟨a, c, h1, h2, h3⟩ := h
  exact ⟨a, c, h1, h2.below hb (Nat.le_refl _), h3⟩
theorem ItV.below {w w' : World} {B : Nat} {v : Value} {L : List It} (h : ItV w B v L) (hb : Below w.heap.size w w') : ItV w' B v L := by
  obtain ⟨a, c, h1, h2, h3⟩ := h
  exact ⟨a, c, h1, h2.below hb (Nat.le_refl _), h3⟩

theorem ownsRow_below {w w' : World} {base : Nat} {e : TypeId} {size : Nat} {v : Value} {n : Nat} {xs : List Value} (h : w.ownsRow base e size v n xs) (hb : Below w.heap.size w w') : w'.ownsRow base e size v n xs :=
  h.kept (row := none) ⟨hb.os, hb.tape, hb.output, hb.size, fun i hi _ => hb.block i hi⟩ (by
    cases hv : v.ownBlock with
    | none => exact .inl rfl
    | some k => exact .inr (by simp))

theorem ownsRow_is {w : World} {base : Nat} {e : TypeId} {v : Value} {n : Nat} {xs : List Int} (h : w.ownsRow base e 1 v n (xs.map (Value.int .i64))) : IsV w base v xs := by
  obtain ⟨h1, h2⟩ := h
  have hn : n = xs.length := by simpa using h1.symm
  subst hn
  rcases h2 with ⟨rfl, h0⟩ | ⟨g, cap, cur, hv, hg, hh, hc1, hc2, hsz, htk⟩
  · have : xs = [] := List.eq_nil_of_length_eq_zero h0
    subst this
    exact IsV.nil w base
  · subst hv
    refine ⟨some ⟨g, 0, none⟩, cap, rfl, ⟨rfl, .inr ⟨g, 0, rfl, ⟨rfl, ?_, fun i hi => ?_⟩⟩⟩, hc1, hc2, fun x hx => by cases hx; exact hg⟩
    · exact (Array.getElem?_eq_some_iff.1 hh).1
    · have hown : w.ownsRow base e 1 (.slice (some ⟨g, 0, none⟩) xs.length cap) xs.length (xs.map (Value.int .i64)) :=
        ⟨by simp, .inr ⟨g, cap, cur, rfl, hg, hh, hc1, hc2, hsz, htk⟩⟩
      rw [Nat.zero_add, hown.cellAt i (by omega)]
      simp [gi, hi]

def itCells (L : List It) : List Value := L.flatMap fun x => [.int .i64 x.u, .int .i64 x.n, .int .i64 x.d]

theorem itCells_length (L : List It) : (itCells L).length = L.length * 3 := by
  induction L with
  | nil => rfl
  | cons x L ih => simp only [itCells, List.flatMap_cons, List.length_append, List.length_cons, List.length_nil] at *; omega

theorem itCells_at : ∀ (L : List It) (i : Nat), i < L.length →
    (itCells L)[i * 3]? = some (.int .i64 (at_ L i).u) ∧ (itCells L)[i * 3 + 1]? = some (.int .i64 (at_ L i).n) ∧ (itCells L)[i * 3 + 2]? = some (.int .i64 (at_ L i).d)
  | [], i, h => absurd h (by simp)
  | x :: L, 0, _ => ⟨rfl, rfl, rfl⟩
  | x :: L, i + 1, h => by
    obtain ⟨h1, h2, h3⟩ := itCells_at L i (by simpa using h)
    have e : ∀ k, (itCells (x :: L))[k + 3]? = (itCells L)[k]? := fun k => by simp [itCells]
    have ea : at_ (x :: L) (i + 1) = at_ L i := rfl
    rw [ea]
    refine ⟨?_, ?_, ?_⟩
    · rw [show (i + 1) * 3 = i * 3 + 3 by omega, e]; exact h1
    · rw [show (i + 1) * 3 + 1 = (i * 3 + 1) + 3 by omega, e]; exact h2
    · rw [show (i + 1) * 3 + 2 = (i * 3 + 2) + 3 by omega, e]; exact h3

theorem itCells_snoc (L : List It) (x : It) : itCells (L ++ [x]) = itCells L ++ [.int .i64 x.u, .int .i64 x.n, .int .i64 x.d] := by
  simp [itCells]

theorem ownsRow_it {w : World} {base : Nat} {e : TypeId} {v : Value} {n : Nat} {L : List It} (h : w.ownsRow base e 3 v n (itCells L)) : ItV w base v L := by
  obtain ⟨h1, h2⟩ := h
  have hn : n = L.length := by rw [itCells_length] at h1; omega
  subst hn
  rcases h2 with ⟨rfl, h0⟩ | ⟨g, cap, cur, hv, hg, hh, hc1, hc2, hsz, htk⟩
  · have : L = [] := List.eq_nil_of_length_eq_zero h0
    subst this
    exact ItV.nil w base
  · subst hv
    have hown : w.ownsRow base e 3 (.slice (some ⟨g, 0, none⟩) L.length cap) L.length (itCells L) :=
      ⟨itCells_length L, .inr ⟨g, cap, cur, rfl, hg, hh, hc1, hc2, hsz, htk⟩⟩
    refine ⟨some ⟨g, 0, none⟩, cap, rfl, ⟨rfl, .inr ⟨g, 0, rfl, ⟨rfl, ?_, fun i hi => ?_, fun i hi => ?_, fun i hi => ?_⟩⟩⟩, hc1, hc2, fun x hx => by cases hx; exact hg⟩
    · exact (Array.getElem?_eq_some_iff.1 hh).1
    · rw [Nat.zero_add, hown.cellAt _ (by omega)]; exact (itCells_at L i hi).1
    · rw [Nat.zero_add, hown.cellAt _ (by omega)]; exact (itCells_at L i hi).2.1
    · rw [Nat.zero_add, hown.cellAt _ (by omega)]; exact (itCells_at L i hi).2.2

/-- A slice of numbers and an error number come back. -/
def RetI2 (w : World) (xs : List Int) (er : Int) (e : Ending) (w' : World) : Prop :=
  ∃ v, e = .returned (.tuple #[v, .int .i64 er]) ∧ IsV w' w.heap.size v xs ∧ Below w.heap.size w w'
/-- A slice of items and an error number come back. -/
def RetIt (w : World) (L : List It) (er : Int) (e : Ending) (w' : World) : Prop :=
  ∃ v, e = .returned (.tuple #[v, .int .i64 er]) ∧ ItV w' w.heap.size v L ∧ Below w.heap.size w w'

theorem info3 : (Try.prog.info? 3).map (fun i => (i.zero, i.size, i.bytes)) = some (some (.int .i64 0), 1, 8) := by kernel_rfl
theorem info31 : (Try.prog.info? 31).map (fun i => (i.zero, i.size, i.bytes)) = some (some (.agg #[.int .i64 0, .int .i64 0, .int .i64 0]), 3, 24) := by kernel_rfl
theorem info77 : (Try.prog.info? 77).map (fun i => (i.zero, i.size, i.bytes)) = some (some (.agg #[.int .i64 0, .int .i64 0]), 2, 16) := by kernel_rfl
theorem info25 : (Try.prog.info? 25).map (fun i => (i.zero, i.size, i.bytes)) = some (some (.agg #[.int .i64 0, .int .i64 0]), 2, 16) := by kernel_rfl

theorem cellB {W w1 : World} {a : Addr} {v : Value} (hb : Below W.heap.size W w1) (h : W.cell? a = some v) : w1.cell? a = some v := by
  rw [hb.cell (block_lt_of_cell h)]; exact h

end Go.Proofs.Ytplindidegmlkaa
