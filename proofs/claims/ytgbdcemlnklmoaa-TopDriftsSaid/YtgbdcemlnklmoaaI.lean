/- Slices of numbers in memory; slices that a call makes itself. -/
import Derived.Test.YtgbdcemlnklmoaaP
import Derived.OwnWalk
namespace Go.Proofs.Ytgbdcemlnklmoaa
open Go.RowKit Go.Sort


/-- n numbers lie in block b from cell o on. -/
structure Is (w : World) (b o n : Nat) (xs : List Int) : Prop where
  len : n = xs.length
  lt : b < w.heap.size
  c0 : ∀ i, i < n → w.cell? ⟨b, o + i, none⟩ = some (.int .i64 (gi xs i))

theorem Is.below {w w' : World} {B b o n : Nat} {xs : List Int} (h : Is w b o n xs) (hb : Below B w w') (hB : w.heap.size ≤ B) : Is w' b o n xs :=
  have hl : b < B := Nat.lt_of_lt_of_le h.lt hB
  ⟨h.len, Nat.lt_of_lt_of_le h.lt hb.size, fun i hi => by rw [hb.cell (p := ⟨b, _, none⟩) hl]; exact h.c0 i hi⟩

def IsO (w : World) (a : Option Addr) (n : Nat) (xs : List Int) : Prop := n = xs.length ∧ (n = 0 ∨ ∃ b o, a = some ⟨b, o, none⟩ ∧ Is w b o n xs)

theorem IsO.below {w w' : World} {B n : Nat} {a : Option Addr} {xs : List Int} (h : IsO w a n xs) (hb : Below B w w') (hB : w.heap.size ≤ B) : IsO w' a n xs := by
  obtain ⟨h1, h2⟩ := h
  refine ⟨h1, ?_⟩
  rcases h2 with h2 | ⟨b, o, h3, h4⟩
  · exact .inl h2
  · exact .inr ⟨b, o, h3, h4.below hb hB⟩

theorem IsO.of {w : World} {b o n : Nat} {xs : List Int} (h : Is w b o n xs) : IsO w (some ⟨b, o, none⟩) n xs := ⟨h.len, .inr ⟨b, o, rfl, h⟩⟩

/-- A slice value of numbers, in blocks from number B on. -/
def IsV (w : World) (B : Nat) (v : Value) (xs : List Int) : Prop :=
  ∃ a c, v = .slice a xs.length c ∧ IsO w a xs.length xs ∧ xs.length ≤ c ∧ c ≤ maxLen ∧ ∀ x : Addr, a = some x → B ≤ x.block

/-- A slice value of readings, in blocks from number B on. -/
def RdV (w : World) (B : Nat) (v : Value) (L : List Rd) : Prop :=
  ∃ a c, v = .slice a L.length c ∧ SlO w a L.length L ∧ L.length ≤ c ∧ c ≤ maxLen ∧ ∀ x : Addr, a = some x → B ≤ x.block

theorem IsV.nil (w : World) (B : Nat) : IsV w B (.slice none 0 0) [] := ⟨none, 0, rfl, ⟨rfl, .inl rfl⟩, Nat.le_refl _, Nat.zero_le _, fun _ h => by cases h⟩
theorem RdV.nil (w : World) (B : Nat) : RdV w B (.slice none 0 0) [] := ⟨none, 0, rfl, ⟨rfl, .inl rfl⟩, Nat.le_refl _, Nat.zero_le _, fun _ h => by cases h⟩

theorem IsV.below {w w' : World} {B : Nat} {v : Value} {xs : List Int} (h : IsV w B v xs) (hb : Below w.heap.size w w') : IsV w' B v xs := by
  obtain ⟨a, c, h1, h2, h3⟩ := h
  exact ⟨a, c, h1, h2.below hb (Nat.le_refl _), h3⟩
theorem RdV.below {w w' : World} {B : Nat} {v : Value} {L : List Rd} (h : RdV w B v L) (hb : Below w.heap.size w w') : RdV w' B v L := by
  obtain ⟨a, c, h1, h2, h3⟩ := h
  exact ⟨a, c, h1, h2.below hb (Nat.le_refl _), h3⟩

theorem ownsRow_below {w w' : World} {base : Nat} {e : TypeId} {size : Nat} {v : Value} {n : Nat} {xs : List Value} (h : w.ownsRow base e size v n xs) (hb : Below w.heap.size w w') : w'.ownsRow base e size v n xs :=
  h.kept (row := none) ⟨hb.os, hb.tape, hb.output, hb.size, fun i hi _ => hb.block i hi⟩ (by
    cases hv : v.ownBlock with
    | none => exact .inl rfl
    | some k => exact .inr (by simp))

theorem ownsRow_is {w : World} {base : Nat} {e : TypeId} {v : Value} {n : Nat} {xs : List Int} (h : w.ownsRow base e 1 v n (xs.map (Value.int .i64))) : IsV w base v xs := by
  obtain ⟨h1, h2⟩ := h
  have hn : n = xs.length := by simpa using h1.symm
  subst hn
  rcases h2 with ⟨rfl, h0⟩ | ⟨g, cap, cur, hv, hg, hh, hc1, hc2, hsz, htk⟩
  · have : xs = [] := List.eq_nil_of_length_eq_zero h0
    subst this
    exact IsV.nil w base
  · subst hv
    refine ⟨some ⟨g, 0, none⟩, cap, rfl, ⟨rfl, .inr ⟨g, 0, rfl, ⟨rfl, ?_, fun i hi => ?_⟩⟩⟩, hc1, hc2, fun x hx => by cases hx; exact hg⟩
    · exact (Array.getElem?_eq_some_iff.1 hh).1
    · have hown : w.ownsRow base e 1 (.slice (some ⟨g, 0, none⟩) xs.length cap) xs.length (xs.map (Value.int .i64)) :=
        ⟨by simp, .inr ⟨g, cap, cur, rfl, hg, hh, hc1, hc2, hsz, htk⟩⟩
      rw [Nat.zero_add, hown.cellAt i (by omega)]
      simp [gi, hi]

def rdCells (L : List Rd) : List Value := L.flatMap fun x => [.int .i64 x.t, .int .i64 x.lo, .int .i64 x.hi]

theorem rdCells_length (L : List Rd) : (rdCells L).length = L.length * 3 := by
  induction L with
  | nil => rfl
  | cons x L ih => simp only [rdCells, List.flatMap_cons, List.length_append, List.length_cons, List.length_nil] at *; omega

theorem rdCells_at : ∀ (L : List Rd) (i : Nat), i < L.length →
    (rdCells L)[i * 3]? = some (.int .i64 (at_ L i).t) ∧ (rdCells L)[i * 3 + 1]? = some (.int .i64 (at_ L i).lo) ∧ (rdCells L)[i * 3 + 2]? = some (.int .i64 (at_ L i).hi)
  | [], i, h => absurd h (by simp)
  | x :: L, 0, _ => ⟨rfl, rfl, rfl⟩
  | x :: L, i + 1, h => by
    obtain ⟨h1, h2, h3⟩ := rdCells_at L i (by simpa using h)
    have e : ∀ k, (rdCells (x :: L))[k + 3]? = (rdCells L)[k]? := fun k => by simp [rdCells]
    have ea : at_ (x :: L) (i + 1) = at_ L i := rfl
    rw [ea]
    refine ⟨?_, ?_, ?_⟩
    · rw [show (i + 1) * 3 = i * 3 + 3 by omega, e]; exact h1
    · rw [show (i + 1) * 3 + 1 = (i * 3 + 1) + 3 by omega, e]; exact h2
    · rw [show (i + 1) * 3 + 2 = (i * 3 + 2) + 3 by omega, e]; exact h3

theorem rdCells_snoc (L : List Rd) (x : Rd) : rdCells (L ++ [x]) = rdCells L ++ [.int .i64 x.t, .int .i64 x.lo, .int .i64 x.hi] := by
  simp [rdCells]

theorem ownsRow_rd {w : World} {base : Nat} {e : TypeId} {v : Value} {n : Nat} {L : List Rd} (h : w.ownsRow base e 3 v n (rdCells L)) : RdV w base v L := by
  obtain ⟨h1, h2⟩ := h
  have hn : n = L.length := by rw [rdCells_length] at h1; omega
  subst hn
  rcases h2 with ⟨rfl, h0⟩ | ⟨g, cap, cur, hv, hg, hh, hc1, hc2, hsz, htk⟩
  · have : L = [] := List.eq_nil_of_length_eq_zero h0
    subst this
    exact RdV.nil w base
  · subst hv
    have hown : w.ownsRow base e 3 (.slice (some ⟨g, 0, none⟩) L.length cap) L.length (rdCells L) :=
      ⟨rdCells_length L, .inr ⟨g, cap, cur, rfl, hg, hh, hc1, hc2, hsz, htk⟩⟩
    refine ⟨some ⟨g, 0, none⟩, cap, rfl, ⟨rfl, .inr ⟨g, 0, rfl, ⟨rfl, ?_, fun i hi => ?_, fun i hi => ?_, fun i hi => ?_⟩⟩⟩, hc1, hc2, fun x hx => by cases hx; exact hg⟩
    · exact (Array.getElem?_eq_some_iff.1 hh).1
    · rw [Nat.zero_add, hown.cellAt _ (by omega)]; exact (rdCells_at L i hi).1
    · rw [Nat.zero_add, hown.cellAt _ (by omega)]; exact (rdCells_at L i hi).2.1
    · rw [Nat.zero_add, hown.cellAt _ (by omega)]; exact (rdCells_at L i hi).2.2

/-- A slice of numbers, a bool and an error number come back. -/
def RetIs (w : World) (xs : List Int) (ok : Bool) (er : Int) (e : Ending) (w' : World) : Prop :=
  ∃ v, e = .returned (.tuple #[v, .bool ok, .int .i64 er]) ∧ IsV w' w.heap.size v xs ∧ Below w.heap.size w w'

theorem info3 : (Try.prog.info? 3).map (fun i => (i.zero, i.size, i.bytes)) = some (some (.int .i64 0), 1, 8) := by kernel_rfl
end Go.Proofs.Ytgbdcemlnklmoaa
