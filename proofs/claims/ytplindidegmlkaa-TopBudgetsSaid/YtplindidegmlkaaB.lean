/- Slices of items in memory, and a region that draws its order and calls what makes memory. -/
import Derived.Test.YtplindidegmlkaaRows
import Derived.Test.YtplindidegmlkaaMath2
import Derived.WalkKit
import Derived.WalkLawsBesides
import Derived.Lib.QuietBelow
import Derived.Lib.Hide
import Derived.Handy
import Derived.BigQuiet
namespace Go.Proofs.Ytplindidegmlkaa
open Go.RowKit Go.Sort

/-- n items lie in block b from cell o on. -/
structure Sl (w : World) (b o n : Nat) (L : List It) : Prop where
  len : n = L.length
  lt : b < w.heap.size
  c0 : ∀ i, i < n → w.cell? ⟨b, o + i * 3, none⟩ = some (.int .i64 (at_ L i).u)
  c1 : ∀ i, i < n → w.cell? ⟨b, o + i * 3 + 1, none⟩ = some (.int .i64 (at_ L i).n)
  c2 : ∀ i, i < n → w.cell? ⟨b, o + i * 3 + 2, none⟩ = some (.int .i64 (at_ L i).d)

theorem Sl.below {w w' : World} {B b o n : Nat} {L : List It} (h : Sl w b o n L) (hb : Below B w w') (hB : w.heap.size ≤ B) : Sl w' b o n L :=
  have hl : b < B := Nat.lt_of_lt_of_le h.lt hB
  ⟨h.len, Nat.lt_of_lt_of_le h.lt hb.size, fun i hi => by rw [hb.cell (p := ⟨b, _, none⟩) hl]; exact h.c0 i hi, fun i hi => by rw [hb.cell (p := ⟨b, _, none⟩) hl]; exact h.c1 i hi, fun i hi => by rw [hb.cell (p := ⟨b, _, none⟩) hl]; exact h.c2 i hi⟩

/-- A slice value of n items: nothing is asked where it is empty. -/
def SlO (w : World) (a : Option Addr) (n : Nat) (L : List It) : Prop := n = L.length ∧ (n = 0 ∨ ∃ b o, a = some ⟨b, o, none⟩ ∧ Sl w b o n L)

theorem SlO.below {w w' : World} {B n : Nat} {a : Option Addr} {L : List It} (h : SlO w a n L) (hb : Below B w w') (hB : w.heap.size ≤ B) : SlO w' a n L := by
  obtain ⟨h1, h2⟩ := h
  refine ⟨h1, ?_⟩
  rcases h2 with h2 | ⟨b, o, h3, h4⟩
  · exact .inl h2
  · exact .inr ⟨b, o, h3, h4.below hb hB⟩

theorem SlO.of {w : World} {b o n : Nat} {L : List It} (h : Sl w b o n L) : SlO w (some ⟨b, o, none⟩) n L := ⟨h.len, .inr ⟨b, o, rfl, h⟩⟩

theorem btr {a b c : World} (h : Below a.heap.size a b) (k : Below b.heap.size b c) : Below a.heap.size a c := h.trans (k.mono h.size)

theorem wp_world {P : Program} {c : Code} {Q : Exit → Act → World → Prop} {a : Act} {w : World} (h : ∀ w1, w1 = w → Code.wp P c Q a w1) : Code.wp P c Q a w := h w rfl

theorem wp_region_B {P : Program} {id : Nat} {Q : Exit → Act → World → Prop} {a : Act} {w : World} {l : List Oper} (hm : P.follows .mixedOrders = true) (hB : Region.lexB .any l.toArray = true)
    (h : wpQuiet P l.toArray (fun w' => ∃ p : Regrown, w' = grow (redrawn w p.d) p.os) (fun a' => ∀ w', Below w.heap.size w w' → Q .normal a' w') l a) : (Code.region id l.toArray true).wp P Q a w := by
  refine wp_region_quiet (C := fun w' => ∃ p : Regrown, w' = grow (redrawn w p.d) p.os) hm hB ⟨⟨w.drawn + 1, #[]⟩, by rw [grow_empty]; rfl⟩ ?_
  have e : (fun a' => ∀ w', (∃ p : Regrown, w' = grow (redrawn w p.d) p.os) → Q .normal a' w') = (fun a' => ∀ w', Below w.heap.size w w' → Q .normal a' w') := by
    funext a'
    apply propext
    constructor
    · exact fun h w' hb => h w' (regrown_of_below hb)
    · rintro h w' ⟨p, rfl⟩
      exact h _ (below_regrown w p.d p.os)
  rw [e]
  simpa using h

/-- A callee that leaves the world alone, met in a world of the class. -/
theorem rg_same {P : Program} {f : FuncId} {args : Array Value} {w : World} {d : Nat} {os : Array Obj} {v : Value}
    (h : Calls P f args (grow (redrawn w d) os) fun e w' => e = .returned v ∧ grow (redrawn w d) os = w') : Calls P f args (grow (redrawn w d) os) fun e w'' => e = .returned v ∧ ∃ p : Regrown, w'' = grow (redrawn w p.d) p.os :=
  h.mono fun _ _ ⟨he, hb⟩ => ⟨he, ⟨d, os⟩, hb.symm⟩

theorem results_tmp4 {fn : Func} {t u v x : Tmp} (h : fn.results = #[.tmp t, .tmp u, .tmp v, .tmp x]) (tmps : Array Value) (P : Program) (w : World) :
    (results fn tmps).run P w = .ok (.tuple #[tmps.getD t undef, tmps.getD u undef, tmps.getD v undef, tmps.getD x undef]) w := by simp [results, h]

theorem decT {p : Prop} [Decidable p] (h : p) : decide p = true := by simpa using h
theorem decF {p : Prop} [Decidable p] (h : ¬ p) : decide p = false := by simpa using h

end Go.Proofs.Ytplindidegmlkaa
