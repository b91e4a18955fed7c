/- What the walk of TopBudgets calls: the walk. -/
import Derived.Test.YtplindidegmlkaaTp
namespace Go.Proofs.Ytplindidegmlkaa
open Go.RowKit Go.Sort

theorem own_iso {w : World} {base g n cap : Nat} {xs : List Int} (h : w.ownsRow base 3 1 (.slice (some ⟨g, 0, none⟩) n cap) n (xs.map (Value.int .i64))) : IsO w (some ⟨g, 0, none⟩) n xs := by
  obtain ⟨a, c, e, i, -, -, -⟩ := ownsRow_is h
  injection e with e1 e2 e3
  subst e1
  rw [← e2] at i
  exact i
theorem tpL_get {L : List It} {n k : Nat} (h : k < n) : ((tpL L n).map (Value.int .i64))[k]? = some (.int .i64 (wI (at_ L k))) := by simp [tpL, h]
theorem tpL_one {L : List It} {n k : Nat} (v : Int) : ((tpL L n).map (Value.int .i64)).set k (.int .i64 v) = ((tpL L n).set k v).map (Value.int .i64) := by rw [List.map_set]
theorem tpL_two {L : List It} {n k : Nat} (h : k < n) (v : Int) : (((tpL L n).set k v).map (Value.int .i64)).set k (.int .i64 (wI (at_ L k))) = (tpL L n).map (Value.int .i64) := by
  rw [← tpL_one, List.set_set]
  have := tpL_get (L := L) h
  apply List.ext_getElem?
  intro j
  rw [List.getElem?_set]
  by_cases hj : k = j
  · subst hj; rw [if_pos rfl, this]; simp [tpL, h]
  · rw [if_neg hj]
theorem own_form {w : World} {base g n : Nat} {a : Option Addr} {c : Nat} {xs : List Value} (h : w.ownsRow base 3 1 (.slice a n c) n xs) (hg : w.heap.size = g) (hn : 0 < n) : ∃ q, a = some ⟨q, 0, none⟩ ∧ base ≤ q ∧ q < g := by
  rcases h.2 with ⟨_, h0⟩ | ⟨q, cap, cur, e, h1, h2, _⟩
  · omega
  · injection e with e1 e2 e3
    exact ⟨q, e1, h1, by rw [← hg]; exact (Array.getElem?_eq_some_iff.1 h2).1⟩
theorem ex_new (w : World) : SlO (w.alloc (.cells #[.int .i64 2, .int .i64 1, .int .i64 10, .int .i64 1, .int .i64 1, .int .i64 4] 31)) (some ⟨w.heap.size, 0, none⟩) 2 exL := by
  refine SlO.of ⟨rfl, by simp, ?_, ?_, ?_⟩
  · intro i hi
    match i, hi with
    | 0, _ => simp [go_sem, exL, at_]
    | 1, _ => simp [go_sem, exL, at_]
  · intro i hi
    match i, hi with
    | 0, _ => simp [go_sem, exL, at_]
    | 1, _ => simp [go_sem, exL, at_]
  · intro i hi
    match i, hi with
    | 0, _ => simp [go_sem, exL, at_]
    | 1, _ => simp [go_sem, exL, at_]
def RetW1 (w : World) (e : Ending) (w' : World) : Prop := ∃ b o c, e = .returned (.tuple #[.slice (some ⟨b, o, none⟩) 1 c, .int .i64 0]) ∧ w'.cell? ⟨b, o, none⟩ = some (.int .i64 1) ∧ Below w.heap.size w w'
theorem WorstEx_c (w : World) (g : Nat) (hg : g = w.heap.size) : Calls Try.prog 18 #[.slice (some ⟨g, 0, none⟩) 2 2] (w.alloc (.cells #[.int .i64 2, .int .i64 1, .int .i64 10, .int .i64 1, .int .i64 1, .int .i64 4] 31)) (RetW1 w) := by
  subst hg
  refine (Worst_c _ _ _ exL _ (ex_new w) (by decide)).mono ?_
  rintro e w1 ⟨v1, rfl, hv1, hb1⟩
  rw [ws_ex] at hv1
  obtain ⟨a, c, e1, i1, -, -, -⟩ := hv1
  obtain ⟨b, o, rfl, hI⟩ : ∃ b o, a = some ⟨b, o, none⟩ ∧ Is w1 b o 1 [1] := by
    rcases i1.2 with h' | h'
    · simp at h'
    · exact h'
  have hc := hI.c0 0 (by decide)
  refine ⟨b, o, c, by rw [e1, ex_total.2.2]; rfl, by simpa [gi] using hc, btr ((Below.refl _ _).alloc (Nat.le_refl _) _) hb1⟩
def RetSh (w : World) (n : Nat) (L : List It) (e : Ending) (w' : World) : Prop := ∃ a c, e = .returned (.tuple #[.slice a n c, .int .i64 0]) ∧ P2O w' a n (shL L) ∧ Below w.heap.size w w'
theorem SharesOk_c (a : Option Addr) (n c : Nat) (L : List It) (w : World) (h : SlO w a n L) (h0 : vErr L = 0) : Calls Try.prog 22 #[.slice a n c] w (RetSh w n L) := by
  refine (Shares_c a n c L w h).mono ?_
  rintro e w1 ⟨v1, rfl, hv1, hb1⟩
  rw [shO_ok h0] at hv1
  obtain ⟨a1, c1, e1, i1, -, -, -⟩ := hv1
  rw [shL_length, ← h.1] at e1 i1
  exact ⟨a1, c1, by rw [e1, h0], i1, hb1⟩
end Go.Proofs.Ytplindidegmlkaa
