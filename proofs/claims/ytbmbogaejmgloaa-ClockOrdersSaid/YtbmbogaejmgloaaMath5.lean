/-
  Plain facts on jobs in time: an order of work that a list of numbers gives, and when its jobs are done.
-/
import Derived.Test.YtbmbogaejmgloaaMath4
namespace Go.Proofs.Ytbmbogaejmgloaa

/-- The number at place i of an order: the list's own, then all the jobs in turn. -/
def kO (xs : List Int) (i : Nat) : Int := if i < xs.length then gi xs i else (i : Int) - xs.length

/-- The choice among the first places of an order. -/
def pkO (L : List Jb) (xs : List Int) (r : Nat → Int) (t : Nat) : Nat → Option Nat
  | 0 => none
  | i + 1 => match pkO L xs r t i with
    | some k => some k
    | none => if 0 ≤ kO xs i ∧ kO xs i < L.length ∧ can L r t (kO xs i).toNat = true then some (kO xs i).toNat else none

/-- The rule of an order. -/
def ordP (L : List Jb) (xs : List Int) (r : Nat → Int) (t : Nat) : Option Nat := pkO L xs r t (xs.length + L.length)

theorem pkO_some {L : List Jb} {xs : List Int} {r : Nat → Int} {t i k : Nat} (h : pkO L xs r t i = some k) : pkO L xs r t (i + 1) = some k := by rw [pkO, h]
theorem pkO_yes {L : List Jb} {xs : List Int} {r : Nat → Int} {t i k : Nat} (h : pkO L xs r t i = none) (hk : kO xs i = k) (h1 : k < L.length) (h2 : 0 < r k) (h3 : (at_ L k).s ≤ t) : pkO L xs r t (i + 1) = some k := by
  rw [pkO, h]
  show (if _ then _ else _) = _
  rw [if_pos ⟨by omega, by omega, by rw [hk]; exact can_true.2 ⟨h3, h2⟩⟩, hk]; rfl
theorem pkO_no {L : List Jb} {xs : List Int} {r : Nat → Int} {t i : Nat} (h : pkO L xs r t i = none) (h1 : ¬ (0 ≤ kO xs i ∧ kO xs i < L.length ∧ 0 < r (kO xs i).toNat ∧ (at_ L (kO xs i).toNat).s ≤ t)) : pkO L xs r t (i + 1) = none := by
  rw [pkO, h]
  show (if _ then _ else _) = _
  rw [if_neg (fun ⟨a, b, c⟩ => h1 ⟨a, b, (can_true.1 c).2, (can_true.1 c).1⟩)]

theorem pkO_fit {L : List Jb} {xs : List Int} {r : Nat → Int} {t k : Nat} : ∀ {i : Nat}, pkO L xs r t i = some k → k < L.length ∧ 0 < r k ∧ (at_ L k).s ≤ t
  | 0, h => by cases h
  | i + 1, h => by
    cases hp : pkO L xs r t i with
    | some j => rw [pkO_some hp] at h; cases h; exact pkO_fit hp
    | none =>
      rw [pkO, hp] at h
      change (if _ then _ else _) = _ at h
      split at h
      · rename_i hc
        cases h
        exact ⟨by omega, (can_true.1 hc.2.2).2, (can_true.1 hc.2.2).1⟩
      · cases h

theorem pkO_none {L : List Jb} {xs : List Int} {r : Nat → Int} {t : Nat} : ∀ {i : Nat}, pkO L xs r t i = none → ∀ j, j < i → ¬ (0 ≤ kO xs j ∧ kO xs j < L.length ∧ can L r t (kO xs j).toNat = true)
  | 0, _, j, hj => by omega
  | i + 1, h, j, hj => by
    cases hp : pkO L xs r t i with
    | some k => rw [pkO_some hp] at h; cases h
    | none =>
      rcases Nat.lt_or_ge j i with h' | h'
      · exact pkO_none hp j h'
      · obtain rfl : j = i := by omega
        intro hc
        rw [pkO, hp] at h
        change (if _ then _ else _) = _ at h
        rw [if_pos hc] at h; cases h

theorem ord_rule (L : List Jb) (xs : List Int) : Rule L (ordP L xs) where
  fit _ _ _ h := pkO_fit h
  busy r t h k hk hr := by
    have := pkO_none h (xs.length + k) (by omega)
    have e : kO xs (xs.length + k) = k := by unfold kO; rw [if_neg (by omega)]; omega
    rw [e] at this
    by_cases hs : (at_ L k).s ≤ t
    · exact absurd ⟨by omega, by omega, can_true.2 ⟨hs, hr⟩⟩ this
    · omega

theorem len_openR {L : List Jb} {pk : (Nat → Int) → Nat → Option Nat} (hv : Valid L) (hr : Rule L pk) {t : Nat} (ht : t ≤ lenT pk L) : 0 < openAt pk L t ↔ t < lenT pk L := by
  obtain ⟨h1, h2, h3⟩ := lenT_facts hv hr
  constructor
  · intro h
    rcases Nat.lt_or_ge t (lenT pk L) with h' | h'
    · exact h'
    · have e : t = lenT pk L := by omega
      rw [e, h2] at h; omega
  · exact h3 t

/-- One more job is done: the greatest lateness so far, and whether there is one. -/
def moU (L : List Jb) (r : Nat → Int) (t : Nat) (o : Option Nat) (m : Int × Bool) : Int × Bool :=
  match o with
  | none => m
  | some k => if r k = 0 ∧ (m.2 = false ∨ m.1 < (t : Int) + 1 - (at_ L k).e) then ((t : Int) + 1 - (at_ L k).e, true) else m

/-- The greatest lateness among the jobs that are done by time t. -/
def moO (pk : (Nat → Int) → Nat → Option Nat) (L : List Jb) : Nat → Int × Bool
  | 0 => (0, false)
  | t + 1 => moU L (rest pk L (t + 1)) t (pk (rest pk L t) t) (moO pk L t)

theorem mo_none {pk : (Nat → Int) → Nat → Option Nat} {L : List Jb} {t : Nat} (h : pk (rest pk L t) t = none) : moO pk L (t + 1) = moO pk L t := by
  rw [moO, h]; rfl
theorem mo_some {pk : (Nat → Int) → Nat → Option Nat} {L : List Jb} {t k : Nat} (h : pk (rest pk L t) t = some k) : moO pk L (t + 1) = if rest pk L t k - 1 = 0 ∧ ((moO pk L t).2 = false ∨ (moO pk L t).1 < (t : Int) + 1 - (at_ L k).e) then ((t : Int) + 1 - (at_ L k).e, true) else moO pk L t := by
  rw [moO, h]
  have e : rest pk L (t + 1) k = rest pk L t k - 1 := by simp [rest, h]
  show (if _ then _ else _) = _
  rw [e]

theorem mo_le {pk : (Nat → Int) → Nat → Option Nat} {L : List Jb} (hv : Valid L) (hr : Rule L pk) : ∀ t : Nat, ∀ k, k < L.length → rest pk L t k = 0 → (moO pk L t).2 = true ∧ ∃ c : Nat, rest pk L c k = 0 ∧ (c : Int) - (at_ L k).e ≤ (moO pk L t).1
  | 0, k, hk, h => by have := nd_pos hv hk; rw [show rest pk L 0 = nd L from rfl] at h; omega
  | t + 1, k, hk, h => by
    have ih := mo_le hv hr t
    cases hp : pk (rest pk L t) t with
    | none =>
      have e : rest pk L (t + 1) = rest pk L t := by funext j; simp [rest, hp]
      rw [e] at h
      rw [mo_none hp]
      exact ih k hk h
    | some j =>
      rw [mo_some hp]
      by_cases hj : k = j
      · subst hj
        have e : rest pk L (t + 1) k = rest pk L t k - 1 := by simp [rest, hp]
        rw [e] at h
        split
        · exact ⟨rfl, t + 1, by rw [e]; exact h, by show ((t + 1 : Nat) : Int) - _ ≤ _; omega⟩
        · rename_i hc
          have hs : (moO pk L t).2 = true := by
            cases hb : (moO pk L t).2
            · exact absurd ⟨h, .inl hb⟩ hc
            · rfl
          have hm : ¬ (moO pk L t).1 < (t : Int) + 1 - (at_ L k).e := fun h' => hc ⟨h, .inr h'⟩
          exact ⟨hs, t + 1, by rw [e]; exact h, by omega⟩
      · have e : rest pk L (t + 1) k = rest pk L t k := by
          have : ¬ j = k := fun e => hj e.symm
          simp [rest, hp, this]
        rw [e] at h
        obtain ⟨i1, c, i2, i3⟩ := ih k hk h
        split
        · rename_i hc
          have hm : (moO pk L t).1 < (t : Int) + 1 - (at_ L j).e := by
            rcases hc.2 with h' | h'
            · rw [i1] at h'; cases h'
            · exact h'
          exact ⟨rfl, c, i2, by show (c : Int) - _ ≤ (t : Int) + 1 - (at_ L j).e; omega⟩
        · exact ⟨i1, c, i2, i3⟩

/-- No order of work has a smaller greatest lateness than that by urgency. -/
theorem mo_late {pk : (Nat → Int) → Nat → Option Nat} {L : List Jb} (hv : Valid L) (hr : Rule L pk) (hn : 0 < L.length) : lateJ L ≤ (moO pk L (lenT pk L)).1 := by
  have h1 : ∀ k, k < L.length → ∃ c : Nat, rest pk L c k = 0 ∧ (c : Int) - (at_ L k).e ≤ (moO pk L (lenT pk L)).1 := fun k hk =>
    (mo_le hv hr _ k hk (rest_zero hv hr hk)).2
  obtain ⟨a, b, h3, h4⟩ := (late_is hv hn).1
  have := hr.work.late hv (v := (moO pk L (lenT pk L)).1) (fun k => if h : k < L.length then (h1 k h).choose else 0) (fun k hk => by
    simp only [hk, dif_pos]
    exact (h1 k hk).choose_spec) h3
  omega

end Go.Proofs.Ytbmbogaejmgloaa
