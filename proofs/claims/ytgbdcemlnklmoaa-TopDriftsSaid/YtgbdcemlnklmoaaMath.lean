/-
  Plain facts on readings, far from any program: which readings are valid, which two clash, the first pair that clashes, and the bounds at a time.
-/
namespace Go.Proofs.Ytgbdcemlnklmoaa

/-- A reading: a time, a low and a high number. -/
structure Rd where
  t : Int
  lo : Int
  hi : Int

def rd0 : Rd := ⟨0, 0, 0⟩

def at_ (L : List Rd) (i : Nat) : Rd := L.getD i rd0

/-- A number from lo to hi. -/
def inB (n lo hi : Int) : Bool := decide (lo ≤ n) && decide (n ≤ hi)

theorem inB_true {n lo hi : Int} : inB n lo hi = true ↔ lo ≤ n ∧ n ≤ hi := by simp [inB]
theorem inB_false {n lo hi : Int} : inB n lo hi = false ↔ ¬ (lo ≤ n ∧ n ≤ hi) := by
  rw [← inB_true]; cases inB n lo hi <;> simp

/-- The reading is one. -/
def okRd (x : Rd) : Bool := inB x.t 0 1000 && inB x.lo (-1000) 1000 && inB x.hi x.lo 1000

/-- Reading number i is right where it stands. -/
def okAt (L : List Rd) (i : Nat) : Bool := okRd (at_ L i) && (decide (i = 0) || decide ((at_ L (i - 1)).t < (at_ L i).t))

/-- All from number i on are right (m: how many). -/
def okFrom (L : List Rd) : Nat → Nat → Bool
  | 0, _ => true
  | m + 1, i => okAt L i && okFrom L m (i + 1)

/-- 0 if the first n readings are right, else 1. -/
def okE (L : List Rd) (n : Nat) : Int := if okFrom L n 0 then 0 else 1

/-- The error number of readings. -/
def vErr (L : List Rd) : Int := if L.length < 1 ∨ 8 < L.length then 3 else okE L L.length

/-- The readings are valid. -/
structure Valid (L : List Rd) : Prop where
  pos : 1 ≤ L.length
  le : L.length ≤ 8
  ok : ∀ i, i < L.length → okRd (at_ L i) = true
  asc : ∀ i, 0 < i → i < L.length → (at_ L (i - 1)).t < (at_ L i).t

theorem okFrom_all {L : List Rd} : ∀ (m i : Nat), okFrom L m i = true ↔ ∀ k, i ≤ k → k < i + m → okAt L k = true
  | 0, i => by simp [okFrom]; omega
  | m + 1, i => by
    simp only [okFrom, Bool.and_eq_true, okFrom_all m (i + 1)]
    constructor
    · rintro ⟨h1, h2⟩ k hk hk'
      rcases Nat.eq_or_lt_of_le hk with rfl | h
      · exact h1
      · exact h2 k h (by omega)
    · intro h
      exact ⟨h i (Nat.le_refl _) (by omega), fun k hk hk' => h k (by omega) (by omega)⟩

theorem vErr_cases (L : List Rd) : vErr L = 0 ∨ vErr L = 1 ∨ vErr L = 3 := by
  unfold vErr okE; split
  · simp
  · split <;> simp

theorem vErr_zero {L : List Rd} : vErr L = 0 ↔ Valid L := by
  unfold vErr okE
  constructor
  · intro h
    split at h
    · omega
    · rename_i hl
      split at h
      · rename_i hb
        have ha := (okFrom_all L.length 0).1 hb
        refine ⟨by omega, by omega, fun i hi => ?_, fun i h0 hi => ?_⟩
        · have := ha i (Nat.zero_le _) (by omega)
          simp only [okAt, Bool.and_eq_true] at this
          exact this.1
        · have := ha i (Nat.zero_le _) (by omega)
          simp only [okAt, Bool.and_eq_true, Bool.or_eq_true, decide_eq_true_eq] at this
          omega
      · omega
  · rintro ⟨h1, h2, h3, h4⟩
    rw [if_neg (by omega), if_pos]
    refine (okFrom_all L.length 0).2 fun k _ hk => ?_
    simp only [okAt, Bool.and_eq_true, Bool.or_eq_true, decide_eq_true_eq]
    refine ⟨h3 k (by omega), ?_⟩
    by_cases h0 : k = 0
    · exact .inl h0
    · exact .inr (h4 k (by omega) (by omega))

/-- The error number of readings and a rate; and a time. -/
def rErr (L : List Rd) (r : Int) : Int := if vErr L ≠ 0 then vErr L else if inB r 0 9 then 0 else 1
def tErr (L : List Rd) (r t : Int) : Int := if rErr L r ≠ 0 then rErr L r else if inB t 0 2000 then 0 else 1

theorem rErr_zero {L : List Rd} {r : Int} : rErr L r = 0 ↔ Valid L ∧ 0 ≤ r ∧ r ≤ 9 := by
  unfold rErr
  rw [← vErr_zero, ← inB_true]
  by_cases h : vErr L = 0
  · by_cases h1 : inB r 0 9 = true <;> simp [h, h1]
  · simp [h]

theorem tErr_zero {L : List Rd} {r t : Int} : tErr L r t = 0 ↔ (Valid L ∧ 0 ≤ r ∧ r ≤ 9) ∧ 0 ≤ t ∧ t ≤ 2000 := by
  unfold tErr
  rw [← rErr_zero, ← inB_true]
  by_cases h : rErr L r = 0
  · by_cases h1 : inB t 0 2000 = true <;> simp [h, h1]
  · simp [h]

theorem okRd_iff {x : Rd} : okRd x = true ↔ (0 ≤ x.t ∧ x.t ≤ 1000) ∧ (-1000 ≤ x.lo ∧ x.lo ≤ 1000) ∧ (x.lo ≤ x.hi ∧ x.hi ≤ 1000) := by
  simp [okRd, inB, and_assoc]

theorem Valid.bd {L : List Rd} (h : Valid L) {i : Nat} (hi : i < L.length) : (0 ≤ (at_ L i).t ∧ (at_ L i).t ≤ 1000) ∧ (-1000 ≤ (at_ L i).lo ∧ (at_ L i).lo ≤ 1000) ∧ ((at_ L i).lo ≤ (at_ L i).hi ∧ (at_ L i).hi ≤ 1000) :=
  okRd_iff.1 (h.ok i hi)

theorem Valid.lt {L : List Rd} (h : Valid L) : ∀ (i j : Nat), i < j → j < L.length → (at_ L i).t < (at_ L j).t
  | i, 0, hij, _ => absurd hij (by omega)
  | i, j + 1, hij, hj => by
    have h1 := h.asc (j + 1) (by omega) hj
    simp only [Nat.add_sub_cancel] at h1
    rcases Nat.eq_or_lt_of_le (Nat.le_of_lt_succ hij) with rfl | h2
    · exact h1
    · have := h.lt i j h2 (by omega)
      omega

/-- How far two times are apart. -/
def far (a b : Int) : Int := if a ≤ b then b - a else a - b

theorem far_comm (a b : Int) : far a b = far b a := by unfold far; split <;> split <;> omega
theorem far_self (a : Int) : far a a = 0 := by unfold far; split <;> omega
theorem far_nonneg (a b : Int) : 0 ≤ far a b := by unfold far; split <;> omega
theorem far_tri (a b c : Int) : far a c ≤ far a b + far b c := by unfold far; split <;> split <;> split <;> omega
theorem far_step (a t : Int) : far (t + 1) a ≤ far t a + 1 ∧ far t a ≤ far (t + 1) a + 1 := by unfold far; split <;> split <;> omega
theorem far_max (a b : Int) : far a b = max (a - b) (b - a) := by unfold far; split <;> omega

theorem mul_mono {r a b : Int} (hr : 0 ≤ r) (h : a ≤ b) : r * a ≤ r * b := Int.mul_le_mul_of_nonneg_left h hr
theorem mul_nonneg' {r a : Int} (hr : 0 ≤ r) (h : 0 ≤ a) : 0 ≤ r * a := Int.mul_nonneg hr h

/-- rate times a distance, small. -/
theorem way_bd {r a : Int} (hr : 0 ≤ r) (hr9 : r ≤ 9) (h0 : 0 ≤ a) (h : a ≤ 2000) : 0 ≤ r * a ∧ r * a ≤ 18000 := by
  refine ⟨Int.mul_nonneg hr h0, ?_⟩
  have h1 : r * a ≤ 9 * a := Int.mul_le_mul_of_nonneg_right hr9 h0
  omega

/-- Two readings clash. -/
def clashB (x y : Rd) (r : Int) : Bool := decide (r * far x.t y.t < x.lo - y.hi) || decide (r * far x.t y.t < y.lo - x.hi)

theorem clashB_comm (x y : Rd) (r : Int) : clashB x y r = clashB y x r := by
  unfold clashB; rw [far_comm x.t y.t, Bool.or_comm]

theorem clashB_false {x y : Rd} {r : Int} : clashB x y r = false ↔ x.lo - y.hi ≤ r * far x.t y.t ∧ y.lo - x.hi ≤ r * far x.t y.t := by
  simp [clashB]

theorem clash_self {x : Rd} {r : Int} (h : x.lo ≤ x.hi) : clashB x x r = false := by
  rw [clashB_false, far_self]; omega

/-- The first number from j on (m of them) that has a property. -/
def scanJ (c : Nat → Bool) : Nat → Nat → Option Nat
  | 0, _ => none
  | m + 1, j => if c j then some j else scanJ c m (j + 1)

/-- The first pair from row i on (m rows), n numbers in all. -/
def scanI (c : Nat → Nat → Bool) (n : Nat) : Nat → Nat → Option (Nat × Nat)
  | 0, _ => none
  | m + 1, i => match scanJ (c i) (n - (i + 1)) (i + 1) with
    | some j => some (i, j)
    | none => scanI c n m (i + 1)

def clashAt (L : List Rd) (r : Int) (i j : Nat) : Bool := clashB (at_ L i) (at_ L j) r

/-- The first pair that clashes. -/
def firstP (L : List Rd) (r : Int) : Option (Nat × Nat) := scanI (clashAt L r) L.length L.length 0

/-- The readings agree. -/
def agreeB (L : List Rd) (r : Int) : Bool := (firstP L r).isNone

theorem scanJ_none {c : Nat → Bool} : ∀ (m j : Nat), scanJ c m j = none ↔ ∀ k, j ≤ k → k < j + m → c k = false
  | 0, j => by simp [scanJ]; omega
  | m + 1, j => by
    unfold scanJ
    by_cases hc : c j = true
    · rw [if_pos hc]
      refine ⟨fun h => (by cases h), fun h => ?_⟩
      rw [h j (Nat.le_refl _) (by omega)] at hc; cases hc
    · rw [if_neg hc, scanJ_none m (j + 1)]
      constructor
      · intro h k hk hk'
        rcases Nat.eq_or_lt_of_le hk with rfl | h'
        · simpa using hc
        · exact h k h' (by omega)
      · exact fun h k hk hk' => h k (by omega) (by omega)

theorem scanJ_some {c : Nat → Bool} : ∀ (m j k : Nat), scanJ c m j = some k → j ≤ k ∧ k < j + m ∧ c k = true ∧ ∀ i, j ≤ i → i < k → c i = false
  | 0, j, k => by simp [scanJ]
  | m + 1, j, k => by
    unfold scanJ
    by_cases hc : c j = true
    · rw [if_pos hc]
      rintro ⟨⟩
      exact ⟨Nat.le_refl _, by omega, hc, fun i h1 h2 => by omega⟩
    · rw [if_neg hc]
      intro h
      obtain ⟨h1, h2, h3, h4⟩ := scanJ_some m (j + 1) k h
      refine ⟨by omega, by omega, h3, fun i hi hi' => ?_⟩
      rcases Nat.eq_or_lt_of_le hi with rfl | h'
      · simpa using hc
      · exact h4 i h' hi'

theorem scanI_none {c : Nat → Nat → Bool} {n : Nat} : ∀ (m i : Nat), scanI c n m i = none ↔ ∀ a b, i ≤ a → a < i + m → a < b → b < n → c a b = false
  | 0, i => by simp [scanI]; intros; omega
  | m + 1, i => by
    unfold scanI
    cases hs : scanJ (c i) (n - (i + 1)) (i + 1) with
    | some j =>
      obtain ⟨h1, h2, h3, _⟩ := scanJ_some _ _ _ hs
      refine ⟨fun h => (by cases h), fun h => ?_⟩
      rw [h i j (Nat.le_refl _) (by omega) (by omega) (by omega)] at h3; cases h3
    | none =>
      have hn := (scanJ_none _ _).1 hs
      simp only [scanI_none m (i + 1)]
      constructor
      · intro h a b h1 h2 h3 h4
        rcases Nat.eq_or_lt_of_le h1 with rfl | h'
        · exact hn b (by omega) (by omega)
        · exact h a b h' (by omega) h3 h4
      · exact fun h a b h1 h2 h3 h4 => h a b (by omega) (by omega) h3 h4

theorem scanI_some {c : Nat → Nat → Bool} {n : Nat} : ∀ (m i : Nat) (p : Nat × Nat), scanI c n m i = some p → i ≤ p.1 ∧ p.1 < i + m ∧ p.1 < p.2 ∧ p.2 < n ∧ c p.1 p.2 = true
  | 0, i, p => by simp [scanI]
  | m + 1, i, p => by
    unfold scanI
    cases hs : scanJ (c i) (n - (i + 1)) (i + 1) with
    | some j =>
      rintro ⟨⟩
      obtain ⟨h1, h2, h3, _⟩ := scanJ_some _ _ _ hs
      exact ⟨Nat.le_refl _, by simp, by simp; omega, by simp; omega, h3⟩
    | none =>
      intro h
      obtain ⟨h1, h2, h3, h4, h5⟩ := scanI_some m (i + 1) p h
      exact ⟨by omega, by omega, h3, h4, h5⟩

theorem agreeB_true {L : List Rd} {r : Int} : agreeB L r = true ↔ ∀ a b, a < b → b < L.length → clashAt L r a b = false := by
  unfold agreeB firstP
  rw [Option.isNone_iff_eq_none, scanI_none]
  exact ⟨fun h a b h1 h2 => h a b (Nat.zero_le _) (by omega) h1 h2, fun h a b _ _ h1 h2 => h a b h1 h2⟩

theorem agreeB_all {L : List Rd} {r : Int} (hv : Valid L) : agreeB L r = true ↔ ∀ a b, a < L.length → b < L.length → clashAt L r a b = false := by
  rw [agreeB_true]
  constructor
  · intro h a b ha hb
    rcases Nat.lt_trichotomy a b with h1 | rfl | h1
    · exact h a b h1 hb
    · exact clash_self (hv.bd ha).2.2.1
    · unfold clashAt
      rw [clashB_comm]
      exact h b a h1 ha
  · exact fun h a b h1 h2 => h a b (by omega) h2

/-- The smallest number at a time, of the first k readings (k at least 1). -/
def loP (L : List Rd) (r t : Int) : Nat → Int
  | 0 => (at_ L 0).lo - r * far t (at_ L 0).t
  | k + 1 => max (loP L r t k) ((at_ L (k + 1)).lo - r * far t (at_ L (k + 1)).t)

/-- The greatest number at a time, of the first readings up to number k. -/
def hiP (L : List Rd) (r t : Int) : Nat → Int
  | 0 => (at_ L 0).hi + r * far t (at_ L 0).t
  | k + 1 => min (hiP L r t k) ((at_ L (k + 1)).hi + r * far t (at_ L (k + 1)).t)

def loB (L : List Rd) (r t : Int) : Int := loP L r t (L.length - 1)
def hiB (L : List Rd) (r t : Int) : Int := hiP L r t (L.length - 1)

theorem loP_ge {L : List Rd} {r t : Int} : ∀ (k i : Nat), i ≤ k → (at_ L i).lo - r * far t (at_ L i).t ≤ loP L r t k
  | 0, i, h => by obtain rfl : i = 0 := by omega
                  exact Int.le_refl _
  | k + 1, i, h => by
    unfold loP
    rcases Nat.eq_or_lt_of_le h with rfl | h'
    · omega
    · have := loP_ge (L := L) (r := r) (t := t) k i (by omega); omega

theorem loP_mem {L : List Rd} {r t : Int} : ∀ (k : Nat), ∃ i, i ≤ k ∧ loP L r t k = (at_ L i).lo - r * far t (at_ L i).t
  | 0 => ⟨0, Nat.le_refl _, rfl⟩
  | k + 1 => by
    obtain ⟨i, hi, he⟩ := loP_mem (L := L) (r := r) (t := t) k
    unfold loP
    by_cases h : loP L r t k ≤ (at_ L (k + 1)).lo - r * far t (at_ L (k + 1)).t
    · exact ⟨k + 1, Nat.le_refl _, by omega⟩
    · exact ⟨i, by omega, by omega⟩

theorem hiP_le {L : List Rd} {r t : Int} : ∀ (k i : Nat), i ≤ k → hiP L r t k ≤ (at_ L i).hi + r * far t (at_ L i).t
  | 0, i, h => by obtain rfl : i = 0 := by omega
                  exact Int.le_refl _
  | k + 1, i, h => by
    unfold hiP
    rcases Nat.eq_or_lt_of_le h with rfl | h'
    · omega
    · have := hiP_le (L := L) (r := r) (t := t) k i (by omega); omega

theorem hiP_mem {L : List Rd} {r t : Int} : ∀ (k : Nat), ∃ i, i ≤ k ∧ hiP L r t k = (at_ L i).hi + r * far t (at_ L i).t
  | 0 => ⟨0, Nat.le_refl _, rfl⟩
  | k + 1 => by
    obtain ⟨i, hi, he⟩ := hiP_mem (L := L) (r := r) (t := t) k
    unfold hiP
    by_cases h : hiP L r t k ≤ (at_ L (k + 1)).hi + r * far t (at_ L (k + 1)).t
    · exact ⟨i, by omega, by omega⟩
    · exact ⟨k + 1, Nat.le_refl _, by omega⟩

/-- From here on: readings that are valid, a rate that is one, a time. -/
theorem loP_bd {L : List Rd} {r t : Int} (hv : Valid L) (hr : 0 ≤ r) (hr9 : r ≤ 9) (h0 : 0 ≤ t) (h2 : t ≤ 2000) (k : Nat) (hk : k < L.length) : -19000 ≤ loP L r t k ∧ loP L r t k ≤ 1000 := by
  obtain ⟨i, hi, he⟩ := loP_mem (L := L) (r := r) (t := t) k
  have hb := hv.bd (i := i) (by omega)
  have hw := way_bd (r := r) (a := far t (at_ L i).t) hr hr9 (far_nonneg _ _) (by unfold far; split <;> omega)
  omega

theorem hiP_bd {L : List Rd} {r t : Int} (hv : Valid L) (hr : 0 ≤ r) (hr9 : r ≤ 9) (h0 : 0 ≤ t) (h2 : t ≤ 2000) (k : Nat) (hk : k < L.length) : -1000 ≤ hiP L r t k ∧ hiP L r t k ≤ 19000 := by
  obtain ⟨i, hi, he⟩ := hiP_mem (L := L) (r := r) (t := t) k
  have hb := hv.bd (i := i) (by omega)
  have hw := way_bd (r := r) (a := far t (at_ L i).t) hr hr9 (far_nonneg _ _) (by unfold far; split <;> omega)
  omega

/-- Where readings agree the bounds are in order. -/
theorem lo_le_hi {L : List Rd} {r t : Int} (hv : Valid L) (hr : 0 ≤ r) (ha : agreeB L r = true) : loB L r t ≤ hiB L r t := by
  obtain ⟨i, hi, ei⟩ := loP_mem (L := L) (r := r) (t := t) (L.length - 1)
  obtain ⟨j, hj, ej⟩ := hiP_mem (L := L) (r := r) (t := t) (L.length - 1)
  have hp := hv.pos
  have hc := (agreeB_all hv).1 ha i j (by omega) (by omega)
  have h1 := (clashB_false.1 hc).1
  have h2 : r * far (at_ L i).t (at_ L j).t ≤ r * (far t (at_ L i).t + far t (at_ L j).t) := by
    refine mul_mono hr ?_
    have := far_tri (at_ L i).t t (at_ L j).t
    rw [far_comm (at_ L i).t t] at this
    exact this
  rw [Int.mul_add] at h2
  unfold loB hiB
  omega

/-- The bounds at the next time are no farther than the rate. -/
theorem lo_near {L : List Rd} {r t : Int} (hr : 0 ≤ r) (k : Nat) : loP L r t k - loP L r (t + 1) k ≤ r ∧ loP L r (t + 1) k - loP L r t k ≤ r := by
  have step : ∀ a : Int, r * far (t + 1) a ≤ r * far t a + r ∧ r * far t a ≤ r * far (t + 1) a + r := by
    intro a
    have h := far_step a t
    have h1 := mul_mono hr h.1
    have h2 := mul_mono hr h.2
    rw [Int.mul_add, Int.mul_one] at h1 h2
    exact ⟨h1, h2⟩
  constructor
  · obtain ⟨i, hi, ei⟩ := loP_mem (L := L) (r := r) (t := t) k
    have h1 := loP_ge (L := L) (r := r) (t := t + 1) k i hi
    have h2 := step (at_ L i).t
    omega
  · obtain ⟨i, hi, ei⟩ := loP_mem (L := L) (r := r) (t := t + 1) k
    have h1 := loP_ge (L := L) (r := r) (t := t) k i hi
    have h2 := step (at_ L i).t
    omega

theorem hi_near {L : List Rd} {r t : Int} (hr : 0 ≤ r) (k : Nat) : hiP L r t k - hiP L r (t + 1) k ≤ r ∧ hiP L r (t + 1) k - hiP L r t k ≤ r := by
  have step : ∀ a : Int, r * far (t + 1) a ≤ r * far t a + r ∧ r * far t a ≤ r * far (t + 1) a + r := by
    intro a
    have h := far_step a t
    have h1 := mul_mono hr h.1
    have h2 := mul_mono hr h.2
    rw [Int.mul_add, Int.mul_one] at h1 h2
    exact ⟨h1, h2⟩
  constructor
  · obtain ⟨i, hi, ei⟩ := hiP_mem (L := L) (r := r) (t := t + 1) k
    have h1 := hiP_le (L := L) (r := r) (t := t) k i hi
    have h2 := step (at_ L i).t
    omega
  · obtain ⟨i, hi, ei⟩ := hiP_mem (L := L) (r := r) (t := t) k
    have h1 := hiP_le (L := L) (r := r) (t := t + 1) k i hi
    have h2 := step (at_ L i).t
    omega

end Go.Proofs.Ytgbdcemlnklmoaa
