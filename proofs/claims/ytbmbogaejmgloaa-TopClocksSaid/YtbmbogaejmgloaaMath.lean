/-
  Plain facts on jobs in time, far from any program: which jobs are valid, the demand of a stretch, the order of work by urgency, and what any order of work must need.
-/
namespace Go.Proofs.Ytbmbogaejmgloaa

/-- A job: from when it can be done, by when it must be done, and how much it needs. -/
structure Jb where
  s : Int
  e : Int
  d : Int

def jb0 : Jb := ⟨0, 0, 0⟩
def at_ (L : List Jb) (i : Nat) : Jb := L.getD i jb0
def gi (xs : List Int) (i : Nat) : Int := xs.getD i 0

/-- A number from lo to hi. -/
def inB (n lo hi : Int) : Bool := decide (lo ≤ n) && decide (n ≤ hi)

theorem inB_true {n lo hi : Int} : inB n lo hi = true ↔ lo ≤ n ∧ n ≤ hi := by simp [inB]
theorem inB_false {n lo hi : Int} : inB n lo hi = false ↔ ¬ (lo ≤ n ∧ n ≤ hi) := by
  rw [← inB_true]; cases inB n lo hi <;> simp

def okJ (x : Jb) : Bool := decide (0 ≤ x.s) && decide (x.s < x.e) && decide (x.e ≤ 60) && inB x.d 1 60

theorem okJ_iff {x : Jb} : okJ x = true ↔ 0 ≤ x.s ∧ x.s < x.e ∧ x.e ≤ 60 ∧ 1 ≤ x.d ∧ x.d ≤ 60 := by simp [okJ, inB]; omega

/-- The first number from j on (of m) of which c holds. -/
def scanJ (c : Nat → Bool) : Nat → Nat → Option Nat
  | 0, _ => none
  | m + 1, j => if c j then some j else scanJ c m (j + 1)

theorem scanJ_none {c : Nat → Bool} : ∀ (m j : Nat), scanJ c m j = none ↔ ∀ k, j ≤ k → k < j + m → c k = false
  | 0, j => by simp [scanJ]; omega
  | m + 1, j => by
    rw [scanJ]
    split
    · rename_i h
      simp only [reduceCtorEq, false_iff]
      intro H
      have := H j (Nat.le_refl _) (by omega)
      rw [this] at h; cases h
    · rename_i h
      rw [scanJ_none m (j + 1)]
      constructor
      · intro H k hk hk'
        rcases Nat.eq_or_lt_of_le hk with rfl | h'
        · simpa using h
        · exact H k h' (by omega)
      · exact fun H k hk hk' => H k (by omega) (by omega)

theorem scanJ_some {c : Nat → Bool} : ∀ (m j k : Nat), scanJ c m j = some k → j ≤ k ∧ k < j + m ∧ c k = true ∧ ∀ i, j ≤ i → i < k → c i = false
  | 0, j, k, h => by simp [scanJ] at h
  | m + 1, j, k, h => by
    rw [scanJ] at h
    split at h
    · rename_i hc
      cases h
      exact ⟨Nat.le_refl _, by omega, hc, fun i h1 h2 => by omega⟩
    · rename_i hc
      obtain ⟨h1, h2, h3, h4⟩ := scanJ_some m (j + 1) k h
      refine ⟨by omega, by omega, h3, fun i hi hi' => ?_⟩
      rcases Nat.eq_or_lt_of_le hi with rfl | h'
      · simpa using hc
      · exact h4 i h' hi'

theorem scan_none {c : Nat → Bool} {n : Nat} : (scanJ c n 0).isSome = false ↔ ∀ k, k < n → c k = false := by
  rw [Option.isSome_eq_false_iff, Option.isNone_iff_eq_none, scanJ_none]
  exact ⟨fun h k hk => h k (Nat.zero_le _) (by omega), fun h k _ hk => h k (by omega)⟩
theorem scan_yes {c : Nat → Bool} {n k : Nat} (h : k < n) (hc : c k = true) : scanJ c (n - k) k = some k := by
  rw [show n - k = (n - (k + 1)) + 1 by omega]; simp [scanJ, hc]
theorem scan_no {c : Nat → Bool} {n k : Nat} (h : k < n) (hc : c k = false) : scanJ c (n - k) k = scanJ c (n - (k + 1)) (k + 1) := by
  rw [show n - k = (n - (k + 1)) + 1 by omega]; simp [scanJ, hc]
theorem scan_end {c : Nat → Bool} {n k : Nat} (h : ¬ k < n) : scanJ c (n - k) k = none := by
  rw [show n - k = 0 by omega]; rfl

def badJ (L : List Jb) (i : Nat) : Bool := !okJ (at_ L i)

/-- The error number of jobs. -/
def vErr (L : List Jb) : Int := if 8 < L.length then 3 else if (scanJ (badJ L) L.length 0).isSome then 1 else 0

structure Valid (L : List Jb) : Prop where
  le : L.length ≤ 8
  ok : ∀ i, i < L.length → okJ (at_ L i) = true

theorem vErr_zero {L : List Jb} : vErr L = 0 ↔ Valid L := by
  unfold vErr
  by_cases h : 8 < L.length
  · rw [if_pos h]; exact ⟨fun h => by simp at h, fun h' => absurd h'.le (by omega)⟩
  · rw [if_neg h]
    cases hs : (scanJ (badJ L) L.length 0).isSome
    · simp only [Bool.false_eq_true, if_false, true_iff]
      rw [scan_none] at hs
      exact ⟨by omega, fun i hi => by have := hs i hi; simpa [badJ] using this⟩
    · simp only [if_true, Int.one_ne_zero, false_iff]
      intro hv
      have : (scanJ (badJ L) L.length 0).isSome = false := scan_none.2 fun k hk => by simp [badJ, hv.ok k hk]
      rw [this] at hs; cases hs

theorem vErr_cases (L : List Jb) : vErr L = 0 ∨ vErr L = 1 ∨ vErr L = 3 := by
  unfold vErr; split
  · simp
  · split <;> simp

theorem Valid.bd {L : List Jb} (h : Valid L) {i : Nat} (hi : i < L.length) : 0 ≤ (at_ L i).s ∧ (at_ L i).s < (at_ L i).e ∧ (at_ L i).e ≤ 60 ∧ 1 ≤ (at_ L i).d ∧ (at_ L i).d ≤ 60 := okJ_iff.1 (h.ok i hi)

/-- The sum of f over the numbers below n of which p holds. -/
def sumP (p : Nat → Bool) (f : Nat → Int) : Nat → Int
  | 0 => 0
  | n + 1 => sumP p f n + (if p n then f n else 0)

theorem sumP_congr {p q : Nat → Bool} {f g : Nat → Int} : ∀ {n : Nat}, (∀ k, k < n → p k = q k ∧ f k = g k) → sumP p f n = sumP q g n
  | 0, _ => rfl
  | n + 1, h => by
    rw [sumP, sumP, sumP_congr (fun k hk => h k (by omega)), (h n (by omega)).1, (h n (by omega)).2]

theorem sumP_nonneg {p : Nat → Bool} {f : Nat → Int} : ∀ {n : Nat}, (∀ k, k < n → p k = true → 0 ≤ f k) → 0 ≤ sumP p f n
  | 0, _ => Int.le_refl _
  | n + 1, h => by
    have h1 := sumP_nonneg (n := n) (fun k hk => h k (by omega))
    rw [sumP]
    split
    · have := h n (by omega) (by assumption); omega
    · omega

theorem sumP_zero {p : Nat → Bool} {f : Nat → Int} : ∀ {n : Nat}, (∀ k, k < n → p k = true → f k = 0) → sumP p f n = 0
  | 0, _ => rfl
  | n + 1, h => by
    rw [sumP, sumP_zero (fun k hk => h k (by omega))]
    split
    · rw [h n (by omega) (by assumption)]; rfl
    · rfl

theorem sumP_pos {p : Nat → Bool} {f : Nat → Int} {n : Nat} (h : 0 < sumP p f n) : ∃ k, k < n ∧ p k = true ∧ 0 < f k := by
  induction n with
  | zero => simp [sumP] at h
  | succ n ih =>
    rw [sumP] at h
    by_cases hp : p n = true
    · rw [if_pos hp] at h
      by_cases hf : 0 < f n
      · exact ⟨n, by omega, hp, hf⟩
      · obtain ⟨k, h1, h2, h3⟩ := ih (by omega)
        exact ⟨k, by omega, h2, h3⟩
    · rw [if_neg hp] at h
      obtain ⟨k, h1, h2, h3⟩ := ih (by omega)
      exact ⟨k, by omega, h2, h3⟩

theorem sumP_mono {p q : Nat → Bool} {f g : Nat → Int} : ∀ {n : Nat}, (∀ k, k < n → p k = true → q k = true) → (∀ k, k < n → p k = true → f k ≤ g k) → (∀ k, k < n → 0 ≤ g k) → sumP p f n ≤ sumP q g n
  | 0, _, _, _ => Int.le_refl _
  | n + 1, h, hf, h0 => by
    have h1 := sumP_mono (n := n) (p := p) (q := q) (f := f) (g := g) (fun k hk => h k (by omega)) (fun k hk => hf k (by omega)) (fun k hk => h0 k (by omega))
    rw [sumP, sumP]
    have hg := h0 n (by omega)
    by_cases hp : p n = true
    · rw [if_pos hp, if_pos (h n (by omega) hp)]
      have := hf n (by omega) hp; omega
    · rw [if_neg hp]
      split <;> omega

theorem sumP_le {p : Nat → Bool} {f : Nat → Int} {B : Int} (hB : 0 ≤ B) : ∀ {n : Nat}, (∀ k, k < n → f k ≤ B) → sumP p f n ≤ B * n
  | 0, _ => by simp [sumP]
  | n + 1, h => by
    have h1 := sumP_le hB (n := n) (p := p) (fun k hk => h k (by omega))
    have h2 := h n (by omega)
    rw [sumP]
    have e : B * ((n + 1 : Nat) : Int) = B * n + B := by rw [Int.natCast_add, Int.mul_add]; simp
    rw [e]
    split <;> omega

theorem sumP_ge {p : Nat → Bool} {f : Nat → Int} : ∀ {n k : Nat}, k < n → p k = true → (∀ k, k < n → p k = true → 0 ≤ f k) → f k ≤ sumP p f n
  | 0, k, h, _, _ => by omega
  | n + 1, k, h, hp, h0 => by
    rw [sumP]
    rcases Nat.lt_or_ge k n with hk | hk
    · have h1 := sumP_ge (n := n) hk hp (fun k hk => h0 k (by omega))
      split
      · have := h0 n (by omega) (by assumption); omega
      · omega
    · obtain rfl : k = n := by omega
      have h1 := sumP_nonneg (n := k) (p := p) (f := f) (fun k hk => h0 k (by omega))
      rw [if_pos hp]; omega

/-- One taken from number j. -/
theorem sumP_take {p : Nat → Bool} {f g : Nat → Int} {j : Nat} (hj : g j = f j - 1) (ho : ∀ k, k ≠ j → g k = f k) : ∀ {n : Nat}, sumP p g n = sumP p f n - (if j < n ∧ p j = true then 1 else 0)
  | 0 => by simp [sumP]
  | n + 1 => by
    have ih := sumP_take (p := p) hj ho (n := n)
    rw [sumP, sumP, ih]
    by_cases hjn : j = n
    · subst hjn
      rw [hj]
      by_cases hp : p j = true
      · simp [hp]; omega
      · simp [hp]
    · rw [ho n (fun h => hjn h.symm)]
      by_cases h : j < n
      · simp only [h, true_and, show j < n + 1 by omega]; omega
      · simp only [h, false_and, show ¬ j < n + 1 by omega, if_false]; omega

/-- A job lies in a stretch. -/
def inS (L : List Jb) (a b : Int) (k : Nat) : Bool := decide (a ≤ (at_ L k).s) && decide ((at_ L k).e ≤ b)
def nd (L : List Jb) (k : Nat) : Int := (at_ L k).d
/-- The demand of a stretch by the first n jobs. -/
def demN (L : List Jb) (a b : Int) (n : Nat) : Int := sumP (inS L a b) (nd L) n
def dem (L : List Jb) (a b : Int) : Int := demN L a b L.length

theorem inS_true {L : List Jb} {a b : Int} {k : Nat} : inS L a b k = true ↔ a ≤ (at_ L k).s ∧ (at_ L k).e ≤ b := by simp [inS]

theorem nd_pos {L : List Jb} (hv : Valid L) {k : Nat} (hk : k < L.length) : 1 ≤ nd L k := (hv.bd hk).2.2.2.1

theorem dem_bd {L : List Jb} (hv : Valid L) (a b : Int) {n : Nat} (hn : n ≤ L.length) : 0 ≤ demN L a b n ∧ demN L a b n ≤ 480 := by
  refine ⟨sumP_nonneg fun k hk _ => by have := nd_pos hv (k := k) (by omega); omega, ?_⟩
  have h1 := sumP_le (p := inS L a b) (f := nd L) (B := 60) (by decide) (n := n) (fun k hk => (hv.bd (i := k) (by omega)).2.2.2.2)
  have := hv.le
  show sumP _ _ _ ≤ 480
  omega

theorem dem_job {L : List Jb} {a b : Int} (h : 0 < dem L a b) : ∃ k, k < L.length ∧ a ≤ (at_ L k).s ∧ (at_ L k).e ≤ b := by
  obtain ⟨k, h1, h2, _⟩ := sumP_pos h
  exact ⟨k, h1, inS_true.1 h2⟩

theorem dem_lt {L : List Jb} (hv : Valid L) {a b : Int} (h : 0 < dem L a b) : a < b := by
  obtain ⟨k, h1, h2, h3⟩ := dem_job h
  have := hv.bd h1; omega

theorem dem_pos {L : List Jb} (hv : Valid L) {a b : Int} {k : Nat} (hk : k < L.length) (h1 : a ≤ (at_ L k).s) (h2 : (at_ L k).e ≤ b) : 0 < dem L a b := by
  have h := sumP_ge (p := inS L a b) (f := nd L) hk (inS_true.2 ⟨h1, h2⟩) (fun j hj _ => by have := nd_pos hv hj; omega)
  have := nd_pos hv hk
  show 0 < sumP _ _ _
  omega

/-! ### Work -/

/-- What is left of each job when a rule chooses what is done. -/
def rest (pk : (Nat → Int) → Nat → Option Nat) (L : List Jb) : Nat → Nat → Int
  | 0 => nd L
  | t + 1 => fun k => if pk (rest pk L t) t = some k then rest pk L t k - 1 else rest pk L t k

/-- Some job that can be done, and is not done yet, is taken at each time, or none. -/
structure Work (L : List Jb) (R : Nat → Nat → Int) : Prop where
  init : R 0 = nd L
  step : ∀ t, R (t + 1) = R t ∨ ∃ k, k < L.length ∧ 0 < R t k ∧ (at_ L k).s ≤ t ∧ R (t + 1) k = R t k - 1 ∧ ∀ j, j ≠ k → R (t + 1) j = R t j

theorem Work.nonneg {L : List Jb} (hv : Valid L) {R : Nat → Nat → Int} (h : Work L R) : ∀ t k, k < L.length → 0 ≤ R t k
  | 0, k, hk => by rw [h.init]; have := nd_pos hv hk; omega
  | t + 1, k, hk => by
    have ih := h.nonneg hv t k hk
    rcases h.step t with e | ⟨j, _, h2, _, h4, h5⟩
    · rw [e]; exact ih
    · by_cases hkj : k = j
      · subst hkj; omega
      · rw [h5 k hkj]; exact ih

theorem Work.down {L : List Jb} {R : Nat → Nat → Int} (h : Work L R) {k : Nat} : ∀ (t d : Nat), R (t + d) k ≤ R t k
  | t, 0 => Int.le_refl _
  | t, d + 1 => by
    have ih := h.down (k := k) t d
    rw [show t + (d + 1) = (t + d) + 1 by omega]
    rcases h.step (t + d) with e | ⟨j, _, _, _, h4, h5⟩
    · rw [e]; exact ih
    · by_cases hkj : k = j
      · subst hkj; omega
      · rw [h5 k hkj]; exact ih

/-- What is left of the jobs of a stretch falls by one a unit at most, and not before its begin. -/
theorem Work.low {L : List Jb} {R : Nat → Nat → Int} (h : Work L R) (a b : Int) : ∀ t : Nat, dem L a b - max 0 (t - a) ≤ sumP (inS L a b) (R t) L.length
  | 0 => by rw [h.init]; show _ ≤ dem L a b; omega
  | t + 1 => by
    have ih := h.low a b t
    rcases h.step t with e | ⟨j, h1, _, h3, h4, h5⟩
    · rw [e]; omega
    · have hs := sumP_take (p := inS L a b) h4 h5 (n := L.length)
      rw [hs]
      by_cases hin : inS L a b j = true
      · rw [if_pos ⟨h1, hin⟩]
        have := (inS_true.1 hin).1
        omega
      · rw [if_neg (fun h => hin h.2)]; omega

/-- Whoever has done all jobs of a stretch by a time has had the time. -/
theorem Work.need {L : List Jb} {R : Nat → Nat → Int} (h : Work L R) {a b : Int} {m : Nat} (hd : 0 < dem L a b) (h0 : ∀ k, k < L.length → a ≤ (at_ L k).s → (at_ L k).e ≤ b → R m k = 0) : a + dem L a b ≤ m := by
  have h1 := h.low a b m
  rw [sumP_zero (fun k hk hp => h0 k hk (inS_true.1 hp).1 (inS_true.1 hp).2)] at h1
  omega

/-- The greatest of all a + demand - b, over stretches that have a demand. -/
def IsLate (L : List Jb) (v : Int) : Prop := (∃ a b, 0 < dem L a b ∧ v = a + dem L a b - b) ∧ ∀ a b, 0 < dem L a b → a + dem L a b - b ≤ v

theorem IsLate.uniq {L : List Jb} {v v' : Int} (h : IsLate L v) (h' : IsLate L v') : v = v' := by
  obtain ⟨a, b, h1, rfl⟩ := h.1
  obtain ⟨a', b', h1', rfl⟩ := h'.1
  have e1 := h.2 a' b' h1'
  have e2 := h'.2 a b h1
  omega

/-- A rule of work. -/
structure Rule (L : List Jb) (pk : (Nat → Int) → Nat → Option Nat) : Prop where
  fit : ∀ r t k, pk r t = some k → k < L.length ∧ 0 < r k ∧ (at_ L k).s ≤ t
  busy : ∀ r t, pk r t = none → ∀ k, k < L.length → 0 < r k → (t : Int) < (at_ L k).s

theorem Rule.work {L : List Jb} {pk : (Nat → Int) → Nat → Option Nat} (h : Rule L pk) : Work L (rest pk L) where
  init := rfl
  step t := by
    cases hp : pk (rest pk L t) t with
    | none => left; funext k; simp [rest, hp]
    | some k =>
      right
      obtain ⟨h1, h2, h3⟩ := h.fit _ _ _ hp
      refine ⟨k, h1, h2, h3, by simp [rest, hp], fun j hj => ?_⟩
      have : ¬ k = j := fun e => hj e.symm
      simp [rest, hp, this]

def allB (_ : Nat) : Bool := true
/-- How much is left in all. -/
def openAt (pk : (Nat → Int) → Nat → Option Nat) (L : List Jb) (t : Nat) : Int := sumP allB (rest pk L t) L.length

theorem open_some {pk : (Nat → Int) → Nat → Option Nat} {L : List Jb} (hr : Rule L pk) {t k : Nat} (h : pk (rest pk L t) t = some k) : openAt pk L (t + 1) = openAt pk L t - 1 := by
  have hk := (hr.fit _ _ _ h).1
  have := sumP_take (p := allB) (f := rest pk L t) (g := rest pk L (t + 1)) (j := k) (by simp [rest, h]) (fun i hi => by have hne : ¬ k = i := fun e => hi e.symm; simp [rest, h, hne]) (n := L.length)
  rw [if_pos ⟨hk, rfl⟩] at this
  exact this

theorem open_none {pk : (Nat → Int) → Nat → Option Nat} {L : List Jb} {t : Nat} (h : pk (rest pk L t) t = none) : openAt pk L (t + 1) = openAt pk L t := by
  have : rest pk L (t + 1) = rest pk L t := by funext k; simp [rest, h]
  unfold openAt; rw [this]

theorem open_bd {pk : (Nat → Int) → Nat → Option Nat} {L : List Jb} (hv : Valid L) (hr : Rule L pk) (t : Nat) : 0 ≤ openAt pk L t ∧ openAt pk L t ≤ 480 := by
  refine ⟨sumP_nonneg fun k hk _ => hr.work.nonneg hv t k hk, ?_⟩
  have h1 := sumP_le (p := allB) (f := rest pk L t) (B := 60) (by decide) (n := L.length) (fun k hk => by
    have h1 := hr.work.down (k := k) 0 t
    rw [Nat.zero_add, hr.work.init] at h1
    have := (hv.bd hk).2.2.2.2
    show rest pk L t k ≤ 60
    have e : nd L k = (at_ L k).d := rfl
    omega)
  have := hv.le
  show sumP _ _ _ ≤ 480
  omega

theorem rest_le {pk : (Nat → Int) → Nat → Option Nat} {L : List Jb} (hv : Valid L) (hr : Rule L pk) (t : Nat) {k : Nat} (hk : k < L.length) : 0 ≤ rest pk L t k ∧ rest pk L t k ≤ 60 := by
  refine ⟨hr.work.nonneg hv t k hk, ?_⟩
  have h1 := hr.work.down (k := k) 0 t
  rw [Nat.zero_add, hr.work.init] at h1
  have := (hv.bd hk).2.2.2.2
  have e : nd L k = (at_ L k).d := rfl
  omega

theorem open_down {pk : (Nat → Int) → Nat → Option Nat} {L : List Jb} (hv : Valid L) (hr : Rule L pk) : ∀ i : Nat, openAt pk L (60 + i) ≤ max 0 (480 - i)
  | 0 => by have := (open_bd hv hr 60).2; simpa using this
  | i + 1 => by
    have ih := open_down hv hr i
    have h0 := (open_bd hv hr (60 + i)).1
    rw [show 60 + (i + 1) = (60 + i) + 1 by omega]
    cases hp : pk (rest pk L (60 + i)) (60 + i) with
    | some k => rw [open_some hr hp]; omega
    | none =>
      rw [open_none hp]
      have : openAt pk L (60 + i) = 0 := by
        refine sumP_zero fun k hk _ => ?_
        have h1 := hr.busy _ _ hp k hk
        have h2 := (hr.work.nonneg hv (60 + i) k hk)
        have h3 := hv.bd hk
        by_cases h4 : 0 < rest pk L (60 + i) k
        · have := h1 h4; omega
        · omega
      omega

theorem open_540 {pk : (Nat → Int) → Nat → Option Nat} {L : List Jb} (hv : Valid L) (hr : Rule L pk) : openAt pk L 540 = 0 := by
  have h1 := open_down hv hr 480
  have h2 := (open_bd hv hr 540).1
  rw [show 60 + 480 = 540 by omega] at h1
  omega

/-- The number of units until all is done. -/
def lenT (pk : (Nat → Int) → Nat → Option Nat) (L : List Jb) : Nat := (scanJ (fun t => decide (openAt pk L t ≤ 0)) 541 0).getD 0

theorem lenT_facts {pk : (Nat → Int) → Nat → Option Nat} {L : List Jb} (hv : Valid L) (hr : Rule L pk) : lenT pk L ≤ 540 ∧ openAt pk L (lenT pk L) = 0 ∧ ∀ t, t < lenT pk L → 0 < openAt pk L t := by
  unfold lenT
  cases hs : scanJ (fun t => decide (openAt pk L t ≤ 0)) 541 0 with
  | none =>
    have := (scanJ_none _ _).1 hs 540 (by omega) (by omega)
    have h2 := open_540 hv hr
    simp [h2] at this
  | some T =>
    obtain ⟨_, h2, h3, h4⟩ := scanJ_some _ _ _ hs
    simp only [Option.getD_some]
    refine ⟨by omega, ?_, fun t ht => by have := h4 t (by omega) ht; simp at this; exact this⟩
    have h5 := (open_bd hv hr T).1
    simp at h3; omega

/-! ### By urgency -/

def can (L : List Jb) (r : Nat → Int) (t k : Nat) : Bool := decide ((at_ L k).s ≤ t) && decide (0 < r k)

theorem can_true {L : List Jb} {r : Nat → Int} {t k : Nat} : can L r t k = true ↔ (at_ L k).s ≤ t ∧ 0 < r k := by simp [can]

/-- The bound of a choice among the first jobs: that of none is 61. -/
def byO (L : List Jb) (o : Option Nat) : Int := match o with | none => 61 | some k => (at_ L k).e

/-- The first most urgent one of the first jobs. -/
def best (L : List Jb) (r : Nat → Int) (t : Nat) : Nat → Option Nat
  | 0 => none
  | k + 1 => if can L r t k && decide ((at_ L k).e < byO L (best L r t k)) then some k else best L r t k

/-- The same from behind: the first one of the last m jobs. -/
def bestD (L : List Jb) (r : Nat → Int) (t : Nat) : Nat → Option Nat
  | 0 => none
  | m + 1 => if can L r t (L.length - (m + 1)) && ((bestD L r t m).isNone || decide ((at_ L (L.length - (m + 1))).e ≤ byO L (bestD L r t m))) then some (L.length - (m + 1)) else bestD L r t m

structure IsBest (L : List Jb) (r : Nat → Int) (t : Nat) (lo hi : Nat) (o : Option Nat) : Prop where
  fit : ∀ k, o = some k → lo ≤ k ∧ k < hi ∧ can L r t k = true
  no : o = none → ∀ j, lo ≤ j → j < hi → can L r t j = false
  first : ∀ k, o = some k → ∀ j, lo ≤ j → j < hi → can L r t j = true → (at_ L k).e < (at_ L j).e ∨ ((at_ L k).e = (at_ L j).e ∧ k ≤ j)

theorem IsBest.uniq {L : List Jb} {r : Nat → Int} {t lo hi : Nat} {o o' : Option Nat} (h : IsBest L r t lo hi o) (h' : IsBest L r t lo hi o') : o = o' := by
  cases ho : o with
  | none =>
    cases ho' : o' with
    | none => rfl
    | some k' =>
      obtain ⟨h1, h2, h3⟩ := h'.fit k' ho'
      rw [h.no ho k' h1 h2] at h3; cases h3
  | some k =>
    obtain ⟨h1, h2, h3⟩ := h.fit k ho
    cases ho' : o' with
    | none => rw [h'.no ho' k h1 h2] at h3; cases h3
    | some k' =>
      obtain ⟨h1', h2', h3'⟩ := h'.fit k' ho'
      have e1 := h.first k ho k' h1' h2' h3'
      have e2 := h'.first k' ho' k h1 h2 h3
      have : k = k' := by omega
      rw [this]

theorem best_is {L : List Jb} (hv : Valid L) {r : Nat → Int} {t : Nat} : ∀ n, n ≤ L.length → IsBest L r t 0 n (best L r t n)
  | 0, _ => ⟨fun k h => by simp [best] at h, fun _ j _ hj => by omega, fun k h => by simp [best] at h⟩
  | n + 1, hn => by
    have ih := best_is hv (r := r) (t := t) n (by omega)
    rw [best]
    by_cases hc : can L r t n = true
    · by_cases hb : (at_ L n).e < byO L (best L r t n)
      · rw [if_pos (by simp [hc, hb])]
        refine ⟨fun k h => by cases h; exact ⟨Nat.zero_le _, by omega, hc⟩, fun h => by simp at h, fun k h j _ hj hcj => ?_⟩
        cases h
        rcases Nat.lt_or_ge j n with hjn | hjn
        · cases ho : best L r t n with
          | none => have := ih.no ho j (Nat.zero_le _) hjn; rw [this] at hcj; cases hcj
          | some k =>
            rw [ho] at hb
            simp only [byO] at hb
            have := ih.first k ho j (Nat.zero_le _) hjn hcj
            omega
        · obtain rfl : j = n := by omega
          exact .inr ⟨rfl, Nat.le_refl _⟩
      · rw [if_neg (by simp [hb])]
        have hso : ∃ k, best L r t n = some k := by
          cases ho : best L r t n with
          | none => rw [ho] at hb; simp only [byO] at hb; have := hv.bd (i := n) (by omega); omega
          | some k => exact ⟨k, rfl⟩
        obtain ⟨k, ho⟩ := hso
        rw [ho] at hb ⊢
        simp only [byO] at hb
        obtain ⟨f1, f2, f3⟩ := ih.fit k ho
        refine ⟨fun k' h => by cases h; exact ⟨f1, by omega, f3⟩, fun h => by simp at h, fun k' h j _ hj hcj => ?_⟩
        cases h
        rcases Nat.lt_or_ge j n with hjn | hjn
        · exact ih.first k ho j (Nat.zero_le _) hjn hcj
        · obtain rfl : j = n := by omega
          omega
    · replace hc : can L r t n = false := by simpa using hc
      rw [if_neg (by simp [hc])]
      refine ⟨fun k h => by obtain ⟨a, b, c⟩ := ih.fit k h; exact ⟨a, by omega, c⟩, fun h j hj hj' => ?_, fun k h j hj hj' hcj => ?_⟩
      · rcases Nat.lt_or_ge j n with hjn | hjn
        · exact ih.no h j hj hjn
        · obtain rfl : j = n := by omega
          exact hc
      · rcases Nat.lt_or_ge j n with hjn | hjn
        · exact ih.first k h j hj hjn hcj
        · obtain rfl : j = n := by omega
          rw [hc] at hcj; cases hcj

theorem bestD_is {L : List Jb} {r : Nat → Int} {t : Nat} : ∀ m, m ≤ L.length → IsBest L r t (L.length - m) L.length (bestD L r t m)
  | 0, _ => ⟨fun k h => by simp [bestD] at h, fun _ j _ hj => by omega, fun k h => by simp [bestD] at h⟩
  | m + 1, hn => by
    have ih := bestD_is (L := L) (r := r) (t := t) m (by omega)
    rw [bestD]
    generalize hq : L.length - (m + 1) = q
    have hq' : L.length - m = q + 1 := by omega
    rw [hq'] at ih
    by_cases hc : can L r t q = true
    · by_cases hb : ((bestD L r t m).isNone || decide ((at_ L q).e ≤ byO L (bestD L r t m))) = true
      · rw [if_pos (by simp only [hc, hb]; rfl)]
        refine ⟨fun k h => by cases h; exact ⟨Nat.le_refl _, by omega, hc⟩, fun h => by simp at h, fun k h j hj hj' hcj => ?_⟩
        cases h
        rcases Nat.eq_or_lt_of_le hj with rfl | hjn
        · exact .inr ⟨rfl, Nat.le_refl _⟩
        · cases ho : bestD L r t m with
          | none => have := ih.no ho j hjn hj'; rw [this] at hcj; cases hcj
          | some k =>
            rw [ho] at hb
            have hb2 : (at_ L q).e ≤ (at_ L k).e := by
              rw [Option.isNone_some, Bool.false_or] at hb
              exact of_decide_eq_true hb
            have h5 := ih.first k ho j hjn hj' hcj
            have h6 := (ih.fit k ho).1
            omega
      · rw [if_neg (by simp only [hc, hb]; decide)]
        cases ho : bestD L r t m with
        | none => rw [ho] at hb; simp at hb
        | some k =>
          rw [ho] at hb
          have hb2 : ¬ (at_ L q).e ≤ (at_ L k).e := fun h => hb (by rw [Option.isNone_some, Bool.false_or]; exact decide_eq_true h)
          obtain ⟨f1, f2, f3⟩ := ih.fit k ho
          refine ⟨fun k' h => by cases h; exact ⟨by omega, f2, f3⟩, fun h => by simp at h, fun k' h j hj hj' hcj => ?_⟩
          cases h
          rcases Nat.eq_or_lt_of_le hj with rfl | hjn
          · left; omega
          · exact ih.first k ho j hjn hj' hcj
    · replace hc : can L r t q = false := by simpa using hc
      rw [if_neg (by simp [hc])]
      refine ⟨fun k h => by obtain ⟨a, b, c⟩ := ih.fit k h; exact ⟨by omega, b, c⟩, fun h j hj hj' => ?_, fun k h j hj hj' hcj => ?_⟩
      · rcases Nat.eq_or_lt_of_le hj with rfl | hjn
        · exact hc
        · exact ih.no h j hjn hj'
      · rcases Nat.eq_or_lt_of_le hj with rfl | hjn
        · rw [hc] at hcj; cases hcj
        · exact ih.first k h j hjn hj' hcj

theorem best_eq {L : List Jb} (hv : Valid L) (r : Nat → Int) (t : Nat) : bestD L r t L.length = best L r t L.length := by
  have h1 := best_is hv (r := r) (t := t) L.length (Nat.le_refl _)
  have h2 := bestD_is (L := L) (r := r) (t := t) L.length (Nat.le_refl _)
  rw [Nat.sub_self] at h2
  exact h2.uniq h1

/-- The rule: the first most urgent one. -/
def edf (L : List Jb) (r : Nat → Int) (t : Nat) : Option Nat := best L r t L.length

theorem edf_rule {L : List Jb} (hv : Valid L) : Rule L (edf L) where
  fit r t k h := by
    obtain ⟨_, h2, h3⟩ := (best_is hv (r := r) (t := t) L.length (Nat.le_refl _)).fit k h
    obtain ⟨h4, h5⟩ := can_true.1 h3
    exact ⟨h2, h5, h4⟩
  busy r t h k hk hr := by
    have := (best_is hv (r := r) (t := t) L.length (Nat.le_refl _)).no h k (Nat.zero_le _) hk
    have h2 : ¬ can L r t k = true := by rw [this]; simp
    rw [can_true] at h2
    omega

end Go.Proofs.Ytbmbogaejmgloaa
