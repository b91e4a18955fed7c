/-
  Plain facts on budgets, far from any program: which are valid, fractions in lowest terms, the total, the chance.
-/
namespace Go.Proofs.Ytplindidegmlkaa

/-- An item: how often it is used, and its rate, a fraction. -/
structure It where
  u : Int
  n : Int
  d : Int

def it0 : It := ⟨0, 0, 0⟩
def at_ (L : List It) (i : Nat) : It := L.getD i it0
def gi (xs : List Int) (i : Nat) : Int := xs.getD i 0

/-- A number from lo to hi. -/
def inB (n lo hi : Int) : Bool := decide (lo ≤ n) && decide (n ≤ hi)

theorem inB_true {n lo hi : Int} : inB n lo hi = true ↔ lo ≤ n ∧ n ≤ hi := by simp [inB]
theorem inB_false {n lo hi : Int} : inB n lo hi = false ↔ ¬ (lo ≤ n ∧ n ≤ hi) := by
  rw [← inB_true]; cases inB n lo hi <;> simp

/-- The first number from j on (of m) of which c holds. -/
def scanJ (c : Nat → Bool) : Nat → Nat → Option Nat
  | 0, _ => none
  | m + 1, j => if c j then some j else scanJ c m (j + 1)

theorem scanJ_none {c : Nat → Bool} : ∀ (m j : Nat), scanJ c m j = none ↔ ∀ k, j ≤ k → k < j + m → c k = false
  | 0, j => by simp [scanJ]; omega
  | m + 1, j => by
    rw [scanJ]
    split
    · rename_i h
      simp only [reduceCtorEq, false_iff]
      intro H
      have := H j (Nat.le_refl _) (by omega)
      rw [this] at h; cases h
    · rename_i h
      rw [scanJ_none m (j + 1)]
      constructor
      · intro H k hk hk'
        rcases Nat.eq_or_lt_of_le hk with rfl | h'
        · simpa using h
        · exact H k h' (by omega)
      · exact fun H k hk hk' => H k (by omega) (by omega)

theorem scanJ_some {c : Nat → Bool} : ∀ (m j k : Nat), scanJ c m j = some k → j ≤ k ∧ k < j + m ∧ c k = true ∧ ∀ i, j ≤ i → i < k → c i = false
  | 0, j, k, h => by simp [scanJ] at h
  | m + 1, j, k, h => by
    rw [scanJ] at h
    split at h
    · rename_i hc
      cases h
      exact ⟨Nat.le_refl _, by omega, hc, fun i h1 h2 => by omega⟩
    · rename_i hc
      obtain ⟨h1, h2, h3, h4⟩ := scanJ_some m (j + 1) k h
      refine ⟨by omega, by omega, h3, fun i hi hi' => ?_⟩
      rcases Nat.eq_or_lt_of_le hi with rfl | h'
      · simpa using hc
      · exact h4 i h' hi'

theorem scan_none {c : Nat → Bool} {n : Nat} : (scanJ c n 0).isSome = false ↔ ∀ k, k < n → c k = false := by
  rw [Option.isSome_eq_false_iff, Option.isNone_iff_eq_none, scanJ_none]
  exact ⟨fun h k hk => h k (Nat.zero_le _) (by omega), fun h k _ hk => h k (by omega)⟩
theorem scan_yes {c : Nat → Bool} {n k : Nat} (h : k < n) (hc : c k = true) : scanJ c (n - k) k = some k := by
  rw [show n - k = (n - (k + 1)) + 1 by omega]; simp [scanJ, hc]
theorem scan_no {c : Nat → Bool} {n k : Nat} (h : k < n) (hc : c k = false) : scanJ c (n - k) k = scanJ c (n - (k + 1)) (k + 1) := by
  rw [show n - k = (n - (k + 1)) + 1 by omega]; simp [scanJ, hc]
theorem scan_end {c : Nat → Bool} {n k : Nat} (h : ¬ k < n) : scanJ c (n - k) k = none := by
  rw [show n - k = 0 by omega]; rfl

/-- The sum of f over the numbers below n of which p holds. -/
def sumP (p : Nat → Bool) (f : Nat → Int) : Nat → Int
  | 0 => 0
  | n + 1 => sumP p f n + (if p n then f n else 0)

theorem sumP_congr {p q : Nat → Bool} {f g : Nat → Int} : ∀ {n : Nat}, (∀ k, k < n → p k = q k ∧ f k = g k) → sumP p f n = sumP q g n
  | 0, _ => rfl
  | n + 1, h => by
    rw [sumP, sumP, sumP_congr (fun k hk => h k (by omega)), (h n (by omega)).1, (h n (by omega)).2]

theorem sumP_nonneg {p : Nat → Bool} {f : Nat → Int} : ∀ {n : Nat}, (∀ k, k < n → p k = true → 0 ≤ f k) → 0 ≤ sumP p f n
  | 0, _ => Int.le_refl _
  | n + 1, h => by
    have h1 := sumP_nonneg (n := n) (fun k hk => h k (by omega))
    rw [sumP]
    split
    · have := h n (by omega) (by assumption); omega
    · omega

theorem sumP_zero {p : Nat → Bool} {f : Nat → Int} : ∀ {n : Nat}, (∀ k, k < n → p k = true → f k = 0) → sumP p f n = 0
  | 0, _ => rfl
  | n + 1, h => by
    rw [sumP, sumP_zero (fun k hk => h k (by omega))]
    split
    · rw [h n (by omega) (by assumption)]; rfl
    · rfl

theorem sumP_pos {p : Nat → Bool} {f : Nat → Int} {n : Nat} (h : 0 < sumP p f n) : ∃ k, k < n ∧ p k = true ∧ 0 < f k := by
  induction n with
  | zero => simp [sumP] at h
  | succ n ih =>
    rw [sumP] at h
    by_cases hp : p n = true
    · rw [if_pos hp] at h
      by_cases hf : 0 < f n
      · exact ⟨n, by omega, hp, hf⟩
      · obtain ⟨k, h1, h2, h3⟩ := ih (by omega)
        exact ⟨k, by omega, h2, h3⟩
    · rw [if_neg hp] at h
      obtain ⟨k, h1, h2, h3⟩ := ih (by omega)
      exact ⟨k, by omega, h2, h3⟩

theorem sumP_le {p : Nat → Bool} {f : Nat → Int} {B : Int} (hB : 0 ≤ B) : ∀ {n : Nat}, (∀ k, k < n → f k ≤ B) → sumP p f n ≤ B * n
  | 0, _ => by simp [sumP]
  | n + 1, h => by
    have h1 := sumP_le hB (n := n) (p := p) (fun k hk => h k (by omega))
    have h2 := h n (by omega)
    rw [sumP]
    have e : B * ((n + 1 : Nat) : Int) = B * n + B := by rw [Int.natCast_add, Int.mul_add]; simp
    rw [e]
    split <;> omega

theorem sumP_ge {p : Nat → Bool} {f : Nat → Int} : ∀ {n k : Nat}, k < n → p k = true → (∀ k, k < n → p k = true → 0 ≤ f k) → f k ≤ sumP p f n
  | 0, k, h, _, _ => by omega
  | n + 1, k, h, hp, h0 => by
    rw [sumP]
    rcases Nat.lt_or_ge k n with hk | hk
    · have h1 := sumP_ge (n := n) hk hp (fun k hk => h0 k (by omega))
      split
      · have := h0 n (by omega) (by assumption); omega
      · omega
    · obtain rfl : k = n := by omega
      have h1 := sumP_nonneg (n := k) (p := p) (f := f) (fun k hk => h0 k (by omega))
      rw [if_pos hp]; omega

/-! ### Lowest terms -/

def gcdI (a b : Int) : Int := (Int.gcd a b : Int)

theorem gcdI_step {a b : Int} : gcdI b (a % b) = gcdI a b := by
  unfold gcdI
  rw [← Int.gcd_add_mul_right_right b (a % b) (a / b), show a % b + a / b * b = a from Int.emod_add_ediv_mul a b, Int.gcd_comm]
theorem gcdI_zero {a : Int} (h : 0 ≤ a) : gcdI a 0 = a := by
  unfold gcdI; simp; omega
theorem gcdI_pos {a b : Int} (h : 0 < b) : 0 < gcdI a b := by
  unfold gcdI
  have : 0 < Int.gcd a b := Int.gcd_pos_of_ne_zero_right _ (by omega)
  omega
theorem gcdI_dvd {a b : Int} : gcdI a b ∣ a ∧ gcdI a b ∣ b := ⟨Int.gcd_dvd_left .., Int.gcd_dvd_right ..⟩
theorem gcdI_le {a b : Int} (h : 0 < b) : gcdI a b ≤ b := Int.le_of_dvd h gcdI_dvd.2

/-- In lowest terms. -/
def redN (n d : Int) : Int := n / gcdI n d
def redD (n d : Int) : Int := d / gcdI n d

theorem red_mul {n d : Int} : redN n d * gcdI n d = n ∧ redD n d * gcdI n d = d :=
  ⟨Int.ediv_mul_cancel gcdI_dvd.1, Int.ediv_mul_cancel gcdI_dvd.2⟩
theorem redD_pos {n d : Int} (h : 0 < d) : 0 < redD n d := by
  have h1 := (red_mul (n := n) (d := d)).2
  have h2 := gcdI_pos (a := n) h
  rcases Int.lt_trichotomy 0 (redD n d) with h3 | h3 | h3
  · exact h3
  · rw [← h3] at h1; omega
  · have := Int.mul_neg_of_neg_of_pos h3 h2; omega
theorem redN_nonneg {n d : Int} (h : 0 < d) (hn : 0 ≤ n) : 0 ≤ redN n d := Int.ediv_nonneg hn (Int.le_of_lt (gcdI_pos h))
theorem redN_le {n d : Int} (hn : 0 ≤ n) : redN n d ≤ n := Int.ediv_le_self _ hn
theorem redD_le {n d : Int} (h : 0 < d) : redD n d ≤ d := Int.ediv_le_self _ (Int.le_of_lt h)

/-- Whom a fraction is compared with does not ask for lowest terms. -/
theorem red_lt {n d x y : Int} (h : 0 < d) : redN n d * y < x * redD n d ↔ n * y < x * d := by
  have hg := gcdI_pos (a := n) h
  obtain ⟨e1, e2⟩ := red_mul (n := n) (d := d)
  constructor
  · intro h1
    have h2 := Int.mul_lt_mul_of_pos_right h1 hg
    have e3 : redN n d * y * gcdI n d = n * y := by rw [Int.mul_right_comm, e1]
    have e4 : x * redD n d * gcdI n d = x * d := by rw [Int.mul_assoc, e2]
    rw [e3, e4] at h2; exact h2
  · intro h1
    apply Int.not_le.1
    intro h2
    have h3 := Int.mul_le_mul_of_nonneg_right h2 (Int.le_of_lt hg)
    have e3 : redN n d * y * gcdI n d = n * y := by rw [Int.mul_right_comm, e1]
    have e4 : x * redD n d * gcdI n d = x * d := by rw [Int.mul_assoc, e2]
    rw [e3, e4] at h3; omega

theorem red_le {n d x y : Int} (h : 0 < d) : x * redD n d ≤ redN n d * y ↔ x * d ≤ n * y := by
  have := red_lt (n := n) (d := d) (x := x) (y := y) h
  omega

theorem red_ge {n d x y : Int} (h : 0 < d) : redN n d * y ≤ x * redD n d ↔ n * y ≤ x * d := by
  have hg := gcdI_pos (a := n) h
  obtain ⟨e1, e2⟩ := red_mul (n := n) (d := d)
  have e3 : redN n d * y * gcdI n d = n * y := by rw [Int.mul_right_comm, e1]
  have e4 : x * redD n d * gcdI n d = x * d := by rw [Int.mul_assoc, e2]
  rw [← e3, ← e4]
  exact ⟨fun h1 => Int.mul_le_mul_of_nonneg_right h1 (Int.le_of_lt hg), fun h1 => Int.le_of_mul_le_mul_right h1 hg⟩

theorem red_scale {n d c : Int} (hc : 0 < c) : redN (n * c) (d * c) = redN n d ∧ redD (n * c) (d * c) = redD n d := by
  have hg : gcdI (n * c) (d * c) = gcdI n d * c := by
    unfold gcdI
    rw [Int.gcd_mul_right]
    have : (c.natAbs : Int) = c := Int.natAbs_of_nonneg (Int.le_of_lt hc)
    rw [Int.natCast_mul, this]
  unfold redN redD
  rw [hg]
  exact ⟨Int.mul_ediv_mul_of_pos_left _ _ hc, Int.mul_ediv_mul_of_pos_left _ _ hc⟩

theorem red_eq {n d n' d' : Int} (hd : 0 < d) (hd' : 0 < d') (h : n * d' = n' * d) : redN n d = redN n' d' ∧ redD n d = redD n' d' := by
  obtain ⟨e1, e2⟩ := red_scale (n := n) (d := d) hd'
  obtain ⟨e3, e4⟩ := red_scale (n := n') (d := d') hd
  rw [← e1, ← e2, ← e3, ← e4, h, Int.mul_comm d d']
  exact ⟨rfl, rfl⟩

theorem frac_trans {a b c d e f : Int} (hb : 0 < b) (hd : 0 < d) (hf : 0 ≤ f) (h1 : a * d ≤ c * b) (h2 : c * f ≤ e * d) : a * f ≤ e * b := by
  have e1 := Int.mul_le_mul_of_nonneg_right h1 hf
  have e2 := Int.mul_le_mul_of_nonneg_right h2 (Int.le_of_lt hb)
  have e3 : a * d * f = (a * f) * d := by rw [Int.mul_right_comm]
  have e4 : c * b * f = c * f * b := by rw [Int.mul_right_comm]
  have e5 : e * d * b = (e * b) * d := by rw [Int.mul_right_comm]
  rw [e3, e4] at e1
  rw [e5] at e2
  exact Int.le_of_mul_le_mul_right (Int.le_trans e1 e2) hd

/-! ### Items -/

def okI (x : It) : Bool := inB x.u 1 8 && (inB x.d 1 10 && inB x.n 0 x.d)
theorem okI_iff {x : It} : okI x = true ↔ 1 ≤ x.u ∧ x.u ≤ 8 ∧ 1 ≤ x.d ∧ x.d ≤ 10 ∧ 0 ≤ x.n ∧ x.n ≤ x.d := by simp [okI, inB]; omega

def badI (L : List It) (i : Nat) : Bool := !okI (at_ L i)
/-- The error number of a budget. -/
def vErr (L : List It) : Int := if 6 < L.length then 3 else if (scanJ (badI L) L.length 0).isSome then 1 else 0

structure Valid (L : List It) : Prop where
  le : L.length ≤ 6
  ok : ∀ i, i < L.length → okI (at_ L i) = true

theorem vErr_zero {L : List It} : vErr L = 0 ↔ Valid L := by
  unfold vErr
  by_cases h : 6 < L.length
  · rw [if_pos h]; exact ⟨fun h => by simp at h, fun h' => absurd h'.le (by omega)⟩
  · rw [if_neg h]
    cases hs : (scanJ (badI L) L.length 0).isSome
    · simp only [Bool.false_eq_true, if_false, true_iff]
      rw [scan_none] at hs
      exact ⟨by omega, fun i hi => by have := hs i hi; simpa [badI] using this⟩
    · simp only [if_true, Int.one_ne_zero, false_iff]
      intro hv
      have : (scanJ (badI L) L.length 0).isSome = false := scan_none.2 fun k hk => by simp [badI, hv.ok k hk]
      rw [this] at hs; cases hs

theorem vErr_cases (L : List It) : vErr L = 0 ∨ vErr L = 1 ∨ vErr L = 3 := by
  unfold vErr; split
  · simp
  · split <;> simp

theorem Valid.bd {L : List It} (h : Valid L) {i : Nat} (hi : i < L.length) : 1 ≤ (at_ L i).u ∧ (at_ L i).u ≤ 8 ∧ 1 ≤ (at_ L i).d ∧ (at_ L i).d ≤ 10 ∧ 0 ≤ (at_ L i).n ∧ (at_ L i).n ≤ (at_ L i).d := okI_iff.1 (h.ok i hi)

/-- How many parts of the whole a rate is. -/
def partI (n d : Int) : Int := if d < 1 then 0 else n * 2520 / d
theorem part_mul {n d : Int} (h1 : 1 ≤ d) (h2 : d ≤ 10) : partI n d * d = n * 2520 := by
  have hd : d = 1 ∨ d = 2 ∨ d = 3 ∨ d = 4 ∨ d = 5 ∨ d = 6 ∨ d = 7 ∨ d = 8 ∨ d = 9 ∨ d = 10 := by omega
  unfold partI
  rw [if_neg (by omega)]
  rcases hd with rfl | rfl | rfl | rfl | rfl | rfl | rfl | rfl | rfl | rfl <;> omega
theorem part_bd {n d : Int} (h1 : 1 ≤ d) (h2 : d ≤ 10) (h3 : 0 ≤ n) (h4 : n ≤ d) : 0 ≤ partI n d ∧ partI n d ≤ 2520 := by
  have hd : d = 1 ∨ d = 2 ∨ d = 3 ∨ d = 4 ∨ d = 5 ∨ d = 6 ∨ d = 7 ∨ d = 8 ∨ d = 9 ∨ d = 10 := by omega
  unfold partI
  rw [if_neg (by omega)]
  rcases hd with rfl | rfl | rfl | rfl | rfl | rfl | rfl | rfl | rfl | rfl <;> omega

def wI (x : It) : Int := x.u * partI x.n x.d
/-- How many parts of the whole the first k items are. -/
def paT (L : List It) (k : Nat) : Int := sumP (fun _ => true) (fun i => wI (at_ L i)) k
def parts (L : List It) : Int := paT L L.length

theorem paT_step (L : List It) (k : Nat) : paT L (k + 1) = paT L k + wI (at_ L k) := by
  unfold paT; rw [sumP]; simp

theorem mul_nn {a b : Int} (h : 0 ≤ a) (h' : 0 ≤ b) : 0 ≤ a * b := Int.mul_nonneg h h'
theorem mul_bd {a b A B : Int} (ha : 0 ≤ a) (hA : a ≤ A) (hb : 0 ≤ b) (hB : b ≤ B) : 0 ≤ a * b ∧ a * b ≤ A * B :=
  ⟨Int.mul_nonneg ha hb, Int.mul_le_mul hA hB hb (by omega)⟩

theorem wI_bd {x : It} (h : okI x = true) : 0 ≤ wI x ∧ wI x ≤ 20160 := by
  obtain ⟨h1, h2, h3, h4, h5, h6⟩ := okI_iff.1 h
  obtain ⟨p1, p2⟩ := part_bd h3 h4 h5 h6
  have := mul_bd (a := x.u) (b := partI x.n x.d) (A := 8) (B := 2520) (by omega) h2 p1 p2
  unfold wI; omega

theorem paT_bd {L : List It} (hv : Valid L) : ∀ k : Nat, k ≤ L.length → 0 ≤ paT L k ∧ paT L k ≤ 20160 * k
  | 0, _ => by simp [paT, sumP]
  | k + 1, h => by
    have ih := paT_bd hv k (by omega)
    have := wI_bd (hv.ok k (by omega))
    rw [paT_step]; omega

theorem parts_bd {L : List It} (hv : Valid L) : 0 ≤ parts L ∧ parts L ≤ 120960 := by
  have := paT_bd hv L.length (Nat.le_refl _)
  have := hv.le
  unfold parts; omega

/-- The share of an item. -/
def shN (x : It) : Int := redN (x.u * x.n) x.d
def shD (x : It) : Int := redD (x.u * x.n) x.d

theorem sh_parts {x : It} (h : okI x = true) : shN x = redN (wI x) 2520 ∧ shD x = redD (wI x) 2520 := by
  obtain ⟨h1, h2, h3, h4, h5, h6⟩ := okI_iff.1 h
  refine red_eq (by omega) (by omega) ?_
  unfold wI
  have := part_mul (n := x.n) h3 h4
  rw [Int.mul_assoc, Int.mul_assoc, this]

theorem red_id (n d : Int) (h : 0 < d) : redN n d * d = n * redD n d := by
  have h1 := (red_ge (n := n) (d := d) (x := n) (y := d) h).2 (Int.le_refl _)
  have h2 := (red_le (n := n) (d := d) (x := n) (y := d) h).2 (Int.le_refl _)
  omega

/-- The sum of two fractions in lowest terms. -/
theorem red_plus {a b c d : Int} (hb : 0 < b) (hd : 0 < d) : redN (redN a b * redD c d + redN c d * redD a b) (redD a b * redD c d) = redN (a * d + c * b) (b * d) ∧ redD (redN a b * redD c d + redN c d * redD a b) (redD a b * redD c d) = redD (a * d + c * b) (b * d) := by
  have e1 := red_id a b hb
  have e2 := red_id c d hd
  have p1 := redD_pos (n := a) hb
  have p2 := redD_pos (n := c) hd
  refine red_eq (Int.mul_pos p1 p2) (Int.mul_pos hb hd) ?_
  generalize redN a b = A at *
  generalize redD a b = B at *
  generalize redN c d = C at *
  generalize redD c d = D at *
  have f1 : A * D * (b * d) = A * b * (D * d) := by ac_rfl
  have f2 : C * B * (b * d) = C * d * (B * b) := by ac_rfl
  have f3 : a * d * (B * D) = a * B * (D * d) := by ac_rfl
  have f4 : c * b * (B * D) = c * D * (B * b) := by ac_rfl
  rw [Int.add_mul, Int.add_mul, f1, f2, f3, f4, e1, e2]

theorem red_plus_whole {a c : Int} : redN (redN a 2520 * redD c 2520 + redN c 2520 * redD a 2520) (redD a 2520 * redD c 2520) = redN (a + c) 2520 ∧ redD (redN a 2520 * redD c 2520 + redN c 2520 * redD a 2520) (redD a 2520 * redD c 2520) = redD (a + c) 2520 := by
  obtain ⟨h1, h2⟩ := red_plus (a := a) (b := 2520) (c := c) (d := 2520) (by decide) (by decide)
  obtain ⟨h3, h4⟩ := red_scale (n := a + c) (d := 2520) (c := 2520) (by decide)
  rw [h1, h2, ← h3, ← h4, Int.add_mul]
  exact ⟨rfl, rfl⟩

/-- The total of the first k items. -/
def toN (L : List It) (k : Nat) : Int := redN (paT L k) 2520
def toD (L : List It) (k : Nat) : Int := redD (paT L k) 2520

theorem to_zero (L : List It) : toN L 0 = 0 ∧ toD L 0 = 1 := by
  unfold toN toD paT sumP; decide
theorem to_step {L : List It} (hv : Valid L) {k : Nat} (hk : k < L.length) :
    redN (toN L k * shD (at_ L k) + shN (at_ L k) * toD L k) (toD L k * shD (at_ L k)) = toN L (k + 1) ∧ redD (toN L k * shD (at_ L k) + shN (at_ L k) * toD L k) (toD L k * shD (at_ L k)) = toD L (k + 1) := by
  obtain ⟨e1, e2⟩ := sh_parts (hv.ok k hk)
  unfold toN toD
  rw [e1, e2, paT_step]
  exact red_plus_whole

theorem to_bd {L : List It} (hv : Valid L) {k : Nat} (hk : k ≤ L.length) : 0 ≤ toN L k ∧ toN L k ≤ 120960 ∧ 1 ≤ toD L k ∧ toD L k ≤ 2520 := by
  obtain ⟨h1, h2⟩ := paT_bd hv k hk
  have := hv.le
  have h3 := redN_nonneg (n := paT L k) (d := 2520) (by decide) h1
  have h4 := redN_le (n := paT L k) (d := 2520) h1
  have h5 := redD_pos (n := paT L k) (d := 2520) (by decide)
  have h6 := redD_le (n := paT L k) (d := 2520) (by decide)
  unfold toN toD
  omega
theorem sh_bd {x : It} (h : okI x = true) : 0 ≤ shN x ∧ shN x ≤ 80 ∧ 1 ≤ shD x ∧ shD x ≤ 10 := by
  obtain ⟨h1, h2, h3, h4, h5, h6⟩ := okI_iff.1 h
  have hb := mul_bd (a := x.u) (b := x.n) (A := 8) (B := 10) (by omega) h2 h5 (by omega)
  have h3 := redN_nonneg (n := x.u * x.n) (d := x.d) (by omega) hb.1
  have h4 := redN_le (n := x.u * x.n) (d := x.d) hb.1
  have h5 := redD_pos (n := x.u * x.n) (d := x.d) (by omega)
  have h6 := redD_le (n := x.u * x.n) (d := x.d) (by omega)
  unfold shN shD
  omega

/-- No share is above the total. -/
theorem sh_le {L : List It} (hv : Valid L) {i : Nat} (hi : i < L.length) : shN (at_ L i) * toD L L.length ≤ toN L L.length * shD (at_ L i) := by
  obtain ⟨e1, e2⟩ := sh_parts (hv.ok i hi)
  rw [e1, e2]
  unfold toN toD
  have h : wI (at_ L i) ≤ paT L L.length := by
    unfold paT
    exact sumP_ge (p := fun _ => true) (f := fun i => wI (at_ L i)) hi rfl (fun k hk _ => (wI_bd (hv.ok k hk)).1)
  refine (red_le (n := paT L L.length) (d := 2520) (x := redN (wI (at_ L i)) 2520) (y := redD (wI (at_ L i)) 2520) (by decide)).2 ?_
  refine (red_ge (n := wI (at_ L i)) (d := 2520) (x := paT L L.length) (y := 2520) (by decide)).2 ?_
  exact Int.mul_le_mul_of_nonneg_right h (by decide)

end Go.Proofs.Ytplindidegmlkaa
