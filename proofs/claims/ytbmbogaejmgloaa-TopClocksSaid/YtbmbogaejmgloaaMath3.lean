/-
  Plain facts on jobs in time: the first crowded stretch, the slack and the speed.
-/
import Derived.Test.YtbmbogaejmgloaaMath2
namespace Go.Proofs.Ytbmbogaejmgloaa

/-- The first pair from row i on (m rows), n numbers in all. -/
def scanI (c : Nat → Nat → Bool) (n : Nat) : Nat → Nat → Option (Nat × Nat)
  | 0, _ => none
  | m + 1, i => match scanJ (c i) (n - (i + 1)) (i + 1) with
    | some j => some (i, j)
    | none => scanI c n m (i + 1)

theorem scanI_none {c : Nat → Nat → Bool} {n : Nat} : ∀ (m i : Nat), scanI c n m i = none ↔ ∀ a b, i ≤ a → a < i + m → a < b → b < n → c a b = false
  | 0, i => by simp [scanI]; intros; omega
  | m + 1, i => by
    unfold scanI
    cases hs : scanJ (c i) (n - (i + 1)) (i + 1) with
    | some j =>
      obtain ⟨h1, h2, h3, _⟩ := scanJ_some _ _ _ hs
      refine ⟨fun h => (by cases h), fun h => ?_⟩
      rw [h i j (Nat.le_refl _) (by omega) (by omega) (by omega)] at h3; cases h3
    | none =>
      have hn := (scanJ_none _ _).1 hs
      simp only [scanI_none m (i + 1)]
      constructor
      · intro h a b h1 h2 h3 h4
        rcases Nat.eq_or_lt_of_le h1 with rfl | h'
        · exact hn b (by omega) (by omega)
        · exact h a b h' (by omega) h3 h4
      · exact fun h a b h1 h2 h3 h4 => h a b (by omega) (by omega) h3 h4

theorem scanI_some {c : Nat → Nat → Bool} {n : Nat} : ∀ (m i : Nat) (p : Nat × Nat), scanI c n m i = some p → i ≤ p.1 ∧ p.1 < i + m ∧ p.1 < p.2 ∧ p.2 < n ∧ c p.1 p.2 = true
  | 0, i, p => by simp [scanI]
  | m + 1, i, p => by
    unfold scanI
    cases hs : scanJ (c i) (n - (i + 1)) (i + 1) with
    | some j =>
      rintro ⟨⟩
      obtain ⟨h1, h2, h3, _⟩ := scanJ_some _ _ _ hs
      exact ⟨Nat.le_refl _, by simp, by simp; omega, by simp; omega, h3⟩
    | none =>
      intro h
      obtain ⟨h1, h2, h3, h4, h5⟩ := scanI_some m (i + 1) p h
      exact ⟨by omega, by omega, h3, h4, h5⟩

def crP (L : List Jb) (a b : Nat) : Bool := crB L a b
/-- The first crowded stretch. -/
def crO (L : List Jb) : Option (Nat × Nat) := if vErr L = 0 then scanI (crP L) 61 60 0 else none

theorem crO_late {L : List Jb} (hv : Valid L) : (crO L).isSome = decide (0 < lateJ L) := by
  unfold crO
  rw [if_pos (vErr_zero.2 hv), Bool.eq_iff_iff, decide_eq_true_iff, late_crowd hv]
  constructor
  · intro h
    obtain ⟨p, hp⟩ := Option.isSome_iff_exists.1 h
    obtain ⟨h1, h2, h3, h4, h5⟩ := scanI_some _ _ _ hp
    simp only [crP, crB, decide_eq_true_iff] at h5
    exact ⟨p.1, p.2, by omega, by omega, by omega, h5⟩
  · rintro ⟨a, b, h1, h2, h3, h4⟩
    cases hs : scanI (crP L) 61 60 0 with
    | some p => rfl
    | none =>
      have := (scanI_none _ _).1 hs a.toNat b.toNat (by omega) (by omega) (by omega) (by omega)
      simp only [crP, crB, decide_eq_false_iff_not] at this
      rw [Int.toNat_of_nonneg h1, Int.toNat_of_nonneg (by omega)] at this
      exact absurd h4 this

theorem crO_some {L : List Jb} {p : Nat × Nat} (h : crO L = some p) : p.1 < p.2 ∧ p.2 ≤ 60 ∧ crB L p.1 p.2 = true := by
  unfold crO at h
  split at h
  · obtain ⟨h1, h2, h3, h4, h5⟩ := scanI_some _ _ _ h
    exact ⟨h3, by omega, h5⟩
  · cases h

/-- The smallest of those that have a property. -/
theorem argmin {p : Nat → Bool} {f : Nat → Int} : ∀ {n : Nat}, (∃ k, k < n ∧ p k = true) → ∃ j, j < n ∧ p j = true ∧ ∀ k, k < n → p k = true → f j ≤ f k
  | 0, ⟨k, h, _⟩ => by omega
  | n + 1, ⟨k, hk, hp⟩ => by
    by_cases he : ∃ k, k < n ∧ p k = true
    · obtain ⟨j, h1, h2, h3⟩ := argmin (f := f) he
      by_cases hn : p n = true ∧ f n < f j
      · refine ⟨n, by omega, hn.1, fun i hi hpi => ?_⟩
        rcases Nat.lt_or_ge i n with h | h
        · have := h3 i h hpi; omega
        · obtain rfl : i = n := by omega
          omega
      · refine ⟨j, by omega, h2, fun i hi hpi => ?_⟩
        rcases Nat.lt_or_ge i n with h | h
        · exact h3 i h hpi
        · obtain rfl : i = n := by omega
          have : ¬ f i < f j := fun h' => hn ⟨hpi, h'⟩
          omega
    · have hkn : k = n := by
        rcases Nat.lt_or_ge k n with h | h
        · exact absurd ⟨k, h, hp⟩ he
        · omega
      subst hkn
      refine ⟨k, by omega, hp, fun i hi hpi => ?_⟩
      rcases Nat.lt_or_ge i k with h | h
      · exact absurd ⟨i, h, hpi⟩ he
      · obtain rfl : i = k := by omega
        omega

/-- A stretch with a demand can be drawn in to the From of a job and the By of one. -/
theorem shrink {L : List Jb} {a b : Int} (h : 0 < dem L a b) : ∃ j k, j < L.length ∧ k < L.length ∧ a ≤ (at_ L j).s ∧ (at_ L k).e ≤ b ∧ dem L (at_ L j).s (at_ L k).e = dem L a b := by
  obtain ⟨k0, h1, h2, h3⟩ := dem_job h
  obtain ⟨j, j1, j2, j3⟩ := argmin (p := inS L a b) (f := fun k => (at_ L k).s) ⟨k0, h1, inS_true.2 ⟨h2, h3⟩⟩
  obtain ⟨k, k1, k2, k3⟩ := argmin (p := inS L a b) (f := fun k => - (at_ L k).e) ⟨k0, h1, inS_true.2 ⟨h2, h3⟩⟩
  refine ⟨j, k, j1, k1, (inS_true.1 j2).1, (inS_true.1 k2).2, sumP_congr fun i hi => ⟨?_, rfl⟩⟩
  rw [Bool.eq_iff_iff, inS_true]
  constructor
  · rintro ⟨e1, e2⟩
    have := (inS_true.1 j2).1
    have := (inS_true.1 k2).2
    exact inS_true.2 ⟨by omega, by omega⟩
  · intro hin
    have e1 := j3 i hi hin
    have e2 := k3 i hi hin
    exact ⟨e1, by omega⟩

/-- A set of stretches in which each demand can be seen. -/
structure Cover (L : List Jb) (S : Int → Int → Prop) : Prop where
  lt : ∀ a b, S a b → a < b
  all : ∀ a b, 0 < dem L a b → ∃ a' b', S a' b' ∧ a ≤ a' ∧ b' ≤ b ∧ dem L a' b' = dem L a b

/-! ### Slack -/

def slU (L : List Jb) (a b : Int) (s : Int × Bool) : Int × Bool := if 0 < dem L a b ∧ (s.2 = false ∨ b - a - dem L a b < s.1) then (b - a - dem L a b, true) else s

structure IsSl (L : List Jb) (S : Int → Int → Prop) (s : Int × Bool) : Prop where
  no : s.2 = false → s.1 = 0 ∧ ∀ a b, S a b → ¬ 0 < dem L a b
  yes : s.2 = true → (∃ a b, S a b ∧ 0 < dem L a b ∧ s.1 = b - a - dem L a b) ∧ ∀ a b, S a b → 0 < dem L a b → s.1 ≤ b - a - dem L a b

theorem IsSl.congr {L : List Jb} {S S' : Int → Int → Prop} {s : Int × Bool} (h : IsSl L S s) (hS : ∀ a b, S a b ↔ S' a b) : IsSl L S' s := by
  have : S = S' := by funext a b; exact propext (hS a b)
  rw [← this]; exact h

theorem IsSl.step {L : List Jb} {S : Int → Int → Prop} {s : Int × Bool} (h : IsSl L S s) (a b : Int) : IsSl L (fun x y => S x y ∨ (x = a ∧ y = b)) (slU L a b s) := by
  unfold slU
  by_cases hd : 0 < dem L a b
  · cases hs : s.2 with
    | false =>
      rw [if_pos ⟨hd, .inl rfl⟩]
      obtain ⟨_, h2⟩ := h.no hs
      refine ⟨fun h => by simp at h, fun _ => ⟨⟨a, b, .inr ⟨rfl, rfl⟩, hd, rfl⟩, ?_⟩⟩
      rintro x y (hx | ⟨rfl, rfl⟩) hxy
      · exact absurd hxy (h2 x y hx)
      · exact Int.le_refl _
    | true =>
      obtain ⟨⟨a', b', h1, h2, h3⟩, h4⟩ := h.yes hs
      by_cases hlt : b - a - dem L a b < s.1
      · rw [if_pos ⟨hd, .inr hlt⟩]
        refine ⟨fun h => by simp at h, fun _ => ⟨⟨a, b, .inr ⟨rfl, rfl⟩, hd, rfl⟩, ?_⟩⟩
        rintro x y (hx | ⟨rfl, rfl⟩) hxy
        · have := h4 x y hx hxy; simp only; omega
        · exact Int.le_refl _
      · have hno : ¬ (0 < dem L a b ∧ (true = false ∨ b - a - dem L a b < s.1)) := fun h => by
          rcases h.2 with h' | h'
          · cases h'
          · exact hlt h'
        rw [if_neg hno]
        refine ⟨(fun h => by rw [hs] at h; cases h), fun _ => ⟨⟨a', b', .inl h1, h2, h3⟩, ?_⟩⟩
        rintro x y (hx | ⟨rfl, rfl⟩) hxy
        · exact h4 x y hx hxy
        · omega
  · rw [if_neg (fun h => hd h.1)]
    refine ⟨fun hs => ⟨(h.no hs).1, ?_⟩, fun hs => ?_⟩
    · rintro x y (hx | ⟨rfl, rfl⟩)
      · exact (h.no hs).2 x y hx
      · exact hd
    · obtain ⟨⟨a', b', h1, h2, h3⟩, h4⟩ := h.yes hs
      refine ⟨⟨a', b', .inl h1, h2, h3⟩, ?_⟩
      rintro x y (hx | ⟨rfl, rfl⟩) hxy
      · exact h4 x y hx hxy
      · exact absurd hxy hd

theorem IsSl.start (L : List Jb) : IsSl L (fun _ _ => False) (0, false) := ⟨fun _ => ⟨rfl, fun _ _ h => h.elim⟩, fun h => by cases h⟩

theorem IsSl.late {L : List Jb} (hv : Valid L) {S : Int → Int → Prop} {s : Int × Bool} (h : IsSl L S s) (hc : Cover L S) : s = (- lateJ L, decide (0 < L.length)) := by
  by_cases hn : 0 < L.length
  · have h0 : 0 < dem L (at_ L 0).s (at_ L 0).e := dem_pos hv hn (Int.le_refl _) (Int.le_refl _)
    obtain ⟨a, b, h1, _, _, h2⟩ := hc.all _ _ h0
    cases hs : s.2 with
    | false => exact absurd (by omega) ((h.no hs).2 a b h1)
    | true =>
      obtain ⟨⟨a', b', h3, h4, h5⟩, h6⟩ := h.yes hs
      have hl : IsLate L (- s.1) := ⟨⟨a', b', h4, by omega⟩, fun x y hxy => by
        obtain ⟨x', y', k1, k2, k3, k4⟩ := hc.all x y hxy
        have := h6 x' y' k1 (by omega)
        omega⟩
      have := lateJ_eq hv hn hl
      exact Prod.ext (by simp only; omega) (by rw [hs]; simp [hn])
  · have hno : ∀ a b, ¬ 0 < dem L a b := fun a b h => by obtain ⟨k, hk, _⟩ := dem_job h; omega
    cases hs : s.2 with
    | false => exact Prod.ext (by rw [(h.no hs).1, lateJ_nil (by omega)]; rfl) (by rw [hs]; simp [hn])
    | true =>
      obtain ⟨⟨a', b', h3, h4, h5⟩, h6⟩ := h.yes hs
      exact absurd h4 (hno _ _)

/-! ### Lowest terms -/

def gcdI (a b : Int) : Int := (Int.gcd a b : Int)

theorem gcdI_step {a b : Int} : gcdI b (a % b) = gcdI a b := by
  unfold gcdI
  rw [← Int.gcd_add_mul_right_right b (a % b) (a / b), show a % b + a / b * b = a from Int.emod_add_ediv_mul a b, Int.gcd_comm]
theorem gcdI_zero {a : Int} (h : 0 ≤ a) : gcdI a 0 = a := by
  unfold gcdI; simp; omega
theorem gcdI_pos {a b : Int} (h : 0 < b) : 0 < gcdI a b := by
  unfold gcdI
  have : 0 < Int.gcd a b := Int.gcd_pos_of_ne_zero_right _ (by omega)
  omega
theorem gcdI_dvd {a b : Int} : gcdI a b ∣ a ∧ gcdI a b ∣ b := ⟨Int.gcd_dvd_left .., Int.gcd_dvd_right ..⟩
theorem gcdI_le {a b : Int} (h : 0 < b) : gcdI a b ≤ b := Int.le_of_dvd h gcdI_dvd.2

/-- In lowest terms. -/
def redN (n d : Int) : Int := n / gcdI n d
def redD (n d : Int) : Int := d / gcdI n d

theorem red_mul {n d : Int} : redN n d * gcdI n d = n ∧ redD n d * gcdI n d = d :=
  ⟨Int.ediv_mul_cancel gcdI_dvd.1, Int.ediv_mul_cancel gcdI_dvd.2⟩
theorem redD_pos {n d : Int} (h : 0 < d) : 0 < redD n d := by
  have h1 := (red_mul (n := n) (d := d)).2
  have h2 := gcdI_pos (a := n) h
  rcases Int.lt_trichotomy 0 (redD n d) with h3 | h3 | h3
  · exact h3
  · rw [← h3] at h1; omega
  · have := Int.mul_neg_of_neg_of_pos h3 h2; omega
theorem redN_nonneg {n d : Int} (h : 0 < d) (hn : 0 ≤ n) : 0 ≤ redN n d := Int.ediv_nonneg hn (Int.le_of_lt (gcdI_pos h))
theorem redN_le {n d : Int} (hn : 0 ≤ n) : redN n d ≤ n := Int.ediv_le_self _ hn
theorem redD_le {n d : Int} (h : 0 < d) : redD n d ≤ d := Int.ediv_le_self _ (Int.le_of_lt h)

/-- Whom a fraction is compared with does not ask for lowest terms. -/
theorem red_lt {n d x y : Int} (h : 0 < d) : redN n d * y < x * redD n d ↔ n * y < x * d := by
  have hg := gcdI_pos (a := n) h
  obtain ⟨e1, e2⟩ := red_mul (n := n) (d := d)
  constructor
  · intro h1
    have h2 := Int.mul_lt_mul_of_pos_right h1 hg
    have e3 : redN n d * y * gcdI n d = n * y := by rw [Int.mul_right_comm, e1]
    have e4 : x * redD n d * gcdI n d = x * d := by rw [Int.mul_assoc, e2]
    rw [e3, e4] at h2; exact h2
  · intro h1
    apply Int.not_le.1
    intro h2
    have h3 := Int.mul_le_mul_of_nonneg_right h2 (Int.le_of_lt hg)
    have e3 : redN n d * y * gcdI n d = n * y := by rw [Int.mul_right_comm, e1]
    have e4 : x * redD n d * gcdI n d = x * d := by rw [Int.mul_assoc, e2]
    rw [e3, e4] at h3; omega

theorem red_le {n d x y : Int} (h : 0 < d) : x * redD n d ≤ redN n d * y ↔ x * d ≤ n * y := by
  have := red_lt (n := n) (d := d) (x := x) (y := y) h
  omega

theorem red_ge {n d x y : Int} (h : 0 < d) : redN n d * y ≤ x * redD n d ↔ n * y ≤ x * d := by
  have hg := gcdI_pos (a := n) h
  obtain ⟨e1, e2⟩ := red_mul (n := n) (d := d)
  have e3 : redN n d * y * gcdI n d = n * y := by rw [Int.mul_right_comm, e1]
  have e4 : x * redD n d * gcdI n d = x * d := by rw [Int.mul_assoc, e2]
  rw [← e3, ← e4]
  exact ⟨fun h1 => Int.mul_le_mul_of_nonneg_right h1 (Int.le_of_lt hg), fun h1 => Int.le_of_mul_le_mul_right h1 hg⟩

theorem red_scale {n d c : Int} (hc : 0 < c) : redN (n * c) (d * c) = redN n d ∧ redD (n * c) (d * c) = redD n d := by
  have hg : gcdI (n * c) (d * c) = gcdI n d * c := by
    unfold gcdI
    rw [Int.gcd_mul_right]
    have : (c.natAbs : Int) = c := Int.natAbs_of_nonneg (Int.le_of_lt hc)
    rw [Int.natCast_mul, this]
  unfold redN redD
  rw [hg]
  exact ⟨Int.mul_ediv_mul_of_pos_left _ _ hc, Int.mul_ediv_mul_of_pos_left _ _ hc⟩

theorem red_eq {n d n' d' : Int} (hd : 0 < d) (hd' : 0 < d') (h : n * d' = n' * d) : redN n d = redN n' d' ∧ redD n d = redD n' d' := by
  obtain ⟨e1, e2⟩ := red_scale (n := n) (d := d) hd'
  obtain ⟨e3, e4⟩ := red_scale (n := n') (d := d') hd
  rw [← e1, ← e2, ← e3, ← e4, h, Int.mul_comm d d']
  exact ⟨rfl, rfl⟩

/-! ### Speed -/

def spU (L : List Jb) (a b : Int) (s : Int × Int) : Int × Int := if s.1 * (b - a) < dem L a b * s.2 then (redN (dem L a b) (b - a), redD (dem L a b) (b - a)) else s

structure IsSp (L : List Jb) (S : Int → Int → Prop) (s : Int × Int) : Prop where
  from_ : ∃ p q : Int, 0 ≤ p ∧ 0 < q ∧ s = (redN p q, redD p q) ∧ ((p = 0 ∧ q = 1) ∨ ∃ a b, p = dem L a b ∧ q = b - a)
  ge : ∀ a b, S a b → dem L a b * s.2 ≤ s.1 * (b - a)

theorem IsSp.congr {L : List Jb} {S S' : Int → Int → Prop} {s : Int × Int} (h : IsSp L S s) (hS : ∀ a b, S a b ↔ S' a b) : IsSp L S' s := by
  have : S = S' := by funext a b; exact propext (hS a b)
  rw [← this]; exact h

theorem red_01 : redN 0 1 = 0 ∧ redD 0 1 = 1 := by decide

theorem IsSp.start (L : List Jb) : IsSp L (fun _ _ => False) (0, 1) := ⟨⟨0, 1, by decide, by decide, by rw [red_01.1, red_01.2], .inl ⟨rfl, rfl⟩⟩, fun _ _ h => h.elim⟩

theorem frac_trans {a b c d e f : Int} (hb : 0 < b) (hd : 0 < d) (hf : 0 ≤ f) (h1 : a * d ≤ c * b) (h2 : c * f ≤ e * d) : a * f ≤ e * b := by
  have e1 := Int.mul_le_mul_of_nonneg_right h1 hf
  have e2 := Int.mul_le_mul_of_nonneg_right h2 (Int.le_of_lt hb)
  have e3 : a * d * f = (a * f) * d := by rw [Int.mul_right_comm]
  have e4 : c * b * f = c * f * b := by rw [Int.mul_right_comm]
  have e5 : e * d * b = (e * b) * d := by rw [Int.mul_right_comm]
  rw [e3, e4] at e1
  rw [e5] at e2
  exact Int.le_of_mul_le_mul_right (Int.le_trans e1 e2) hd

theorem IsSp.step {L : List Jb} (hv : Valid L) {S : Int → Int → Prop} {s : Int × Int} (h : IsSp L S s) (hS : ∀ a b, S a b → a < b) {a b : Int} (hab : a < b) : IsSp L (fun x y => S x y ∨ (x = a ∧ y = b)) (spU L a b s) := by
  have hd := dem_bd hv a b (Nat.le_refl _)
  have hd0 : 0 ≤ dem L a b := hd.1
  obtain ⟨p, q, hp, hq, hs, hpq⟩ := h.from_
  unfold spU
  by_cases hc : s.1 * (b - a) < dem L a b * s.2
  · rw [if_pos hc]
    refine ⟨⟨dem L a b, b - a, hd0, by omega, rfl, .inr ⟨a, b, rfl, rfl⟩⟩, ?_⟩
    rintro x y (hx | ⟨rfl, rfl⟩)
    · rw [red_le (by omega)]
      have h1 := h.ge x y hx
      have hxy := hS x y hx
      have hD : 0 < s.2 := by rw [hs]; exact redD_pos hq
      have e1 := Int.mul_le_mul_of_nonneg_right h1 (show 0 ≤ b - a by omega)
      have e2 := Int.mul_le_mul_of_nonneg_right (Int.le_of_lt hc) (show 0 ≤ y - x by omega)
      have e3 : dem L x y * s.2 * (b - a) = dem L x y * (b - a) * s.2 := Int.mul_right_comm ..
      have e4 : s.1 * (y - x) * (b - a) = s.1 * (b - a) * (y - x) := Int.mul_right_comm ..
      have e5 : dem L a b * s.2 * (y - x) = dem L a b * (y - x) * s.2 := Int.mul_right_comm ..
      rw [e3, e4] at e1
      rw [e5] at e2
      exact Int.le_of_mul_le_mul_right (Int.le_trans e1 e2) hD
    · rw [red_le (by omega)]; omega
  · rw [if_neg hc]
    refine ⟨⟨p, q, hp, hq, hs, hpq⟩, ?_⟩
    rintro x y (hx | ⟨rfl, rfl⟩)
    · exact h.ge x y hx
    · omega

/-- The greatest demand by length. -/
structure IsSpeed (L : List Jb) (s : Int × Int) : Prop where
  from_ : ∃ p q : Int, 0 ≤ p ∧ 0 < q ∧ s = (redN p q, redD p q) ∧ ((p = 0 ∧ q = 1) ∨ ∃ a b, p = dem L a b ∧ q = b - a)
  ge : ∀ a b, 0 < dem L a b → dem L a b * s.2 ≤ s.1 * (b - a)

theorem IsSp.speed {L : List Jb} {S : Int → Int → Prop} {s : Int × Int} (h : IsSp L S s) (hc : Cover L S) : IsSpeed L s := by
  refine ⟨h.from_, fun a b hd => ?_⟩
  obtain ⟨a', b', h1, h2, h3, h4⟩ := hc.all a b hd
  have h5 := h.ge a' b' h1
  rw [h4] at h5
  obtain ⟨p, q, hp, hq, hs, _⟩ := h.from_
  have hN : 0 ≤ s.1 := by rw [hs]; exact redN_nonneg hq hp
  have := Int.mul_le_mul_of_nonneg_left (show b' - a' ≤ b - a by omega) hN
  omega

theorem IsSpeed.uniq {L : List Jb} {s s' : Int × Int} (h : IsSpeed L s) (h' : IsSpeed L s') : s = s' := by
  have key : ∀ {s s' : Int × Int} {p q p' q' : Int}, (∀ a b, 0 < dem L a b → dem L a b * s.2 ≤ s.1 * (b - a)) → 0 ≤ p → 0 < q → s = (redN p q, redD p q) → 0 ≤ p' → 0 < q' → s' = (redN p' q', redD p' q') → ((p' = 0 ∧ q' = 1) ∨ ∃ a b, p' = dem L a b ∧ q' = b - a) → p' * q ≤ p * q' := by
    intro s s' p q p' q' hg hp hq hs hp' hq' hs' h
    rcases h with ⟨rfl, rfl⟩ | ⟨a, b, rfl, rfl⟩
    · simp; exact hp
    · by_cases hd : 0 < dem L a b
      · have := hg a b hd
        rw [hs] at this
        exact (red_le hq).1 this
      · have e : dem L a b = 0 := by omega
        rw [e]
        have := Int.mul_nonneg hp (Int.le_of_lt hq')
        simpa using this
  obtain ⟨p, q, hp, hq, hs, hpq⟩ := h.from_
  obtain ⟨p', q', hp', hq', hs', hpq'⟩ := h'.from_
  have e1 := key h.ge hp hq hs hp' hq' hs' hpq'
  have e2 := key h'.ge hp' hq' hs' hp hq hs hpq
  obtain ⟨r1, r2⟩ := red_eq (n := p) (d := q) (n' := p') (d' := q') hq hq' (by omega)
  rw [hs, hs', r1, r2]

theorem IsSpeed.late {L : List Jb} (hv : Valid L) {s : Int × Int} (h : IsSpeed L s) : s.2 < s.1 ↔ 0 < lateJ L := by
  obtain ⟨p, q, hp, hq, hs, hpq⟩ := h.from_
  have e : s.2 < s.1 ↔ q < p := by
    rw [hs]
    have h1 := red_ge (n := p) (d := q) (x := 1) (y := 1) hq
    rw [Int.mul_one, Int.mul_one, Int.one_mul, Int.one_mul] at h1
    show redD p q < redN p q ↔ q < p
    omega
  have hD : 0 < s.2 := by rw [hs]; exact redD_pos hq
  constructor
  · rw [e]
    intro hqp
    rcases hpq with ⟨hp0, hq1⟩ | ⟨a, b, hpa, hqa⟩
    · omega
    · have h0 : 0 < dem L a b := by omega
      obtain ⟨k, hk, h1, h2⟩ := dem_job h0
      have hn : 0 < L.length := by omega
      have := (late_is hv hn).2 a b h0
      omega
  · intro hl
    obtain ⟨a, b, h1, h2, h3, h4⟩ := (late_crowd hv).1 hl
    have h5 := h.ge a b (by omega)
    apply Int.not_le.1
    intro hle
    have e1 := Int.mul_le_mul_of_nonneg_right hle (show 0 ≤ b - a by omega)
    have e2 := Int.mul_lt_mul_of_pos_left h4 hD
    have e3 : dem L a b * s.2 = s.2 * dem L a b := Int.mul_comm ..
    omega

theorem IsSpeed.bd {L : List Jb} {s : Int × Int} (h : IsSpeed L s) : 0 ≤ s.1 ∧ 0 < s.2 := by
  obtain ⟨p, q, hp, hq, hs, hpq⟩ := h.from_
  rw [hs]
  exact ⟨redN_nonneg hq hp, redD_pos hq⟩

/-- What a walk through the stretches needs: no number is great. -/
structure SpOk (s : Int × Int) : Prop where
  n0 : 0 ≤ s.1
  n1 : s.1 ≤ 480
  d0 : 1 ≤ s.2
  d1 : s.2 ≤ 60

theorem SpOk.step {L : List Jb} (hv : Valid L) {s : Int × Int} (h : SpOk s) {a b : Int} (ha : 0 ≤ a) (hab : a < b) (hb : b ≤ 60) : SpOk (spU L a b s) := by
  have hd := dem_bd hv a b (Nat.le_refl _)
  have hd0 : 0 ≤ dem L a b := hd.1
  have hd1 : dem L a b ≤ 480 := hd.2
  unfold spU
  split
  · have h1 := redN_le (n := dem L a b) (d := b - a) hd0
    have h2 := redD_le (n := dem L a b) (d := b - a) (by omega)
    have h3 := redD_pos (n := dem L a b) (d := b - a) (by omega)
    exact ⟨redN_nonneg (by omega) hd0, by simp only; omega, by simp only; omega, by simp only; omega⟩
  · exact h

/-! ### The two ways through the stretches -/

/-- Through row a: from a + 1 on. -/
def nIn {σ : Type} (u : Int → Int → σ → σ) (a : Nat) (s : σ) : Nat → σ
  | 0 => s
  | i + 1 => u a ((a + 1 + i : Nat) : Int) (nIn u a s i)
/-- Through all rows below a. -/
def nOut {σ : Type} (u : Int → Int → σ → σ) (s : σ) : Nat → σ
  | 0 => s
  | a + 1 => nIn u a (nOut u s a) (60 - a)

def seen (a i : Nat) (x y : Int) : Prop := 0 ≤ x ∧ x < y ∧ y ≤ 60 ∧ (x < a ∨ (x = a ∧ y < (a + 1 + i : Nat)))

theorem nest_slack {L : List Jb} : ∀ (a : Nat), a ≤ 60 → IsSl L (seen a 0) (nOut (slU L) (0, false) a) := by
  intro a
  induction a with
  | zero => exact fun _ => (IsSl.start L).congr fun x y => ⟨fun h => h.elim, fun h => by unfold seen at h; omega⟩
  | succ a ih =>
    intro ha
    have h0 := ih (by omega)
    have : ∀ i, i ≤ 60 - a → IsSl L (seen a i) (nIn (slU L) a (nOut (slU L) (0, false) a) i) := by
      intro i
      induction i with
      | zero => exact fun _ => h0
      | succ i ihi => exact fun hi => ((ihi (by omega)).step _ _).congr fun x y => by unfold seen; omega
    exact (this (60 - a) (Nat.le_refl _)).congr fun x y => by unfold seen; omega

theorem nest_speed {L : List Jb} (hv : Valid L) : ∀ (a : Nat), a ≤ 60 → IsSp L (seen a 0) (nOut (spU L) (0, 1) a) := by
  intro a
  induction a with
  | zero => exact fun _ => (IsSp.start L).congr fun x y => ⟨fun h => h.elim, fun h => by unfold seen at h; omega⟩
  | succ a ih =>
    intro ha
    have h0 := ih (by omega)
    have : ∀ i, i ≤ 60 - a → IsSp L (seen a i) (nIn (spU L) a (nOut (spU L) (0, 1) a) i) := by
      intro i
      induction i with
      | zero => exact fun _ => h0
      | succ i ihi => exact fun hi => ((ihi (by omega)).step hv (fun x y h => h.2.1) (by omega)).congr fun x y => by unfold seen; omega
    exact (this (60 - a) (Nat.le_refl _)).congr fun x y => by unfold seen; omega

theorem seen_cover {L : List Jb} (hv : Valid L) : Cover L (seen 60 0) where
  lt _ _ h := h.2.1
  all a b hd := by
    obtain ⟨j, k, h1, h2, h3, h4, h5⟩ := shrink hd
    have hj := hv.bd h1
    have hk := hv.bd h2
    have := dem_lt hv (a := (at_ L j).s) (b := (at_ L k).e) (by omega)
    exact ⟨_, _, by unfold seen; omega, h3, h4, h5⟩

/-- The edges. -/
def edB (L : List Jb) (j k : Nat) : Bool := decide ((at_ L j).s < (at_ L k).e) && decide (0 < dem L (at_ L j).s (at_ L k).e)
def eIn (L : List Jb) (j : Nat) : Nat → List (Int × Int)
  | 0 => []
  | k + 1 => eIn L j k ++ if edB L j k then [((at_ L j).s, (at_ L k).e)] else []
def eOut (L : List Jb) : Nat → List (Int × Int)
  | 0 => []
  | j + 1 => eOut L j ++ eIn L j L.length
def edges (L : List Jb) : List (Int × Int) := eOut L L.length

theorem eIn_mem {L : List Jb} {j : Nat} {x : Int × Int} : ∀ {m : Nat}, x ∈ eIn L j m ↔ ∃ k, k < m ∧ edB L j k = true ∧ x = ((at_ L j).s, (at_ L k).e)
  | 0 => by simp [eIn]
  | m + 1 => by
    rw [eIn, List.mem_append, eIn_mem]
    constructor
    · rintro (⟨k, h1, h2, h3⟩ | h)
      · exact ⟨k, by omega, h2, h3⟩
      · split at h
        · rename_i hb
          exact ⟨m, by omega, hb, by simpa using h⟩
        · cases h
    · rintro ⟨k, h1, h2, h3⟩
      rcases Nat.lt_or_ge k m with h | h
      · exact .inl ⟨k, h, h2, h3⟩
      · obtain rfl : k = m := by omega
        right; rw [if_pos h2, h3]; simp

theorem eOut_mem {L : List Jb} {x : Int × Int} : ∀ {m : Nat}, x ∈ eOut L m ↔ ∃ j k, j < m ∧ k < L.length ∧ edB L j k = true ∧ x = ((at_ L j).s, (at_ L k).e)
  | 0 => by simp [eOut]
  | m + 1 => by
    rw [eOut, List.mem_append, eOut_mem, eIn_mem]
    constructor
    · rintro (⟨j, k, h1, h2, h3, h4⟩ | ⟨k, h1, h2, h3⟩)
      · exact ⟨j, k, by omega, h2, h3, h4⟩
      · exact ⟨m, k, by omega, h1, h2, h3⟩
    · rintro ⟨j, k, h1, h2, h3, h4⟩
      rcases Nat.lt_or_ge j m with h | h
      · exact .inl ⟨j, k, h, h2, h3, h4⟩
      · obtain rfl : j = m := by omega
        exact .inr ⟨k, h2, h3, h4⟩

theorem eIn_len {L : List Jb} {j : Nat} : ∀ m, (eIn L j m).length ≤ m
  | 0 => Nat.le_refl _
  | m + 1 => by have := eIn_len (L := L) (j := j) m; rw [eIn, List.length_append]; split <;> simp <;> omega
theorem eOut_len {L : List Jb} (h8 : L.length ≤ 8) : ∀ m, (eOut L m).length ≤ 8 * m
  | 0 => Nat.le_refl _
  | m + 1 => by have := eOut_len h8 m; have := eIn_len (L := L) (j := m) L.length; rw [eOut, List.length_append]; omega

def pr (xs : List (Int × Int)) (i : Nat) : Int × Int := xs.getD i (0, 0)
/-- Through the first i of a list. -/
def fo {σ : Type} (u : Int → Int → σ → σ) (s : σ) (xs : List (Int × Int)) : Nat → σ
  | 0 => s
  | i + 1 => u (pr xs i).1 (pr xs i).2 (fo u s xs i)

def firstE (xs : List (Int × Int)) (i : Nat) (x y : Int) : Prop := ∃ k, k < i ∧ (x, y) = pr xs k

theorem pr_mem {xs : List (Int × Int)} {i : Nat} (h : i < xs.length) : pr xs i ∈ xs := by
  unfold pr; rw [List.getD_eq_getElem?_getD, List.getElem?_eq_getElem h]; exact List.getElem_mem h
theorem mem_pr {xs : List (Int × Int)} {x : Int × Int} (h : x ∈ xs) : ∃ i, i < xs.length ∧ x = pr xs i := by
  obtain ⟨i, hi, e⟩ := List.getElem_of_mem h
  exact ⟨i, hi, by unfold pr; rw [List.getD_eq_getElem?_getD, List.getElem?_eq_getElem hi]; exact e.symm⟩

theorem edge_bd {L : List Jb} (hv : Valid L) {i : Nat} (h : i < (edges L).length) : 0 ≤ (pr (edges L) i).1 ∧ (pr (edges L) i).1 < (pr (edges L) i).2 ∧ (pr (edges L) i).2 ≤ 60 ∧ 0 < dem L (pr (edges L) i).1 (pr (edges L) i).2 := by
  obtain ⟨j, k, h1, h2, h3, h4⟩ := eOut_mem.1 (pr_mem h)
  have h4' : pr (edges L) i = ((at_ L j).s, (at_ L k).e) := h4
  have hj := hv.bd h1
  have hk := hv.bd h2
  rw [h4']
  simp [edB] at h3
  exact ⟨hj.1, h3.1, hk.2.2.1, h3.2⟩

theorem edge_cover {L : List Jb} (hv : Valid L) : Cover L (firstE (edges L) (edges L).length) where
  lt x y := by
    rintro ⟨k, hk, e⟩
    have := (edge_bd hv hk).2.1
    rw [← e] at this; exact this
  all a b hd := by
    obtain ⟨j, k, h1, h2, h3, h4, h5⟩ := shrink hd
    have hlt := dem_lt hv (a := (at_ L j).s) (b := (at_ L k).e) (by omega)
    have hm : ((at_ L j).s, (at_ L k).e) ∈ edges L := eOut_mem.2 ⟨j, k, h1, h2, by simp [edB, hlt]; omega, rfl⟩
    obtain ⟨i, hi, e⟩ := mem_pr hm
    exact ⟨_, _, ⟨i, hi, e⟩, h3, h4, h5⟩

theorem edge_slack {L : List Jb} : ∀ i, IsSl L (firstE (edges L) i) (fo (slU L) (0, false) (edges L) i)
  | 0 => (IsSl.start L).congr fun x y => ⟨fun h => h.elim, fun ⟨k, h, _⟩ => by omega⟩
  | i + 1 => ((edge_slack i).step _ _).congr fun x y => by
    constructor
    · rintro (⟨k, h1, h2⟩ | ⟨h1, h2⟩)
      · exact ⟨k, by omega, h2⟩
      · exact ⟨i, by omega, Prod.ext h1 h2⟩
    · rintro ⟨k, h1, h2⟩
      rcases Nat.lt_or_ge k i with h | h
      · exact .inl ⟨k, h, h2⟩
      · obtain rfl : k = i := by omega
        right; rw [← h2]; exact ⟨rfl, rfl⟩

theorem edge_speed {L : List Jb} (hv : Valid L) : ∀ i, i ≤ (edges L).length → IsSp L (firstE (edges L) i) (fo (spU L) (0, 1) (edges L) i)
  | 0, _ => (IsSp.start L).congr fun x y => ⟨fun h => h.elim, fun ⟨k, h, _⟩ => by omega⟩
  | i + 1, hi => ((edge_speed hv i (by omega)).step hv (fun x y ⟨k, hk, e⟩ => by have := (edge_bd hv (i := k) (by omega)).2.1; rw [← e] at this; exact this) (edge_bd hv (i := i) (by omega)).2.1).congr fun x y => by
    constructor
    · rintro (⟨k, h1, h2⟩ | ⟨h1, h2⟩)
      · exact ⟨k, by omega, h2⟩
      · exact ⟨i, by omega, Prod.ext h1 h2⟩
    · rintro ⟨k, h1, h2⟩
      rcases Nat.lt_or_ge k i with h | h
      · exact .inl ⟨k, h, h2⟩
      · obtain rfl : k = i := by omega
        right; rw [← h2]; exact ⟨rfl, rfl⟩

/-- The speed of jobs. -/
def speedJ (L : List Jb) : Int × Int := if vErr L = 0 then nOut (spU L) (0, 1) 60 else (0, 0)
/-- The slack of jobs. -/
def slackJ (L : List Jb) : Int := if vErr L = 0 then - lateJ L else 0
def someJ (L : List Jb) : Bool := decide (vErr L = 0) && decide (0 < L.length)

theorem slack_ref {L : List Jb} (hv : Valid L) : nOut (slU L) (0, false) 60 = (slackJ L, someJ L) := by
  rw [(nest_slack 60 (Nat.le_refl _)).late hv (seen_cover hv)]
  simp [slackJ, someJ, vErr_zero.2 hv]
theorem slack_own {L : List Jb} (hv : Valid L) : fo (slU L) (0, false) (edges L) (edges L).length = (slackJ L, someJ L) := by
  rw [(edge_slack _).late hv (edge_cover hv)]
  simp [slackJ, someJ, vErr_zero.2 hv]
theorem speed_is {L : List Jb} (hv : Valid L) : IsSpeed L (speedJ L) := by
  unfold speedJ; rw [if_pos (vErr_zero.2 hv)]; exact (nest_speed hv 60 (Nat.le_refl _)).speed (seen_cover hv)
theorem speed_own {L : List Jb} (hv : Valid L) : fo (spU L) (0, 1) (edges L) (edges L).length = speedJ L :=
  ((edge_speed hv _ (Nat.le_refl _)).speed (edge_cover hv)).uniq (speed_is hv)

theorem SpOk.start : SpOk (0, 1) := ⟨by decide, by decide, by decide, by decide⟩
theorem nest_ok {L : List Jb} (hv : Valid L) : ∀ a, a ≤ 60 → SpOk (nOut (spU L) (0, 1) a)
  | 0, _ => SpOk.start
  | a + 1, ha => by
    have h0 := nest_ok hv a (by omega)
    have : ∀ i, i ≤ 60 - a → SpOk (nIn (spU L) a (nOut (spU L) (0, 1) a) i) := by
      intro i
      induction i with
      | zero => exact fun _ => h0
      | succ i ihi => exact fun hi => (ihi (by omega)).step hv (by omega) (by omega) (by omega)
    exact this (60 - a) (Nat.le_refl _)
theorem nestIn_ok {L : List Jb} (hv : Valid L) {a : Nat} (ha : a < 60) : ∀ i, i ≤ 60 - a → SpOk (nIn (spU L) a (nOut (spU L) (0, 1) a) i)
  | 0, _ => nest_ok hv a (by omega)
  | i + 1, hi => (nestIn_ok hv ha i (by omega)).step hv (by omega) (by omega) (by omega)
theorem fo_ok {L : List Jb} (hv : Valid L) : ∀ i, i ≤ (edges L).length → SpOk (fo (spU L) (0, 1) (edges L) i)
  | 0, _ => SpOk.start
  | i + 1, hi => by
    have := edge_bd hv (i := i) (by omega)
    exact (fo_ok hv i (by omega)).step hv this.1 this.2.1 this.2.2.1

/-- The slack among the edges: whether there was one is told by the number. -/
theorem fo_some {L : List Jb} (hv : Valid L) : ∀ i, i ≤ (edges L).length → (fo (slU L) (0, false) (edges L) i).2 = decide (0 < i)
  | 0, _ => rfl
  | i + 1, hi => by
    have ih := fo_some hv i (by omega)
    have hd := (edge_bd hv (i := i) (by omega)).2.2.2
    rw [fo, slU]
    split
    · simp
    · rename_i hc
      rw [ih]
      by_cases h0 : 0 < i
      · simp [h0]
      · have : i = 0 := by omega
        subst this
        exact absurd ⟨hd, .inl rfl⟩ hc

end Go.Proofs.Ytbmbogaejmgloaa
