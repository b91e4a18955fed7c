/-
  Plain facts: the greatest common divisor by division; the steepest way between two readings, in lowest terms; the slowest rate is it, rounded up.
-/
import Derived.Test.YtgbdcemlnklmoaaMath3
namespace Go.Proofs.Ytgbdcemlnklmoaa

def gcdI (a b : Int) : Int := (Int.gcd a b : Int)

theorem gcdI_step {a b : Int} : gcdI b (a % b) = gcdI a b := by
  unfold gcdI
  rw [← Int.gcd_add_mul_right_right b (a % b) (a / b), show a % b + a / b * b = a from Int.emod_add_ediv_mul a b, Int.gcd_comm]
theorem gcdI_zero {a : Int} (h : 0 ≤ a) : gcdI a 0 = a := by
  unfold gcdI; simp; omega
theorem gcdI_pos {a b : Int} (h : 0 < b) : 0 < gcdI a b := by
  unfold gcdI
  have : 0 < Int.gcd a b := Int.gcd_pos_of_ne_zero_right _ (by omega)
  omega
theorem gcdI_dvd {a b : Int} : gcdI a b ∣ a ∧ gcdI a b ∣ b := ⟨Int.gcd_dvd_left .., Int.gcd_dvd_right ..⟩
theorem gcdI_le {a b : Int} (h : 0 < b) : gcdI a b ≤ b := Int.le_of_dvd h gcdI_dvd.2

/-- In lowest terms. -/
def redN (n d : Int) : Int := n / gcdI n d
def redD (n d : Int) : Int := d / gcdI n d

theorem red_mul {n d : Int} : redN n d * gcdI n d = n ∧ redD n d * gcdI n d = d :=
  ⟨Int.ediv_mul_cancel gcdI_dvd.1, Int.ediv_mul_cancel gcdI_dvd.2⟩
theorem redD_pos {n d : Int} (h : 0 < d) : 0 < redD n d := by
  have h1 := (red_mul (n := n) (d := d)).2
  have h2 := gcdI_pos (a := n) h
  rcases Int.lt_trichotomy 0 (redD n d) with h3 | h3 | h3
  · exact h3
  · rw [← h3] at h1; omega
  · have := Int.mul_neg_of_neg_of_pos h3 h2; omega
theorem redN_nonneg {n d : Int} (h : 0 < d) (hn : 0 ≤ n) : 0 ≤ redN n d := Int.ediv_nonneg hn (Int.le_of_lt (gcdI_pos h))
theorem redN_le {n d : Int} (hn : 0 ≤ n) : redN n d ≤ n := Int.ediv_le_self _ hn
theorem redD_le {n d : Int} (h : 0 < d) : redD n d ≤ d := Int.ediv_le_self _ (Int.le_of_lt h)

/-- Whom a fraction is compared with does not ask for lowest terms. -/
theorem red_lt {n d x y : Int} (h : 0 < d) : redN n d * y < x * redD n d ↔ n * y < x * d := by
  have hg := gcdI_pos (a := n) h
  obtain ⟨e1, e2⟩ := red_mul (n := n) (d := d)
  constructor
  · intro h1
    have h2 := Int.mul_lt_mul_of_pos_right h1 hg
    have e3 : redN n d * y * gcdI n d = n * y := by rw [Int.mul_right_comm, e1]
    have e4 : x * redD n d * gcdI n d = x * d := by rw [Int.mul_assoc, e2]
    rw [e3, e4] at h2; exact h2
  · intro h1
    apply Int.not_le.1
    intro h2
    have h3 := Int.mul_le_mul_of_nonneg_right h2 (Int.le_of_lt hg)
    have e3 : redN n d * y * gcdI n d = n * y := by rw [Int.mul_right_comm, e1]
    have e4 : x * redD n d * gcdI n d = x * d := by rw [Int.mul_assoc, e2]
    rw [e3, e4] at h3; omega

/-- One pair more. -/
def rise (L : List Rd) (i k : Nat) : Int := (at_ L i).lo - (at_ L k).hi
def span (L : List Rd) (i k : Nat) : Int := far (at_ L i).t (at_ L k).t
def upd (L : List Rd) (i k : Nat) (s : Int × Int) : Int × Int :=
  if i ≠ k ∧ s.1 * span L i k < rise L i k * s.2 then (rise L i k, span L i k) else s
def inK (L : List Rd) (i : Nat) (s : Int × Int) : Nat → Int × Int
  | 0 => s
  | k + 1 => upd L i k (inK L i s k)
def outI (L : List Rd) (n : Nat) : Nat → Int × Int
  | 0 => (0, 1)
  | i + 1 => inK L i (outI L n i) n

def steep (L : List Rd) : Int × Int := outI L L.length L.length
def stN (L : List Rd) : Int := if vErr L = 0 then redN (steep L).1 (steep L).2 else 0
def stD (L : List Rd) : Int := if vErr L = 0 then redD (steep L).1 (steep L).2 else 0

/-- What holds of the fraction on the way. -/
structure StOk (L : List Rd) (s : Int × Int) : Prop where
  n0 : 0 ≤ s.1
  n1 : s.1 ≤ 2000
  d0 : 1 ≤ s.2
  d1 : s.2 ≤ 1000
  at_ : s = (0, 1) ∨ ∃ i k, i < L.length ∧ k < L.length ∧ i ≠ k ∧ s = (rise L i k, span L i k)

theorem span_pos {L : List Rd} (hv : Valid L) {i k : Nat} (hi : i < L.length) (hk : k < L.length) (h : i ≠ k) : 0 < span L i k := by
  unfold span far
  rcases Nat.lt_trichotomy i k with h1 | h1 | h1
  · have := hv.lt i k h1 hk; split <;> omega
  · exact absurd h1 h
  · have := hv.lt k i h1 hi; split <;> omega
theorem span_bd {L : List Rd} (hv : Valid L) {i k : Nat} (hi : i < L.length) (hk : k < L.length) : 0 ≤ span L i k ∧ span L i k ≤ 1000 := by
  have := hv.bd hi; have := hv.bd hk
  unfold span far; split <;> omega
theorem span_self (L : List Rd) (i : Nat) : span L i i = 0 := far_self _
theorem rise_bd {L : List Rd} (hv : Valid L) {i k : Nat} (hi : i < L.length) (hk : k < L.length) : -2000 ≤ rise L i k ∧ rise L i k ≤ 2000 := by
  have := hv.bd hi; have := hv.bd hk
  unfold rise; omega

theorem upd_ok {L : List Rd} (hv : Valid L) {i k : Nat} (hi : i < L.length) (hk : k < L.length) {s : Int × Int} (h : StOk L s) : StOk L (upd L i k s) := by
  unfold upd
  split
  · rename_i hc
    have h1 := span_pos hv hi hk hc.1
    have h2 := span_bd hv hi hk
    have h3 := rise_bd hv hi hk
    refine ⟨?_, h3.2, h1, h2.2, .inr ⟨i, k, hi, hk, hc.1, rfl⟩⟩
    apply Int.not_lt.1
    intro hneg
    have h4 : rise L i k * s.2 < 0 := Int.mul_neg_of_neg_of_pos hneg (by have := h.d0; omega)
    have h5 : 0 ≤ s.1 * span L i k := Int.mul_nonneg h.n0 h2.1
    omega
  · exact h

theorem upd_ge {L : List Rd} {i k : Nat} {s : Int × Int} (hne : i ≠ k) : rise L i k * (upd L i k s).2 ≤ (upd L i k s).1 * span L i k := by
  unfold upd
  split
  · exact Int.le_refl _
  · rename_i hc
    apply Int.not_lt.1
    exact fun h => hc ⟨hne, h⟩

/-- A fraction that is at least another one, and the third. -/
theorem frac_trans {a b c d e f : Int} (hb : 0 < b) (hd : 0 < d) (hf : 0 ≤ f) (h1 : a * d ≤ c * b) (h2 : c * f ≤ e * d) : a * f ≤ e * b := by
  have h3 : a * d * f ≤ c * b * f := Int.mul_le_mul_of_nonneg_right h1 hf
  have h4 : c * f * b ≤ e * d * b := Int.mul_le_mul_of_nonneg_right h2 (Int.le_of_lt hb)
  have e1 : a * d * f = a * f * d := Int.mul_right_comm ..
  have e2 : c * b * f = c * f * b := Int.mul_right_comm ..
  have e3 : e * d * b = e * b * d := Int.mul_right_comm ..
  rw [e1, e2] at h3
  rw [e3] at h4
  exact Int.le_of_mul_le_mul_right (Int.le_trans h3 h4) hd

/-- What a fraction was above it is above still. -/
theorem upd_keeps {L : List Rd} (hv : Valid L) {i k : Nat} (hi : i < L.length) (hk : k < L.length) {s : Int × Int} (h : StOk L s) {n d : Int} (hd : 0 < d) (hge : n * s.2 ≤ s.1 * d) : n * (upd L i k s).2 ≤ (upd L i k s).1 * d := by
  unfold upd
  split
  · rename_i hc
    have h2 := span_pos hv hi hk hc.1
    exact frac_trans hd (by have := h.d0; omega) (Int.le_of_lt h2) hge (Int.le_of_lt hc.2)
  · exact hge

theorem inK_ok {L : List Rd} (hv : Valid L) {i : Nat} (hi : i < L.length) {s : Int × Int} (h : StOk L s) : ∀ k, k ≤ L.length → StOk L (inK L i s k)
  | 0, _ => h
  | k + 1, hk => upd_ok hv hi (by omega) (inK_ok hv hi h k (by omega))

theorem inK_keeps {L : List Rd} (hv : Valid L) {i : Nat} (hi : i < L.length) {s : Int × Int} (h : StOk L s) {n d : Int} (hd : 0 < d) (hge : n * s.2 ≤ s.1 * d) : ∀ k, k ≤ L.length → n * (inK L i s k).2 ≤ (inK L i s k).1 * d
  | 0, _ => hge
  | k + 1, hk => upd_keeps hv hi (by omega) (inK_ok hv hi h k (by omega)) hd (inK_keeps hv hi h hd hge k (by omega))

theorem inK_ge {L : List Rd} (hv : Valid L) {i : Nat} (hi : i < L.length) {s : Int × Int} (h : StOk L s) : ∀ k, k ≤ L.length → ∀ j, j < k → i ≠ j → rise L i j * (inK L i s k).2 ≤ (inK L i s k).1 * span L i j
  | 0, _, j, hj, _ => absurd hj (by omega)
  | k + 1, hk, j, hj, hne => by
    rcases Nat.eq_or_lt_of_le (Nat.le_of_lt_succ hj) with rfl | h1
    · exact upd_ge hne
    · exact upd_keeps hv hi (by omega) (inK_ok hv hi h k (by omega)) (span_pos hv hi (by omega) hne) (inK_ge hv hi h k (by omega) j h1 hne)

theorem st0_ok (L : List Rd) : StOk L (0, 1) := ⟨by decide, by decide, by decide, by decide, .inl rfl⟩

theorem outI_ok {L : List Rd} (hv : Valid L) : ∀ i, i ≤ L.length → StOk L (outI L L.length i)
  | 0, _ => st0_ok L
  | i + 1, hi => inK_ok hv (by omega) (outI_ok hv i (by omega)) _ (Nat.le_refl _)

theorem outI_ge {L : List Rd} (hv : Valid L) : ∀ i, i ≤ L.length → ∀ a b, a < i → b < L.length → a ≠ b → rise L a b * (outI L L.length i).2 ≤ (outI L L.length i).1 * span L a b
  | 0, _, a, b, ha, _, _ => absurd ha (by omega)
  | i + 1, hi, a, b, ha, hb, hne => by
    rcases Nat.eq_or_lt_of_le (Nat.le_of_lt_succ ha) with rfl | h1
    · exact inK_ge hv (by omega) (outI_ok hv _ (by omega)) _ (Nat.le_refl _) b hb hne
    · exact inK_keeps hv (by omega) (outI_ok hv i (by omega)) (span_pos hv (by omega) hb hne) (outI_ge hv i (by omega) a b h1 hb hne) _ (Nat.le_refl _)

/-- Readings agree from the steepest way on. -/
theorem agree_steep {L : List Rd} (hv : Valid L) {r : Int} (hr : 0 ≤ r) : agreeB L r = true ↔ (steep L).1 ≤ r * (steep L).2 := by
  have hs := outI_ok hv L.length (Nat.le_refl _)
  have hge := outI_ge hv L.length (Nat.le_refl _)
  change StOk L (steep L) at hs
  rw [agreeB_all hv]
  constructor
  · intro h
    rcases hs.at_ with h0 | ⟨i, k, hi, hk, hne, he⟩
    · rw [h0]; simpa using hr
    · rw [he]
      exact (clashB_false.1 (h i k hi hk)).1
  · intro h a b ha hb
    have key : ∀ a b, a < L.length → b < L.length → (at_ L a).lo - (at_ L b).hi ≤ r * far (at_ L a).t (at_ L b).t := by
      intro a b ha hb
      by_cases hne : a = b
      · subst hne
        have := hv.bd ha
        rw [far_self]; omega
      · have h1 := hge a b ha hb hne
        have h2 := span_pos hv ha hb hne
        have h3 : rise L a b * 1 ≤ r * span L a b := by
          refine frac_trans (a := rise L a b) (b := span L a b) (c := (steep L).1) (d := (steep L).2) (e := r) (f := 1) h2 (by have := hs.d0; omega) (by decide) h1 ?_
          rw [Int.mul_one]; exact h
        rw [Int.mul_one] at h3
        exact h3
    unfold clashAt
    rw [clashB_false]
    refine ⟨key a b ha hb, ?_⟩
    have := key b a hb ha
    rw [far_comm] at this
    exact this

def upR (L : List Rd) : Int := (stN L + stD L - 1) / stD L

theorem st_facts {L : List Rd} (h0 : vErr L = 0) : 0 ≤ stN L ∧ stN L ≤ 2000 ∧ 1 ≤ stD L ∧ stD L ≤ 1000 ∧ ∀ r : Int, 0 ≤ r → (agreeB L r = true ↔ stN L ≤ r * stD L) := by
  have hv := vErr_zero.1 h0
  have hs := outI_ok hv L.length (Nat.le_refl _)
  change StOk L (steep L) at hs
  have hd : 0 < (steep L).2 := by have := hs.d0; omega
  have e1 : stN L = redN (steep L).1 (steep L).2 := by unfold stN; rw [if_pos h0]
  have e2 : stD L = redD (steep L).1 (steep L).2 := by unfold stD; rw [if_pos h0]
  rw [e1, e2]
  refine ⟨redN_nonneg hd hs.n0, Int.le_trans (redN_le hs.n0) hs.n1, redD_pos hd, Int.le_trans (redD_le hd) hs.d1, fun r hr => ?_⟩
  rw [agree_steep hv hr]
  have := red_lt (n := (steep L).1) (d := (steep L).2) (x := r) (y := 1) hd
  rw [Int.mul_one, Int.mul_one] at this
  constructor
  · intro h
    apply Int.not_lt.1
    intro h1
    have hg := gcdI_pos (a := (steep L).1) hd
    obtain ⟨m1, m2⟩ := red_mul (n := (steep L).1) (d := (steep L).2)
    have h2 := Int.mul_lt_mul_of_pos_right h1 hg
    rw [m1, Int.mul_assoc, m2] at h2
    omega
  · intro h
    have hg := gcdI_pos (a := (steep L).1) hd
    obtain ⟨m1, m2⟩ := red_mul (n := (steep L).1) (d := (steep L).2)
    have h2 := Int.mul_le_mul_of_nonneg_right h (Int.le_of_lt hg)
    rw [m1, Int.mul_assoc, m2] at h2
    exact h2

theorem up_le {n d r : Int} (hd : 1 ≤ d) : (n + d - 1) / d ≤ r ↔ n ≤ r * d := by
  rw [← Int.lt_add_one_iff, Int.ediv_lt_iff_lt_mul (by omega), Int.add_mul, Int.one_mul]
  omega

/-- The slowest rate is the steepest way, rounded up. -/
theorem slow_up {L : List Rd} (h0 : vErr L = 0) : ((slowO L).isSome = decide (upR L ≤ 9)) ∧ ((slowO L).isSome = true → oN (slowO L) = upR L) ∧ 0 ≤ upR L ∧ upR L ≤ 3000 := by
  obtain ⟨n0, n1, d0, d1, hag⟩ := st_facts h0
  have hup : ∀ r : Int, 0 ≤ r → (agreeB L r = true ↔ upR L ≤ r) := fun r hr => by rw [hag r hr]; unfold upR; rw [up_le d0]
  have hu0 : 0 ≤ upR L := Int.ediv_nonneg (by omega) (by omega)
  have hu1 : upR L ≤ 3000 := Int.le_trans (Int.ediv_le_self _ (by omega)) (by omega)
  have hso : slowO L = scanJ (fun k => agreeB L (k : Int)) 10 0 := by unfold slowO; rw [if_pos h0]
  refine ⟨?_, ?_, hu0, hu1⟩
  · rw [hso]
    cases hs : scanJ (fun k => agreeB L (k : Int)) 10 0 with
    | none =>
      have h1 := (scanJ_none _ _).1 hs 9 (by omega) (by omega)
      have h2 : ¬ upR L ≤ 9 := by
        intro h; have := (hup 9 (by omega)).2 h; rw [show ((9 : Nat) : Int) = 9 by rfl] at h1; rw [this] at h1; cases h1
      simp; omega
    | some k =>
      obtain ⟨_, h2, h3, _⟩ := scanJ_some _ _ _ hs
      have := (hup k (by omega)).1 h3
      simp; omega
  · rw [hso]
    cases hs : scanJ (fun k => agreeB L (k : Int)) 10 0 with
    | none => intro h; cases h
    | some k =>
      intro _
      obtain ⟨_, h2, h3, h4⟩ := scanJ_some _ _ _ hs
      have h5 := (hup k (by omega)).1 h3
      have h6 : ¬ upR L < k := by
        intro hlt
        have h7 := h4 (upR L).toNat (Nat.zero_le _) (by omega)
        have h8 := (hup (upR L) hu0).2 (Int.le_refl _)
        rw [show (((upR L).toNat : Nat) : Int) = upR L by omega, h8] at h7
        cases h7
      simp [oN]; omega

end Go.Proofs.Ytgbdcemlnklmoaa
