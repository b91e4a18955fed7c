/-
  Plain facts on budgets: the chance of an error is at most the total.
-/
import Derived.Test.YtplindidegmlkaaMath
namespace Go.Proofs.Ytplindidegmlkaa

/-- How often the first k items are used. -/
def usT (L : List It) (k : Nat) : Int := sumP (fun _ => true) (fun i => (at_ L i).u) k
theorem usT_step (L : List It) (k : Nat) : usT L (k + 1) = usT L k + (at_ L k).u := by
  unfold usT; rw [sumP]; simp

theorem usT_bd {L : List It} (hv : Valid L) : ∀ k : Nat, k ≤ L.length → (k : Int) ≤ usT L k ∧ usT L k ≤ 8 * k
  | 0, _ => by simp [usT, sumP]
  | k + 1, h => by
    have ih := usT_bd hv k (by omega)
    have := hv.bd (i := k) (by omega)
    rw [usT_step]; omega

theorem usT_mono {L : List It} (hv : Valid L) {i : Nat} : ∀ d : Nat, i + d ≤ L.length → usT L i ≤ usT L (i + d)
  | 0, _ => Int.le_refl _
  | d + 1, h => by
    have ih := usT_mono hv (i := i) d (by omega)
    have := hv.bd (i := i + d) (by omega)
    rw [← Nat.add_assoc, usT_step]; omega

/-- The error number of the chance. -/
def caErr (L : List It) : Int := if vErr L ≠ 0 then vErr L else if 8 < usT L L.length then 3 else 0
theorem caErr_zero {L : List It} : caErr L = 0 ↔ Valid L ∧ usT L L.length ≤ 8 := by
  rw [← vErr_zero]
  unfold caErr
  by_cases h : vErr L = 0
  · by_cases h1 : 8 < usT L L.length
    · simp [h, h1]
    · simp [h, h1]; omega
  · simp [h]

/-- The product of k times b. -/
def pw (b : Int) : Nat → Int
  | 0 => 1
  | k + 1 => pw b k * b

def weN (L : List It) : Nat → Int
  | 0 => 1
  | i + 1 => weN L i * pw ((at_ L i).d - (at_ L i).n) (at_ L i).u.toNat
def weD (L : List It) : Nat → Int
  | 0 => 1
  | i + 1 => weD L i * pw (at_ L i).d (at_ L i).u.toNat

/-- All goes well in the first i items and in j uses of the next: numerator and denominator. -/
def wlN (L : List It) (i j : Nat) : Int := weN L i * pw ((at_ L i).d - (at_ L i).n) j
def wlD (L : List It) (i j : Nat) : Int := weD L i * pw (at_ L i).d j

theorem wl_zero (L : List It) (i : Nat) : wlN L i 0 = weN L i ∧ wlD L i 0 = weD L i := by simp [wlN, wlD, pw]
theorem wl_step (L : List It) (i j : Nat) : wlN L i (j + 1) = wlN L i j * ((at_ L i).d - (at_ L i).n) ∧ wlD L i (j + 1) = wlD L i j * (at_ L i).d := by
  simp [wlN, wlD, pw, Int.mul_assoc]
theorem wl_end (L : List It) (i : Nat) : wlN L i (at_ L i).u.toNat = weN L (i + 1) ∧ wlD L i (at_ L i).u.toNat = weD L (i + 1) := ⟨rfl, rfl⟩

def ten : Nat → Int
  | 0 => 1
  | k + 1 => ten k * 10
theorem ten_pos : ∀ k, 0 < ten k
  | 0 => by decide
  | k + 1 => by have := ten_pos k; rw [ten]; omega
theorem ten_mono (k : Nat) : ∀ d, ten k ≤ ten (k + d)
  | 0 => Int.le_refl _
  | d + 1 => by have := ten_mono k d; have := ten_pos (k + d); rw [← Nat.add_assoc, ten]; omega
theorem ten_8 {k : Nat} (h : k ≤ 8) : ten k ≤ 100000000 := by
  have := ten_mono k (8 - k)
  rw [show k + (8 - k) = 8 by omega] at this
  exact Int.le_trans this (by decide)

structure WlOk (N D S : Int) (k : Nat) : Prop where
  n0 : 0 ≤ N
  nd : N ≤ D
  d0 : 1 ≤ D
  dt : D ≤ ten k
  s0 : 0 ≤ S
  le : (D - N) * 2520 ≤ S * D

theorem WlOk.start : WlOk 1 1 0 0 := ⟨by decide, by decide, by decide, by decide, by decide, by decide⟩

theorem WlOk.step {N D S : Int} {k : Nat} (h : WlOk N D S k) {n d : Int} (h1 : 1 ≤ d) (h2 : d ≤ 10) (h3 : 0 ≤ n) (h4 : n ≤ d) : WlOk (N * (d - n)) (D * d) (S + partI n d) (k + 1) := by
  have hp := part_mul (n := n) h1 h2
  obtain ⟨p0, p1⟩ := part_bd h1 h2 h3 h4
  have hD : 0 ≤ D := by have := h.d0; omega
  refine ⟨Int.mul_nonneg h.n0 (by omega), ?_, ?_, ?_, by have := h.s0; omega, ?_⟩
  · exact Int.mul_le_mul h.nd (by omega) (by omega) hD
  · have := Int.mul_le_mul (a := 1) (b := 1) h.d0 h1 (by decide) hD
    omega
  · rw [ten]
    exact Int.mul_le_mul h.dt h2 (by omega) (Int.le_of_lt (ten_pos k))
  · have e1 : (D * d - N * (d - n)) * 2520 = (D - N) * 2520 * d + N * (n * 2520) := by
      rw [Int.sub_mul, Int.sub_mul, Int.sub_mul, Int.mul_sub, Int.sub_mul]
      have a1 : D * d * 2520 = D * 2520 * d := by ac_rfl
      have a2 : N * d * 2520 = N * 2520 * d := by ac_rfl
      have a3 : N * n * 2520 = N * (n * 2520) := by ac_rfl
      omega
    have e2 : (S + partI n d) * (D * d) = S * D * d + D * (partI n d * d) := by
      rw [Int.add_mul]
      have a1 : S * (D * d) = S * D * d := by ac_rfl
      have a2 : partI n d * (D * d) = D * (partI n d * d) := by ac_rfl
      rw [a1, a2]
    rw [e1, e2, hp]
    have f1 := Int.mul_le_mul_of_nonneg_right h.le (show 0 ≤ d by omega)
    have f2 := Int.mul_le_mul_of_nonneg_right h.nd (show 0 ≤ n * 2520 by omega)
    omega

theorem WlOk.uses {L : List It} {i : Nat} {k : Nat} {S : Int} (hv : Valid L) (hi : i < L.length) (h : WlOk (weN L i) (weD L i) S k) : ∀ j : Nat, WlOk (wlN L i j) (wlD L i j) (S + j * partI (at_ L i).n (at_ L i).d) (k + j)
  | 0 => by rw [(wl_zero L i).1, (wl_zero L i).2]; simpa using h
  | j + 1 => by
    have ih := WlOk.uses hv hi h j
    obtain ⟨a1, a2, a3, a4, a5, a6⟩ := hv.bd hi
    have := ih.step a3 a4 a5 a6
    rw [(wl_step L i j).1, (wl_step L i j).2]
    have e : S + ((j + 1 : Nat) : Int) * partI (at_ L i).n (at_ L i).d = S + j * partI (at_ L i).n (at_ L i).d + partI (at_ L i).n (at_ L i).d := by
      rw [Int.natCast_add, Int.add_mul]; simp; omega
    rw [e]
    exact this

theorem we_ok {L : List It} (hv : Valid L) : ∀ i : Nat, i ≤ L.length → WlOk (weN L i) (weD L i) (paT L i) (usT L i).toNat
  | 0, _ => WlOk.start
  | i + 1, h => by
    have ih := we_ok hv i (by omega)
    have hb := hv.bd (i := i) (by omega)
    have hu := usT_bd hv i (by omega)
    have := ih.uses hv (i := i) (by omega) (at_ L i).u.toNat
    rw [(wl_end L i).1, (wl_end L i).2] at this
    have e1 : ((at_ L i).u.toNat : Int) = (at_ L i).u := by omega
    have e2 : (usT L (i + 1)).toNat = (usT L i).toNat + (at_ L i).u.toNat := by rw [usT_step]; omega
    rw [e1] at this
    rw [e2, paT_step]
    exact this

theorem wl_ok {L : List It} (hv : Valid L) (h8 : usT L L.length ≤ 8) {i j : Nat} (hi : i < L.length) (hj : (j : Int) ≤ (at_ L i).u) : 0 ≤ wlN L i j ∧ wlN L i j ≤ wlD L i j ∧ 1 ≤ wlD L i j ∧ wlD L i j ≤ 100000000 := by
  have h := (we_ok hv i (by omega)).uses hv hi j
  refine ⟨h.n0, h.nd, h.d0, Int.le_trans h.dt (ten_8 ?_)⟩
  have h1 := usT_mono hv (i := i + 1) (L.length - (i + 1)) (by omega)
  rw [show i + 1 + (L.length - (i + 1)) = L.length by omega, usT_step] at h1
  have := usT_bd hv i (by omega)
  omega

theorem we_bd {L : List It} (hv : Valid L) (h8 : usT L L.length ≤ 8) {i : Nat} (hi : i ≤ L.length) : 0 ≤ weN L i ∧ weN L i ≤ weD L i ∧ 1 ≤ weD L i ∧ weD L i ≤ 100000000 := by
  have h := we_ok hv i hi
  refine ⟨h.n0, h.nd, h.d0, Int.le_trans h.dt (ten_8 ?_)⟩
  have h1 := usT_mono hv (i := i) (L.length - i) (by omega)
  rw [show i + (L.length - i) = L.length by omega] at h1
  omega

/-- One use more, in lowest terms. -/
theorem low_step {N D a b : Int} (hD : 0 < D) (hb : 0 < b) : redN (redN N D * a) (redD N D * b) = redN (N * a) (D * b) ∧ redD (redN N D * a) (redD N D * b) = redD (N * a) (D * b) := by
  have e := red_id N D hD
  refine red_eq (Int.mul_pos (redD_pos hD) hb) (Int.mul_pos hD hb) ?_
  have f1 : redN N D * a * (D * b) = redN N D * D * (a * b) := by ac_rfl
  have f2 : N * a * (redD N D * b) = N * redD N D * (a * b) := by ac_rfl
  rw [f1, f2, e]
theorem low_rest {N D : Int} (hD : 0 < D) : redN (redD N D - redN N D) (redD N D) = redN (D - N) D ∧ redD (redD N D - redN N D) (redD N D) = redD (D - N) D := by
  have e := red_id N D hD
  refine red_eq (redD_pos hD) hD ?_
  rw [Int.sub_mul, Int.sub_mul, e, Int.mul_comm (redD N D) D]

/-- The chance. -/
def caN (L : List It) : Int := redN (weD L L.length - weN L L.length) (weD L L.length)
def caD (L : List It) : Int := redD (weD L L.length - weN L L.length) (weD L L.length)

theorem ca_facts {L : List It} (h : caErr L = 0) : vErr L = 0 ∧ 0 ≤ caN L ∧ caN L ≤ caD L ∧ 1 ≤ caD L ∧ caD L ≤ 100000000 ∧ caN L * toD L L.length ≤ toN L L.length * caD L := by
  obtain ⟨hv, h8⟩ := caErr_zero.1 h
  obtain ⟨b1, b2, b3, b4⟩ := we_bd hv h8 (Nat.le_refl _)
  have hk := we_ok hv L.length (Nat.le_refl _)
  have d1 := redD_pos (n := weD L L.length - weN L L.length) (d := weD L L.length) (by omega)
  have d2 := redD_le (n := weD L L.length - weN L L.length) (d := weD L L.length) (by omega)
  have d3 := redN_nonneg (n := weD L L.length - weN L L.length) (d := weD L L.length) (by omega) (by omega)
  have d4 := (red_ge (n := weD L L.length - weN L L.length) (d := weD L L.length) (x := 1) (y := 1) (by omega)).2 (by omega)
  refine ⟨vErr_zero.2 hv, d3, by unfold caN caD; omega, d1, Int.le_trans d2 b4, ?_⟩
  unfold caN caD toN toD
  refine (red_le (n := paT L L.length) (d := 2520) (x := redN (weD L L.length - weN L L.length) (weD L L.length)) (y := redD (weD L L.length - weN L L.length) (weD L L.length)) (by decide)).2 ?_
  exact (red_ge (n := weD L L.length - weN L L.length) (d := weD L L.length) (x := paT L L.length) (y := 2520) (by omega)).2 hk.le

end Go.Proofs.Ytplindidegmlkaa
