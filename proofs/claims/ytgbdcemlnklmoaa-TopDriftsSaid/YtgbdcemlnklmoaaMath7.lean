/- What the law over all of the drift asks: plain. -/
import Derived.Test.YtgbdcemlnklmoaaMath6
import Derived.Test.YtgbdcemlnklmoaaE
import Derived.Test.YtgbdcemlnklmoaaP
namespace Go.Proofs.Ytgbdcemlnklmoaa

theorem ex_steep : stN exR = 2 ∧ stD exR = 1 ∧ vErr exR = 0 := by decide +kernel

theorem top_slow {L : List Rd} {r : Int} (h : rErr L r = 0) : aOk L r = ((slowO L).isSome && decide (oN (slowO L) ≤ r)) := by
  obtain ⟨hv, hr, hr9⟩ := rErr_zero.1 h
  have h0 := vErr_zero.2 hv
  obtain ⟨_, _, d0, _, hag⟩ := st_facts h0
  obtain ⟨u1, u2, _, _⟩ := slow_up h0
  have hu : upR L ≤ r ↔ stN L ≤ r * stD L := up_le d0
  rw [Bool.eq_iff_iff]
  simp only [Bool.and_eq_true, decide_eq_true_eq]
  rw [aOk_true]
  constructor
  · rintro ⟨_, ha⟩
    have h1 := hu.2 ((hag r hr).1 ha)
    have h2 : (slowO L).isSome = true := by rw [u1]; simp; omega
    exact ⟨h2, by rw [u2 h2]; exact h1⟩
  · rintro ⟨h2, h3⟩
    rw [u2 h2] at h3
    exact ⟨h, (hag r hr).2 (hu.1 h3)⟩

theorem clash_cc {L : List Rd} {r : Int} (h : rErr L r = 0) (hs : (cO L r).isSome = true) : ccErr L r (pI (cO L r)) (pJ (cO L r)) = 0 := by
  obtain ⟨hv, hr, hr9⟩ := rErr_zero.1 h
  obtain ⟨p, hp⟩ := Option.isSome_iff_exists.1 hs
  rw [hp]
  have hf : firstP L r = some p := by
    unfold cO at hp
    rw [if_pos h] at hp
    exact hp
  obtain ⟨h1, h2, h3, h4, h5⟩ := scanI_some _ _ _ hf
  have e1 : pI (some p) = (p.1 : Int) := rfl
  have e2 : pJ (some p) = (p.2 : Int) := rfl
  rw [e1, e2]
  refine cc_0 (vErr_zero.2 hv) ⟨?_, ?_⟩ (inB_true.2 ⟨hr, hr9⟩) (by omega) ?_
  · unfold inN; rw [inB_true]; omega
  · unfold inN; rw [inB_true]; omega
  · unfold clashI
    rw [Int.toNat_natCast, Int.toNat_natCast]
    exact h5

theorem tight_first {L : List Rd} {r : Int} (hp : 1 ≤ L.length) : firstT (tightL L r) = firstT L := by
  unfold firstT
  rw [tight_at (by omega)]
  rfl
theorem tight_last {L : List Rd} {r : Int} (hp : 1 ≤ L.length) : lastT (tightL L r) = lastT L := by
  unfold lastT
  rw [tight_length, tight_at (by omega)]
  rfl

theorem track_tight {L : List Rd} {r : Int} (h : aOk L r = true) : trackR L r = trackL L r ∧ ckErr L r (trackR L r) = 0 ∧ ckErr (tgR L r) r (trackR L r) = 0 := by
  have e : trackR L r = trackL L r := by unfold trackR; rw [h]; rfl
  obtain ⟨h0, ha⟩ := aOk_true.1 h
  obtain ⟨hv, hr, hr9⟩ := rErr_zero.1 h0
  obtain ⟨f0, f1, f2, _⟩ := tg_facts h
  have hk := track_keeps h
  rw [e, f0]
  rw [f0] at f1
  refine ⟨rfl, hk, ?_⟩
  obtain ⟨_, k1, k2, k3, k4⟩ := ckErr_zero.1 hk
  have hp := hv.pos
  rw [ckErr_zero]
  refine ⟨f1, by rw [tight_first hp, tight_last hp]; exact k1, k2, k3, fun k hkk => ?_⟩
  rw [tight_length] at hkk
  rw [tight_first hp, tight_at hkk]
  obtain ⟨t1, t2⟩ := times_bd hv hkk
  have hN : (trackN L : Int) = lastT L - firstT L + 1 := by unfold trackN; omega
  unfold tiF
  dsimp only
  rw [gi_trackL (by omega), inB_true]
  have e2 : firstT L + (((at_ L k).t - firstT L).toNat : Int) = (at_ L k).t := by omega
  unfold tAt
  rw [e2]
  have h1 := lo_own (r := r) hkk
  have h2 := (hv.bd hkk).2.1.1
  have h3 := lo_le_hi (L := L) (r := r) (t := (at_ L k).t) hv hr ha
  omega

/-- One reading more. -/
def insL (L : List Rd) (p : Nat) (t n : Int) : List Rd := L.take p ++ [⟨t, n, n⟩] ++ L.drop p
def Fits (L : List Rd) (p : Nat) (t : Int) : Prop := p ≤ L.length ∧ (∀ i, i < p → (at_ L i).t < t) ∧ (p < L.length → t < (at_ L p).t)

theorem ins_length {L : List Rd} {p : Nat} {t n : Int} (h : p ≤ L.length) : (insL L p t n).length = L.length + 1 := by
  simp [insL]; omega
theorem ins_at {L : List Rd} {p : Nat} {t n : Int} (h : p ≤ L.length) (i : Nat) : at_ (insL L p t n) i = if i < p then at_ L i else if i = p then ⟨t, n, n⟩ else at_ L (i - 1) := by
  have hl : (L.take p).length = p := by simp; omega
  unfold insL at_
  rw [List.append_assoc]
  by_cases h1 : i < p
  · rw [if_pos h1, List.getD_eq_getElem?_getD, List.getElem?_append_left (by omega), List.getElem?_take_of_lt h1, ← List.getD_eq_getElem?_getD]
  · rw [if_neg h1, List.getD_eq_getElem?_getD, List.getElem?_append_right (by omega), hl]
    by_cases h2 : i = p
    · rw [if_pos h2, h2, Nat.sub_self]; rfl
    · obtain ⟨d, rfl⟩ : ∃ d, i = p + 1 + d := ⟨i - (p + 1), by omega⟩
      rw [if_neg h2, show p + 1 + d - p = d + 1 by omega, List.singleton_append, List.getElem?_cons_succ, List.getElem?_drop, ← List.getD_eq_getElem?_getD, show p + 1 + d - 1 = p + d by omega]

theorem fits_from {L : List Rd} {p : Nat} {t : Int} (hv : Valid L) (h : Fits L p t) {i : Nat} (h1 : p ≤ i) (h2 : i < L.length) : t < (at_ L i).t := by
  have h3 := h.2.2 (by omega)
  rcases Nat.eq_or_lt_of_le h1 with rfl | h4
  · exact h3
  · have := hv.lt p i h4 h2; omega

theorem ins_valid {L : List Rd} {p : Nat} {t n : Int} (hv : Valid L) (h : Fits L p t) (h8 : L.length ≠ 8) (t0 : 0 ≤ t) (t1 : t ≤ 1000) (n0 : -1000 ≤ n) (n1 : n ≤ 1000) : Valid (insL L p t n) := by
  have hle := hv.le
  have hl := ins_length (t := t) (n := n) h.1
  refine ⟨by omega, by omega, fun i hi => ?_, fun i hi0 hi => ?_⟩
  · rw [ins_at h.1]
    split
    · exact hv.ok i (by have := h.1; omega)
    · split
      · rw [okRd_iff]; dsimp only; omega
      · exact hv.ok (i - 1) (by omega)
  · rw [ins_at h.1, ins_at h.1]
    by_cases c1 : i < p
    · rw [if_pos c1, if_pos (by omega)]
      exact hv.asc i hi0 (by have := h.1; omega)
    · by_cases c2 : i = p
      · rw [if_neg c1, if_pos c2, if_pos (by omega)]
        exact h.2.1 (i - 1) (by omega)
      · rw [if_neg c1, if_neg c2, if_neg (by omega)]
        by_cases c3 : i - 1 = p
        · rw [if_pos c3]
          exact fits_from hv h (by omega) (by omega)
        · rw [if_neg c3]
          exact hv.asc (i - 1) (by omega) (by omega)

theorem ins_agree {L : List Rd} {p : Nat} {t n r : Int} (hv : Valid L) (h : Fits L p t) (h8 : L.length ≠ 8) (t0 : 0 ≤ t) (t1 : t ≤ 1000) (n0 : -1000 ≤ n) (n1 : n ≤ 1000) (ha : agreeB L r = true) :
    agreeB (insL L p t n) r = true ↔ loB L r t ≤ n ∧ n ≤ hiB L r t := by
  have hw := ins_valid hv h h8 t0 t1 n0 n1
  have hl := ins_length (t := t) (n := n) h.1
  have hp := hv.pos
  have ha2 := (agreeB_all hv).1 ha
  rw [agreeB_all hw]
  constructor
  · intro hall
    have key : ∀ j, j < L.length → (at_ L j).lo - r * far t (at_ L j).t ≤ n ∧ n ≤ (at_ L j).hi + r * far t (at_ L j).t := by
      intro j hj
      have h1 := hall p (if j < p then j else j + 1) (by have := h.1; omega) (by split <;> omega)
      unfold clashAt at h1
      rw [ins_at h.1, ins_at h.1, if_neg (Nat.lt_irrefl _), if_pos rfl] at h1
      have e : (if (if j < p then j else j + 1) < p then at_ L (if j < p then j else j + 1) else if (if j < p then j else j + 1) = p then (⟨t, n, n⟩ : Rd) else at_ L ((if j < p then j else j + 1) - 1)) = at_ L j := by
        by_cases c : j < p
        · rw [if_pos c, if_pos c]
        · rw [if_neg c, if_neg (by omega), if_neg (by omega), Nat.add_sub_cancel]
      rw [e, clashB_false] at h1
      dsimp only at h1
      omega
    obtain ⟨a, ha', ea⟩ := loP_mem (L := L) (r := r) (t := t) (L.length - 1)
    obtain ⟨b, hb', eb⟩ := hiP_mem (L := L) (r := r) (t := t) (L.length - 1)
    unfold loB hiB
    rw [ea, eb]
    exact ⟨(key a (by omega)).1, (key b (by omega)).2⟩
  · rintro ⟨b1, b2⟩
    have new : ∀ j, j < L.length → clashB ⟨t, n, n⟩ (at_ L j) r = false := by
      intro j hj
      rw [clashB_false]
      dsimp only
      have q1 := loP_ge (L := L) (r := r) (t := t) (L.length - 1) j (by omega)
      have q2 := hiP_le (L := L) (r := r) (t := t) (L.length - 1) j (by omega)
      unfold loB at b1
      unfold hiB at b2
      omega
    have self : clashB (⟨t, n, n⟩ : Rd) ⟨t, n, n⟩ r = false := clash_self (Int.le_refl _)
    intro x y hx hy
    unfold clashAt
    rw [ins_at h.1, ins_at h.1]
    have hple := h.1
    by_cases x1 : x < p
    · rw [if_pos x1]
      by_cases y1 : y < p
      · rw [if_pos y1]; exact ha2 x y (by omega) (by omega)
      · rw [if_neg y1]
        by_cases y2 : y = p
        · rw [if_pos y2, clashB_comm]; exact new x (by omega)
        · rw [if_neg y2]; exact ha2 x (y - 1) (by omega) (by omega)
    · rw [if_neg x1]
      by_cases x2 : x = p
      · rw [if_pos x2]
        by_cases y1 : y < p
        · rw [if_pos y1]; exact new y (by omega)
        · rw [if_neg y1]
          by_cases y2 : y = p
          · rw [if_pos y2]; exact self
          · rw [if_neg y2]; exact new (y - 1) (by omega)
      · rw [if_neg x2]
        by_cases y1 : y < p
        · rw [if_pos y1]; exact ha2 (x - 1) y (by omega) (by omega)
        · rw [if_neg y1]
          by_cases y2 : y = p
          · rw [if_pos y2, clashB_comm]; exact new (x - 1) (by omega)
          · rw [if_neg y2]; exact ha2 (x - 1) (y - 1) (by omega) (by omega)

theorem lo_iff {L : List Rd} {r t x : Int} (hp : 1 ≤ L.length) : loB L r t ≤ x ↔ ∀ j, j < L.length → (at_ L j).lo - r * far t (at_ L j).t ≤ x := by
  constructor
  · intro h j hj
    have := loP_ge (L := L) (r := r) (t := t) (L.length - 1) j (by omega)
    unfold loB at h
    omega
  · intro h
    obtain ⟨a, ha, ea⟩ := loP_mem (L := L) (r := r) (t := t) (L.length - 1)
    unfold loB
    rw [ea]
    exact h a (by omega)
theorem hi_iff {L : List Rd} {r t x : Int} (hp : 1 ≤ L.length) : x ≤ hiB L r t ↔ ∀ j, j < L.length → x ≤ (at_ L j).hi + r * far t (at_ L j).t := by
  constructor
  · intro h j hj
    have := hiP_le (L := L) (r := r) (t := t) (L.length - 1) j (by omega)
    unfold hiB at h
    omega
  · intro h
    obtain ⟨a, ha, ea⟩ := hiP_mem (L := L) (r := r) (t := t) (L.length - 1)
    unfold hiB
    rw [ea]
    exact h a (by omega)
theorem eq_of_le {a b : Int} (h : ∀ x : Int, a ≤ x ↔ b ≤ x) : a = b := Int.le_antisymm ((h b).2 (Int.le_refl _)) ((h a).1 (Int.le_refl _))
theorem eq_of_ge {a b : Int} (h : ∀ x : Int, x ≤ a ↔ x ≤ b) : a = b := Int.le_antisymm ((h a).1 (Int.le_refl _)) ((h b).2 (Int.le_refl _))

theorem far_turn (t s : Int) : far (1000 - t) (1000 - s) = far t s := by unfold far; split <;> split <;> omega

theorem turn_lo {L : List Rd} {r t : Int} (hp : 1 ≤ L.length) : loB (turnL L) r (1000 - t) = loB L r t := by
  have hl := turn_length L
  refine eq_of_le fun x => ?_
  rw [lo_iff (by omega), lo_iff hp]
  constructor
  · intro h j hj
    have := h (L.length - 1 - j) (by omega)
    rw [turn_at (by omega), show L.length - 1 - (L.length - 1 - j) = j by omega] at this
    have e : far (1000 - t) (tuF (at_ L j)).t = far t (at_ L j).t := far_turn _ _
    rw [e] at this
    exact this
  · intro h j hj
    rw [turn_at (by omega)]
    have e : far (1000 - t) (tuF (at_ L (L.length - 1 - j))).t = far t (at_ L (L.length - 1 - j)).t := far_turn _ _
    rw [e]
    exact h _ (by omega)
theorem turn_hi {L : List Rd} {r t : Int} (hp : 1 ≤ L.length) : hiB (turnL L) r (1000 - t) = hiB L r t := by
  have hl := turn_length L
  refine eq_of_ge fun x => ?_
  rw [hi_iff (by omega), hi_iff hp]
  constructor
  · intro h j hj
    have := h (L.length - 1 - j) (by omega)
    rw [turn_at (by omega), show L.length - 1 - (L.length - 1 - j) = j by omega] at this
    have e : far (1000 - t) (tuF (at_ L j)).t = far t (at_ L j).t := far_turn _ _
    rw [e] at this
    exact this
  · intro h j hj
    rw [turn_at (by omega)]
    have e : far (1000 - t) (tuF (at_ L (L.length - 1 - j))).t = far t (at_ L (L.length - 1 - j)).t := far_turn _ _
    rw [e]
    exact h _ (by omega)
theorem opp_lo {L : List Rd} {r t : Int} (hp : 1 ≤ L.length) : loB (oppL L) r t = -hiB L r t := by
  have hl : (oppL L).length = L.length := by simp [oppL]
  refine eq_of_le fun x => ?_
  rw [lo_iff (by omega), show (-hiB L r t ≤ x ↔ -x ≤ hiB L r t) by omega, hi_iff hp]
  constructor
  · intro h j hj
    have := h j (by omega)
    unfold oppL at this
    rw [at_map hj] at this
    unfold opF at this
    dsimp only at this
    omega
  · intro h j hj
    have := h j (by omega)
    unfold oppL
    rw [at_map (by omega)]
    unfold opF
    dsimp only
    omega
theorem opp_hi {L : List Rd} {r t : Int} (hp : 1 ≤ L.length) : hiB (oppL L) r t = -loB L r t := by
  have hl : (oppL L).length = L.length := by simp [oppL]
  refine eq_of_ge fun x => ?_
  rw [hi_iff (by omega), show (x ≤ -loB L r t ↔ loB L r t ≤ -x) by omega, lo_iff hp]
  constructor
  · intro h j hj
    have := h j (by omega)
    unfold oppL at this
    rw [at_map hj] at this
    unfold opF at this
    dsimp only at this
    omega
  · intro h j hj
    have := h j (by omega)
    unfold oppL
    rw [at_map (by omega)]
    unfold opF
    dsimp only
    omega

/-- All that the last lines ask. -/
theorem top_turn {L : List Rd} {r t : Int} (h : tErr L r t = 0) (ho : bOk L r t = true) (ht : t ≤ 1000) :
    tErr (tuR L) r (1000 - t) = 0 ∧ bOk (tuR L) r (1000 - t) = true ∧ bLo (tuR L) r (1000 - t) = bLo L r t ∧ bHi (tuR L) r (1000 - t) = bHi L r t := by
  obtain ⟨⟨hv, hr, hr9⟩, t0, t2⟩ := tErr_zero.1 h
  have h0 := vErr_zero.2 hv
  have e : tuR L = turnL L := if_pos h0
  rw [e]
  have hl := turn_length L
  have ha := (bOk_true.1 ho).2
  obtain ⟨_, b1, b2⟩ := bOk_yes h ha
  have ht' : tErr (turnL L) r (1000 - t) = 0 := tErr_zero.2 ⟨⟨turn_valid hv, hr, hr9⟩, by omega, by omega⟩
  have er : rErr L r = 0 := rErr_zero.2 ⟨hv, hr, hr9⟩
  have ha' : agreeB (turnL L) r = true := by
    have := (turn_agree (r := r) hv).1
    rw [aOk_true.2 ⟨er, ha⟩] at this
    exact (aOk_true.1 this).2
  obtain ⟨c0, c1, c2⟩ := bOk_yes ht' ha'
  rw [c0, c1, c2, b1, b2, turn_lo hv.pos, turn_hi hv.pos]
  exact ⟨ht', rfl, rfl, rfl⟩
theorem top_opp {L : List Rd} {r t : Int} (h : tErr L r t = 0) (ho : bOk L r t = true) :
    tErr (opR L) r t = 0 ∧ bOk (opR L) r t = true ∧ bLo (opR L) r t = -bHi L r t ∧ bHi (opR L) r t = -bLo L r t := by
  obtain ⟨⟨hv, hr, hr9⟩, t0, t2⟩ := tErr_zero.1 h
  have h0 := vErr_zero.2 hv
  have e : opR L = oppL L := if_pos h0
  rw [e]
  have ha := (bOk_true.1 ho).2
  obtain ⟨_, b1, b2⟩ := bOk_yes h ha
  have ht' : tErr (oppL L) r t = 0 := tErr_zero.2 ⟨⟨opp_valid hv, hr, hr9⟩, t0, t2⟩
  have er : rErr L r = 0 := rErr_zero.2 ⟨hv, hr, hr9⟩
  have ha' : agreeB (oppL L) r = true := by
    have := (opp_agree (r := r) hv).1
    rw [aOk_true.2 ⟨er, ha⟩] at this
    exact (aOk_true.1 this).2
  obtain ⟨c0, c1, c2⟩ := bOk_yes ht' ha'
  rw [c0, c1, c2, b1, b2, opp_lo hv.pos, opp_hi hv.pos]
  exact ⟨ht', rfl, rfl, rfl⟩

end Go.Proofs.Ytgbdcemlnklmoaa
