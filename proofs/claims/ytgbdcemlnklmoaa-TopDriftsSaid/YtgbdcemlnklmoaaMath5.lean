/-
  Plain facts: readings at other times, opposite readings, time turned round, readings without one.
-/
import Derived.Test.YtgbdcemlnklmoaaMath4
namespace Go.Proofs.Ytgbdcemlnklmoaa

theorem map_at {α : Type} (L : List Rd) (g : Rd → α) : (List.range L.length).map (fun i => g (at_ L i)) = L.map g := by
  apply List.ext_getElem
  · simp
  · intro i h1 h2
    have hi : i < L.length := by simpa using h1
    simp [at_, hi]

theorem at_ext {L M : List Rd} (h : L.length = M.length) (h2 : ∀ i, i < L.length → at_ L i = at_ M i) : L = M := by
  apply List.ext_getElem h
  intro i h3 h4
  have := h2 i h3
  simpa [at_, h3, h4] using this

theorem at_map {L : List Rd} {g : Rd → Rd} {i : Nat} (h : i < L.length) : at_ (L.map g) i = g (at_ L i) := by
  simp [at_, h]

def shF (by_ : Int) (x : Rd) : Rd := ⟨x.t + by_, x.lo, x.hi⟩
def opF (x : Rd) : Rd := ⟨x.t, -x.hi, -x.lo⟩
def tuF (x : Rd) : Rd := ⟨1000 - x.t, x.lo, x.hi⟩
def shiftL (L : List Rd) (by_ : Int) : List Rd := L.map (shF by_)
def oppL (L : List Rd) : List Rd := L.map opF
def turnL (L : List Rd) : List Rd := (L.map tuF).reverse

def shErr (L : List Rd) (by_ : Int) : Int := if vErr L ≠ 0 then vErr L else if inB by_ (-firstT L) (1000 - lastT L) then 0 else 1
def shR (L : List Rd) (by_ : Int) : List Rd := if shErr L by_ = 0 then shiftL L by_ else []
def opR (L : List Rd) : List Rd := if vErr L = 0 then oppL L else []
def tuR (L : List Rd) : List Rd := if vErr L = 0 then turnL L else []

theorem shErr_zero {L : List Rd} {b : Int} : shErr L b = 0 ↔ Valid L ∧ -firstT L ≤ b ∧ b ≤ 1000 - lastT L := by
  unfold shErr
  rw [← vErr_zero, ← inB_true]
  by_cases h : vErr L = 0
  · by_cases h1 : inB b (-firstT L) (1000 - lastT L) = true <;> simp [h, h1]
  · simp [h]

theorem shift_valid {L : List Rd} {b : Int} (h : shErr L b = 0) : Valid (shiftL L b) := by
  obtain ⟨hv, h1, h2⟩ := shErr_zero.1 h
  have hl : (shiftL L b).length = L.length := by simp [shiftL]
  refine ⟨by rw [hl]; exact hv.pos, by rw [hl]; exact hv.le, fun i hi => ?_, fun i h0 hi => ?_⟩
  · rw [hl] at hi
    have ht := times_bd hv hi
    have hb := hv.bd hi
    unfold shiftL
    rw [at_map hi, okRd_iff]
    unfold shF
    dsimp only
    omega
  · rw [hl] at hi
    have := hv.asc i h0 hi
    unfold shiftL
    rw [at_map hi, at_map (by omega)]
    unfold shF
    dsimp only
    omega

theorem opp_valid {L : List Rd} (hv : Valid L) : Valid (oppL L) := by
  have hl : (oppL L).length = L.length := by simp [oppL]
  refine ⟨by rw [hl]; exact hv.pos, by rw [hl]; exact hv.le, fun i hi => ?_, fun i h0 hi => ?_⟩
  · rw [hl] at hi
    have hb := hv.bd hi
    unfold oppL
    rw [at_map hi, okRd_iff]
    unfold opF
    dsimp only
    omega
  · rw [hl] at hi
    have := hv.asc i h0 hi
    unfold oppL
    rw [at_map hi, at_map (by omega)]
    exact this

theorem turn_at {L : List Rd} {i : Nat} (h : i < L.length) : at_ (turnL L) i = tuF (at_ L (L.length - 1 - i)) := by
  simp [turnL, at_, h]
  rw [List.getElem?_eq_getElem (by omega)]
  rfl

theorem turn_length (L : List Rd) : (turnL L).length = L.length := by simp [turnL]

theorem turn_valid {L : List Rd} (hv : Valid L) : Valid (turnL L) := by
  have hl := turn_length L
  refine ⟨by rw [hl]; exact hv.pos, by rw [hl]; exact hv.le, fun i hi => ?_, fun i h0 hi => ?_⟩
  · rw [hl] at hi
    have hb := hv.bd (i := L.length - 1 - i) (by omega)
    rw [turn_at hi, okRd_iff]
    unfold tuF
    dsimp only
    omega
  · rw [hl] at hi
    have := hv.lt (L.length - 1 - i) (L.length - 1 - (i - 1)) (by omega) (by omega)
    rw [turn_at hi, turn_at (by omega)]
    unfold tuF
    dsimp only
    omega

theorem clash_sh (x y : Rd) (b r : Int) : clashB (shF b x) (shF b y) r = clashB x y r := by
  have e : far (x.t + b) (y.t + b) = far x.t y.t := by unfold far; split <;> split <;> omega
  simp [clashB, shF, e]
theorem clash_op (x y : Rd) (r : Int) : clashB (opF x) (opF y) r = clashB x y r := by
  have e1 : -x.hi - -y.lo = y.lo - x.hi := by omega
  have e2 : -y.hi - -x.lo = x.lo - y.hi := by omega
  simp only [clashB, opF, e1, e2]
  exact Bool.or_comm _ _
theorem clash_tu (x y : Rd) (r : Int) : clashB (tuF x) (tuF y) r = clashB x y r := by
  have e : far (1000 - x.t) (1000 - y.t) = far x.t y.t := by unfold far; split <;> split <;> omega
  simp [clashB, tuF, e]

theorem agree_of_all {L M : List Rd} (hv : Valid L) (hm : Valid M) {r : Int} (f : Nat → Nat) (hf : ∀ i, i < M.length → f i < L.length) (h : ∀ i j, i < M.length → j < M.length → clashAt M r i j = clashAt L r (f i) (f j))
    (ha : agreeB L r = true) : agreeB M r = true := by
  rw [agreeB_all hm]
  intro a b h1 h2
  rw [h a b h1 h2]
  exact (agreeB_all hv).1 ha _ _ (hf a h1) (hf b h2)

theorem agree_iff_all {L M : List Rd} (hv : Valid L) (hm : Valid M) {r : Int} (f g : Nat → Nat) (hf : ∀ i, i < M.length → f i < L.length) (hg : ∀ i, i < L.length → g i < M.length) (hfg : ∀ i, i < L.length → f (g i) = i)
    (h : ∀ i j, i < M.length → j < M.length → clashAt M r i j = clashAt L r (f i) (f j)) : agreeB M r = agreeB L r := by
  rw [Bool.eq_iff_iff]
  constructor
  · intro ha
    refine agree_of_all hm hv g hg (fun i j h1 h2 => ?_) ha
    rw [h _ _ (hg i h1) (hg j h2), hfg i h1, hfg j h2]
  · exact agree_of_all hv hm f hf h

theorem shift_agree {L : List Rd} {b r : Int} (h : shErr L b = 0) : aOk (shiftL L b) r = aOk L r ∧ rErr (shiftL L b) r = rErr L r := by
  have hv := (shErr_zero.1 h).1
  have hm := shift_valid h
  have e1 : vErr (shiftL L b) = 0 := vErr_zero.2 hm
  have e2 : vErr L = 0 := vErr_zero.2 hv
  have er : rErr (shiftL L b) r = rErr L r := by unfold rErr; rw [e1, e2]
  have hl : (shiftL L b).length = L.length := by simp [shiftL]
  have ea : agreeB (shiftL L b) r = agreeB L r := by
    refine agree_iff_all hv hm id id (fun i hi => by rw [hl] at hi; exact hi) (fun i hi => by rw [hl]; exact hi) (fun i _ => rfl) (fun i j h1 h2 => ?_)
    rw [hl] at h1 h2
    unfold clashAt shiftL
    rw [at_map h1, at_map h2]
    exact clash_sh _ _ _ _
  exact ⟨by unfold aOk; rw [er, ea], er⟩

theorem opp_agree {L : List Rd} {r : Int} (hv : Valid L) : aOk (oppL L) r = aOk L r ∧ rErr (oppL L) r = rErr L r := by
  have hm := opp_valid hv
  have e1 : vErr (oppL L) = 0 := vErr_zero.2 hm
  have e2 : vErr L = 0 := vErr_zero.2 hv
  have er : rErr (oppL L) r = rErr L r := by unfold rErr; rw [e1, e2]
  have hl : (oppL L).length = L.length := by simp [oppL]
  have ea : agreeB (oppL L) r = agreeB L r := by
    refine agree_iff_all hv hm id id (fun i hi => by rw [hl] at hi; exact hi) (fun i hi => by rw [hl]; exact hi) (fun i _ => rfl) (fun i j h1 h2 => ?_)
    rw [hl] at h1 h2
    unfold clashAt oppL
    rw [at_map h1, at_map h2]
    exact clash_op _ _ _
  exact ⟨by unfold aOk; rw [er, ea], er⟩

theorem turn_agree {L : List Rd} {r : Int} (hv : Valid L) : aOk (turnL L) r = aOk L r ∧ rErr (turnL L) r = rErr L r := by
  have hm := turn_valid hv
  have e1 : vErr (turnL L) = 0 := vErr_zero.2 hm
  have e2 : vErr L = 0 := vErr_zero.2 hv
  have er : rErr (turnL L) r = rErr L r := by unfold rErr; rw [e1, e2]
  have hl := turn_length L
  have ea : agreeB (turnL L) r = agreeB L r := by
    refine agree_iff_all hv hm (fun i => L.length - 1 - i) (fun i => L.length - 1 - i) (fun i hi => by rw [hl] at hi; show L.length - 1 - i < L.length; omega) (fun i hi => by rw [hl]; show L.length - 1 - i < L.length; omega) (fun i hi => by show L.length - 1 - (L.length - 1 - i) = i; omega) (fun i j h1 h2 => ?_)
    rw [hl] at h1 h2
    unfold clashAt
    rw [turn_at h1, turn_at h2]
    exact clash_tu _ _ _
  exact ⟨by unfold aOk; rw [er, ea], er⟩

/-- Readings without number k. -/
def lessL (L : List Rd) (k : Nat) : List Rd := L.take k ++ L.drop (k + 1)
def skp (k i : Nat) : Nat := if i < k then i else i + 1

theorem less_length {L : List Rd} {k : Nat} (h : k < L.length) : (lessL L k).length = L.length - 1 := by
  simp [lessL]; omega
theorem less_at {L : List Rd} {k i : Nat} (hk : k < L.length) : at_ (lessL L k) i = at_ L (skp k i) := by
  unfold skp lessL at_
  rw [List.getD_eq_getElem?_getD, List.getD_eq_getElem?_getD]
  by_cases hi : i < k
  · rw [if_pos hi, List.getElem?_append_left (by simp; omega)]
    simp [hi]
  · rw [if_neg hi, List.getElem?_append_right (by simp; omega)]
    simp only [List.length_take, List.getElem?_drop]
    rw [show k + 1 + (i - min k L.length) = i + 1 by omega]

theorem less_valid {L : List Rd} {k : Nat} (hv : Valid L) (hk : k < L.length) (h1 : L.length ≠ 1) : Valid (lessL L k) := by
  have hl := less_length hk
  have hp := hv.pos
  have hs : ∀ i, i < L.length - 1 → skp k i < L.length := fun i hi => by unfold skp; split <;> omega
  refine ⟨by omega, by have := hv.le; omega, fun i hi => ?_, fun i h0 hi => ?_⟩
  · rw [hl] at hi
    rw [less_at hk]
    exact hv.ok _ (hs i hi)
  · rw [hl] at hi
    rw [less_at hk, less_at hk]
    refine hv.lt _ _ ?_ (hs i hi)
    unfold skp
    split <;> split <;> omega

theorem less_agree {L : List Rd} {k : Nat} {r : Int} (hv : Valid L) (hk : k < L.length) (h1 : L.length ≠ 1) (ha : agreeB L r = true) : agreeB (lessL L k) r = true := by
  have hl := less_length hk
  refine agree_of_all hv (less_valid hv hk h1) (skp k) (fun i hi => by rw [hl] at hi; unfold skp; split <;> omega) (fun i j _ _ => ?_) ha
  unfold clashAt
  rw [less_at hk, less_at hk]

/-- The bounds are no tighter without a reading. -/
theorem less_bounds {L : List Rd} {k : Nat} {r t : Int} (hv : Valid L) (hk : k < L.length) (h1 : L.length ≠ 1) : loB (lessL L k) r t ≤ loB L r t ∧ hiB L r t ≤ hiB (lessL L k) r t := by
  have hl := less_length hk
  have hp := hv.pos
  unfold loB hiB
  constructor
  · obtain ⟨i, hi, e⟩ := loP_mem (L := lessL L k) (r := r) (t := t) ((lessL L k).length - 1)
    rw [e, less_at hk]
    exact loP_ge _ _ (by unfold skp; split <;> omega)
  · obtain ⟨i, hi, e⟩ := hiP_mem (L := lessL L k) (r := r) (t := t) ((lessL L k).length - 1)
    rw [e, less_at hk]
    exact hiP_le _ _ (by unfold skp; split <;> omega)

def woErr (L : List Rd) (k : Int) : Int := if vErr L ≠ 0 then vErr L else if ¬ inB k 0 ((L.length : Int) - 1) = true then 4 else if L.length = 1 then 8 else 0
def woR (L : List Rd) (k : Int) : List Rd := if woErr L k = 0 then lessL L k.toNat else []

theorem woErr_zero {L : List Rd} {k : Int} : woErr L k = 0 ↔ Valid L ∧ (0 ≤ k ∧ k < L.length) ∧ L.length ≠ 1 := by
  unfold woErr
  rw [← vErr_zero]
  by_cases h : vErr L = 0
  · by_cases h1 : inB k 0 ((L.length : Int) - 1) = true
    · have := inB_true.1 h1
      by_cases h2 : L.length = 1 <;> simp [h, h1, h2] <;> omega
    · have := mt inB_true.2 h1
      simp [h, h1]
      omega
  · simp [h]

/-- Are two lists of readings the same? -/
def neqR (A B : List Rd) (i : Nat) : Bool := !(decide ((at_ A i).t = (at_ B i).t) && decide ((at_ A i).lo = (at_ B i).lo) && decide ((at_ A i).hi = (at_ B i).hi))
def sameB (A B : List Rd) : Bool := decide (A.length = B.length) && !(scanJ (neqR A B) A.length 0).isSome

theorem neqR_self (A : List Rd) (i : Nat) : neqR A A i = false := by simp [neqR]
theorem sameB_self (A : List Rd) : sameB A A = true := by
  have : (scanJ (neqR A A) A.length 0).isSome = false := scan_none.2 fun k _ => neqR_self A k
  simp [sameB, this]
theorem sameB_true {A B : List Rd} : sameB A B = true ↔ A = B := by
  constructor
  · intro h
    simp only [sameB, Bool.and_eq_true, decide_eq_true_eq, Bool.not_eq_true'] at h
    obtain ⟨h1, h2⟩ := h
    refine at_ext h1 fun i hi => ?_
    have := scan_none.1 h2 i hi
    simp only [neqR, Bool.not_eq_false', Bool.and_eq_true, decide_eq_true_eq] at this
    obtain ⟨⟨a1, a2⟩, a3⟩ := this
    cases hA : at_ A i with
    | mk t lo hi => cases hB : at_ B i with
      | mk t' lo' hi' => rw [hA, hB] at a1 a2 a3; simp at a1 a2 a3; rw [a1, a2, a3]
  · rintro rfl; exact sameB_self A

end Go.Proofs.Ytgbdcemlnklmoaa
