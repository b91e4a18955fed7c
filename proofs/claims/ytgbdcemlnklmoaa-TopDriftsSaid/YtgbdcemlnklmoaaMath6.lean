/- The bounds of readings as readings; which readings add nothing: plain. -/
import Derived.Test.YtgbdcemlnklmoaaMath5
namespace Go.Proofs.Ytgbdcemlnklmoaa

def tiF (L : List Rd) (r : Int) (x : Rd) : Rd := ⟨x.t, loB L r x.t, hiB L r x.t⟩
def tightL (L : List Rd) (r : Int) : List Rd := L.map (tiF L r)
def tgR (L : List Rd) (r : Int) : List Rd := if aOk L r = true then tightL L r else []

theorem tight_length (L : List Rd) (r : Int) : (tightL L r).length = L.length := by simp [tightL]
theorem tight_at {L : List Rd} {r : Int} {i : Nat} (h : i < L.length) : at_ (tightL L r) i = tiF L r (at_ L i) := at_map h

theorem lo_far {L : List Rd} {r s t : Int} (hr : 0 ≤ r) : loB L r t ≤ loB L r s + r * far s t := by
  obtain ⟨i, hi, he⟩ := loP_mem (L := L) (r := r) (t := t) (L.length - 1)
  have h1 := loP_ge (L := L) (r := r) (t := s) (L.length - 1) i hi
  have h2 : r * far s (at_ L i).t ≤ r * (far s t + far t (at_ L i).t) := mul_mono hr (far_tri _ _ _)
  rw [Int.mul_add] at h2
  unfold loB
  omega

theorem hi_far {L : List Rd} {r s t : Int} (hr : 0 ≤ r) : hiB L r s ≤ hiB L r t + r * far s t := by
  obtain ⟨i, hi, he⟩ := hiP_mem (L := L) (r := r) (t := t) (L.length - 1)
  have h1 := hiP_le (L := L) (r := r) (t := s) (L.length - 1) i hi
  have h2 : r * far s (at_ L i).t ≤ r * (far s t + far t (at_ L i).t) := mul_mono hr (far_tri _ _ _)
  rw [Int.mul_add] at h2
  unfold hiB
  omega

theorem lo_own {L : List Rd} {r : Int} {i : Nat} (hi : i < L.length) : (at_ L i).lo ≤ loB L r (at_ L i).t := by
  have h1 := loP_ge (L := L) (r := r) (t := (at_ L i).t) (L.length - 1) i (by omega)
  rw [far_self, Int.mul_zero] at h1
  unfold loB
  omega
theorem hi_own {L : List Rd} {r : Int} {i : Nat} (hi : i < L.length) : hiB L r (at_ L i).t ≤ (at_ L i).hi := by
  have h1 := hiP_le (L := L) (r := r) (t := (at_ L i).t) (L.length - 1) i (by omega)
  rw [far_self, Int.mul_zero] at h1
  unfold hiB
  omega

theorem tight_valid {L : List Rd} {r : Int} (hv : Valid L) (hr : 0 ≤ r) (ha : agreeB L r = true) : Valid (tightL L r) := by
  have hl := tight_length L r
  refine ⟨by rw [hl]; exact hv.pos, by rw [hl]; exact hv.le, fun i hi => ?_, fun i h0 hi => ?_⟩
  · rw [hl] at hi
    have hb := hv.bd hi
    have h1 := lo_own (r := r) hi
    have h2 := hi_own (r := r) hi
    have h3 := lo_le_hi (t := (at_ L i).t) hv hr ha
    rw [tight_at hi, okRd_iff]
    unfold tiF
    dsimp only
    omega
  · rw [hl] at hi
    have := hv.asc i h0 hi
    rw [tight_at hi, tight_at (by omega)]
    exact this

theorem tight_agree {L : List Rd} {r : Int} (hv : Valid L) (hr : 0 ≤ r) (ha : agreeB L r = true) : agreeB (tightL L r) r = true := by
  rw [agreeB_all (tight_valid hv hr ha)]
  intro a b h1 h2
  rw [tight_length] at h1 h2
  unfold clashAt
  rw [tight_at h1, tight_at h2, clashB_false]
  unfold tiF
  dsimp only
  have q1 := lo_far (L := L) (s := (at_ L b).t) (t := (at_ L a).t) hr
  have q2 := lo_far (L := L) (s := (at_ L a).t) (t := (at_ L b).t) hr
  have q3 := lo_le_hi (t := (at_ L a).t) hv hr ha
  have q4 := lo_le_hi (t := (at_ L b).t) hv hr ha
  rw [far_comm (at_ L b).t] at q1
  omega

theorem tight_lo {L : List Rd} {r : Int} {k : Nat} (hr : 0 ≤ r) (hk : k < L.length) : loB (tightL L r) r (at_ L k).t = loB L r (at_ L k).t := by
  obtain ⟨i, hi, he⟩ := loP_mem (L := tightL L r) (r := r) (t := (at_ L k).t) ((tightL L r).length - 1)
  have h1 := loP_ge (L := tightL L r) (r := r) (t := (at_ L k).t) ((tightL L r).length - 1) k (by rw [tight_length]; omega)
  rw [tight_length] at hi
  rw [tight_at (by omega)] at he h1
  have h2 := lo_far (L := L) (s := (at_ L k).t) (t := (at_ L i).t) hr
  have e1 : (tiF L r (at_ L i)).lo = loB L r (at_ L i).t := rfl
  have e2 : (tiF L r (at_ L i)).t = (at_ L i).t := rfl
  have e3 : (tiF L r (at_ L k)).lo = loB L r (at_ L k).t := rfl
  have e4 : (tiF L r (at_ L k)).t = (at_ L k).t := rfl
  rw [e1, e2] at he
  rw [e3, e4, far_self, Int.mul_zero] at h1
  have e5 : loB (tightL L r) r (at_ L k).t = loP (tightL L r) r (at_ L k).t ((tightL L r).length - 1) := rfl
  omega

theorem tight_hi {L : List Rd} {r : Int} {k : Nat} (hr : 0 ≤ r) (hk : k < L.length) : hiB (tightL L r) r (at_ L k).t = hiB L r (at_ L k).t := by
  obtain ⟨i, hi, he⟩ := hiP_mem (L := tightL L r) (r := r) (t := (at_ L k).t) ((tightL L r).length - 1)
  have h1 := hiP_le (L := tightL L r) (r := r) (t := (at_ L k).t) ((tightL L r).length - 1) k (by rw [tight_length]; omega)
  rw [tight_length] at hi
  rw [tight_at (by omega)] at he h1
  have h2 := hi_far (L := L) (s := (at_ L k).t) (t := (at_ L i).t) hr
  have e1 : (tiF L r (at_ L i)).hi = hiB L r (at_ L i).t := rfl
  have e2 : (tiF L r (at_ L i)).t = (at_ L i).t := rfl
  have e3 : (tiF L r (at_ L k)).hi = hiB L r (at_ L k).t := rfl
  have e4 : (tiF L r (at_ L k)).t = (at_ L k).t := rfl
  rw [e1, e2] at he
  rw [e3, e4, far_self, Int.mul_zero] at h1
  have e5 : hiB (tightL L r) r (at_ L k).t = hiP (tightL L r) r (at_ L k).t ((tightL L r).length - 1) := rfl
  omega

theorem tight_tight {L : List Rd} {r : Int} (hr : 0 ≤ r) : tightL (tightL L r) r = tightL L r := by
  apply at_ext
  · rw [tight_length]
  · intro i hi
    rw [tight_length, tight_length] at hi
    rw [tight_at (by rw [tight_length]; exact hi), tight_at hi]
    unfold tiF
    dsimp only
    rw [← tight_lo hr hi, ← tight_hi hr hi]

theorem tg_facts {L : List Rd} {r : Int} (h : aOk L r = true) : tgR L r = tightL L r ∧ rErr (tgR L r) r = 0 ∧ aOk (tgR L r) r = true ∧ tgR (tgR L r) r = tgR L r := by
  obtain ⟨h0, ha⟩ := aOk_true.1 h
  obtain ⟨hv, hr, hr9⟩ := rErr_zero.1 h0
  have e : tgR L r = tightL L r := if_pos h
  have er : rErr (tightL L r) r = 0 := rErr_zero.2 ⟨tight_valid hv hr ha, hr, hr9⟩
  have ea : aOk (tightL L r) r = true := aOk_true.2 ⟨er, tight_agree hv hr ha⟩
  rw [e]
  exact ⟨rfl, er, ea, by unfold tgR; rw [if_pos ea, tight_tight hr]⟩

/-- Reading number k adds nothing. -/
def ndB (L : List Rd) (r : Int) (k : Nat) : Bool := sameB (tightL (lessL L k) r) (lessL (tightL L r) k)
def ndL (L : List Rd) (r : Int) (n : Nat) : List Int := ((List.range n).filter (ndB L r)).map fun (k : Nat) => (k : Int)
def ndR (L : List Rd) (r : Int) : List Int := if aOk L r = true ∧ L.length ≠ 1 then ndL L r L.length else []

theorem ndL_hit {L : List Rd} {r : Int} {n : Nat} (h : ndB L r n = true) : ndL L r (n + 1) = ndL L r n ++ [(n : Int)] := by
  simp [ndL, List.range_succ, h]
theorem ndL_miss {L : List Rd} {r : Int} {n : Nat} (h : ndB L r n = false) : ndL L r (n + 1) = ndL L r n := by
  simp [ndL, List.range_succ, h]
theorem ndL_length (L : List Rd) (r : Int) (n : Nat) : (ndL L r n).length ≤ n := by
  have := List.length_filter_le (ndB L r) (List.range n)
  simp [ndL] at this ⊢
  exact this
end Go.Proofs.Ytgbdcemlnklmoaa
