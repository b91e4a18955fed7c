/- What TopBudgets asks, in plain Lean. -/
import Derived.Test.YtplindidegmlkaaWs
import Derived.Test.YtplindidegmlkaaRo2
import Derived.Test.YtplindidegmlkaaLawAllows
import Derived.Test.YtplindidegmlkaaLawCheapest
import Derived.Test.YtplindidegmlkaaLawPays
import Derived.Test.YtplindidegmlkaaLawBest
import Derived.Test.YtplindidegmlkaaLawWith
namespace Go.Proofs.Ytplindidegmlkaa
open Go.RowKit Go.Sort

theorem ws_ex : wsL exL = [1] := by decide +kernel

/-- The shares of the first k items, in parts of the whole. -/
def tpL (L : List It) (k : Nat) : List Int := (List.range k).map fun i => wI (at_ L i)
theorem tpL_length (L : List It) (k : Nat) : (tpL L k).length = k := by simp [tpL]
theorem tpL_at {L : List It} {k i : Nat} (h : i < k) : gi (tpL L k) i = wI (at_ L i) := by
  unfold gi tpL
  simp [h]
theorem tpL_snoc (L : List It) (k : Nat) : tpL L (k + 1) = tpL L k ++ [wI (at_ L k)] := by
  unfold tpL; rw [List.range_succ, List.map_append, List.map_singleton]
theorem tpL_su {L : List It} {n : Nat} : ∀ k : Nat, k ≤ n → suK (tpL L n) k = paT L k
  | 0, _ => rfl
  | k + 1, h => by rw [suK_step, paT_step, tpL_su k (by omega), tpL_at (by omega)]
theorem gi_set {xs : List Int} {k : Nat} (v : Int) (hk : k < xs.length) (i : Nat) : gi (xs.set k v) i = if i = k then v else gi xs i := by
  unfold gi
  rw [List.getD_eq_getElem?_getD, List.getD_eq_getElem?_getD, List.getElem?_set]
  by_cases h : i = k
  · subst h; rw [if_pos rfl, if_pos rfl, if_pos hk]; rfl
  · rw [if_neg (fun hh => h hh.symm), if_neg h]
theorem su_set {xs : List Int} {k : Nat} {v : Int} (hk : k < xs.length) (hv : v ≤ gi xs k) : ∀ j : Nat, suK (xs.set k v) j ≤ suK xs j
  | 0 => Int.le_refl _
  | j + 1 => by
    have := su_set hk hv j
    rw [suK_step, suK_step, gi_set v hk]
    by_cases h : j = k
    · rw [if_pos h]; subst h; omega
    · rw [if_neg h]; omega
theorem top_bd {L : List It} (h : vErr L = 0) : 0 ≤ parts L ∧ parts L ≤ 120960 ∧ limB (parts L) 2520 = true := by
  have := paT_bd (vErr_zero.1 h) L.length (Nat.le_refl _)
  have hn := (vErr_zero.1 h).le
  have e : parts L = paT L L.length := rfl
  rw [limB_true, e]
  omega
theorem top_allow {L : List It} (h : vErr L = 0) : alErr L (parts L) 2520 (tpL L L.length) = 0 := by
  have hv := vErr_zero.1 h
  refine al_0 h (top_bd h).2.2 (tpL_length _ _) ?_ ?_ ?_
  · refine scan_none.2 fun k hk => ?_
    rw [tpL_length] at hk
    unfold paBad
    rw [tpL_at hk, Bool.not_eq_false', inB_true]
    have := wI_bd (hv.ok k hk); omega
  · rw [tpL_length, tpL_su _ (Nat.le_refl _)]
    have e : parts L = paT L L.length := rfl
    omega
  · refine scan_none.2 fun k hk => ?_
    unfold shBad
    rw [tpL_at hk, Bool.not_eq_false', clB_true, parts_one]
    exact Int.le_refl _
theorem top_less {L : List It} (h : vErr L = 0) {k : Nat} (hk : k < L.length) (hp : 0 < wI (at_ L k)) : alErr L (parts L) 2520 ((tpL L L.length).set k (wI (at_ L k) - 1)) = 8 := by
  have hv := vErr_zero.1 h
  have hkl : k < (tpL L L.length).length := by rw [tpL_length]; exact hk
  refine al_8 h (top_bd h).2.2 (by rw [List.length_set, tpL_length]) ?_ ?_ ?_
  · refine scan_none.2 fun i hi => ?_
    rw [List.length_set, tpL_length] at hi
    unfold paBad
    rw [gi_set _ hkl, Bool.not_eq_false', inB_true]
    have h1 := wI_bd (hv.ok i hi)
    have h2 := wI_bd (hv.ok k hk)
    split
    · omega
    · rw [tpL_at hi]; omega
  · rw [List.length_set, tpL_length]
    have h1 := su_set (v := wI (at_ L k) - 1) hkl (by rw [tpL_at hk]; omega) L.length
    rw [tpL_su _ (Nat.le_refl _)] at h1
    have e : parts L = paT L L.length := rfl
    omega
  · cases hs : shErr L ((tpL L L.length).set k (wI (at_ L k) - 1)) 2520
    · have := scan_none.1 hs k hk
      unfold shBad at this
      rw [gi_set _ hkl, if_pos rfl, Bool.not_eq_false', clB_true, parts_one] at this
      omega
    · rfl
theorem top_room {L : List It} (h : vErr L = 0) {k : Nat} (hk : k < L.length) (hp : 0 < wI (at_ L k)) : roErr L (parts L) 2520 k = 0 ∧ roV L (parts L) 2520 k = 0 := by
  have hv := vErr_zero.1 h
  obtain ⟨e1, e2⟩ := ro_0 (L := L) (x := parts L) (y := 2520) (k := (k : Int)) h (inB_true.2 (by omega)) (top_bd h).2.2 (clB_true.2 (Int.le_refl _))
  refine ⟨e1, ?_⟩
  rw [e2, Int.toNat_natCast]
  have hb : rmB L (parts L) 2520 k 0 = true := by
    unfold rmB
    rw [Bool.not_eq_true', Bool.eq_false_iff, Ne, clB_true, parts_up hk]
    have hd := hv.bd hk
    have p := part_bd (n := (at_ L k).n) (d := (at_ L k).d) (by omega) (by omega) (by omega) (by omega)
    have hpp : partI (at_ L k).n (at_ L k).d ≠ 0 := fun hh => by
      unfold wI at hp; rw [hh, Int.mul_zero] at hp; omega
    omega
  exact ro_yes (m := 0) rfl (by decide) hb
theorem top_total {L : List It} (h : vErr L = 0) : 0 ≤ totN L ∧ totN L ≤ 120960 ∧ 1 ≤ totD L ∧ totD L ≤ 2520 ∧ parts L * totD L = totN L * 2520 ∧ liErr L (totN L) (totD L) = 0 ∧ closeB L (totN L) (totD L) = true ∧
    (0 < totN L → liErr L (totN L - 1) (totD L) = 0 ∧ closeB L (totN L - 1) (totD L) = false) := by
  have hv := vErr_zero.1 h
  have e3 : totN L = toN L L.length := if_pos h
  have e4 : totD L = toD L L.length := if_pos h
  have b := to_bd hv (Nat.le_refl L.length)
  have hid : parts L * totD L = totN L * 2520 := by
    rw [e3, e4]; exact (red_id (paT L L.length) 2520 (by decide)).symm
  rw [← e3, ← e4] at b
  have l1 : liErr L (totN L) (totD L) = 0 := li_ok h (limB_true.2 (by omega))
  refine ⟨b.1, b.2.1, b.2.2.1, b.2.2.2, hid, l1, ?_, fun hp => ?_⟩
  · rw [close_ok l1, clB_true]; omega
  · have l2 : liErr L (totN L - 1) (totD L) = 0 := li_ok h (limB_true.2 (by omega))
    refine ⟨l2, ?_⟩
    rw [close_ok l2, Bool.eq_false_iff, Ne, clB_true]; omega
theorem top_share {x : It} (h : okI x = true) : 0 ≤ redN (wI x) 2520 ∧ redN (wI x) 2520 ≤ 120960 ∧ 1 ≤ redD (wI x) 2520 ∧ redD (wI x) 2520 ≤ 2520 ∧ redN (wI x) 2520 * (2520 / redD (wI x) 2520) = wI x ∧ 0 ≤ wI x ∧ wI x ≤ 20160 ∧ 0 ≤ 2520 / redD (wI x) 2520 ∧ 2520 / redD (wI x) 2520 ≤ 2520 := by
  obtain ⟨p1, p2⟩ := wI_bd h
  obtain ⟨f1, f2, f3, f4⟩ := frac_bd (a := wI x) p1 (by omega)
  obtain ⟨m1, m2⟩ := red_mul (n := wI x) (d := 2520)
  have e : 2520 / redD (wI x) 2520 = gcdI (wI x) 2520 := by
    have h2 : (2520 : Int) = redD (wI x) 2520 * gcdI (wI x) 2520 := m2.symm
    have h3 := Int.mul_ediv_cancel_left (gcdI (wI x) 2520) (show redD (wI x) 2520 ≠ 0 by omega)
    rw [← h2] at h3
    exact h3
  have g1 := gcdI_pos (a := wI x) (b := 2520) (by decide)
  have g2 := gcdI_le (a := wI x) (b := 2520) (by decide)
  rw [e]
  exact ⟨f1, f2, f3, f4, m1, p1, p2, by omega, g2⟩
theorem cmp_nil {c : List Int} (h : cmpL c [] ≤ 0) : c = [] := by
  cases c with
  | nil => rfl
  | cons x c => simp [cmpL] at h
theorem top_close {L : List It} {F : List Fx} {x y : Int} (h : fiErr L F x y = 0) : liErr L x y = 0 ∧ closeB L x y = ((chO L F x y).some && decide ((chO L F x y).least = 0) && decide ((chO L F x y).best.length = 0)) := by
  obtain ⟨hv, hl⟩ := fiErr_zero.1 h
  have l1 : liErr L x y = 0 := li_ok (vErr_zero.2 hv.v) hl
  refine ⟨l1, ?_⟩
  rw [close_ok l1, chO_ok h, Bool.eq_iff_iff, Bool.and_eq_true, Bool.and_eq_true, decide_eq_true_eq, decide_eq_true_eq]
  have w0 := wi_nil L F
  constructor
  · intro hc
    have hcd : cdB L F x y [] = true := by
      show clB (wiL L F []) x y = true
      rw [w0.1]; exact hc
    rcases che_best L F x y with ⟨_, h1⟩ | ⟨a1, a2, a3, a4, a5⟩
    · rw [h1 [] (OkC.nil F)] at hcd; cases hcd
    · have h5 := a5 [] (OkC.nil F) hcd
      have hb := wcL_bd hv a2
      rw [w0.2] at h5
      have e : (che L F x y).best = [] := by
        rcases h5 with h5 | h5
        · omega
        · exact cmp_nil h5.2
      refine ⟨⟨a1, ?_⟩, by rw [e]; rfl⟩
      rw [a4, e]; exact w0.2
  · rintro ⟨⟨hs, _⟩, hn⟩
    obtain ⟨_, b, _⟩ := che_yes hs
    have e : (che L F x y).best = [] := List.eq_nil_of_length_eq_zero hn
    rw [e, w0.1] at b
    exact b
theorem top_no {L : List It} {F : List Fx} {x y : Int} (h : fiErr L F x y = 0) (hs : (chO L F x y).some = false) : beErr L F 792 = 0 ∧ 0 < beN L F 792 ∧ beN L F 792 ≤ 120960 ∧ 1 ≤ beD L F 792 ∧ beD L F 792 ≤ 2520 ∧ x * beD L F 792 < beN L F 792 * y ∧ x ≤ 1000000 ∧ 0 ≤ x ∧ 1 ≤ y ∧ y ≤ 1000000 := by
  obtain ⟨hv, hl⟩ := fiErr_zero.1 h
  have hb : beErr L F 792 = 0 := beErr_zero.2 ⟨hv, by decide, by decide⟩
  obtain ⟨e1, e2⟩ := beND_ok hb
  obtain ⟨p1, p2⟩ := bestP_bd (cost := 792) hv
  obtain ⟨f1, f2, f3, f4⟩ := frac_bd p1 p2
  obtain ⟨y1, y2, x1, x2⟩ := limB_true.1 hl
  rw [chO_ok h] at hs
  have hno : ∀ c, OkC F c → clB (wiL L F c) x y = false := by
    rcases che_best L F x y with ⟨_, h1⟩ | ⟨a1, _⟩
    · exact h1
    · rw [a1] at hs; cases hs
  have key : ∃ c, OkC F c ∧ bestP L F 792 = parts (wiL L F c) := by
    rcases (bestP_low L F 792).one with e | ⟨c, h1, _, e⟩
    · exact ⟨[], OkC.nil F, by rw [(wi_nil L F).1]; exact e⟩
    · exact ⟨c, h1, e⟩
  obtain ⟨c, hc, e⟩ := key
  have hlt := hno c hc
  rw [Bool.eq_false_iff, Ne, clB_true, ← e] at hlt
  have hgt : x * redD (bestP L F 792) 2520 < redN (bestP L F 792) 2520 * y := by
    have := red_ge (n := bestP L F 792) (d := 2520) (x := x) (y := y) (by decide)
    omega
  have hx : 0 ≤ x * redD (bestP L F 792) 2520 := Int.mul_nonneg x1 (by omega)
  have hpos : 0 < redN (bestP L F 792) 2520 := by
    rcases Int.lt_or_eq_of_le f1 with q | q
    · exact q
    · rw [← q, Int.zero_mul] at hgt; omega
  rw [e1, e2]
  exact ⟨hb, hpos, f2, f3, f4, hgt, x2, x1, y1, y2⟩
theorem top_yes {L : List It} {F : List Fx} {x y : Int} (hs : (chO L F x y).some = true) :
    weErr L F (chO L F x y).best = 0 ∧ weC L F (chO L F x y).best = (chO L F x y).least ∧ ckErr L F x y (chO L F x y).best = 0 ∧ ckC L F x y (chO L F x y).best = (chO L F x y).least ∧
    liErr (weL L F (chO L F x y).best) x y = 0 ∧ closeB (weL L F (chO L F x y).best) x y = true ∧ beErr L F (chO L F x y).least = 0 ∧
    0 ≤ beN L F (chO L F x y).least ∧ beN L F (chO L F x y).least ≤ 120960 ∧ 1 ≤ beD L F (chO L F x y).least ∧ beD L F (chO L F x y).least ≤ 2520 ∧ beN L F (chO L F x y).least * y ≤ x * beD L F (chO L F x y).least ∧ x ≤ 1000000 ∧ 0 ≤ x ∧ 1 ≤ y ∧ y ≤ 1000000 := by
  obtain ⟨h, c1, c2, _⟩ := chO_yes hs
  obtain ⟨hv, hl⟩ := fiErr_zero.1 h
  obtain ⟨y1, y2, x1, x2⟩ := limB_true.1 hl
  rw [chO_ok h] at hs c1 c2 ⊢
  obtain ⟨a, b, c, _⟩ := che_facts h hs
  have hw : weErr L F (che L F x y).best = 0 := weErr_zero.2 ⟨hv, a⟩
  obtain ⟨g1, g2⟩ := we_good hw
  have hwb := wcL_bd hv a
  have l2 : liErr (weL L F (che L F x y).best) x y = 0 := li_ok (we_facts hw).2.1 hl
  have hbe : beErr L F (che L F x y).least = 0 := beErr_zero.2 ⟨hv, by omega, by omega⟩
  obtain ⟨e1, e2⟩ := beND_ok hbe
  obtain ⟨p1, p2⟩ := bestP_bd (cost := (che L F x y).least) hv
  obtain ⟨f1, f2, f3, f4⟩ := frac_bd p1 p2
  have hall := (bestP_low L F (che L F x y).least).all _ a (by omega)
  have hcl := clB_true.1 b
  have hle : redN (bestP L F (che L F x y).least) 2520 * y ≤ x * redD (bestP L F (che L F x y).least) 2520 := by
    refine (red_ge (n := bestP L F (che L F x y).least) (d := 2520) (x := x) (y := y) (by decide)).2 ?_
    have := Int.mul_le_mul_of_nonneg_right hall (show 0 ≤ y by omega)
    omega
  rw [e1, e2]
  exact ⟨hw, by rw [g2, c], c1, c2, l2, by rw [close_ok l2, g1]; exact b, hbe, f1, f2, f3, f4, hle, x2, x1, y1, y2⟩
end Go.Proofs.Ytplindidegmlkaa
