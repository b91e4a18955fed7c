/- Allow of budget and of its reference. -/
import Derived.Test.YtplindidegmlkaaS
namespace Go.Proofs.Ytplindidegmlkaa
open Go.RowKit Go.Sort

def paBad (ps : List Int) (i : Nat) : Bool := !inB (gi ps i) 0 1000000
def suK (ps : List Int) (k : Nat) : Int := sumP (fun _ => true) (fun i => gi ps i) k
theorem suK_step (ps : List Int) (k : Nat) : suK ps (k + 1) = suK ps k + gi ps k := by unfold suK; rw [sumP]; simp
/-- The share of the i-th item is greater than its number. -/
def shBad (L : List It) (ps : List Int) (y : Int) (i : Nat) : Bool := !clB [at_ L i] (gi ps i) y
def paErr (ps : List Int) : Bool := (scanJ (paBad ps) ps.length 0).isSome
def shErr (L : List It) (ps : List Int) (y : Int) : Bool := (scanJ (shBad L ps y) L.length 0).isSome
def alErr (L : List It) (x y : Int) (ps : List Int) : Int := if vErr L ≠ 0 then vErr L else if limB x y = false ∨ ps.length ≠ L.length ∨ paErr ps = true then 1 else if x < suK ps ps.length then 5 else if shErr L ps y = true then 8 else 0
theorem al_v {L : List It} {x y : Int} {ps : List Int} (h : vErr L ≠ 0) : alErr L x y ps = vErr L := if_pos h
theorem al_1 {L : List It} {x y : Int} {ps : List Int} (h : vErr L = 0) (h1 : limB x y = false ∨ ps.length ≠ L.length ∨ paErr ps = true) : alErr L x y ps = 1 := by unfold alErr; rw [if_neg (by simp [h]), if_pos h1]
theorem al_5 {L : List It} {x y : Int} {ps : List Int} (h : vErr L = 0) (h1 : limB x y = true) (h2 : ps.length = L.length) (h3 : paErr ps = false) (h4 : x < suK ps ps.length) : alErr L x y ps = 5 := by unfold alErr; rw [if_neg (by simp [h]), if_neg (by simp [h1, h2, h3]), if_pos h4]
theorem al_8 {L : List It} {x y : Int} {ps : List Int} (h : vErr L = 0) (h1 : limB x y = true) (h2 : ps.length = L.length) (h3 : paErr ps = false) (h4 : ¬ x < suK ps ps.length) (h5 : shErr L ps y = true) : alErr L x y ps = 8 := by unfold alErr; rw [if_neg (by simp [h]), if_neg (by simp [h1, h2, h3]), if_neg h4, if_pos h5]
theorem al_0 {L : List It} {x y : Int} {ps : List Int} (h : vErr L = 0) (h1 : limB x y = true) (h2 : ps.length = L.length) (h3 : paErr ps = false) (h4 : ¬ x < suK ps ps.length) (h5 : shErr L ps y = false) : alErr L x y ps = 0 := by unfold alErr; rw [if_neg (by simp [h]), if_neg (by simp [h1, h2, h3]), if_neg h4, if_neg (by simp [h5])]
theorem pa_all {ps : List Int} (h : paErr ps = false) {k : Nat} (hk : k < ps.length) : 0 ≤ gi ps k ∧ gi ps k ≤ 1000000 := by
  have := scan_none.1 h k hk
  unfold paBad at this
  rw [Bool.not_eq_false', inB_true] at this
  exact this
theorem suK_bd {ps : List Int} (h : ∀ i, i < ps.length → 0 ≤ gi ps i ∧ gi ps i ≤ 1000000) : ∀ k : Nat, k ≤ ps.length → 0 ≤ suK ps k ∧ suK ps k ≤ 1000000 * k
  | 0, _ => by simp [suK, sumP]
  | k + 1, hk => by
    have ih := suK_bd h k (by omega)
    have := h k (by omega)
    rw [suK_step]; omega
theorem parts_one (x : It) : parts [x] = wI x := by
  have : parts [x] = 0 + wI x := by unfold parts; rw [List.length_singleton, paT_step]; rfl
  omega
theorem sh_test {L : List It} {ps : List Int} {y : Int} {k : Nat} (hk : okI (at_ L k) = true) : decide (gi ps k * shD (at_ L k) < shN (at_ L k) * y) = shBad L ps y k := by
  obtain ⟨e1, e2⟩ := sh_parts hk
  have h := red_ge (n := wI (at_ L k)) (d := 2520) (x := gi ps k) (y := y) (by decide)
  unfold shBad clB
  rw [parts_one, e1, e2]
  rw [Bool.eq_iff_iff]
  simp only [decide_eq_true_eq, Bool.not_eq_true', decide_eq_false_iff_not]
  omega
theorem sb_yes {L : List It} {ps : List Int} {y : Int} {k : Nat} (hs : scanJ (shBad L ps y) L.length 0 = scanJ (shBad L ps y) (L.length - k) k) (hk : k < L.length) (hb : shBad L ps y k = true) : shErr L ps y = true := by unfold shErr; rw [hs, scan_yes hk hb]; rfl
theorem sb_no {L : List It} {ps : List Int} {y : Int} {k : Nat} (hs : scanJ (shBad L ps y) L.length 0 = scanJ (shBad L ps y) (L.length - k) k) (hk : k < L.length) (hb : shBad L ps y k = false) : scanJ (shBad L ps y) L.length 0 = scanJ (shBad L ps y) (L.length - (k + 1)) (k + 1) := by rw [hs, scan_no hk hb]
theorem sb_end {L : List It} {ps : List Int} {y : Int} {k : Nat} (hs : scanJ (shBad L ps y) L.length 0 = scanJ (shBad L ps y) (L.length - k) k) (hk : ¬ k < L.length) : shErr L ps y = false := by unfold shErr; rw [hs, scan_end hk]; rfl
theorem pb_yes {ps : List Int} {k : Nat} (hs : scanJ (paBad ps) ps.length 0 = scanJ (paBad ps) (ps.length - k) k) (hk : k < ps.length) (hb : paBad ps k = true) : paErr ps = true := by unfold paErr; rw [hs, scan_yes hk hb]; rfl
theorem pb_no {ps : List Int} {k : Nat} (hs : scanJ (paBad ps) ps.length 0 = scanJ (paBad ps) (ps.length - k) k) (hk : k < ps.length) (hb : paBad ps k = false) : scanJ (paBad ps) ps.length 0 = scanJ (paBad ps) (ps.length - (k + 1)) (k + 1) := by rw [hs, scan_no hk hb]
theorem pb_end {ps : List Int} {k : Nat} (hs : scanJ (paBad ps) ps.length 0 = scanJ (paBad ps) (ps.length - k) k) (hk : ¬ k < ps.length) : paErr ps = false := by unfold paErr; rw [hs, scan_end hk]; rfl

theorem clo71 (u : Int) (w : World) : Calls Try.prog 71 #[.int .i64 u] w fun e w' => e = .returned (.bool (!inB u 0 1000000)) ∧ w = w' := by
  go_enter Try.func71, Try.ntmps71
  go_wp2_with (go_at_call 66; refine (within_c _ _ _ _).mono ?_; rintro e w' ⟨rfl, rfl⟩)
  go_ret
  exact ⟨rfl, rfl⟩

theorem idx_71 (a : Option Addr) (n c : Nat) (L : List Int) (w : World) (h : IsO w a n L) (hn : n ≤ 9223372036854775807) : Calls Try.prog 98 #[.slice a n c, .func (.func 71) #[] #[]] w fun e w' => e = .returned (.int .i64 (iF (paBad L) n)) ∧ w = w' := by
  have HH := Lib.hid h
  have HI : Hid (∀ k, scanJ (paBad L) n 0 = some k → iF (paBad L) n = k) := fun k hk => iF_some hk
  have HI2 : Hid (scanJ (paBad L) n 0 = none → iF (paBad L) n = -1) := fun hk => iF_none hk
  generalize iF (paBad L) n = R at *
  clear h
  go_enter Try.func98, Try.ntmps98
  go_wp2_with fail
  go_loopw [8] (fun i wr => ∃ k : Nat, k ≤ n ∧ i = .int .i64 k ∧ w = wr ∧ Hid (scanJ (paBad L) n 0 = scanJ (paBad L) (n - k) k)) (fun i _ => n - (intOf i).toNat)
  case atStart => exact ⟨0, Nat.zero_le _, rfl, rfl, Lib.hid rfl⟩
  case round =>
    obtain ⟨k, hk, rfl, rfl, HF⟩ := hrel
    by_cases hlt : k < n
    · obtain ⟨b, o, rfl, hS⟩ : ∃ b o, a = some ⟨b, o, none⟩ ∧ Is w b o n L := by
        rcases HH.out.2 with h' | h'
        · omega
        · exact h'
      have c0 := hS.c0 k hlt
      have HLT := Lib.hid hlt
      clear hS
      go_wp2_with fail
      refine (clo71 _ _).mono ?_
      rintro e w2 ⟨rfl, rfl⟩
      have HP : Hid (paBad L k = !inB (gi L k) 0 1000000) := Lib.hid rfl
      cases hp : inB (gi L k) 0 1000000
      · have HPP := Lib.hid hp
        clear hp
        go_wp2_with fail
        go_ret
        exact ⟨by rw [HI.out k (by rw [HF.out, scan_yes HLT.out (by rw [HP.out, HPP.out]; rfl)])]; rfl, rfl⟩
      · have HPP := Lib.hid hp
        have D : Hid (scanJ (paBad L) n 0 = scanJ (paBad L) (n - (k + 1)) (k + 1)) := Lib.hid (by rw [HF.out, scan_no HLT.out (by rw [HP.out, HPP.out]; rfl)])
        clear hp
        go_wp2_with fail
        exact ⟨⟨k + 1, by omega, by go_num, trivial, D⟩, by simp [intOf]; omega⟩
    · have HK := Lib.hid hlt
      have hd : ¬ (k : Int) < n := by omega
      clear hlt
      go_wp2_with fail
      go_ret
      exact ⟨by rw [HI2.out (by rw [HF.out, scan_end HK.out])]; rfl, rfl⟩

theorem has_71 (a : Option Addr) (n c : Nat) (L : List Int) (w : World) (h : IsO w a n L) (hn : n ≤ 9223372036854775807) : Calls Try.prog 70 #[.slice a n c, .func (.func 71) #[] #[]] w fun e w' => e = .returned (.bool (paErr L)) ∧ w = w' := by
  have hl := h.1
  have e : paErr L = decide (0 ≤ iF (paBad L) n) := by rw [iF_ge]; unfold paErr; rw [hl]
  rw [e]
  have hR := iF_bd (p := paBad L) (n := n)
  have HX := Lib.hid (idx_71 a n c L w h hn)
  generalize iF (paBad L) n = R at *
  clear h hn hl e
  go_enter Try.func70, Try.ntmps70
  go_wp2_with fail
  refine HX.out.mono ?_
  rintro e w1 ⟨rfl, rfl⟩
  go_wp2_with fail
  go_ret
  exact ⟨rfl, rfl⟩

set_option maxRecDepth 100000 in
set_option maxHeartbeats 6400000 in
theorem Allow_c (a : Option Addr) (n c : Nat) (L : List It) (x y : Int) (pa : Option Addr) (p pc : Nat) (ps : List Int) (w : World) (h : SlO w a n L) (hp : IsO w pa p ps) (hp9 : p ≤ 1000000) : Calls Try.prog 24 #[.slice a n c, .agg #[.int .i64 x, .int .i64 y], .slice pa p pc] w fun e w' => e = .returned (.int .i64 (alErr L x y ps)) ∧ Below w.heap.size w w' := by
  have HLn := Lib.hid h.1
  have HPn := Lib.hid hp.1
  have HA : Hid (Below w.heap.size w (w.alloc (.cells #[.int .i64 x, .int .i64 y] 25))) := Lib.hid ((Below.refl _ _).alloc (Nat.le_refl _) _)
  have HC : Hid (Cell2 (w.alloc (.cells #[.int .i64 x, .int .i64 y] 25)) w.heap.size x y) := Lib.hid ⟨by simp [go_sem], by simp [go_sem], by simp [go_sem], by simp [go_sem]⟩
  have x0 := HC.out.c0
  have x1 := HC.out.c1
  by_cases h0 : liErr L x y = 0
  · have hne : (liErr L x y != 0) = false := by simp [h0]
    obtain ⟨hv0, hlim⟩ := liErr_zero.1 h0
    have HV := Lib.hid (vErr_zero.1 hv0)
    have HL := Lib.hid hlim
    have hn6 : n ≤ 6 := by have := HV.out.le; have := HLn.out; omega
    by_cases hpn : p = n
    · have hpn1 : ((p : Int) != (n : Int)) = false := by simp; omega
      have hpn2 : (p != n) = false := by simp; omega
      have HEQ : Hid (ps.length = L.length) := Lib.hid (by have := HLn.out; have := HPn.out; omega)
      have HPNN := Lib.hid hpn
      cases hpb : paErr ps
      · have A5 := Lib.hid (al_5 (x := x) (y := y) hv0 hlim HEQ.out hpb)
        have A8 := Lib.hid (al_8 (x := x) (y := y) hv0 hlim HEQ.out hpb)
        have A0 := Lib.hid (al_0 (x := x) (y := y) hv0 hlim HEQ.out hpb)
        have HPA := fun k => Lib.hid (pa_all (k := k) hpb)
        have HPB := Lib.hid hpb
        have HSB := Lib.hid (suK_bd (fun i hi => pa_all hpb hi))
        generalize alErr L x y ps = R at *
        have HPS := Lib.hid hp
        clear h0 hv0 hlim hpn hpb
        obtain ⟨l1, l2, l3, l4⟩ := limB_true.1 HL.out
        go_enter Try.func24, Try.ntmps24
        go_wp2_with fail
        refine (limited_c _ _ _ L x y _ (h.below HA.out (Nat.le_refl _))).mono ?_
        rintro e w1 ⟨rfl, hb1⟩
        have B1 := btr HA.out hb1
        have HC1 := Lib.hid (HC.out.below hb1)
        clear hb1 x0 x1
        go_wp2_with fail
        refine (has_71 _ _ _ ps _ (hp.below B1 (Nat.le_refl _)) (by omega)).mono ?_
        rintro e w2 ⟨rfl, rfl⟩
        rw [HPB.out]
        have HC2 := Lib.hid HC1.out
        have BB := Lib.hid B1
        have HH := Lib.hid h
        clear B1 h hp
        go_wp2_with fail
        go_loopw [8, 30] (fun s i wr => ∃ k : Nat, k ≤ p ∧ i = .int .i64 k ∧ s = .int .i64 (suK ps k) ∧ w1 = wr) (fun _ i _ => p - (intOf i).toNat)
        case atStart => exact ⟨0, Nat.zero_le _, rfl, rfl, rfl⟩
        case round =>
          obtain ⟨k, hk, rfl, rfl, rfl⟩ := hrel
          obtain ⟨s1, s2⟩ := HSB.out k (by have := HPn.out; omega)
          by_cases hlt : k < p
          · obtain ⟨b, o, rfl, hS⟩ : ∃ b o, pa = some ⟨b, o, none⟩ ∧ Is w b o p ps := by
              rcases HPS.out.2 with h' | h'
              · omega
              · exact h'
            have c0 := (hS.below BB.out (Nat.le_refl _)).c0 k hlt
            obtain ⟨g1, g2⟩ := (HPA k).out (by have := HPn.out; omega)
            have HST := Lib.hid (suK_step ps k)
            clear hS
            go_wp2_with fail
            exact ⟨⟨k + 1, by omega, by go_num, by rw [HST.out], trivial⟩, by simp [intOf]; omega⟩
          · have hd : ¬ (k : Int) < p := by omega
            have HKE : Hid (k = ps.length) := Lib.hid (by have := HPn.out; omega)
            have x0 := HC2.out.c0
            have x1 := HC2.out.c1
            clear hlt
            by_cases hsum : x < suK ps k
            · have D := Lib.hid (A5.out (by rw [← HKE.out]; exact hsum))
              go_wp2_with fail
              go_ret
              exact ⟨by rw [D.out]; rfl, BB.out⟩
            · have NS : Hid (¬ x < suK ps ps.length) := Lib.hid (by rw [← HKE.out]; exact hsum)
              clear A5
              go_wp2_with fail
              refine (shares_c a n c L _ (HH.out.below BB.out (Nat.le_refl _)) HV.out).mono ?_
              rintro e w2 ⟨v, rfl, hown, hb2⟩
              obtain ⟨av, cv, e2, hP2, -, -, -⟩ := ownsRow_p2 hown
              rw [shL_length, ← HLn.out] at e2 hP2
              subst e2
              have HP2 := Lib.hid hP2
              have HC3 := Lib.hid (HC2.out.below hb2)
              have B2 := Lib.hid (btr BB.out hb2)
              have T1 := fun k => Lib.hid (sb_yes (L := L) (ps := ps) (y := y) (k := k))
              have T2 := fun k => Lib.hid (sb_no (L := L) (ps := ps) (y := y) (k := k))
              have T3 := fun k => Lib.hid (sb_end (L := L) (ps := ps) (y := y) (k := k))
              clear hown hP2 hb2 x0 x1 s1 s2 hsum
              go_wp2_with fail
              go_loopw [45] (fun i wr => ∃ q : Nat, q ≤ n ∧ i = .int .i64 q ∧ Below w2.heap.size w2 wr ∧ Hid (scanJ (shBad L ps y) L.length 0 = scanJ (shBad L ps y) (L.length - q) q)) (fun i _ => n - (intOf i).toNat)
              case atStart => exact ⟨0, Nat.zero_le _, rfl, Below.refl _ _, Lib.hid rfl⟩
              case round =>
                obtain ⟨q, hq, rfl, hb, HSC⟩ := hrel
                by_cases hlt : q < n
                · have hqL : q < L.length := by have := HLn.out; omega
                  obtain ⟨b, o, rfl, hS⟩ : ∃ b o, pa = some ⟨b, o, none⟩ ∧ Is w b o p ps := by
                    rcases HPS.out.2 with h' | h'
                    · have := HPNN.out; omega
                    · exact h'
                  obtain ⟨bv, ov, rfl, hQ⟩ : ∃ b o, av = some ⟨b, o, none⟩ ∧ P2 w2 b o n (shL L) := by
                    rcases HP2.out.2 with h' | h'
                    · omega
                    · exact h'
                  have d0 := (hQ.below hb (Nat.le_refl _)).c0 q hlt
                  have d1 := (hQ.below hb (Nat.le_refl _)).c1 q hlt
                  rw [pr_shL hqL] at d0 d1
                  change _ = some (Value.int .i64 (shN (at_ L q))) at d0
                  change _ = some (Value.int .i64 (shD (at_ L q))) at d1
                  obtain ⟨z1, z2, z3, z4⟩ := sh_bd (HV.out.ok q hqL)
                  obtain ⟨g1, g2⟩ := (HPA q).out (by have := HPn.out; have := HPNN.out; omega)
                  have hqp : q < p := by have := HPNN.out; omega
                  have hal : Below wr.heap.size wr (wr.alloc (.cells #[.int .i64 (shN (at_ L q)), .int .i64 (shD (at_ L q))] 77)) := (Below.refl _ _).alloc (Nat.le_refl _) _
                  have e0 := ((hS.below B2.out (Nat.le_refl _)).below hb (Nat.le_refl _)).below hal (Nat.le_refl _)
                  have k0 := cell_regrown (e0.c0 q (by have := HPNN.out; omega))
                  have k1 := cell_regrown ((HC3.out.below hb).below hal).c1
                  have k2 := cell_regrown (w := wr.alloc (.cells #[.int .i64 (shN (at_ L q)), .int .i64 (shD (at_ L q))] 77)) (a := ⟨wr.heap.size, 0, none⟩) (v := .int .i64 (shN (at_ L q))) (by simp [go_sem])
                  have k3 := cell_regrown (w := wr.alloc (.cells #[.int .i64 (shN (at_ L q)), .int .i64 (shD (at_ L q))] 77)) (a := ⟨wr.heap.size, 1, none⟩) (v := .int .i64 (shD (at_ L q))) (by simp [go_sem])
                  have cF := fun d os => Calls.regrown_of (compare_c (shN (at_ L q)) (shD (at_ L q)) (gi ps q) y (grow (redrawn (wr.alloc (.cells #[.int .i64 (shN (at_ L q)), .int .i64 (shD (at_ L q))] 77)) d) os) ⟨z1, by omega, by omega, by omega⟩ ⟨g1, by omega, by omega, by omega⟩)
                  have TST := Lib.hid (sh_test (ps := ps) (y := y) (HV.out.ok q hqL))
                  have D1 := Lib.hid ((T1 q).out HSC.out hqL)
                  have D2 := Lib.hid ((T2 q).out HSC.out hqL)
                  have HBA := Lib.hid (btr hb hal)
                  clear hS hQ e0 hal T1 T2 T3
                  cases hsb : shBad L ps y q
                  · have D := Lib.hid (D2.out hsb)
                    have tD : decide (gi ps q * shD (at_ L q) < shN (at_ L q) * y) = false := by rw [TST.out, hsb]
                    clear hsb D1 D2 TST
                    go_wp2_with fail
                    refine wp_region_B (by kernel_rfl) (by kernel_rfl) ?_
                    repeat (go_big_quiet_step (with_reducible exact cF _ _))
                    refine wpQuiet_nil ?_
                    intro w5 hb5
                    go_wp2_with fail
                    exact ⟨⟨q + 1, by omega, by go_num, btr HBA.out hb5, D⟩, by simp [intOf]; omega⟩
                  · have D := Lib.hid (A8.out NS.out (D1.out hsb))
                    have tD : decide (gi ps q * shD (at_ L q) < shN (at_ L q) * y) = true := by rw [TST.out, hsb]
                    clear hsb D1 D2 TST
                    go_wp2_with fail
                    refine wp_region_B (by kernel_rfl) (by kernel_rfl) ?_
                    repeat (go_big_quiet_step (with_reducible exact cF _ _))
                    refine wpQuiet_nil ?_
                    intro w5 hb5
                    go_wp2_with fail
                    go_ret
                    exact ⟨by rw [D.out]; rfl, btr B2.out (btr HBA.out hb5)⟩
                · have hd2 : ¬ (q : Int) < n := by omega
                  have D := Lib.hid (A0.out NS.out ((T3 q).out HSC.out (by have := HLn.out; omega)))
                  clear hlt T1 T2 T3
                  go_wp2_with fail
                  go_ret
                  exact ⟨by rw [D.out]; rfl, btr B2.out hb⟩
      · have D := Lib.hid (al_1 (L := L) (x := x) (y := y) hv0 (.inr (.inr hpb)))
        rw [D.out]
        have HPB := Lib.hid hpb
        clear h0 hv0 hlim hpn hpb
        go_enter Try.func24, Try.ntmps24
        go_wp2_with fail
        refine (limited_c _ _ _ L x y _ (h.below HA.out (Nat.le_refl _))).mono ?_
        rintro e w1 ⟨rfl, hb1⟩
        have B1 := btr HA.out hb1
        have HC1 := Lib.hid (HC.out.below hb1)
        clear hb1 x0 x1
        go_wp2_with fail
        refine (has_71 _ _ _ ps _ (hp.below B1 (Nat.le_refl _)) (by omega)).mono ?_
        rintro e w2 ⟨rfl, rfl⟩
        rw [HPB.out]
        go_wp2_with fail
        go_ret
        exact ⟨rfl, B1⟩
    · have hpn1 : ((p : Int) != (n : Int)) = true := by simp; omega
      have hpn2 : (p != n) = true := by simp; omega
      have D := Lib.hid (al_1 (L := L) (x := x) (y := y) (ps := ps) hv0 (.inr (.inl (by have := HLn.out; have := HPn.out; omega))))
      rw [D.out]
      clear h0 hv0 hlim hpn
      go_enter Try.func24, Try.ntmps24
      go_wp2_with fail
      refine (limited_c _ _ _ L x y _ (h.below HA.out (Nat.le_refl _))).mono ?_
      rintro e w1 ⟨rfl, hb1⟩
      have B1 := btr HA.out hb1
      clear hb1 x0 x1
      go_wp2_with fail
      go_ret
      exact ⟨rfl, B1⟩
  · have hne : (liErr L x y != 0) = true := by simp [h0]
    have e : alErr L x y ps = liErr L x y := by
      by_cases hv : vErr L = 0
      · cases hl : limB x y
        · rw [al_1 hv (.inl hl), li_no hv hl]
        · exact absurd (li_ok hv hl) h0
      · rw [al_v hv, li_bad hv]
    rw [e]
    clear h0 e
    go_enter Try.func24, Try.ntmps24
    go_wp2_with fail
    refine (limited_c _ _ _ L x y _ (h.below HA.out (Nat.le_refl _))).mono ?_
    rintro e w1 ⟨rfl, hb1⟩
    have B1 := btr HA.out hb1
    clear hb1 x0 x1
    go_wp2_with fail
    go_ret
    exact ⟨rfl, B1⟩

theorem suP_bd {ps : List Int} : ∀ k : Nat, (∀ i, i < k → 0 ≤ gi ps i ∧ gi ps i ≤ 1000000) → 0 ≤ suK ps k ∧ suK ps k ≤ 1000000 * k
  | 0, _ => by simp [suK, sumP]
  | k + 1, h => by
    have ih := suP_bd k (fun i hi => h i (by omega))
    have := h k (by omega)
    rw [suK_step]; omega
theorem pb_ok {ps : List Int} {k : Nat} (h : paBad ps k = false) : 0 ≤ gi ps k ∧ gi ps k ≤ 1000000 := by
  unfold paBad at h
  rw [Bool.not_eq_false', inB_true] at h
  exact h
theorem sl_one {w : World} {b o n q : Nat} {L : List It} (h : Sl w b o n L) (hq : q < n) : SlO w (some ⟨b, o + q * 3, none⟩) 1 [at_ L q] := by
  have key : ∀ i, i < 1 → i = 0 := fun i hi => by omega
  refine SlO.of ⟨rfl, h.lt, ?_, ?_, ?_⟩
  · intro i hi
    rw [key i hi]
    simpa [at_] using h.c0 q hq
  · intro i hi
    rw [key i hi]
    simpa [at_] using h.c1 q hq
  · intro i hi
    rw [key i hi]
    simpa [at_] using h.c2 q hq
theorem vu_one {L : List It} (h : Valid L) {q : Nat} (hq : q < L.length) : VU [at_ L q] :=
  ⟨by simp, fun i hi => by
    obtain rfl : i = 0 := by simp at hi; omega
    have := h.bd hq
    have e : at_ [at_ L q] 0 = at_ L q := rfl
    rw [e]; omega⟩

set_option maxRecDepth 100000 in
set_option maxHeartbeats 6400000 in
theorem rAllow_c (a : Option Addr) (n c : Nat) (L : List It) (x y : Int) (pa : Option Addr) (p pc : Nat) (ps : List Int) (w : World) (h : SlO w a n L) (hcn : n ≤ c) (hp : IsO w pa p ps) (hp9 : p ≤ 1000000) : Calls Try.prog 50 #[.slice a n c, .agg #[.int .i64 x, .int .i64 y], .slice pa p pc] w fun e w' => e = .returned (.int .i64 (alErr L x y ps)) ∧ Below w.heap.size w w' := by
  have HLn := Lib.hid h.1
  have HPn := Lib.hid hp.1
  have HA : Hid (Below w.heap.size w (w.alloc (.cells #[.int .i64 x, .int .i64 y] 25))) := Lib.hid ((Below.refl _ _).alloc (Nat.le_refl _) _)
  have HC : Hid (Cell2 (w.alloc (.cells #[.int .i64 x, .int .i64 y] 25)) w.heap.size x y) := Lib.hid ⟨by simp [go_sem], by simp [go_sem], by simp [go_sem], by simp [go_sem]⟩
  by_cases hv0 : vErr L = 0
  · have hne : (vErr L != 0) = false := by simp [hv0]
    have HV := Lib.hid (vErr_zero.1 hv0)
    have hn6 : n ≤ 6 := by have := HV.out.le; have := HLn.out; omega
    cases hlim : limB x y
    · have D := Lib.hid (al_1 (L := L) (x := x) (y := y) (ps := ps) hv0 (.inl hlim))
      rw [D.out]
      have HLB := Lib.hid hlim
      clear hv0 hlim
      go_enter Try.func50, Try.ntmps50
      go_wp2_with fail
      refine (rValidate_c _ _ _ _ _ (h.below HA.out (Nat.le_refl _))).mono ?_
      rintro e w1 ⟨rfl, hb1⟩
      have B1 := btr HA.out hb1
      have HC1 := Lib.hid (HC.out.below hb1)
      have y0 := HC1.out.c0
      have y1 := HC1.out.c1
      clear hb1
      go_wp2_with fail
      refine (Calls.val (rIsLimit_c x y _) (vb HLB.out)).mono ?_
      rintro e w2 ⟨rfl, hb2⟩
      have B2 := btr B1 hb2
      go_wp2_with fail
      go_ret
      exact ⟨rfl, B2⟩
    · have HLB := Lib.hid hlim
      obtain ⟨l1, l2, l3, l4⟩ := limB_true.1 hlim
      by_cases hpn : p = n
      · have hpn1 : ((p : Int) != (n : Int)) = false := by simp; omega
        have hpn2 : (p != n) = false := by simp; omega
        have HEQ : Hid (ps.length = L.length) := Lib.hid (by have := HLn.out; have := HPn.out; omega)
        have HPNN := Lib.hid hpn
        have hpn6 : p ≤ 6 := by omega
        have A1 : Hid (paErr ps = true → alErr L x y ps = 1) := Lib.hid (fun hh => al_1 hv0 (.inr (.inr hh)))
        have A5 := Lib.hid (al_5 (x := x) (y := y) hv0 hlim HEQ.out)
        have A8 := Lib.hid (al_8 (x := x) (y := y) hv0 hlim HEQ.out)
        have A0 := Lib.hid (al_0 (x := x) (y := y) hv0 hlim HEQ.out)
        have U1 := fun k => Lib.hid (pb_yes (ps := ps) (k := k))
        have U2 := fun k => Lib.hid (pb_no (ps := ps) (k := k))
        have U3 := fun k => Lib.hid (pb_end (ps := ps) (k := k))
        generalize alErr L x y ps = R at *
        have HPS := Lib.hid hp
        have HH := Lib.hid h
        clear hv0 hlim hpn
        go_enter Try.func50, Try.ntmps50
        go_wp2_with fail
        refine (rValidate_c _ _ _ _ _ (h.below HA.out (Nat.le_refl _))).mono ?_
        rintro e w1 ⟨rfl, hb1⟩
        have B1 := btr HA.out hb1
        have HC1 := Lib.hid (HC.out.below hb1)
        have y0 := HC1.out.c0
        have y1 := HC1.out.c1
        clear hb1
        go_wp2_with fail
        refine (Calls.val (rIsLimit_c x y _) (vb HLB.out)).mono ?_
        rintro e w2 ⟨rfl, hb2⟩
        have BB := Lib.hid (btr B1 hb2)
        have HC2 := Lib.hid (HC1.out.below hb2)
        clear hb2 B1 h hp y0 y1
        go_wp2_with fail
        go_loopw [8, 9] (fun s i wr => ∃ k : Nat, k ≤ p ∧ i = .int .i64 k ∧ s = .int .i64 (suK ps k) ∧ w2 = wr ∧ Hid (scanJ (paBad ps) ps.length 0 = scanJ (paBad ps) (ps.length - k) k) ∧ Hid (∀ i, i < k → 0 ≤ gi ps i ∧ gi ps i ≤ 1000000)) (fun _ i _ => p - (intOf i).toNat)
        case atStart => exact ⟨0, Nat.zero_le _, rfl, rfl, rfl, Lib.hid rfl, Lib.hid (fun i hi => absurd hi (by omega))⟩
        case round =>
          obtain ⟨k, hk, rfl, rfl, rfl, HSC, HPR⟩ := hrel
          obtain ⟨s1, s2⟩ := suP_bd k HPR.out
          by_cases hlt : k < p
          · have hkp : k < ps.length := by have := HPn.out; omega
            obtain ⟨b, o, rfl, hS⟩ : ∃ b o, pa = some ⟨b, o, none⟩ ∧ Is w b o p ps := by
              rcases HPS.out.2 with h' | h'
              · omega
              · exact h'
            have c0 := (hS.below BB.out (Nat.le_refl _)).c0 k hlt
            have HST := Lib.hid (suK_step ps k)
            have D1 := Lib.hid ((U1 k).out HSC.out hkp)
            have D2 := Lib.hid ((U2 k).out HSC.out hkp)
            have HPX : Hid (paBad ps k = !inB (gi ps k) 0 1000000) := Lib.hid rfl
            clear hS hkp U1 U2 U3
            cases t1 : inB (gi ps k) 0 1000000
            · have D := Lib.hid (A1.out (D1.out (by rw [HPX.out, t1]; rfl)))
              go_wp2_with fail
              refine (rWithin_c _ _ _ _).mono ?_
              rintro e w3 ⟨rfl, rfl⟩
              rw [t1]
              go_wp2_with fail
              go_ret
              exact ⟨by rw [D.out]; rfl, BB.out⟩
            · obtain ⟨g1, g2⟩ := inB_true.1 t1
              have D := Lib.hid (D2.out (by rw [HPX.out, t1]; rfl))
              have HPR2 : Hid (∀ i, i < k + 1 → 0 ≤ gi ps i ∧ gi ps i ≤ 1000000) := Lib.hid (fun i hi => by
                rcases Nat.lt_or_ge i k with hi' | hi'
                · exact HPR.out i hi'
                · obtain rfl : i = k := by omega
                  exact ⟨g1, g2⟩)
              go_wp2_with fail
              refine (rWithin_c _ _ _ _).mono ?_
              rintro e w3 ⟨rfl, rfl⟩
              rw [t1]
              clear t1 D1 D2
              go_wp2_with fail
              exact ⟨⟨k + 1, by omega, by go_num, by rw [HST.out], trivial, D, HPR2⟩, by simp [intOf]; omega⟩
          · have hd : ¬ (k : Int) < p := by omega
            have HKE : Hid (k = ps.length) := Lib.hid (by have := HPn.out; omega)
            have HPF := Lib.hid ((U3 k).out HSC.out (by have := HKE.out; omega))
            have x0 := HC2.out.c0
            have x1 := HC2.out.c1
            clear hlt U1 U2 U3
            by_cases hsum : x < suK ps k
            · have D := Lib.hid (A5.out HPF.out (by rw [← HKE.out]; exact hsum))
              go_wp2_with fail
              go_ret
              exact ⟨by rw [D.out]; rfl, BB.out⟩
            · have NS : Hid (¬ x < suK ps ps.length) := Lib.hid (by rw [← HKE.out]; exact hsum)
              have HPR3 : Hid (∀ i, i < n → 0 ≤ gi ps i ∧ gi ps i ≤ 1000000) := Lib.hid (fun i hi => HPR.out i (by have := HPNN.out; omega))
              have T1 := fun k => Lib.hid (sb_yes (L := L) (ps := ps) (y := y) (k := k))
              have T2 := fun k => Lib.hid (sb_no (L := L) (ps := ps) (y := y) (k := k))
              have T3 := fun k => Lib.hid (sb_end (L := L) (ps := ps) (y := y) (k := k))
              clear A5 A1 HPR HSC
              go_wp2_with fail
              clear s1 s2 hsum x0 x1
              go_loopw [10] (fun i wr => ∃ q : Nat, q ≤ n ∧ i = .int .i64 q ∧ Below w2.heap.size w2 wr ∧ Hid (scanJ (shBad L ps y) L.length 0 = scanJ (shBad L ps y) (L.length - q) q)) (fun i _ => n - (intOf i).toNat)
              case atStart => exact ⟨0, Nat.zero_le _, rfl, Below.refl _ _, Lib.hid rfl⟩
              case round =>
                obtain ⟨q, hq, rfl, hb, HSC⟩ := hrel
                by_cases hlt : q < n
                · have hqL : q < L.length := by have := HLn.out; omega
                  obtain ⟨b, o, rfl, hS⟩ : ∃ b o, pa = some ⟨b, o, none⟩ ∧ Is w b o p ps := by
                    rcases HPS.out.2 with h' | h'
                    · have := HPNN.out; omega
                    · exact h'
                  obtain ⟨bv, ov, rfl, hQ⟩ : ∃ b o, a = some ⟨b, o, none⟩ ∧ Sl w b o n L := by
                    rcases HH.out.2 with h' | h'
                    · omega
                    · exact h'
                  obtain ⟨g1, g2⟩ := HPR3.out q hlt
                  have hqp : q < p := by have := HPNN.out; omega
                  have hqc : ¬ c = q := by omega
                  have hqc1 : q ≤ c := by omega
                  have hqc2 : q + 1 ≤ c := by omega
                  have e0 := (hS.below BB.out (Nat.le_refl _)).below hb (Nat.le_refl _)
                  have k0 := cell_regrown (e0.c0 q hqp)
                  have k1 := cell_regrown (HC2.out.below hb).c1
                  have hs1 : IntKind.i64.wrap ((q : Int) + 1) = ((q + 1 : Nat) : Int) := by rw [IntWalk.i64_in _ (by omega)]; omega
                  have hQ2 := sl_one ((hQ.below BB.out (Nat.le_refl _)).below hb (Nat.le_refl _)) hlt
                  have cF := fun d os => Calls.regrown_of (rcloses_c (some ⟨bv, ov + q * 3, none⟩) 1 (c - q) [at_ L q] (gi ps q) y (grow (redrawn wr d) os) (hQ2.below (below_regrown _ d os) (Nat.le_refl _)) (vu_one HV.out hqL) (limB_true.2 ⟨by omega, by omega, g1, g2⟩))
                  have HSBQ : Hid (shBad L ps y q = !clB [at_ L q] (gi ps q) y) := Lib.hid rfl
                  have D1 := Lib.hid ((T1 q).out HSC.out hqL)
                  have D2 := Lib.hid ((T2 q).out HSC.out hqL)
                  clear hS hQ e0 hQ2 T1 T2 T3
                  cases hcl : clB [at_ L q] (gi ps q) y
                  · have D := Lib.hid (A8.out HPF.out NS.out (D1.out (by rw [HSBQ.out, hcl]; rfl)))
                    rw [hcl] at cF
                    clear hcl D1 D2
                    go_wp2_with fail
                    refine wp_region_B (by kernel_rfl) (by kernel_rfl) ?_
                    repeat (go_big_quiet_step (exact cF _ _))
                    refine wpQuiet_nil ?_
                    intro w5 hb5
                    clear hs1 cF
                    go_wp2_with fail
                    go_ret
                    exact ⟨by rw [D.out]; rfl, btr BB.out (btr hb hb5)⟩
                  · have D := Lib.hid (D2.out (by rw [HSBQ.out, hcl]; rfl))
                    rw [hcl] at cF
                    clear hcl D1 D2
                    go_wp2_with fail
                    refine wp_region_B (by kernel_rfl) (by kernel_rfl) ?_
                    repeat (go_big_quiet_step (exact cF _ _))
                    refine wpQuiet_nil ?_
                    intro w5 hb5
                    clear hs1 cF
                    go_wp2_with fail
                    exact ⟨⟨q + 1, by omega, by go_num, btr hb hb5, D⟩, by simp [intOf]; omega⟩
                · have hd2 : ¬ (q : Int) < n := by omega
                  have D := Lib.hid (A0.out HPF.out NS.out ((T3 q).out HSC.out (by have := HLn.out; omega)))
                  clear hlt T1 T2 T3
                  go_wp2_with fail
                  go_ret
                  exact ⟨by rw [D.out]; rfl, btr BB.out hb⟩
      · have hpn1 : ((p : Int) != (n : Int)) = true := by simp; omega
        have hpn2 : (p != n) = true := by simp; omega
        have D := Lib.hid (al_1 (L := L) (x := x) (y := y) (ps := ps) hv0 (.inr (.inl (by have := HLn.out; have := HPn.out; omega))))
        rw [D.out]
        clear hv0 hlim hpn
        go_enter Try.func50, Try.ntmps50
        go_wp2_with fail
        refine (rValidate_c _ _ _ _ _ (h.below HA.out (Nat.le_refl _))).mono ?_
        rintro e w1 ⟨rfl, hb1⟩
        have B1 := btr HA.out hb1
        have HC1 := Lib.hid (HC.out.below hb1)
        have y0 := HC1.out.c0
        have y1 := HC1.out.c1
        clear hb1
        go_wp2_with fail
        refine (Calls.val (rIsLimit_c x y _) (vb HLB.out)).mono ?_
        rintro e w2 ⟨rfl, hb2⟩
        have B2 := btr B1 hb2
        go_wp2_with fail
        go_ret
        exact ⟨rfl, B2⟩
  · have hne : (vErr L != 0) = true := by simp [hv0]
    rw [al_v hv0]
    clear hv0
    go_enter Try.func50, Try.ntmps50
    go_wp2_with fail
    refine (rValidate_c _ _ _ _ _ (h.below HA.out (Nat.le_refl _))).mono ?_
    rintro e w1 ⟨rfl, hb1⟩
    have B1 := btr HA.out hb1
    clear hb1
    go_wp2_with fail
    go_ret
    exact ⟨rfl, B1⟩

end Go.Proofs.Ytplindidegmlkaa
