/- Worst of budget; slices.MaxFunc. -/
import Derived.Test.YtplindidegmlkaaAl
import Derived.Test.YtplindidegmlkaaMath5
import Derived.Test.YtplindidegmlkaaY
namespace Go.Proofs.Ytplindidegmlkaa
open Go.RowKit Go.Sort

/-- The greatest share of the first k items, in parts of the whole. -/
def mx (L : List It) : Nat → Int
  | 0 => 0
  | k + 1 => if mx L k < wI (at_ L k) then wI (at_ L k) else mx L k
theorem mx_up {L : List It} {k : Nat} (h : mx L k < wI (at_ L k)) : mx L (k + 1) = wI (at_ L k) := if_pos h
theorem mx_keep {L : List It} {k : Nat} (h : ¬ mx L k < wI (at_ L k)) : mx L (k + 1) = mx L k := if_neg h
theorem mx_bd {L : List It} (hv : Valid L) : ∀ k : Nat, k ≤ L.length → 0 ≤ mx L k ∧ mx L k ≤ 20160
  | 0, _ => by simp [mx]
  | k + 1, h => by
    have ih := mx_bd hv k (by omega)
    have := wI_bd (hv.ok k (by omega))
    rw [mx]; split <;> omega
theorem mx_one {L : List It} (hv : Valid L) (h : 0 < L.length) : mx L 1 = wI (at_ L 0) := by
  have := wI_bd (hv.ok 0 h)
  rw [mx, mx]
  split <;> omega
theorem mx_hit {L : List It} (hv : Valid L) : ∀ k : Nat, 0 < k → k ≤ L.length → ∃ i, i < k ∧ wI (at_ L i) = mx L k
  | 0, h, _ => by omega
  | k + 1, _, h => by
    by_cases hk : mx L k < wI (at_ L k)
    · exact ⟨k, by omega, (mx_up hk).symm⟩
    · rw [mx_keep hk]
      rcases Nat.eq_zero_or_pos k with rfl | h0
      · have := wI_bd (hv.ok 0 (by omega))
        have e : mx L 0 = 0 := rfl
        rw [e] at hk ⊢
        exact ⟨0, by omega, by omega⟩
      · obtain ⟨i, hi, e⟩ := mx_hit hv k h0 (by omega)
        exact ⟨i, by omega, e⟩
/-- Which of the first k items have the share M. -/
def hasM (L : List It) (M : Int) (k : Nat) : List Int := ((List.range k).filter (fun i => decide (wI (at_ L i) = M))).map Int.ofNat
theorem hasM_yes {L : List It} {M : Int} {k : Nat} (h : wI (at_ L k) = M) : hasM L M (k + 1) = hasM L M k ++ [(k : Int)] := by
  unfold hasM
  rw [List.range_succ, List.filter_append, List.map_append]
  simp [h]
theorem hasM_no {L : List It} {M : Int} {k : Nat} (h : ¬ wI (at_ L k) = M) : hasM L M (k + 1) = hasM L M k := by
  unfold hasM
  rw [List.range_succ, List.filter_append, List.map_append]
  simp [h]
theorem hasM_len (L : List It) (M : Int) (k : Nat) : (hasM L M k).length ≤ k := by
  unfold hasM
  rw [List.length_map]
  have := List.length_filter_le (fun i => decide (wI (at_ L i) = M)) (List.range k)
  rwa [List.length_range] at this
theorem hasM_snoc {L : List It} {M : Int} {k : Nat} (h : wI (at_ L k) = M) : (hasM L M (k + 1)).length = (hasM L M k).length + 1 ∧ (hasM L M (k + 1)).map (Value.int .i64) = (hasM L M k).map (Value.int .i64) ++ [.int .i64 (k : Int)] := by
  rw [hasM_yes h]; simp
theorem hasM_pos {L : List It} {M : Int} {k i : Nat} (hi : i < k) (h : wI (at_ L i) = M) : 0 < (hasM L M k).length := by
  have : (i : Int) ∈ hasM L M k := by
    unfold hasM
    rw [List.mem_map]
    exact ⟨i, by simp [hi, h], rfl⟩
  exact List.length_pos_of_mem this
def wsL (L : List It) : List Int := if vErr L = 0 then hasM L (mx L L.length) L.length else []
theorem ws_ok {L : List It} (h : vErr L = 0) : wsL L = hasM L (mx L L.length) L.length := if_pos h
theorem ws_bad {L : List It} (h : vErr L ≠ 0) : wsL L = [] := if_neg h
theorem red_inj {a b : Int} (h1 : redN a 2520 = redN b 2520) (h2 : redD a 2520 = redD b 2520) : a = b := by
  have e1 := red_id a 2520 (by decide)
  have e2 := red_id b 2520 (by decide)
  have p := redD_pos (n := b) (d := 2520) (by decide)
  rw [h1, h2, e2] at e1
  exact (Int.eq_of_mul_eq_mul_right (by omega) e1).symm

theorem cells1_past (w : World) (o : Obj) (x : Value) (t : TypeId) : ∀ j u, [x][j]? = some u → ((w.alloc o).alloc (.cells #[x] t)).cell? ((⟨w.heap.size + 1, 0, none⟩ : Addr).add j) = some u := by
  have h := cells1_new (w.alloc o) x t
  simpa using h

set_option maxRecDepth 100000 in
set_option maxHeartbeats 3200000 in
theorem MaxFunc_c (a : Option Addr) (n c : Nat) (L : List It) (w : World) (h : P2O w a n (shL L)) (hv : Valid L) (hn : 0 < n) : Calls Try.prog 61 #[.slice a n c, .func (.func 62) #[] #[]] w (RetF w (redN (mx L n) 2520) (redD (mx L n) 2520)) := by
  have HLn : Hid (n = L.length) := Lib.hid (by have := h.1; rw [shL_length] at this; exact this)
  have HV := Lib.hid hv
  have hn6 : n ≤ 6 := by have := hv.le; have := HLn.out; omega
  obtain ⟨b, o, rfl, hQ⟩ : ∃ b o, a = some ⟨b, o, none⟩ ∧ P2 w b o n (shL L) := by
    rcases h.2 with h' | h'
    · omega
    · exact h'
  have SHE : Hid (∀ k, k < n → pr (shL L) k = (redN (wI (at_ L k)) 2520, redD (wI (at_ L k)) 2520)) := Lib.hid (fun k hk => by
    have hkL : k < L.length := by have := HLn.out; omega
    obtain ⟨e1, e2⟩ := sh_parts (hv.ok k hkL)
    rw [pr_shL hkL]
    unfold shF
    rw [e1, e2])
  have hal : Below w.heap.size w (w.alloc (.cells #[.int .i64 0, .int .i64 0] 77)) := (Below.refl _ _).alloc (Nat.le_refl _) _
  have d0 := hQ.c0 0 hn
  have d1 := hQ.c1 0 hn
  rw [SHE.out 0 hn] at d0 d1
  dsimp only at d0 d1
  have hbl := hQ.lt
  have M1 := Lib.hid (mx_one hv (by have := HLn.out; omega))
  rw [← M1.out] at d0 d1
  simp only [Nat.zero_mul, Nat.add_zero] at d0 d1
  have HQ := Lib.hid hQ
  have HB0 : Hid (Below w.heap.size w ((w.alloc (.cells #[.int .i64 0, .int .i64 0] 77)).alloc (.cells #[.int .i64 (redN (mx L 1) 2520), .int .i64 (redD (mx L 1) 2520)] 77))) := Lib.hid (hal.alloc (by simp) _)
  have HC0 : Hid (Cell2 ((w.alloc (.cells #[.int .i64 0, .int .i64 0] 77)).alloc (.cells #[.int .i64 (redN (mx L 1) 2520), .int .i64 (redD (mx L 1) 2520)] 77)) w.heap.size 0 0) := Lib.hid ⟨by simp [go_sem], by simp [go_sem], by simp [go_sem], by simp [go_sem]⟩
  have HC1 : Hid (Cell2 ((w.alloc (.cells #[.int .i64 0, .int .i64 0] 77)).alloc (.cells #[.int .i64 (redN (mx L 1) 2520), .int .i64 (redD (mx L 1) 2520)] 77)) (w.heap.size + 1) (redN (mx L 1) 2520) (redD (mx L 1) 2520)) := Lib.hid ⟨by simp [go_sem], by simp [go_sem], by simp [go_sem], by simp [go_sem]⟩
  have hn1 : ¬ (n : Int) < 1 := by omega
  clear h hv hQ hal
  go_enter Try.func61, Try.ntmps61
  go_wp2_with fail
  go_loopw [6] (fun i wr => ∃ k : Nat, 1 ≤ k ∧ k ≤ n ∧ i = .int .i64 k ∧ Below w.heap.size w wr ∧ Cell2 wr w.heap.size 0 0 ∧ Cell2 wr (w.heap.size + 1) (redN (mx L k) 2520) (redD (mx L k) 2520)) (fun i _ => n - (intOf i).toNat)
  case atStart => exact ⟨1, Nat.le_refl _, hn, rfl, HB0.out, HC0.out, HC1.out⟩
  case round =>
    obtain ⟨k, hk1, hk, rfl, hb, hC0, hC1⟩ := hrel
    clear HB0 HC0 HC1 d0 d1 M1
    have HC0 := Lib.hid hC0
    have HC1 := Lib.hid hC1
    clear hC0 hC1
    by_cases hlt : k < n
    · have hkL : k < L.length := by have := HLn.out; omega
      have hQ := HQ.out.below hb (Nat.le_refl _)
      have d0 := hQ.c0 k hlt
      have d1 := hQ.c1 k hlt
      rw [SHE.out k hlt] at d0 d1
      dsimp only at d0 d1
      have k0 := cell_regrown d0
      have k1 := cell_regrown d1
      have k2 := cell_regrown HC1.out.c0
      have k3 := cell_regrown HC1.out.c1
      obtain ⟨p1, p2⟩ := wI_bd (HV.out.ok k hkL)
      obtain ⟨q1, q2⟩ := mx_bd HV.out k (by omega)
      obtain ⟨f1, f2, f3, f4⟩ := frac_bd (a := wI (at_ L k)) (by omega) (by omega)
      obtain ⟨g1, g2, g3, g4⟩ := frac_bd (a := mx L k) (by omega) (by omega)
      have cF := fun d os => Calls.regrown_of (compare_c (redN (wI (at_ L k)) 2520) (redD (wI (at_ L k)) 2520) (redN (mx L k) 2520) (redD (mx L k) 2520) (grow (redrawn wr d) os) ⟨f1, by omega, by omega, by omega⟩ ⟨g1, by omega, by omega, by omega⟩)
      have RC := Lib.hid (red_cmp (mx L k) (wI (at_ L k)))
      have HB := Lib.hid hb
      clear hQ d0 d1
      by_cases hls : mx L k < wI (at_ L k)
      · have tD : decide (redN (mx L k) 2520 * redD (wI (at_ L k)) 2520 < redN (wI (at_ L k)) 2520 * redD (mx L k) 2520) = true := decT (RC.out.2 hls)
        have HM := Lib.hid (mx_up hls)
        clear hls RC
        go_wp2_with fail
        refine wp_region_B (by kernel_rfl) (by kernel_rfl) ?_
        repeat (go_big_quiet_step (with_reducible exact cF _ _))
        refine wpQuiet_nil ?_
        intro w2 hb2
        have B2 := btr HB.out hb2
        have hQ2 := HQ.out.below B2 (Nat.le_refl _)
        have d0 := hQ2.c0 k hlt
        have d1 := hQ2.c1 k hlt
        rw [SHE.out k hlt] at d0 d1
        dsimp only at d0 d1
        have HD0 := Lib.hid (HC0.out.below hb2)
        have HD1 := Lib.hid (HC1.out.below hb2)
        have y0 := HD1.out.c0
        have y1 := HD1.out.c1
        have z0 := HD1.out.f0
        have z1 := HD1.out.f1
        clear k0 k1 k2 k3 cF tD hQ2 hb2
        go_wp2_with fail
        exact ⟨⟨k + 1, by omega, by omega, by go_num, (B2.setCell (Nat.le_add_right _ 1) _).setCell (Nat.le_add_right _ 1) _, (HD0.out.set (by omega)).set (by omega), by rw [HM.out]; exact HD1.out.store _ _⟩, by simp [intOf]; omega⟩
      · have tD : decide (redN (mx L k) 2520 * redD (wI (at_ L k)) 2520 < redN (wI (at_ L k)) 2520 * redD (mx L k) 2520) = false := decF (fun hh => hls (RC.out.1 hh))
        have HM := Lib.hid (mx_keep hls)
        clear hls RC
        go_wp2_with fail
        refine wp_region_B (by kernel_rfl) (by kernel_rfl) ?_
        repeat (go_big_quiet_step (with_reducible exact cF _ _))
        refine wpQuiet_nil ?_
        intro w2 hb2
        have B2 := btr HB.out hb2
        have HD0 := Lib.hid (HC0.out.below hb2)
        have HD1 := Lib.hid (HC1.out.below hb2)
        clear k0 k1 k2 k3 cF tD hb2
        go_wp2_with fail
        exact ⟨⟨k + 1, by omega, by omega, by go_num, B2, HD0.out, by rw [HM.out]; exact HD1.out⟩, by simp [intOf]; omega⟩
    · have hd : ¬ (k : Int) < n := by omega
      have HK : Hid (k = n) := Lib.hid (by omega)
      have y0 := HC0.out.c0
      have y1 := HC0.out.c1
      have z0 := HC0.out.f0
      have z1 := HC0.out.f1
      have u0 := HC1.out.c0
      have u1 := HC1.out.c1
      rw [HK.out] at u0 u1
      clear hlt
      go_wp2_with fail
      refine bodyPost_ret (v := .agg #[.int .i64 (redN (mx L n) 2520), .int .i64 (redD (mx L n) 2520)]) (by simp [results, Try.results61, go_sem, y0, y1]) rfl ⟨rfl, ?_⟩
      go_grown
set_option maxRecDepth 100000 in
set_option maxHeartbeats 6400000 in
theorem Worst_c (a : Option Addr) (n c : Nat) (L : List It) (w : World) (h : SlO w a n L) (hn9 : n ≤ 9223372036854775807) : Calls Try.prog 18 #[.slice a n c] w (RetI2 w (wsL L) (vErr L)) := by
  by_cases h0 : vErr L = 0
  · have hne : (vErr L != 0) = false := by simp [h0]
    have HV := Lib.hid (vErr_zero.1 h0)
    have HE := Lib.hid h0
    have HLn := Lib.hid h.1
    have hn6 : n ≤ 6 := by have := HV.out.le; have := HLn.out; omega
    by_cases hz : n = 0
    · have hz1 : ((n : Int) == 0) = true := by simp; omega
      have hz2 : (n == 0) = true := by simp; omega
      have HW : Hid (wsL L = []) := Lib.hid (by rw [ws_ok h0, show L.length = 0 by have := HLn.out; omega]; rfl)
      rw [HW.out, h0]
      clear hz h0
      go_enter Try.func18, Try.ntmps18
      go_wp2_with fail
      refine (Validate_c _ _ _ _ _ h).mono ?_
      rintro e w1 ⟨rfl, hb1⟩
      go_wp2_with fail
      go_ret2
      exact ⟨_, rfl, IsV.nil _ _, hb1⟩
    · have hz1 : ((n : Int) == 0) = false := by simp; omega
      have hz2 : (n == 0) = false := by simp; omega
      have HW : Hid (wsL L = hasM L (mx L n) n) := Lib.hid (by rw [ws_ok h0, HLn.out])
      rw [HW.out]
      obtain ⟨i3, hi3, hz30, hz31, hz32⟩ := info_parts info3
      have hnp : 0 < n := by omega
      have SHE : Hid (∀ k, k < n → pr (shL L) k = (redN (wI (at_ L k)) 2520, redD (wI (at_ L k)) 2520)) := Lib.hid (fun k hk => by
        have hkL : k < L.length := by have := HLn.out; omega
        obtain ⟨e1, e2⟩ := sh_parts (HV.out.ok k hkL)
        rw [pr_shL hkL]
        unfold shF
        rw [e1, e2])
      clear hz h0
      go_enter Try.func18, Try.ntmps18
      go_wp2_with fail
      refine (Validate_c _ _ _ _ _ h).mono ?_
      rintro e w1 ⟨rfl, hb1⟩
      go_wp2_with fail
      refine (shares_c a n c L _ (h.below hb1 (Nat.le_refl _)) HV.out).mono ?_
      rintro e w2 ⟨v, rfl, hown, hb2⟩
      obtain ⟨av, cv, e2, hP2, -, -, -⟩ := ownsRow_p2 hown
      rw [shL_length, ← HLn.out] at e2 hP2
      subst e2
      have B2 := btr hb1 hb2
      clear hown hb1 hb2 h
      go_wp2_with fail
      refine (MaxFunc_c av n cv L _ hP2 HV.out hnp).mono ?_
      rintro e w3 ⟨rfl, hb3⟩
      generalize hM : mx L n = M at *
      have HM := Lib.hid hM
      have HP3 := hP2.below hb3 (Nat.le_refl _)
      have B3 := btr B2 hb3
      have hal : Below w3.heap.size w3 (w3.alloc (.cells #[.int .i64 (redN M 2520), .int .i64 (redD M 2520)] 77)) := (Below.refl _ _).alloc (Nat.le_refl _) _
      have HP4 := Lib.hid (HP3.below hal (Nat.le_refl _))
      have B4 := Lib.hid (btr B3 hal)
      have HX : Hid (Cell2 (w3.alloc (.cells #[.int .i64 (redN M 2520), .int .i64 (redD M 2520)] 77)) w3.heap.size (redN M 2520) (redD M 2520)) := Lib.hid ⟨by simp [go_sem], by simp [go_sem], by simp [go_sem], by simp [go_sem]⟩
      have HS4 : Hid ((w3.alloc (.cells #[.int .i64 (redN M 2520), .int .i64 (redD M 2520)] 77)).heap.size = w3.heap.size + 1) := Lib.hid (by simp)
      clear hP2 hb3 HP3 B3 hal hM
      go_wp2_with fail
      generalize w3.alloc (.cells #[.int .i64 (redN M 2520), .int .i64 (redD M 2520)] 77) = wk at *
      generalize w3.heap.size = b6 at *
      go_loopw [7, 24] (fun v i wr => ∃ k : Nat, k ≤ n ∧ i = .int .i64 k ∧ Below wk.heap.size wk wr ∧ wr.ownsRow wk.heap.size 3 1 v (hasM L M k).length ((hasM L M k).map (Value.int .i64))) (fun _ i _ => n - (intOf i).toNat)
      case atStart => exact ⟨0, Nat.zero_le _, rfl, Below.refl _ _, World.ownsRow_nil _ _ _ _⟩
      case round =>
        obtain ⟨k, hk, rfl, hb, hown⟩ := hrel
        have HO := Lib.hid hown
        clear hown
        by_cases hlt : k < n
        · obtain ⟨b, o, rfl, hQ⟩ : ∃ b o, av = some ⟨b, o, none⟩ ∧ P2 wk b o n (shL L) := by
            rcases HP4.out.2 with h' | h'
            · omega
            · exact h'
          have hQ' := hQ.below hb (Nat.le_refl _)
          have d0 := hQ'.c0 k hlt
          have d1 := hQ'.c1 k hlt
          rw [SHE.out k hlt] at d0 d1
          dsimp only at d0 d1
          have hX := HX.out.below hb
          have u0 := hX.c0
          have u1 := hX.c1
          have ul := hX.lt
          have hlen := hasM_len L M k
          have RI := Lib.hid (red_inj (a := wI (at_ L k)) (b := M))
          have HB := Lib.hid hb
          clear hQ hQ' hX hb
          by_cases heq : wI (at_ L k) = M
          · have HSN := Lib.hid (hasM_snoc heq)
            rw [heq] at d0 d1
            have s1 : (redN M 2520 == redN M 2520) = true := by simp
            have s2 : (redD M 2520 == redD M 2520) = true := by simp
            clear heq RI
            go_wp2_with (at_builtin; refine wpList_append_own _ rfl _ _ 26 rfl wk.heap.size 3 i3 (.int .i64 0) 1 8 Try.underlying26 hi3 hz30 hz31 hz32 rfl (by decide) _ _ _ rfl ((HO.out.alloc _).alloc _) ⟨wr.heap.size + 1, 0, none⟩ 1 1 [.int .i64 (k : Int)] rfl rfl (cells1_past _ _ _ _) (by intro u hu; simp at hu; subst hu; rfl) (by unfold maxLen; omega) (by omega) (by have := HB.out.size; simp; omega) ?_)
            intro v' w5 hown5 hg5 _
            have hb5 : Below wk.heap.size wk w5 := ((HB.out.alloc HB.out.size _).alloc (by have := HB.out.size; simp; omega) _).grown hg5 (by have := HB.out.size; simp; omega) (fun q hq => (HO.out.lt q hq).1)
            have HO5 := Lib.hid hown5
            clear hown5 hg5
            go_wp2_with fail
            exact ⟨⟨k + 1, by omega, by go_num, hb5, by rw [HSN.out.1, HSN.out.2]; exact HO5.out⟩, by simp [intOf]; omega⟩
          · have HSN := Lib.hid (hasM_no heq)
            by_cases hd1 : redN (wI (at_ L k)) 2520 = redN M 2520
            · have hd2 : ¬ redD (wI (at_ L k)) 2520 = redD M 2520 := fun hh => heq (RI.out hd1 hh)
              have s1 : (redN (wI (at_ L k)) 2520 == redN M 2520) = true := by simpa using hd1
              have s2 : (redD (wI (at_ L k)) 2520 == redD M 2520) = false := by simpa using hd2
              clear heq RI hd1 hd2
              go_wp2_with fail
              exact ⟨⟨k + 1, by omega, by go_num, HB.out.alloc HB.out.size _, by rw [HSN.out]; exact HO.out.alloc _⟩, by simp [intOf]; omega⟩
            · have s1 : (redN (wI (at_ L k)) 2520 == redN M 2520) = false := by simpa using hd1
              clear heq RI hd1
              go_wp2_with fail
              exact ⟨⟨k + 1, by omega, by go_num, HB.out.alloc HB.out.size _, by rw [HSN.out]; exact HO.out.alloc _⟩, by simp [intOf]; omega⟩
        · have hd : ¬ (k : Int) < n := by omega
          have HK : Hid (k = n) := Lib.hid (by omega)
          clear hlt
          go_wp2_with fail
          rw [HE.out]
          go_ret2
          have hv := HO.out
          rw [HK.out] at hv
          have hv2 := ownsRow_is hv
          exact ⟨_, rfl, hv2.mono B4.out.size, btr B4.out hb⟩
  · have hne : (vErr L != 0) = true := by simp [h0]
    rw [ws_bad h0]
    clear h0
    go_enter Try.func18, Try.ntmps18
    go_wp2_with fail
    refine (Validate_c _ _ _ _ _ h).mono ?_
    rintro e w1 ⟨rfl, hb1⟩
    go_wp2_with fail
    go_ret2
    exact ⟨_, rfl, IsV.nil _ _, hb1⟩

set_option maxRecDepth 100000 in
set_option maxHeartbeats 6400000 in
theorem rWorst_c (a : Option Addr) (n c : Nat) (L : List It) (w : World) (h : SlO w a n L) (hcn : n ≤ c) : Calls Try.prog 51 #[.slice a n c] w (RetI2 w (wsL L) (vErr L)) := by
  by_cases h0 : vErr L = 0
  · have hne : (vErr L != 0) = false := by simp [h0]
    have HV := Lib.hid (vErr_zero.1 h0)
    have HE := Lib.hid h0
    have HLn := Lib.hid h.1
    have hn6 : n ≤ 6 := by have := HV.out.le; have := HLn.out; omega
    have HW : Hid (wsL L = hasM L (mx L n) n) := Lib.hid (by rw [ws_ok h0, HLn.out])
    rw [HW.out]
    obtain ⟨i3, hi3, hz30, hz31, hz32⟩ := info_parts info3
    have HH := Lib.hid h
    clear h0
    go_enter Try.func51, Try.ntmps51
    go_wp2_with fail
    refine (rValidate_c _ _ _ _ _ h).mono ?_
    rintro e w1 ⟨rfl, hb1⟩
    clear h
    go_wp2_with fail
    go_loopw [5, 6] (fun s i wr => ∃ k : Nat, k ≤ n ∧ i = .int .i64 k ∧ s = .int .i64 (mx L k) ∧ Below w.heap.size w wr) (fun _ i _ => n - (intOf i).toNat)
    case atStart => exact ⟨0, Nat.zero_le _, rfl, rfl, hb1⟩
    case round =>
      obtain ⟨k, hk, rfl, rfl, hb⟩ := hrel
      clear hb1
      by_cases hlt : k < n
      · have hkL : k < L.length := by have := HLn.out; omega
        obtain ⟨b, o, rfl, hS⟩ : ∃ b o, a = some ⟨b, o, none⟩ ∧ Sl w b o n L := by
          rcases HH.out.2 with h' | h'
          · omega
          · exact h'
        have hqc : ¬ c = k := by omega
        have hqc1 : k ≤ c := by omega
        have hqc2 : k + 1 ≤ c := by omega
        have HS1 := Lib.hid (sl_one (hS.below hb (Nat.le_refl _)) hlt)
        have HPO := Lib.hid (parts_one (at_ L k))
        have HVU := Lib.hid (vu_one HV.out hkL)
        have HB := Lib.hid hb
        obtain ⟨p1, p2⟩ := wI_bd (HV.out.ok k hkL)
        obtain ⟨q1, q2⟩ := mx_bd HV.out k (by omega)
        clear hS hb
        go_wp2_with fail
        refine (partsU_c (some ⟨b, o + k * 3, none⟩) 1 _ [at_ L k] _ HS1.out HVU.out).mono ?_
        rintro e w2 ⟨rfl, hb2⟩
        rw [HPO.out]
        have B2 := btr HB.out hb2
        by_cases hls : mx L k < wI (at_ L k)
        · have HM := Lib.hid (mx_up hls)
          clear hb2
          go_wp2_with fail
          exact ⟨⟨k + 1, by omega, by go_num, by rw [HM.out], B2⟩, by simp [intOf]; omega⟩
        · have HM := Lib.hid (mx_keep hls)
          clear hb2
          go_wp2_with fail
          exact ⟨⟨k + 1, by omega, by go_num, by rw [HM.out], B2⟩, by simp [intOf]; omega⟩
      · have hd : ¬ (k : Int) < n := by omega
        have HK : Hid (k = n) := Lib.hid (by omega)
        rw [HK.out]
        have HB := Lib.hid hb
        clear hlt hb
        go_wp2_with fail
        generalize hM : mx L n = M at *
        clear hM
        go_loopw [7, 8] (fun v i wr => ∃ k : Nat, k ≤ n ∧ i = .int .i64 k ∧ Below w.heap.size w wr ∧ wr.ownsRow w.heap.size 3 1 v (hasM L M k).length ((hasM L M k).map (Value.int .i64))) (fun _ i _ => n - (intOf i).toNat)
        case atStart => exact ⟨0, Nat.zero_le _, rfl, HB.out, World.ownsRow_nil _ _ _ _⟩
        case round =>
          obtain ⟨k, hk, rfl, hb, hown⟩ := hrel
          have HO := Lib.hid hown
          clear hown HB
          by_cases hlt : k < n
          · have hkL : k < L.length := by have := HLn.out; omega
            obtain ⟨b, o, rfl, hS⟩ : ∃ b o, a = some ⟨b, o, none⟩ ∧ Sl w b o n L := by
              rcases HH.out.2 with h' | h'
              · omega
              · exact h'
            have hqc : ¬ c = k := by omega
            have hqc1 : k ≤ c := by omega
            have hqc2 : k + 1 ≤ c := by omega
            have HS1 := Lib.hid (sl_one (hS.below hb (Nat.le_refl _)) hlt)
            have HPO := Lib.hid (parts_one (at_ L k))
            have HVU := Lib.hid (vu_one HV.out hkL)
            have HB := Lib.hid hb
            have hlen := hasM_len L M k
            clear hS hb
            go_wp2_with fail
            refine (partsU_c (some ⟨b, o + k * 3, none⟩) 1 _ [at_ L k] _ HS1.out HVU.out).mono ?_
            rintro e w2 ⟨rfl, hb2⟩
            rw [HPO.out]
            have B2 := btr HB.out hb2
            have HO2 := Lib.hid (ownsRow_below HO.out hb2)
            by_cases heq : wI (at_ L k) = M
            · have HSN := Lib.hid (hasM_snoc heq)
              have s1 : (wI (at_ L k) == M) = true := by simpa using heq
              clear heq hb2
              go_wp2_with (at_builtin; refine wpList_append_own _ rfl _ _ 26 rfl w.heap.size 3 i3 (.int .i64 0) 1 8 Try.underlying26 hi3 hz30 hz31 hz32 rfl (by decide) _ _ _ rfl (HO2.out.alloc _) ⟨w2.heap.size, 0, none⟩ 1 1 [.int .i64 (k : Int)] rfl rfl (cells1_new _ _ _) (by intro u hu; simp at hu; subst hu; rfl) (by unfold maxLen; omega) (by omega) (by have := B2.size; simp; omega) ?_)
              intro v' w5 hown5 hg5 _
              have hb5 : Below w.heap.size w w5 := (B2.alloc B2.size _).grown hg5 (by have := B2.size; simp; omega) (fun q hq => (HO2.out.lt q hq).1)
              have HO5 := Lib.hid hown5
              clear hown5 hg5
              go_wp2_with fail
              exact ⟨⟨k + 1, by omega, by go_num, hb5, by rw [HSN.out.1, HSN.out.2]; exact HO5.out⟩, by simp [intOf]; omega⟩
            · have HSN := Lib.hid (hasM_no heq)
              have s1 : (wI (at_ L k) == M) = false := by simpa using heq
              clear heq hb2
              go_wp2_with fail
              exact ⟨⟨k + 1, by omega, by go_num, B2, by rw [HSN.out]; exact HO2.out⟩, by simp [intOf]; omega⟩
          · have hd : ¬ (k : Int) < n := by omega
            have HK : Hid (k = n) := Lib.hid (by omega)
            clear hlt
            go_wp2_with fail
            rw [HE.out]
            go_ret2
            have hv := HO.out
            rw [HK.out] at hv
            exact ⟨_, rfl, ownsRow_is hv, hb⟩
  · have hne : (vErr L != 0) = true := by simp [h0]
    rw [ws_bad h0]
    clear h0
    go_enter Try.func51, Try.ntmps51
    go_wp2_with fail
    refine (rValidate_c _ _ _ _ _ h).mono ?_
    rintro e w1 ⟨rfl, hb1⟩
    go_wp2_with fail
    go_ret2
    exact ⟨_, rfl, IsV.nil _ _, hb1⟩
end Go.Proofs.Ytplindidegmlkaa
