/- The chance of budget and of its reference. -/
import Derived.Test.YtplindidegmlkaaT3
namespace Go.Proofs.Ytplindidegmlkaa
open Go.RowKit Go.Sort

structure Cell3 (w : World) (b : Nat) (x y z : Int) : Prop where
  c0 : w.cell? ⟨b, 0, none⟩ = some (.int .i64 x)
  c1 : w.cell? ⟨b, 1, none⟩ = some (.int .i64 y)
  c2 : w.cell? ⟨b, 2, none⟩ = some (.int .i64 z)
theorem Cell3.lt {w : World} {b : Nat} {x y z : Int} (h : Cell3 w b x y z) : b < w.heap.size := block_lt_of_cell h.c0
theorem Cell3.below {w w' : World} {b : Nat} {x y z : Int} (h : Cell3 w b x y z) (hb : Below w.heap.size w w') : Cell3 w' b x y z :=
  ⟨cellB hb h.c0, cellB hb h.c1, cellB hb h.c2⟩
theorem Cell3.set {w : World} {b p q : Nat} {x y z : Int} {u : Value} (h : Cell3 w b x y z) (hne : b ≠ p) : Cell3 (w.setCell ⟨p, q, none⟩ u) b x y z := by
  have e : ∀ o : Nat, (w.setCell ⟨p, q, none⟩ u).cell? ⟨b, o, none⟩ = w.cell? ⟨b, o, none⟩ := fun o => World.cell?_of_block (w := w) (Below.heap_setCell w ⟨p, q, none⟩ u b hne)
  exact ⟨by rw [e]; exact h.c0, by rw [e]; exact h.c1, by rw [e]; exact h.c2⟩

def chN (L : List It) : Int := if caErr L = 0 then caN L else 0
def chD (L : List It) : Int := if caErr L = 0 then caD L else 0
theorem ca_bad {L : List It} (h : vErr L ≠ 0) : caErr L = vErr L ∧ chN L = 0 ∧ chD L = 0 := by
  have e : caErr L = vErr L := if_pos h
  exact ⟨e, by unfold chN; rw [e, if_neg h], by unfold chD; rw [e, if_neg h]⟩
theorem ca_large {L : List It} (h : vErr L = 0) (h8 : 8 < usT L L.length) : caErr L = 3 ∧ chN L = 0 ∧ chD L = 0 := by
  have e : caErr L = 3 := by unfold caErr; rw [if_neg (by simp [h]), if_pos h8]
  exact ⟨e, by unfold chN; rw [e]; rfl, by unfold chD; rw [e]; rfl⟩
theorem ca_ok {L : List It} (h : vErr L = 0) (h8 : ¬ 8 < usT L L.length) : caErr L = 0 ∧ chN L = caN L ∧ chD L = caD L := by
  have e : caErr L = 0 := by unfold caErr; rw [if_neg (by simp [h]), if_neg h8]
  exact ⟨e, by unfold chN; rw [e]; rfl, by unfold chD; rw [e]; rfl⟩

theorem we_zero (L : List It) : weN L 0 = 1 ∧ weD L 0 = 1 := ⟨rfl, rfl⟩
theorem we_red0 (L : List It) : redN (weN L 0) (weD L 0) = 1 ∧ redD (weN L 0) (weD L 0) = 1 := by
  rw [(we_zero L).1, (we_zero L).2]; decide

/-- What is kept when all goes well so far: a fraction in lowest terms. -/
def WC (w : World) (b : Nat) (N D : Int) : Prop := Cell2 w b (redN N D) (redD N D)

set_option maxRecDepth 100000 in
set_option maxHeartbeats 3200000 in
theorem Chance_c (a : Option Addr) (n c : Nat) (L : List It) (w : World) (h : SlO w a n L) : Calls Try.prog 32 #[.slice a n c] w (RetFe w (chN L) (chD L) (caErr L)) := by
  have HA : Hid (Below w.heap.size w (w.alloc (.cells #[.int .i64 0, .int .i64 0] 25))) := Lib.hid ((Below.refl _ _).alloc (Nat.le_refl _) _)
  have HC : Hid (Cell2 (w.alloc (.cells #[.int .i64 0, .int .i64 0] 25)) w.heap.size 0 0) := Lib.hid ⟨by simp [go_sem], by simp [go_sem], by simp [go_sem], by simp [go_sem]⟩
  by_cases h0 : vErr L = 0
  · have hne : (vErr L != 0) = false := by simp [h0]
    have HV := Lib.hid (vErr_zero.1 h0)
    have HLn := Lib.hid h.1
    have hn6 : n ≤ 6 := by have := h.1; have := HV.out.le; omega
    have HCA : Hid (¬ 8 < usT L L.length → caErr L = 0 ∧ chN L = caN L ∧ chD L = caD L) := Lib.hid (ca_ok h0)
    have HCL : Hid (8 < usT L L.length → caErr L = 3 ∧ chN L = 0 ∧ chD L = 0) := Lib.hid (ca_large h0)
    generalize caErr L = E at *
    generalize chN L = X at *
    generalize chD L = Y at *
    clear h0
    go_enter Try.func32, Try.ntmps32
    go_wp2_with fail
    refine (Validate_c _ _ _ _ _ (h.below HA.out (Nat.le_refl _))).mono ?_
    rintro e w1 ⟨rfl, hb1⟩
    have B1 : Below w.heap.size w w1 := btr HA.out hb1
    have HC1 := Lib.hid (HC.out.below hb1)
    have HH := Lib.hid h
    clear hb1 h HC HA
    go_wp2_with fail
    go_loopw [5, 19] (fun u i wr => ∃ k : Nat, k ≤ n ∧ u = .int .i64 (usT L k) ∧ i = .int .i64 k ∧ Below w.heap.size w wr ∧ Cell2 wr w.heap.size 0 0) (fun _ i _ => n - (intOf i).toNat)
    case atStart => exact ⟨0, Nat.zero_le _, rfl, rfl, B1, by have h := HC1.out; exact ⟨h.c0, h.c1, h.f0, h.f1⟩⟩
    case round =>
      obtain ⟨k, hk, rfl, rfl, hb, hC⟩ := hrel
      obtain ⟨u1, u2⟩ := usT_bd HV.out k (by have := HLn.out; omega)
      have HCk := Lib.hid hC
      clear HC1 hC
      by_cases hlt : k < n
      · obtain ⟨b, o, rfl, hS⟩ : ∃ b o, a = some ⟨b, o, none⟩ ∧ Sl w b o n L := by
          rcases HH.out.2 with h' | h'
          · omega
          · exact h'
        have hS' := hS.below hb (Nat.le_refl _)
        have c0 := hS'.c0 k hlt
        have c1 := hS'.c1 k hlt
        have c2 := hS'.c2 k hlt
        have hkL : k < L.length := by have := HLn.out; omega
        obtain ⟨a1, a2, a3, a4, a5, a6⟩ := HV.out.bd hkL
        have HST := Lib.hid (usT_step L k)
        clear hS hS'
        go_wp2_with fail
        exact ⟨⟨k + 1, by omega, by rw [HST.out], by go_num, hb.alloc hb.size _, HCk.out.below ((Below.refl _ _).alloc (Nat.le_refl _) _)⟩, by simp [intOf]; omega⟩
      · have hkn : k = n := by omega
        have hd : ¬ (k : Int) < n := by omega
        have HKN := Lib.hid (hkn.trans HLn.out)
        clear hkn hlt
        have x0 := HCk.out.c0
        have x1 := HCk.out.c1
        have g0 := HCk.out.f0
        have g1 := HCk.out.f1
        have hw0 : w.heap.size < wr.heap.size := HCk.out.lt
        by_cases h8 : 8 < usT L k
        · have R := Lib.hid (HCL.out (by have h := h8; rw [HKN.out] at h; exact h))
          clear HCA HCL
          go_wp2_with fail
          refine bodyPost_ret (v := .tuple #[.agg #[.int .i64 0, .int .i64 0], .int .i64 3]) (by simp [results, Try.results32, go_sem, x0, x1]) rfl ⟨by rw [R.out.1, R.out.2.1, R.out.2.2], ?_⟩
          go_grown
        · have H8 : Hid (usT L L.length ≤ 8) := Lib.hid (by have h := h8; rw [HKN.out] at h; omega)
          have R := Lib.hid (HCA.out (by have := H8.out; omega))
          clear HCA HCL
          have hB2 : Below w.heap.size w (wr.alloc (.cells #[.int .i64 1, .int .i64 1] 77)) := hb.alloc hb.size _
          have HB2 := Lib.hid hB2
          have HC2 : Hid (Cell2 (wr.alloc (.cells #[.int .i64 1, .int .i64 1] 77)) w.heap.size 0 0) := Lib.hid (HCk.out.below ((Below.refl _ _).alloc (Nat.le_refl _) _))
          have HW2 : Hid (WC (wr.alloc (.cells #[.int .i64 1, .int .i64 1] 77)) wr.heap.size (weN L 0) (weD L 0)) := Lib.hid (by
            unfold WC
            rw [(we_red0 L).1, (we_red0 L).2]
            exact ⟨by simp [go_sem], by simp [go_sem], by simp [go_sem], by simp [go_sem]⟩)
          clear hB2
          go_wp2_with fail
          have hBB : w.heap.size < wr.heap.size := hw0
          have HWS : Hid ((wr.alloc (.cells #[.int .i64 1, .int .i64 1] 77)).heap.size = wr.heap.size + 1) := Lib.hid (by simp)
          clear x0 x1 g0 g1 HCk hb hw0
          generalize wr.heap.size = B8 at *
          generalize wr.alloc (.cells #[.int .i64 1, .int .i64 1] 77) = wq at *
          go_loopw [34] (fun i wr => ∃ j : Nat, j ≤ n ∧ i = .int .i64 j ∧ Below w.heap.size w wr ∧ Cell2 wr w.heap.size 0 0 ∧ WC wr B8 (weN L j) (weD L j)) (fun i _ => n - (intOf i).toNat)
          case atStart => exact ⟨0, Nat.zero_le _, rfl, HB2.out, HC2.out, HW2.out⟩
          case round =>
            obtain ⟨j, hj, rfl, hb, hC, hW⟩ := hrel
            have HCk := Lib.hid hC
            have HW := Lib.hid hW
            clear HB2 HC2 HW2 hC hW
            by_cases hlt : j < n
            · obtain ⟨b, o, rfl, hS⟩ : ∃ b o, a = some ⟨b, o, none⟩ ∧ Sl w b o n L := by
                rcases HH.out.2 with h' | h'
                · omega
                · exact h'
              have hS' := hS.below hb (Nat.le_refl _)
              have c0 := hS'.c0 j hlt
              have c1 := hS'.c1 j hlt
              have c2 := hS'.c2 j hlt
              have hjL : j < L.length := by have := HLn.out; omega
              obtain ⟨a1, a2, a3, a4, a5, a6⟩ := HV.out.bd hjL
              have HI : Hid (Cell3 (wr.alloc (.cells #[.int .i64 (at_ L j).u, .int .i64 (at_ L j).n, .int .i64 (at_ L j).d] 31)) wr.heap.size (at_ L j).u (at_ L j).n (at_ L j).d) := Lib.hid ⟨by simp [go_sem], by simp [go_sem], by simp [go_sem]⟩
              have HAl : Hid (Below wr.heap.size wr (wr.alloc (.cells #[.int .i64 (at_ L j).u, .int .i64 (at_ L j).n, .int .i64 (at_ L j).d] 31))) := Lib.hid ((Below.refl _ _).alloc (Nat.le_refl _) _)
              have hw0 : w.heap.size < wr.heap.size := HCk.out.lt
              have hw8 : B8 < wr.heap.size := HW.out.lt
              clear hS hS'
              go_wp2_with fail
              have HB3 := Lib.hid (btr hb HAl.out)
              have HC3 := Lib.hid (HCk.out.below HAl.out)
              have HW3 := Lib.hid (Cell2.below HW.out HAl.out)
              clear HCk HW hb HAl c0 c1 c2
              generalize wr.heap.size = B10 at *
              generalize wr.alloc (.cells #[.int .i64 (at_ L j).u, .int .i64 (at_ L j).n, .int .i64 (at_ L j).d] 31) = wq2 at *
              have HU : Hid (((at_ L j).u.toNat : Int) = (at_ L j).u) := Lib.hid (by omega)
              go_loopw [40] (fun i wr => ∃ m : Nat, m ≤ (at_ L j).u.toNat ∧ i = .int .i64 m ∧ Below w.heap.size w wr ∧ Cell2 wr w.heap.size 0 0 ∧ WC wr B8 (wlN L j m) (wlD L j m) ∧ Cell3 wr B10 (at_ L j).u (at_ L j).n (at_ L j).d) (fun i _ => (at_ L j).u.toNat - (intOf i).toNat)
              case atStart => exact ⟨0, Nat.zero_le _, rfl, HB3.out, HC3.out, by rw [(wl_zero L j).1, (wl_zero L j).2]; exact HW3.out, HI.out⟩
              case round =>
                obtain ⟨m, hm, rfl, hb, hC, hW, hI⟩ := hrel
                clear HB3 HC3 HW3 HI
                have HCk := Lib.hid hC
                have HW := Lib.hid hW
                have HI := Lib.hid hI
                clear hC hW hI
                by_cases hlt2 : m < (at_ L j).u.toNat
                · have hmu : (m : Int) < (at_ L j).u := by have := HU.out; omega
                  obtain ⟨q1, q2, q3, q4⟩ := wl_ok HV.out H8.out hjL (j := m) (by omega)
                  have p1 := redD_pos (n := wlN L j m) (d := wlD L j m) (by omega)
                  have p2 := redD_le (n := wlN L j m) (d := wlD L j m) (by omega)
                  have p3 := redN_nonneg (n := wlN L j m) (d := wlD L j m) (by omega) q1
                  have p4 := redN_le (n := wlN L j m) (d := wlD L j m) q1
                  have LS := Lib.hid (low_step (N := wlN L j m) (D := wlD L j m) (a := (at_ L j).d - (at_ L j).n) (b := (at_ L j).d) (by omega) (by omega))
                  have WS := Lib.hid (wl_step L j m)
                  have x0 := HW.out.c0
                  have x1 := HW.out.c1
                  have g0 := HW.out.f0
                  have g1 := HW.out.f1
                  have i0 := HI.out.c0
                  have i1 := HI.out.c1
                  have i2 := HI.out.c2
                  have hNX : Hid (redN (wlN L j m) (wlD L j m) = redN (wlN L j m) (wlD L j m)) := Lib.hid rfl
                  obtain ⟨m1, m2⟩ := mul_bd (a := redN (wlN L j m) (wlD L j m)) (b := (at_ L j).d - (at_ L j).n) (A := 100000000) (B := 10) p3 (by omega) (by omega) (by omega)
                  obtain ⟨m3, m4⟩ := mul_bd (a := redD (wlN L j m) (wlD L j m)) (b := (at_ L j).d) (A := 100000000) (B := 10) (by omega) (by omega) (by omega) (by omega)
                  have m5 : 0 < redD (wlN L j m) (wlD L j m) * (at_ L j).d := Int.mul_pos p1 (by omega)
                  clear hlt2
                  go_wp2_with fail
                  refine (low_c (redN (wlN L j m) (wlD L j m) * ((at_ L j).d - (at_ L j).n)) (redD (wlN L j m) (wlD L j m) * (at_ L j).d) _ m1 (by omega) m5 (by omega)).mono ?_
                  rintro e w5 ⟨rfl, hb5⟩
                  rw [LS.out.1, LS.out.2, ← WS.out.1, ← WS.out.2]
                  have HW5 := Lib.hid (Cell2.below HW.out hb5)
                  have HC5 := Lib.hid (HCk.out.below hb5)
                  have HI5 := Lib.hid (HI.out.below hb5)
                  have B5 : Below w.heap.size w w5 := btr hb hb5
                  have y0 := HW5.out.c0
                  have y1 := HW5.out.c1
                  have k0 := HW5.out.f0
                  have k1 := HW5.out.f1
                  clear x0 x1 g0 g1 i0 i1 i2 hb5 HW HCk HI
                  go_wp2_with fail
                  exact ⟨⟨m + 1, by omega, by go_num, (B5.setCell (Nat.le_of_lt hBB) _).setCell (Nat.le_of_lt hBB) _, (HC5.out.set (by omega)).set (by omega), HW5.out.store _ _, (HI5.out.set (by omega)).set (by omega)⟩, by simp [intOf]; omega⟩
                · have hmu : ¬ (m : Int) < (at_ L j).u := by have := HU.out; omega
                  have HM : Hid (m = (at_ L j).u.toNat) := Lib.hid (by omega)
                  clear hlt2
                  go_wp2_with fail
                  exact ⟨⟨j + 1, by omega, by go_num, hb, HCk.out, by have h := HW.out; rw [HM.out, (wl_end L j).1, (wl_end L j).2] at h; exact h⟩, by simp [intOf]; omega⟩
            · have hkn : j = n := by omega
              have hd : ¬ (j : Int) < n := by omega
              have HJN := Lib.hid (hkn.trans HLn.out)
              clear hkn hlt
              obtain ⟨q1, q2, q3, q4⟩ := we_bd HV.out H8.out (Nat.le_refl _)
              have p1 := redD_pos (n := weN L L.length) (d := weD L L.length) (by omega)
              have p2 := redD_le (n := weN L L.length) (d := weD L L.length) (by omega)
              have p3 := redN_nonneg (n := weN L L.length) (d := weD L L.length) (by omega) q1
              have p4 : redN (weN L L.length) (weD L L.length) ≤ redD (weN L L.length) (weD L L.length) := by
                have := (red_ge (n := weN L L.length) (d := weD L L.length) (x := 1) (y := 1) (by omega)).2 (by omega)
                omega
              have LR := Lib.hid (low_rest (N := weN L L.length) (D := weD L L.length) (by omega))
              have HWn : Hid (WC wr B8 (weN L L.length) (weD L L.length)) := Lib.hid (by have h := HW.out; rw [HJN.out] at h; exact h)
              have x0 := HWn.out.c0
              have x1 := HWn.out.c1
              go_wp2_with fail
              refine (low_c (redD (weN L L.length) (weD L L.length) - redN (weN L L.length) (weD L L.length)) (redD (weN L L.length) (weD L L.length)) _ (by omega) (by omega) p1 (by omega)).mono ?_
              rintro e w5 ⟨rfl, hb5⟩
              rw [LR.out.1, LR.out.2]
              have HC5 := Lib.hid (HCk.out.below hb5)
              have B5 : Below w.heap.size w w5 := btr hb hb5
              have y0 := HC5.out.c0
              have y1 := HC5.out.c1
              have k0 := HC5.out.f0
              have k1 := HC5.out.f1
              clear x0 x1 hb5 HW HCk HWn
              go_wp2_with fail
              refine bodyPost_ret (v := .tuple #[.agg #[.int .i64 (caN L), .int .i64 (caD L)], .int .i64 0]) (by simp [results, Try.results32, go_sem, y0, y1, caN, caD]) rfl ⟨by rw [R.out.1, R.out.2.1, R.out.2.2], ?_⟩
              go_grown
  · obtain ⟨r1, r2, r3⟩ := ca_bad h0
    have hne : (vErr L != 0) = true := by simp [h0]
    rw [r1, r2, r3]
    clear h0 r1 r2 r3
    go_enter Try.func32, Try.ntmps32
    go_wp2_with fail
    refine (Validate_c _ _ _ _ _ (h.below HA.out (Nat.le_refl _))).mono ?_
    rintro e w1 ⟨rfl, hb1⟩
    have B1 : Below w.heap.size w w1 := btr HA.out hb1
    have HC1 := Lib.hid (HC.out.below hb1)
    have y0 := HC1.out.c0
    have y1 := HC1.out.c1
    have g0 := HC1.out.f0
    have g1 := HC1.out.f1
    clear hb1
    go_wp2_with fail
    refine bodyPost_ret (v := .tuple #[.agg #[.int .i64 0, .int .i64 0], .int .i64 (vErr L)]) (by simp [results, Try.results32, go_sem, y0, y1]) rfl ⟨rfl, ?_⟩
    go_grown

set_option maxRecDepth 100000 in
set_option maxHeartbeats 3200000 in
theorem rChance_c (a : Option Addr) (n c : Nat) (L : List It) (w : World) (h : SlO w a n L) : Calls Try.prog 33 #[.slice a n c] w (RetFe w (chN L) (chD L) (caErr L)) := by
  have HA : Hid (Below w.heap.size w (w.alloc (.cells #[.int .i64 0, .int .i64 0] 25))) := Lib.hid ((Below.refl _ _).alloc (Nat.le_refl _) _)
  have HC : Hid (Cell2 (w.alloc (.cells #[.int .i64 0, .int .i64 0] 25)) w.heap.size 0 0) := Lib.hid ⟨by simp [go_sem], by simp [go_sem], by simp [go_sem], by simp [go_sem]⟩
  by_cases h0 : vErr L = 0
  · have hne : (vErr L != 0) = false := by simp [h0]
    have HV := Lib.hid (vErr_zero.1 h0)
    have HLn := Lib.hid h.1
    have hn6 : n ≤ 6 := by have := h.1; have := HV.out.le; omega
    have HCA : Hid (¬ 8 < usT L L.length → caErr L = 0 ∧ chN L = caN L ∧ chD L = caD L) := Lib.hid (ca_ok h0)
    have HCL : Hid (8 < usT L L.length → caErr L = 3 ∧ chN L = 0 ∧ chD L = 0) := Lib.hid (ca_large h0)
    generalize caErr L = E at *
    generalize chN L = X at *
    generalize chD L = Y at *
    clear h0
    go_enter Try.func33, Try.ntmps33
    go_wp2_with fail
    refine (rValidate_c _ _ _ _ _ (h.below HA.out (Nat.le_refl _))).mono ?_
    rintro e w1 ⟨rfl, hb1⟩
    have B1 : Below w.heap.size w w1 := btr HA.out hb1
    have HC1 := Lib.hid (HC.out.below hb1)
    have HH := Lib.hid h
    clear hb1 h HC HA
    go_wp2_with fail
    go_loopw [5, 8] (fun u i wr => ∃ k : Nat, k ≤ n ∧ u = .int .i64 (usT L k) ∧ i = .int .i64 k ∧ Below w.heap.size w wr ∧ Cell2 wr w.heap.size 0 0) (fun _ i _ => n - (intOf i).toNat)
    case atStart => exact ⟨0, Nat.zero_le _, rfl, rfl, B1, by have h := HC1.out; exact ⟨h.c0, h.c1, h.f0, h.f1⟩⟩
    case round =>
      obtain ⟨k, hk, rfl, rfl, hb, hC⟩ := hrel
      obtain ⟨u1, u2⟩ := usT_bd HV.out k (by have := HLn.out; omega)
      have HCk := Lib.hid hC
      clear HC1 hC
      by_cases hlt : k < n
      · obtain ⟨b, o, rfl, hS⟩ : ∃ b o, a = some ⟨b, o, none⟩ ∧ Sl w b o n L := by
          rcases HH.out.2 with h' | h'
          · omega
          · exact h'
        have hS' := hS.below hb (Nat.le_refl _)
        have c0 := hS'.c0 k hlt
        have hkL : k < L.length := by have := HLn.out; omega
        obtain ⟨a1, a2, a3, a4, a5, a6⟩ := HV.out.bd hkL
        have HST := Lib.hid (usT_step L k)
        clear hS hS'
        go_wp2_with fail
        exact ⟨⟨k + 1, by omega, by rw [HST.out], by go_num, hb, HCk.out⟩, by simp [intOf]; omega⟩
      · have hkn : k = n := by omega
        have hd : ¬ (k : Int) < n := by omega
        have HKN := Lib.hid (hkn.trans HLn.out)
        clear hkn hlt
        have x0 := HCk.out.c0
        have x1 := HCk.out.c1
        have g0 := HCk.out.f0
        have g1 := HCk.out.f1
        have hw0 : w.heap.size < wr.heap.size := HCk.out.lt
        by_cases h8 : 8 < usT L k
        · have R := Lib.hid (HCL.out (by have h := h8; rw [HKN.out] at h; exact h))
          clear HCA HCL
          go_wp2_with fail
          refine bodyPost_ret (v := .tuple #[.agg #[.int .i64 0, .int .i64 0], .int .i64 3]) (by simp [results, Try.results33, go_sem, x0, x1]) rfl ⟨by rw [R.out.1, R.out.2.1, R.out.2.2], ?_⟩
          go_grown
        · have H8 : Hid (usT L L.length ≤ 8) := Lib.hid (by have h := h8; rw [HKN.out] at h; omega)
          have R := Lib.hid (HCA.out (by have := H8.out; omega))
          clear HCA HCL
          have W0 := Lib.hid (we_zero L)
          have B2 := Lib.hid hb
          clear x0 x1 g0 g1 hw0 hb
          go_wp2_with fail
          go_loopw [6, 7, 9] (fun u v i wr => ∃ j : Nat, j ≤ n ∧ u = .int .i64 (weN L j) ∧ v = .int .i64 (weD L j) ∧ i = .int .i64 j ∧ Below w.heap.size w wr ∧ Cell2 wr w.heap.size 0 0) (fun _ _ i _ => n - (intOf i).toNat)
          case atStart => exact ⟨0, Nat.zero_le _, rfl, rfl, rfl, B2.out, HCk.out⟩
          case round =>
            obtain ⟨j, hj, rfl, rfl, rfl, hb, hC⟩ := hrel
            clear HCk B2
            have HCk := Lib.hid hC
            clear hC
            by_cases hlt : j < n
            · obtain ⟨b, o, rfl, hS⟩ : ∃ b o, a = some ⟨b, o, none⟩ ∧ Sl w b o n L := by
                rcases HH.out.2 with h' | h'
                · omega
                · exact h'
              have hjL : j < L.length := by have := HLn.out; omega
              obtain ⟨a1, a2, a3, a4, a5, a6⟩ := HV.out.bd hjL
              have HU : Hid (((at_ L j).u.toNat : Int) = (at_ L j).u) := Lib.hid (by omega)
              have HB3 := Lib.hid hb
              have HS := Lib.hid hS
              clear hS hb
              go_wp2_with fail
              go_loopw [6, 7, 10] (fun u v i wr => ∃ m : Nat, m ≤ (at_ L j).u.toNat ∧ u = .int .i64 (wlN L j m) ∧ v = .int .i64 (wlD L j m) ∧ i = .int .i64 m ∧ Below w.heap.size w wr ∧ Cell2 wr w.heap.size 0 0) (fun _ _ i _ => (at_ L j).u.toNat - (intOf i).toNat)
              case atStart => exact ⟨0, Nat.zero_le _, by rw [(wl_zero L j).1], by rw [(wl_zero L j).2], rfl, HB3.out, HCk.out⟩
              case round =>
                obtain ⟨m, hm, rfl, rfl, rfl, hb, hC⟩ := hrel
                clear HB3 HCk
                have HCk := Lib.hid hC
                have hS' := HS.out.below hb (Nat.le_refl _)
                have c0 := hS'.c0 j hlt
                have c1 := hS'.c1 j hlt
                have c2 := hS'.c2 j hlt
                have HS' := Lib.hid hS'
                clear hC hS'
                by_cases hlt2 : m < (at_ L j).u.toNat
                · have hmu : (m : Int) < (at_ L j).u := by have := HU.out; omega
                  obtain ⟨q1, q2, q3, q4⟩ := wl_ok HV.out H8.out hjL (j := m) (by omega)
                  have WS := Lib.hid (wl_step L j m)
                  obtain ⟨m1, m2⟩ := mul_bd (a := wlN L j m) (b := (at_ L j).d - (at_ L j).n) (A := 100000000) (B := 10) q1 (by omega) (by omega) (by omega)
                  obtain ⟨m3, m4⟩ := mul_bd (a := wlD L j m) (b := (at_ L j).d) (A := 100000000) (B := 10) (by omega) (by omega) (by omega) (by omega)
                  have k1 := cell_regrown c1
                  have k2 := cell_regrown c2
                  clear hlt2
                  go_wp2_with fail
                  clear c1 c2
                  refine wp_region_B (by kernel_rfl) (by kernel_rfl) ?_
                  repeat (go_big_quiet_step (fail))
                  refine wpQuiet_nil ?_
                  intro w2 hb2
                  have k2' := (HS'.out.below hb2 (Nat.le_refl _)).c2 j hlt
                  clear k1 k2
                  go_wp2_with fail
                  exact ⟨⟨m + 1, by omega, by rw [WS.out.1], by rw [WS.out.2], by go_num, btr hb hb2, HCk.out.below hb2⟩, by simp [intOf]; omega⟩
                · have hmu : ¬ (m : Int) < (at_ L j).u := by have := HU.out; omega
                  have HM : Hid (m = (at_ L j).u.toNat) := Lib.hid (by omega)
                  clear hlt2
                  go_wp2_with fail
                  exact ⟨⟨j + 1, by omega, by rw [HM.out, (wl_end L j).1], by rw [HM.out, (wl_end L j).2], by go_num, hb, HCk.out⟩, by simp [intOf]; omega⟩
            · have hkn : j = n := by omega
              have hd : ¬ (j : Int) < n := by omega
              have HJN := Lib.hid (hkn.trans HLn.out)
              clear hkn hlt
              obtain ⟨q1, q2, q3, q4⟩ := we_bd HV.out H8.out (i := j) (by have := HJN.out; omega)
              go_wp2_with fail
              refine (Ratio_c (weD L j - weN L j) (weD L j) _ (by omega) (by omega) (by omega) (by omega)).mono ?_
              rintro e w5 ⟨rfl, hb5⟩
              rw [HJN.out]
              have HC5 := Lib.hid (HCk.out.below hb5)
              have B5 : Below w.heap.size w w5 := btr hb hb5
              have y0 := HC5.out.c0
              have y1 := HC5.out.c1
              have k0 := HC5.out.f0
              have k1 := HC5.out.f1
              clear hb5 HCk
              go_wp2_with fail
              refine bodyPost_ret (v := .tuple #[.agg #[.int .i64 (caN L), .int .i64 (caD L)], .int .i64 0]) (by simp [results, Try.results33, go_sem, y0, y1, caN, caD]) rfl ⟨by rw [R.out.1, R.out.2.1, R.out.2.2], ?_⟩
              go_grown
  · obtain ⟨r1, r2, r3⟩ := ca_bad h0
    have hne : (vErr L != 0) = true := by simp [h0]
    rw [r1, r2, r3]
    clear h0 r1 r2 r3
    go_enter Try.func33, Try.ntmps33
    go_wp2_with fail
    refine (rValidate_c _ _ _ _ _ (h.below HA.out (Nat.le_refl _))).mono ?_
    rintro e w1 ⟨rfl, hb1⟩
    have B1 : Below w.heap.size w w1 := btr HA.out hb1
    have HC1 := Lib.hid (HC.out.below hb1)
    have y0 := HC1.out.c0
    have y1 := HC1.out.c1
    have g0 := HC1.out.f0
    have g1 := HC1.out.f1
    clear hb1
    go_wp2_with fail
    refine bodyPost_ret (v := .tuple #[.agg #[.int .i64 0, .int .i64 0], .int .i64 (vErr L)]) (by simp [results, Try.results33, go_sem, y0, y1]) rfl ⟨rfl, ?_⟩
    go_grown
end Go.Proofs.Ytplindidegmlkaa
