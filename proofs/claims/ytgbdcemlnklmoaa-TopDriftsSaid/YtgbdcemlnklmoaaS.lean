/- gcd, Steepest: contracts, program and reference. -/
import Derived.Test.YtgbdcemlnklmoaaT
import Derived.Test.YtgbdcemlnklmoaaMath4
import Derived.StillTailTactics
namespace Go.Proofs.Ytgbdcemlnklmoaa
open Go.RowKit Go.Sort

theorem gcd_c (a b : Int) (w : World) (ha : 0 ≤ a) (ha' : a ≤ 1000000000000) (hb : 0 ≤ b) (hb' : b ≤ 1000000000000) :
    Calls Try.prog 70 #[.int .i64 a, .int .i64 b] w fun e w' => e = .returned (.int .i64 (gcdI a b)) ∧ w = w' := by
  generalize hg : gcdI a b = g
  have HG := Lib.hid hg
  clear hg
  go_enter Try.func70, Try.ntmps70
  go_wp2
  go_loop [0, 1] (fun u v => ∃ x y : Int, u = .int .i64 x ∧ v = .int .i64 y ∧ 0 ≤ x ∧ x ≤ 1000000000000 ∧ 0 ≤ y ∧ y ≤ 1000000000000 ∧ gcdI x y = g) (fun _ v => (intOf v).toNat)
  case atStart => exact ⟨a, b, rfl, rfl, ha, ha', hb, hb', HG.out⟩
  case round =>
    obtain ⟨x, y, rfl, rfl, hx, hx', hy, hy', hgg⟩ := hrel
    have HG1 := Lib.hid hgg
    clear hgg HG ha ha' hb hb'
    by_cases h0 : y = 0
    · have hne : (y != 0) = false := by simp [h0]
      have H0 := Lib.hid h0
      clear h0
      go_wp2
      go_ret
      exact ⟨by have := HG1.out; rw [H0.out, gcdI_zero hx] at this; rw [← this]; rfl, rfl⟩
    · have hne : (y != 0) = true := by simp [h0]
      have hy0 : 0 < y := by omega
      have m0 : 0 ≤ x % y := Int.emod_nonneg _ h0
      have m1 : x % y < y := Int.emod_lt_of_pos _ hy0
      have HS : Hid (gcdI y (x % y) = g) := Lib.hid (by rw [gcdI_step]; exact HG1.out)
      clear h0
      go_wp2
      go_round
      case rel => exact ⟨y, x % y, rfl, rfl, hy, hy', m0, by omega, HS.out⟩
      case measure => simp [intOf]; omega

structure Cell2 (w : World) (b : Nat) (x y : Int) : Prop where
  c0 : w.cell? ⟨b, 0, none⟩ = some (.int .i64 x)
  c1 : w.cell? ⟨b, 1, none⟩ = some (.int .i64 y)
  f0 : w.frozen? ⟨b, 0, none⟩ = false
  f1 : w.frozen? ⟨b, 1, none⟩ = false

theorem Cell2.lt {w : World} {b : Nat} {x y : Int} (h : Cell2 w b x y) : b < w.heap.size := block_lt_of_cell h.c0
theorem Cell2.below {w w' : World} {b : Nat} {x y : Int} (h : Cell2 w b x y) (hb : Below w.heap.size w w') : Cell2 w' b x y :=
  ⟨cellB hb h.c0, cellB hb h.c1, by rw [hb.frozen (p := ⟨b, 0, none⟩) h.lt]; exact h.f0, by rw [hb.frozen (p := ⟨b, 1, none⟩) h.lt]; exact h.f1⟩

/-- A fraction and an error number come back. -/
def RetQ (w : World) (x y : Int) (er : Int) (e : Ending) (w' : World) : Prop :=
  e = .returned (.tuple #[.agg #[.int .i64 x, .int .i64 y], .int .i64 er]) ∧ Below w.heap.size w w'


theorem mul_bd {a b A B : Int} (h1 : -A ≤ a) (h2 : a ≤ A) (h3 : 0 ≤ b) (h4 : b ≤ B) : -(A * B) ≤ a * b ∧ a * b ≤ A * B := by
  have hA : 0 ≤ A := by omega
  have p1 : a * b ≤ A * b := Int.mul_le_mul_of_nonneg_right h2 h3
  have p2 : A * b ≤ A * B := Int.mul_le_mul_of_nonneg_left h4 hA
  have p3 : -A * b ≤ a * b := Int.mul_le_mul_of_nonneg_right h1 h3
  rw [Int.neg_mul] at p3
  omega

structure Cell3 (w : World) (b : Nat) (x y z : Int) : Prop where
  c0 : w.cell? ⟨b, 0, none⟩ = some (.int .i64 x)
  c1 : w.cell? ⟨b, 1, none⟩ = some (.int .i64 y)
  c2 : w.cell? ⟨b, 2, none⟩ = some (.int .i64 z)
theorem Cell3.below {w w' : World} {b : Nat} {x y z : Int} (h : Cell3 w b x y z) (hb : Below w.heap.size w w') : Cell3 w' b x y z :=
  ⟨cellB hb h.c0, cellB hb h.c1, cellB hb h.c2⟩
theorem Cell3.set {w : World} {b p q : Nat} {x y z : Int} {u : Value} (h : Cell3 w b x y z) (hne : b ≠ p) : Cell3 (w.setCell ⟨p, q, none⟩ u) b x y z := by
  have e : ∀ o : Nat, (w.setCell ⟨p, q, none⟩ u).cell? ⟨b, o, none⟩ = w.cell? ⟨b, o, none⟩ := fun o => World.cell?_of_block (w := w) (Below.heap_setCell w ⟨p, q, none⟩ u b hne)
  exact ⟨by rw [e]; exact h.c0, by rw [e]; exact h.c1, by rw [e]; exact h.c2⟩
theorem Cell3.drew {w : World} {b : Nat} {x y z : Int} (h : Cell3 w b x y z) : Cell3 w.drew b x y z := ⟨h.c0, h.c1, h.c2⟩
theorem Cell2.drew {w : World} {b : Nat} {x y : Int} (h : Cell2 w b x y) : Cell2 w.drew b x y := ⟨h.c0, h.c1, h.f0, h.f1⟩
theorem Cell2.set {w : World} {b p q : Nat} {x y : Int} {u : Value} (h : Cell2 w b x y) (hne : b ≠ p) : Cell2 (w.setCell ⟨p, q, none⟩ u) b x y := by
  have e : ∀ o : Nat, (w.setCell ⟨p, q, none⟩ u).cell? ⟨b, o, none⟩ = w.cell? ⟨b, o, none⟩ := fun o => World.cell?_of_block (w := w) (Below.heap_setCell w ⟨p, q, none⟩ u b hne)
  have f : ∀ o : Nat, (w.setCell ⟨p, q, none⟩ u).frozen? ⟨b, o, none⟩ = w.frozen? ⟨b, o, none⟩ := fun o => World.frozen?_of_block (w := w) (Below.heap_setCell w ⟨p, q, none⟩ u b hne)
  exact ⟨by rw [e]; exact h.c0, by rw [e]; exact h.c1, by rw [f]; exact h.f0, by rw [f]; exact h.f1⟩


set_option maxRecDepth 100000 in
set_option maxHeartbeats 3200000 in
theorem Steepest_c (a : Option Addr) (n c : Nat) (L : List Rd) (w : World) (h : SlO w a n L) : Calls Try.prog 35 #[.slice a n c] w (RetQ w (stN L) (stD L) (vErr L)) := by
  by_cases h0 : vErr L = 0
  · have hv0 : (vErr L != 0) = false := by rw [h0]; rfl
    have hv := vErr_zero.1 h0
    obtain ⟨b, o, rfl, hS⟩ : ∃ b o, a = some ⟨b, o, none⟩ ∧ Sl w b o n L := by
      rcases h.2 with h' | h'
      · have := hv.pos; have := h.1; omega
      · exact h'
    have hn8 : n ≤ 8 := by have := hv.le; have := h.1; omega
    have e1 : stN L = redN (outI L n n).1 (outI L n n).2 := by unfold stN steep; rw [if_pos h0, hS.len]
    have e2 : stD L = redD (outI L n n).1 (outI L n n).2 := by unfold stD steep; rw [if_pos h0, hS.len]
    rw [e1, e2, h0]
    have HLn : Hid (L.length = n) := Lib.hid h.1.symm
    have HV := Lib.hid hv
    have HS := Lib.hid hS
    clear e1 e2 h0 hv hS
    have hA : Below w.heap.size w (w.alloc (.cells #[.int .i64 0, .int .i64 0] 45)) := (Below.refl _ _).alloc (Nat.le_refl _) _
    have hC : Cell2 (w.alloc (.cells #[.int .i64 0, .int .i64 0] 45)) w.heap.size 0 0 := ⟨by simp [go_sem], by simp [go_sem], by simp [go_sem], by simp [go_sem]⟩
    have HA := Lib.hid hA
    have HC := Lib.hid hC
    clear hA hC
    go_enter Try.func35, Try.ntmps35
    go_wp2_with fail
    refine (validate_c _ _ _ _ _ (h.below HA.out (Nat.le_refl _))).mono ?_
    rintro e w1 ⟨rfl, hb1⟩
    have B1 : Below w.heap.size w w1 := btr HA.out hb1
    have C1 := Lib.hid (HC.out.below hb1)
    go_wp2_with fail
    refine wp_world ?_
    intro w2 hw2
    have B2 : Below w.heap.size w w2 := by rw [hw2]; exact B1.alloc B1.size _
    have D2 : Cell2 w2 w1.heap.size 0 1 := by rw [hw2]; exact ⟨by simp [go_sem], by simp [go_sem], by simp [go_sem], by simp [go_sem]⟩
    have C2 : Cell2 w2 w.heap.size 0 0 := by rw [hw2]; exact C1.out.below ((Below.refl _ _).alloc (Nat.le_refl _) _)
    have hB : w.heap.size < w1.heap.size := C1.out.lt
    have hne0 : w.heap.size ≠ w1.heap.size := by omega
    generalize w1.heap.size = B5 at *
    have D2' := Lib.hid D2
    have C2' := Lib.hid C2
    have B2' := Lib.hid B2
    clear hw2 hb1 B1 C1 HC HA D2 C2 B2
    go_loopw [22] (fun i wr => ∃ k : Nat, k ≤ n ∧ i = .int .i64 k ∧ Below w.heap.size w wr ∧ Cell2 wr w.heap.size 0 0 ∧ Cell2 wr B5 (redN (outI L n k).1 (outI L n k).2) (redD (outI L n k).1 (outI L n k).2)) (fun i _ => n - (intOf i).toNat)
    case atStart => exact ⟨0, Nat.zero_le _, rfl, B2'.out, C2'.out, (show Cell2 w2 B5 (redN 0 1) (redD 0 1) from D2'.out)⟩
    case round =>
      obtain ⟨k, hk, rfl, hb, hC, hD⟩ := hrel
      have HC := Lib.hid hC
      have HD := Lib.hid hD
      clear hC hD B2' C2' D2'
      by_cases hlt : k < n
      · have hS' := HS.out.below hb (Nat.le_refl _)
        have c0 := hS'.c0 k hlt
        have c1 := hS'.c1 k hlt
        have c2 := hS'.c2 k hlt
        clear hS'
        have hst := outI_ok HV.out k (by rw [HLn.out]; exact hk)
        rw [HLn.out] at hst
        have hin0 : outI L n (k + 1) = inK L k (outI L n k) n := rfl
        have HST := Lib.hid hst
        have HIN := Lib.hid hin0
        clear hst hin0
        generalize outI L n k = s0 at *
        go_wp2_with fail
        refine wp_world ?_
        intro w3 hw3
        have B3 : Below w.heap.size w w3 := by rw [hw3]; exact hb.alloc hb.size _
        have C3 := Lib.hid (show Cell2 w3 w.heap.size 0 0 by rw [hw3]; exact HC.out.below ((Below.refl _ _).alloc (Nat.le_refl _) _))
        have D3 := Lib.hid (show Cell2 w3 B5 (redN s0.1 s0.2) (redD s0.1 s0.2) by rw [hw3]; exact HD.out.below ((Below.refl _ _).alloc (Nat.le_refl _) _))
        have X3 : Cell3 w3 wr.heap.size (at_ L k).t (at_ L k).lo (at_ L k).hi := by rw [hw3]; exact ⟨by simp [go_sem], by simp [go_sem], by simp [go_sem]⟩
        have hne7 : wr.heap.size ≠ B5 := by have := HD.out.lt; omega
        generalize wr.heap.size = B7 at *
        have X3' := Lib.hid X3
        have hB3 := Lib.hid B3
        clear hw3 hb HC HD c0 c1 c2 X3 B3
        go_loopw [28] (fun i wr => ∃ j : Nat, j ≤ n ∧ i = .int .i64 j ∧ Below w.heap.size w wr ∧ Cell2 wr w.heap.size 0 0 ∧ Cell2 wr B5 (redN (inK L k s0 j).1 (inK L k s0 j).2) (redD (inK L k s0 j).1 (inK L k s0 j).2) ∧ Cell3 wr B7 (at_ L k).t (at_ L k).lo (at_ L k).hi) (fun i _ => n - (intOf i).toNat)
        case atStart => exact ⟨0, Nat.zero_le _, rfl, hB3.out, C3.out, D3.out, X3'.out⟩
        case round =>
          obtain ⟨j, hj, rfl, hb, hC, hD, hX⟩ := hrel
          have HC := Lib.hid hC
          have HD := Lib.hid hD
          have HX := Lib.hid hX
          clear hC hD hX hB3 C3 D3 X3'
          by_cases hjt : j < n
          · have hS' := HS.out.below hb (Nat.le_refl _)
            have c0 := hS'.c0 j hjt
            have c1 := hS'.c1 j hjt
            have c2 := hS'.c2 j hjt
            clear hS'
            have hst := inK_ok HV.out (i := k) (by rw [HLn.out]; exact hlt) HST.out j (by rw [HLn.out]; exact hj)
            have hup : inK L k s0 (j + 1) = upd L k j (inK L k s0 j) := rfl
            have HST2 := Lib.hid hst
            have HUP := Lib.hid hup
            clear hst hup
            generalize inK L k s0 j = s at *
            go_wp2_with fail
            refine wp_world ?_
            intro w4 hw4
            have B4 : Below w.heap.size w w4 := by rw [hw4]; exact hb.alloc hb.size _
            have C4 := Lib.hid (show Cell2 w4 w.heap.size 0 0 by rw [hw4]; exact HC.out.below ((Below.refl _ _).alloc (Nat.le_refl _) _))
            have D4 := Lib.hid (show Cell2 w4 B5 (redN s.1 s.2) (redD s.1 s.2) by rw [hw4]; exact HD.out.below ((Below.refl _ _).alloc (Nat.le_refl _) _))
            have X4 := Lib.hid (show Cell3 w4 B7 (at_ L k).t (at_ L k).lo (at_ L k).hi by rw [hw4]; exact HX.out.below ((Below.refl _ _).alloc (Nat.le_refl _) _))
            have y0 : w4.cell? ⟨wr.heap.size, 0, none⟩ = some (.int .i64 (at_ L j).t) := by rw [hw4]; simp [go_sem]
            have y2 : w4.cell? ⟨wr.heap.size, 2, none⟩ = some (.int .i64 (at_ L j).hi) := by rw [hw4]; simp [go_sem]
            clear hw4 hb HC HD HX c0 c1 c2
            have k0 := cell_regrown y0
            have k2 := cell_regrown y2
            have l0 := cell_regrown X4.out.c0
            have l1 := cell_regrown X4.out.c1
            obtain ⟨⟨a1, a2⟩, ⟨a3, a4⟩, a5, a6⟩ := HV.out.bd (i := k) (by rw [HLn.out]; exact hlt)
            obtain ⟨⟨b1, b2⟩, ⟨b3, b4⟩, b5, b6⟩ := HV.out.bd (i := j) (by rw [HLn.out]; exact hjt)
            have cF := fun d os => rg_same (far_c (at_ L k).t (at_ L j).t (grow (redrawn w4 d) os) (by omega) (by omega) (by omega) (by omega))
            have hspan : span L k j = far (at_ L k).t (at_ L j).t := rfl
            have hspb := span_bd HV.out (i := k) (k := j) (by rw [HLn.out]; exact hlt) (by rw [HLn.out]; exact hjt)
            have hsp0 := fun hne : k ≠ j => span_pos HV.out (i := k) (k := j) (by rw [HLn.out]; exact hlt) (by rw [HLn.out]; exact hjt) hne
            have hsps := span_self L k
            have HSPS := Lib.hid hsps
            have HSP0 := Lib.hid hsp0
            rw [← hspan] at cF
            clear hspan hsps hsp0
            refine wp_region_B (by kernel_rfl) (by kernel_rfl) ?_
            repeat (go_big_quiet_step (exact cF _ _))
            refine wpQuiet_nil ?_

            intro w5 hb5
            have B5' : Below w.heap.size w w5 := btr B4 hb5
            have C5 := Lib.hid (C4.out.below hb5)
            have D5 := Lib.hid (D4.out.below hb5)
            have X5 := Lib.hid (X4.out.below hb5)
            clear k0 k2 l0 l1 cF y0 y2 C4 D4 X4 hb5 B4
            have hrise : rise L k j = (at_ L k).lo - (at_ L j).hi := rfl
            have HRI := Lib.hid hrise
            clear hrise
            have r1 : -2000 ≤ (at_ L k).lo - (at_ L j).hi := by omega
            have r2 : (at_ L k).lo - (at_ L j).hi ≤ 2000 := by omega
            have d0 := D5.out.c0
            have d1 := D5.out.c1
            obtain ⟨s1, s2⟩ := hspb
            have q0 := HST2.out.d0
            have q1 : 0 < s.2 := by omega
            have n0 := redN_nonneg q1 HST2.out.n0
            have n1 := Int.le_trans (redN_le (d := s.2) HST2.out.n0) HST2.out.n1
            have m0 := redD_pos (n := s.1) q1
            have m1 := Int.le_trans (redD_le (n := s.1) q1) HST2.out.d1
            have hlt2 := red_lt (n := s.1) (d := s.2) (x := rise L k j) (y := span L k j) q1
            rw [HRI.out] at hlt2
            have HLT := Lib.hid hlt2
            clear hlt2 q0 q1
            generalize hgr : (at_ L k).lo - (at_ L j).hi = ri at *
            generalize hgn : redN s.1 s.2 = nn at *
            generalize hgd : redD s.1 s.2 = dd at *
            generalize hgs : span L k j = sp at *
            have HGN := Lib.hid hgn
            have HGD := Lib.hid hgd
            have HGS := Lib.hid hgs
            clear hgr hgn hgd hgs a1 a2 a3 a4 a5 a6 b1 b2 b3 b4 b5 b6
            obtain ⟨p1, p2⟩ := mul_bd (A := 2000) (B := 1000) r1 r2 (Int.le_of_lt m0) m1
            obtain ⟨p3, p4⟩ := mul_bd (A := 2000) (B := 1000) (by omega) n1 s1 s2
            by_cases hup : k ≠ j ∧ s.1 * sp < ri * s.2
            · have hsp : 0 < sp := HSP0.out hup.1
              have hcmp : nn * sp < ri * dd := HLT.out.2 hup.2
              have hri : 0 < ri := by
                apply Int.not_le.1
                intro hneg
                have e1 := Int.mul_le_mul_of_nonneg_right hneg (Int.le_of_lt m0)
                have e2 := Int.mul_nonneg n0 s1
                omega
              have HU : Hid (upd L k j s = (ri, sp)) := Lib.hid (by unfold upd; rw [HGS.out, HRI.out, if_pos hup])
              have g0 := gcdI_pos (a := ri) hsp
              have g1 := gcdI_le (a := ri) hsp
              have v0 : 0 ≤ redN ri sp := redN_nonneg hsp (Int.le_of_lt hri)
              have v1 : 0 < redD ri sp := redD_pos hsp
              have hgn' : redN ri sp = ri / gcdI ri sp := rfl
              have hgd' : redD ri sp = sp / gcdI ri sp := rfl
              have HG1 := Lib.hid hgn'
              have HG2 := Lib.hid hgd'
              clear hgn' hgd' hup
              go_wp2_with fail
              refine (gcd_c _ _ _ (by omega) (by omega) (by omega) (by omega)).mono ?_
              rintro e w6 ⟨rfl, rfl⟩
              have f0 := D5.out.f0
              have f1 := D5.out.f1
              generalize hgg : gcdI ri sp = g at *
              clear hgg
              go_wp2_with fail
              go_region
              go_wp2_with fail
              refine ⟨⟨j + 1, by omega, by go_num, ?_, ?_, ?_, ?_⟩, by simp [intOf]; omega⟩
              · go_grown
              · exact ((C5.out.set hne0).set hne0).drew
              · rw [HUP.out, HU.out]
                rw [show redN (ri, sp).1 (ri, sp).2 = ri / g from HG1.out, show redD (ri, sp).1 (ri, sp).2 = sp / g from HG2.out]
                exact ⟨by simp [go_sem, d0], by simp [go_sem, d1], by simp [go_sem, f0], by simp [go_sem, f1]⟩
              · exact ((X5.out.set hne7).set hne7).drew
            · have hg : decide (0 < sp) = false ∨ (decide (0 < sp) = true ∧ decide (nn * sp < ri * dd) = false) := by
                by_cases hkj : k = j
                · left
                  have : sp = 0 := by rw [← HGS.out, ← hkj]; exact HSPS.out
                  rw [this]; rfl
                · right
                  refine ⟨decT (HSP0.out hkj), decF fun hc => hup ⟨hkj, HLT.out.1 hc⟩⟩
              have HU : Hid (upd L k j s = s) := Lib.hid (by unfold upd; rw [HGS.out, HRI.out, if_neg hup])
              clear hup
              rcases hg with hg | ⟨hg, hg2⟩
              all_goals
                go_wp2_with fail
                exact ⟨⟨j + 1, by omega, by go_num, B5', C5.out, by rw [HUP.out, HU.out, HGN.out, HGD.out]; exact D5.out, X5.out⟩, by simp [intOf]; omega⟩
          · have HJ : Hid (j = n) := Lib.hid (by omega)
            have hjt' : ¬ (j : Int) < n := by omega
            clear hjt
            go_wp2_with fail
            exact ⟨⟨k + 1, by omega, by go_num, hb, HC.out, by rw [HIN.out, ← HJ.out]; exact HD.out⟩, by simp [intOf]; omega⟩
      · have HK : Hid (k = n) := Lib.hid (by omega)
        have hlt' : ¬ (k : Int) < n := by omega
        clear hlt
        have d0 := HD.out.c0
        have d1 := HD.out.c1
        have c0 := HC.out.c0
        have c1 := HC.out.c1
        have f0 := HC.out.f0
        have f1 := HC.out.f1
        go_wp2_with fail
        refine bodyPost_ret (v := .tuple #[.agg #[.int .i64 (redN (outI L n k).1 (outI L n k).2), .int .i64 (redD (outI L n k).1 (outI L n k).2)], .int .i64 0]) (by simp [results, Try.results35, go_sem, c0, c1]) rfl ⟨by rw [HK.out], ?_⟩
        go_grown
  · have hv0 : (vErr L != 0) = true := by simpa using h0
    have e1 : stN L = 0 := by unfold stN; rw [if_neg h0]
    have e2 : stD L = 0 := by unfold stD; rw [if_neg h0]
    rw [e1, e2]
    have hA : Below w.heap.size w (w.alloc (.cells #[.int .i64 0, .int .i64 0] 45)) := (Below.refl _ _).alloc (Nat.le_refl _) _
    have hC : Cell2 (w.alloc (.cells #[.int .i64 0, .int .i64 0] 45)) w.heap.size 0 0 := ⟨by simp [go_sem], by simp [go_sem], by simp [go_sem], by simp [go_sem]⟩
    have HA := Lib.hid hA
    have HC := Lib.hid hC
    clear hA hC e1 e2 h0
    go_enter Try.func35, Try.ntmps35
    go_wp2_with fail
    refine (validate_c _ _ _ _ _ (h.below HA.out (Nat.le_refl _))).mono ?_
    rintro e w1 ⟨rfl, hb1⟩
    have B1 : Below w.heap.size w w1 := btr HA.out hb1
    have C1 := HC.out.below hb1
    have c0 := C1.c0
    have c1 := C1.c1
    have f0 := C1.f0
    have f1 := C1.f1
    clear C1
    go_wp2_with fail
    refine bodyPost_ret (v := .tuple #[.agg #[.int .i64 0, .int .i64 0], .int .i64 (vErr L)]) (by simp [results, Try.results35, go_sem, c0, c1]) rfl ⟨rfl, ?_⟩
    go_grown

end Go.Proofs.Ytgbdcemlnklmoaa
