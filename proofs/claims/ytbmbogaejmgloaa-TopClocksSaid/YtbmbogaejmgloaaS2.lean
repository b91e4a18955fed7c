/- The slack and the speed of jobs: program and reference. -/
import Derived.Test.YtbmbogaejmgloaaS
namespace Go.Proofs.Ytbmbogaejmgloaa
open Go.RowKit Go.Sort

/-- A number, a bool and an error number come back. -/
def RetS (w : World) (L : List Jb) (e : Ending) (w' : World) : Prop :=
  e = .returned (.tuple #[.int .i64 (slackJ L), .bool (someJ L), .int .i64 (vErr L)]) ∧ Below w.heap.size w w'
/-- A fraction and an error number come back. -/
def RetQ (w : World) (L : List Jb) (e : Ending) (w' : World) : Prop :=
  e = .returned (.tuple #[.agg #[.int .i64 (speedJ L).1, .int .i64 (speedJ L).2], .int .i64 (vErr L)]) ∧ Below w.heap.size w w'

def room (L : List Jb) (a b : Int) : Int := b - a - dem L a b
theorem sl_yes {L : List Jb} {a b : Int} {s : Int × Bool} (h1 : 0 < dem L a b) (h2 : s.2 = false ∨ b - a - dem L a b < s.1) : slU L a b s = (b - a - dem L a b, true) := if_pos ⟨h1, h2⟩
theorem sl_no {L : List Jb} {a b : Int} {s : Int × Bool} (h : ¬ (0 < dem L a b ∧ (s.2 = false ∨ b - a - dem L a b < s.1))) : slU L a b s = s := if_neg h

set_option maxRecDepth 100000 in
set_option maxHeartbeats 3200000 in
theorem Slack_c (a : Option Addr) (n c : Nat) (L : List Jb) (w : World) (h : SlO w a n L) : Calls Try.prog 28 #[.slice a n c] w (RetS w L) := by
  by_cases h0 : vErr L = 0
  · have hne : (vErr L != 0) = false := by simp [h0]
    have hv := vErr_zero.1 h0
    have HV := Lib.hid hv
    have H := Lib.hid h
    have HE := Lib.hid h0
    have hsl := slack_own hv
    have HSL := Lib.hid hsl
    have hso : someJ L = decide (0 < n) := by unfold someJ; rw [decT h0, h.1]; rfl
    have HSO := Lib.hid hso
    have hel : (edges L).length ≤ 1000 := by have := eOut_len hv.le L.length; have := hv.le; show (eOut L L.length).length ≤ 1000; omega
    have HBD := Lib.hid (fun i hi => edge_bd hv (i := i) hi)
    have HSM := Lib.hid (fun i hi => fo_some hv i hi)
    have HFO : Hid (∀ k, fo (slU L) (0, false) (edges L) (k + 1) = slU L (pr (edges L) k).1 (pr (edges L) k).2 (fo (slU L) (0, false) (edges L) k)) := fun _ => rfl
    clear h0 hv h hsl hso
    go_enter Try.func28, Try.ntmps28
    go_wp2_with fail
    refine (Validate_c _ _ _ _ _ H.out).mono ?_
    rintro e w1 ⟨rfl, hb1⟩
    go_wp2_with fail
    refine (edges_c _ _ _ _ _ (H.out.below hb1 (Nat.le_refl _)) HV.out).mono ?_
    rintro e w2 ⟨v2, rfl, hv2, hb2⟩
    have B2 := btr hb1 hb2
    obtain ⟨a2, c2, e2, i2, l2, m2, -⟩ := hv2
    rw [e2]
    have I2 := Lib.hid i2
    clear e2 i2 hb1 hb2
    generalize edges L = xs at *
    go_wp2_with fail
    go_loopw [6, 18] (fun s i wr => ∃ k : Nat, k ≤ xs.length ∧ i = .int .i64 k ∧ s = .int .i64 (fo (slU L) (0, false) xs k).1 ∧ Below w2.heap.size w2 wr) (fun _ i _ => xs.length - (intOf i).toNat)
    case atStart => exact ⟨0, Nat.zero_le _, rfl, rfl, Below.refl _ _⟩
    case round =>
      obtain ⟨k, hk, rfl, rfl, hb⟩ := hrel
      by_cases hlt : k < xs.length
      · obtain ⟨b2, o2, rfl, hP⟩ : ∃ b o, a2 = some ⟨b, o, none⟩ ∧ P2 w2 b o xs.length xs := by
          rcases I2.out.2 with h' | h'
          · omega
          · exact h'
        have c0 := (hP.below hb (Nat.le_refl _)).c0 k hlt
        have c1 := (hP.below hb (Nat.le_refl _)).c1 k hlt
        have hbd := HBD.out k hlt
        have hsm := HSM.out k hk
        have hfo := HFO.out k
        have HFK := Lib.hid hfo
        generalize fo (slU L) (0, false) xs k = s at *
        generalize (pr xs k).1 = p at *
        generalize (pr xs k).2 = q at *
        obtain ⟨y1, y2, y3, y4⟩ := hbd
        have hdb := dem_bd HV.out p q (n := L.length) (Nat.le_refl _)
        have hdd : demN L p q L.length = dem L p q := rfl
        rw [hdd] at hdb
        obtain ⟨y5, y6⟩ := hdb
        have HSM := Lib.hid hsm
        clear hP hdd hsm hfo
        go_wp2_with fail
        refine wp_world ?_
        intro w3 hw3
        have B3 : Below w2.heap.size w2 w3 := by rw [hw3]; exact hb.alloc hb.size _
        have x0 : w3.cell? ⟨wr.heap.size, 0, none⟩ = some (.int .i64 p) := by rw [hw3]; simp [go_sem]
        have x1 : w3.cell? ⟨wr.heap.size, 1, none⟩ = some (.int .i64 q) := by rw [hw3]; simp [go_sem]
        have k0 := cell_regrown x0
        have k1 := cell_regrown x1
        have cF := fun d os => Calls.regrown_of (demand_c a n c L p q (grow (redrawn w3 d) os) (H.out.below (btr (btr B2 B3) (below_regrown w3 d os)) (Nat.le_refl _)) HV.out)
        have hs1 : IntKind.i64.wrap (q - p) = q - p := IntWalk.i64_in _ (by omega)
        have hs2 : IntKind.i64.wrap (q - p - dem L p q) = q - p - dem L p q := IntWalk.i64_in _ (by omega)
        clear hw3 x0 x1 c0 c1
        refine wp_region_B (by kernel_rfl) (by kernel_rfl) ?_
        repeat (go_big_quiet_step (exact cF _ _))
        refine wpQuiet_nil ?_
        intro w4 hb4
        have B4 := btr B3 hb4
        clear k0 k1 cF hs1 hs2 hb4
        by_cases h0 : k = 0
        · have d0 : ((k : Int) == 0) = true := by simp [h0]
          have HN : Hid (fo (slU L) (0, false) xs (k + 1) = (q - p - dem L p q, true)) := Lib.hid (HFK.out.trans (sl_yes y4 (.inl (by rw [HSM.out, h0]; rfl))))
          clear h0
          go_wp2_with fail
          exact ⟨⟨k + 1, by omega, by go_num, by rw [HN.out], B4⟩, by simp [intOf]; omega⟩
        · have d0 : ((k : Int) == 0) = false := by simp; omega
          by_cases h1 : q - p - dem L p q < s.1
          · have d1 := decT h1
            have HN : Hid (fo (slU L) (0, false) xs (k + 1) = (q - p - dem L p q, true)) := Lib.hid (HFK.out.trans (sl_yes y4 (.inr h1)))
            clear h1
            go_wp2_with fail
            exact ⟨⟨k + 1, by omega, by go_num, by rw [HN.out], B4⟩, by simp [intOf]; omega⟩
          · have d1 := decF h1
            have HN : Hid (fo (slU L) (0, false) xs (k + 1) = s) := Lib.hid (HFK.out.trans (sl_no (fun h => h.2.elim (fun h' => by rw [HSM.out, decT (show 0 < k by omega)] at h'; cases h') h1)))
            clear h1
            go_wp2_with fail
            exact ⟨⟨k + 1, by omega, by go_num, by rw [HN.out], B4⟩, by simp [intOf]; omega⟩
      · have hkn : k = xs.length := by omega
        have hd : ¬ (k : Int) < xs.length := by omega
        have HKN := Lib.hid hkn
        clear hkn hlt
        go_wp2_with fail
        go_ret3
        refine ⟨?_, btr B2 hb⟩
        rw [HE.out, HSO.out, HKN.out, HSL.out]
        simp
  · have hne : (vErr L != 0) = true := by simpa using h0
    have HS : Hid (slackJ L = 0 ∧ someJ L = false) := Lib.hid ⟨if_neg h0, by unfold someJ; rw [decF h0]; rfl⟩
    clear h0
    go_enter Try.func28, Try.ntmps28
    go_wp2_with fail
    refine (Validate_c _ _ _ _ _ h).mono ?_
    rintro e w1 ⟨rfl, hb⟩
    go_wp2_with fail
    go_ret3
    exact ⟨by rw [HS.out.1, HS.out.2]; rfl, hb⟩

set_option maxRecDepth 100000 in
set_option maxHeartbeats 3200000 in
theorem rSlack_c (a : Option Addr) (n c : Nat) (L : List Jb) (w : World) (h : SlO w a n L) : Calls Try.prog 36 #[.slice a n c] w (RetS w L) := by
  by_cases h0 : vErr L = 0
  · have hne : (vErr L != 0) = false := by simp [h0]
    have hv := vErr_zero.1 h0
    have HV := Lib.hid hv
    have H := Lib.hid h
    have HE := Lib.hid h0
    have HSL := Lib.hid (slack_ref hv)
    have HIN : Hid (∀ k i, nIn (slU L) k (nOut (slU L) (0, false) k) (i + 1) = slU L k ((k + 1 + i : Nat) : Int) (nIn (slU L) k (nOut (slU L) (0, false) k) i)) := fun _ _ => rfl
    have HOUT : Hid (∀ k, nOut (slU L) (0, false) (k + 1) = nIn (slU L) k (nOut (slU L) (0, false) k) (60 - k)) := fun _ => rfl
    clear h0 hv h
    go_enter Try.func36, Try.ntmps36
    go_wp2_with fail
    refine (rValidate_c _ _ _ _ _ H.out).mono ?_
    rintro e w1 ⟨rfl, hb1⟩
    go_wp2_with fail
    go_loopw [6, 7, 8] (fun s t i wr => ∃ k : Nat, k ≤ 60 ∧ i = .int .i64 k ∧ s = .int .i64 (nOut (slU L) (0, false) k).1 ∧ t = .bool (nOut (slU L) (0, false) k).2 ∧ Below w.heap.size w wr) (fun _ _ i _ => 60 - (intOf i).toNat)
    case atStart => exact ⟨0, Nat.zero_le _, rfl, rfl, rfl, hb1⟩
    case round =>
      obtain ⟨k, hk, rfl, rfl, rfl, hb⟩ := hrel
      clear hb1
      by_cases hlt : k < 60
      · have hki : (k : Int) < 60 := by omega
        have HLT := Lib.hid hlt
        go_wp2_with fail
        obtain ⟨wo, hwo⟩ : ∃ wo : World, wo = wr := ⟨_, rfl⟩
        rw [← hwo] at hb ⊢
        clear hwo wr
        go_loopw [6, 7, 9] (fun s t i wr => ∃ j : Nat, j ≤ 60 - k ∧ i = .int .i64 ((k + 1 + j : Nat) : Int) ∧ s = .int .i64 (nIn (slU L) k (nOut (slU L) (0, false) k) j).1 ∧ t = .bool (nIn (slU L) k (nOut (slU L) (0, false) k) j).2 ∧ Below w.heap.size w wr) (fun _ _ i _ => 61 - (intOf i).toNat)
        case atStart => exact ⟨0, by omega, by go_num, rfl, rfl, hb⟩
        case round =>
          obtain ⟨j, hj, rfl, rfl, rfl, hb'⟩ := hrel
          clear hb
          by_cases hjt : j < 60 - k
          · have hji : ((k + 1 + j : Nat) : Int) ≤ 60 := by omega
            have HST := Lib.hid (HIN.out k j)
            have hqk : (k : Int) < ((k + 1 + j : Nat) : Int) := by omega
            have hq1 : ((k + 1 + j : Nat) : Int) + 1 = ((k + 1 + (j + 1) : Nat) : Int) := by omega
            have HQ := Lib.hid hq1
            generalize nIn (slU L) k (nOut (slU L) (0, false) k) j = s at *
            clear hq1
            have hmeas : 61 - (k + 1 + (j + 1)) < 61 - (k + 1 + j) := by omega
            generalize hq : k + 1 + j = q at *
            have hdb := dem_bd HV.out k q (n := L.length) (Nat.le_refl _)
            have hdd : demN L k q L.length = dem L k q := rfl
            rw [hdd] at hdb
            obtain ⟨y1, y2⟩ := hdb
            have HQQ := Lib.hid hq
            clear hdd hq
            go_wp2_with fail
            refine (rdemand_c _ _ _ _ _ _ _ (H.out.below hb' (Nat.le_refl _)) HV.out).mono ?_
            rintro e w2 ⟨rfl, hb2⟩
            have B2 := btr hb' hb2
            clear hb2
            by_cases h1 : 0 < dem L k q
            · have d1 := decT h1
              cases h2 : s.2 with
              | false =>
                have HN := Lib.hid (HST.out.trans (sl_yes h1 (.inl h2)))
                clear h1 h2
                go_wp2_with fail
                exact ⟨⟨j + 1, by omega, by rw [← HQ.out], by rw [HN.out], by rw [HN.out], B2⟩, by have := HQ.out; simp [intOf]; omega⟩
              | true =>
                by_cases h3 : (q : Int) - k - dem L k q < s.1
                · have d3 := decT h3
                  have HN := Lib.hid (HST.out.trans (sl_yes h1 (.inr h3)))
                  clear h1 h2 h3
                  go_wp2_with fail
                  exact ⟨⟨j + 1, by omega, by rw [← HQ.out], by rw [HN.out], by rw [HN.out], B2⟩, by have := HQ.out; simp [intOf]; omega⟩
                · have d3 := decF h3
                  have HN := Lib.hid (HST.out.trans (sl_no (fun h => h.2.elim (fun h' => by rw [h2] at h'; cases h') h3)))
                  have H2 := Lib.hid h2
                  clear h1 h2 h3
                  go_wp2_with fail
                  exact ⟨⟨j + 1, by omega, by rw [← HQ.out], by rw [HN.out], by rw [HN.out, H2.out], B2⟩, by have := HQ.out; simp [intOf]; omega⟩
            · have d1 := decF h1
              have HN := Lib.hid (HST.out.trans (sl_no (fun h => h1 h.1)))
              clear h1
              go_wp2_with fail
              exact ⟨⟨j + 1, by omega, by rw [← HQ.out], by rw [HN.out], by rw [HN.out], B2⟩, by have := HQ.out; simp [intOf]; omega⟩
          · have hjn : j = 60 - k := by omega
            have hji : ¬ ((k + 1 + j : Nat) : Int) ≤ 60 := by omega
            have HJ := Lib.hid hjn
            clear hjn hjt
            generalize k + 1 + j = q at *
            go_wp2_with fail
            exact ⟨⟨k + 1, by omega, by go_num, by rw [HOUT.out, ← HJ.out], by rw [HOUT.out, ← HJ.out], hb'⟩, by simp [intOf]; omega⟩
      · have hki : ¬ (k : Int) < 60 := by omega
        have HK : Hid (k = 60) := Lib.hid (by omega)
        clear hlt
        go_wp2_with fail
        go_ret3
        refine ⟨?_, hb⟩
        rw [HE.out, HK.out, HSL.out]
        rfl
  · have hne : (vErr L != 0) = true := by simpa using h0
    have HS : Hid (slackJ L = 0 ∧ someJ L = false) := Lib.hid ⟨if_neg h0, by unfold someJ; rw [decF h0]; rfl⟩
    clear h0
    go_enter Try.func36, Try.ntmps36
    go_wp2_with fail
    refine (rValidate_c _ _ _ _ _ h).mono ?_
    rintro e w1 ⟨rfl, hb⟩
    go_wp2_with fail
    go_ret3
    exact ⟨by rw [HS.out.1, HS.out.2]; rfl, hb⟩

theorem sp_yes {L : List Jb} {a b : Int} {s : Int × Int} (h : s.1 * (b - a) < dem L a b * s.2) : spU L a b s = (redN (dem L a b) (b - a), redD (dem L a b) (b - a)) := if_pos h
theorem sp_no {L : List Jb} {a b : Int} {s : Int × Int} (h : ¬ s.1 * (b - a) < dem L a b * s.2) : spU L a b s = s := if_neg h

theorem P2O.below {w w' : World} {B n : Nat} {a : Option Addr} {L : List (Int × Int)} (h : P2O w a n L) (hb : Below B w w') (hB : w.heap.size ≤ B) : P2O w' a n L := by
  obtain ⟨h1, h2⟩ := h
  refine ⟨h1, ?_⟩
  rcases h2 with h2 | ⟨b, o, h3, h4⟩
  · exact .inl h2
  · exact .inr ⟨b, o, h3, h4.below hb hB⟩
theorem P2O.set {w : World} {n p q : Nat} {a : Option Addr} {L : List (Int × Int)} {u : Value} (h : P2O w a n L) (hne : ∀ x : Addr, a = some x → p < x.block) : P2O (w.setCell ⟨p, q, none⟩ u) a n L := by
  obtain ⟨h1, h2⟩ := h
  refine ⟨h1, ?_⟩
  rcases h2 with h2 | ⟨b, o, h3, h4⟩
  · exact .inl h2
  · have hb : b ≠ p := by have := hne _ h3; simp at this; omega
    have e : ∀ o : Nat, (w.setCell ⟨p, q, none⟩ u).cell? ⟨b, o, none⟩ = w.cell? ⟨b, o, none⟩ := fun o => World.cell?_of_block (w := w) (Below.heap_setCell w ⟨p, q, none⟩ u b hb)
    exact .inr ⟨b, o, h3, ⟨h4.len, by simp only [World.setCell, Array.size_modify]; exact h4.lt, fun i hi => by rw [e]; exact h4.c0 i hi, fun i hi => by rw [e]; exact h4.c1 i hi⟩⟩

set_option maxRecDepth 100000 in
set_option maxHeartbeats 3200000 in
theorem Speed_c (a : Option Addr) (n c : Nat) (L : List Jb) (w : World) (h : SlO w a n L) : Calls Try.prog 29 #[.slice a n c] w (RetQ w L) := by
  have hA : Below w.heap.size w (w.alloc (.cells #[.int .i64 0, .int .i64 0] 44)) := (Below.refl _ _).alloc (Nat.le_refl _) _
  have hC : Cell2 (w.alloc (.cells #[.int .i64 0, .int .i64 0] 44)) w.heap.size 0 0 := ⟨by simp [go_sem], by simp [go_sem], by simp [go_sem], by simp [go_sem]⟩
  have HA := Lib.hid hA
  have HC := Lib.hid hC
  clear hA hC
  by_cases h0 : vErr L = 0
  · have hne : (vErr L != 0) = false := by simp [h0]
    have hv := vErr_zero.1 h0
    have HV := Lib.hid hv
    have H := Lib.hid h
    have HE := Lib.hid h0
    have HSP := Lib.hid (speed_own hv)
    have hel : (edges L).length ≤ 1000 := by have := eOut_len hv.le L.length; have := hv.le; show (eOut L L.length).length ≤ 1000; omega
    have HBD := Lib.hid (fun i hi => edge_bd hv (i := i) hi)
    have HOK := Lib.hid (fun i hi => fo_ok hv i hi)
    have HFO : Hid (∀ k, fo (spU L) (0, 1) (edges L) (k + 1) = spU L (pr (edges L) k).1 (pr (edges L) k).2 (fo (spU L) (0, 1) (edges L) k)) := fun _ => rfl
    clear h0 hv h
    go_enter Try.func29, Try.ntmps29
    go_wp2_with fail
    refine (Validate_c _ _ _ _ _ (H.out.below HA.out (Nat.le_refl _))).mono ?_
    rintro e w1 ⟨rfl, hb1⟩
    have B1 : Below w.heap.size w w1 := btr HA.out hb1
    have C1 := HC.out.below hb1
    clear hb1 HA HC
    go_wp2_with fail
    refine (ratio_c _ _ _ (by decide) (by decide) (by decide) (by decide)).mono ?_
    rintro e w2 ⟨rfl, hb2⟩
    rw [red_01.1, red_01.2]
    have B2 := btr B1 hb2
    have C2 := C1.below hb2
    have C2' := Lib.hid C2
    clear hb2 B1 C1 C2
    go_wp2_with fail
    refine (edges_c _ _ _ _ _ (H.out.below (B2.alloc B2.size _) (Nat.le_refl _)) HV.out).mono ?_
    rintro e w3 ⟨v3, rfl, hv3, hb3⟩
    have B3 : Below w.heap.size w w3 := btr (B2.alloc B2.size _) hb3
    have C3 := Lib.hid (C2'.out.below (btr ((Below.refl _ _).alloc (Nat.le_refl _) _) hb3))
    have D3 : Hid (Cell2 w3 w2.heap.size 0 1) := Lib.hid (Cell2.below (w := w2.alloc (.cells #[.int .i64 0, .int .i64 1] 44)) ⟨by simp [go_sem], by simp [go_sem], by simp [go_sem], by simp [go_sem]⟩ hb3)
    have hne0 : w.heap.size ≠ w2.heap.size := by have := C2'.out.lt; omega
    have hle0 : w.heap.size ≤ w2.heap.size := B2.size
    obtain ⟨a2, c2, e2, i2, l2, m2, bl2⟩ := hv3
    rw [e2]
    have I2 := Lib.hid i2
    have HBL : Hid (∀ x : Addr, a2 = some x → w2.heap.size < x.block) := Lib.hid (fun x hx => by have := bl2 x hx; simp at this; omega)
    clear bl2
    have HB3 := Lib.hid B3
    generalize w2.heap.size = B5 at *
    clear e2 i2 hb3 B2 C2' B3
    generalize edges L = xs at *
    go_wp2_with fail
    go_loopw [20] (fun i wr => ∃ k : Nat, k ≤ xs.length ∧ i = .int .i64 k ∧ Below w.heap.size w wr ∧ P2O wr a2 xs.length xs ∧ Cell2 wr w.heap.size 0 0 ∧ Cell2 wr B5 (fo (spU L) (0, 1) xs k).1 (fo (spU L) (0, 1) xs k).2) (fun i _ => xs.length - (intOf i).toNat)
    case atStart => exact ⟨0, Nat.zero_le _, rfl, HB3.out, I2.out, C3.out, D3.out⟩
    case round =>
      obtain ⟨k, hk, rfl, hb, hP, hC, hD⟩ := hrel
      have HP := Lib.hid hP
      have HC := Lib.hid hC
      have HD := Lib.hid hD
      clear hP hC hD I2 C3 D3 HB3
      by_cases hlt : k < xs.length
      · obtain ⟨b2, o2, hab, hP2⟩ : ∃ b o, a2 = some ⟨b, o, none⟩ ∧ P2 wr b o xs.length xs := by
          rcases HP.out.2 with h' | h'
          · omega
          · exact h'
        subst hab
        have c0 := hP2.c0 k hlt
        have c1 := hP2.c1 k hlt
        have hbd := HBD.out k hlt
        have hok := HOK.out k hk
        have hfo := HFO.out k
        have HFK := Lib.hid hfo
        generalize fo (spU L) (0, 1) xs k = s at *
        generalize (pr xs k).1 = p at *
        generalize (pr xs k).2 = q at *
        obtain ⟨y1, y2, y3, y4⟩ := hbd
        obtain ⟨s1, s2, s3, s4⟩ := hok
        have hdb := dem_bd HV.out p q (n := L.length) (Nat.le_refl _)
        have hdd : demN L p q L.length = dem L p q := rfl
        rw [hdd] at hdb
        obtain ⟨y5, y6⟩ := hdb
        clear hP2 hdd hfo
        go_wp2_with fail
        refine wp_world ?_
        intro w4 hw4
        have hba : Below wr.heap.size wr w4 := by rw [hw4]; exact (Below.refl _ _).alloc (Nat.le_refl _) _
        have x0 : w4.cell? ⟨wr.heap.size, 0, none⟩ = some (.int .i64 p) := by rw [hw4]; simp [go_sem]
        have x1 : w4.cell? ⟨wr.heap.size, 1, none⟩ = some (.int .i64 q) := by rw [hw4]; simp [go_sem]
        have B4 := btr hb hba
        have k0 := cell_regrown x0
        have k1 := cell_regrown x1
        have cF := fun d os => Calls.regrown_of (demand_c a n c L p q (grow (redrawn w4 d) os) (H.out.below (btr B4 (below_regrown w4 d os)) (Nat.le_refl _)) HV.out)
        have hs1 : IntKind.i64.wrap (q - p) = q - p := IntWalk.i64_in _ (by omega)
        clear hw4 x0 x1 c0 c1
        refine wp_region_B (by kernel_rfl) (by kernel_rfl) ?_
        repeat (go_big_quiet_step (exact cF _ _))
        refine wpQuiet_nil ?_
        intro w5 hb5
        have hbb := btr hba hb5
        have HP5 := Lib.hid (HP.out.below hbb (Nat.le_refl _))
        have HC5 := Lib.hid (HC.out.below hbb)
        have HD5 := Lib.hid (HD.out.below hbb)
        have BB := btr hb hbb
        clear k0 k1 cF hs1 hb5 hba hbb B4 hb HP HC HD
        have d0 := HD5.out.c0
        have d1 := HD5.out.c1
        obtain ⟨p1, p2⟩ := mul_bd (A := 480) (B := 60) y5 y6 (show 0 ≤ s.2 by omega) s4
        obtain ⟨p3, p4⟩ := mul_bd (A := 480) (B := 60) s1 s2 (show 0 ≤ q - p by omega) (show q - p ≤ 60 by omega)
        have hqp : 0 < q - p := by omega
        by_cases hc : s.1 * (q - p) < dem L p q * s.2
        · have dc := decT hc
          have HN := Lib.hid (HFK.out.trans (sp_yes hc))
          clear hc
          go_wp2_with fail
          refine (ratio_c _ _ _ y5 (by omega) hqp (by omega)).mono ?_
          rintro e w6 ⟨rfl, hb6⟩
          have D6 := HD5.out.below hb6
          have f0 := D6.f0
          have f1 := D6.f1
          have e0 := D6.c0
          have e1 := D6.c1
          have HP6 := Lib.hid (HP5.out.below hb6 (Nat.le_refl _))
          have HC6 := Lib.hid (HC5.out.below hb6)
          have B6 := btr BB hb6
          clear d0 d1 hb6 D6
          go_wp2_with fail
          refine ⟨⟨k + 1, by omega, by go_num, (B6.setCell hle0 _).setCell hle0 _, (HP6.out.set HBL.out).set HBL.out, (HC6.out.set hne0).set hne0, ?_⟩, by simp [intOf]; omega⟩
          rw [HN.out]
          exact ⟨by simp [go_sem, e0], by simp [go_sem, e1], by simp [go_sem, f0], by simp [go_sem, f1]⟩
        · have dc := decF hc
          have HN := Lib.hid (HFK.out.trans (sp_no hc))
          clear hc
          go_wp2_with fail
          exact ⟨⟨k + 1, by omega, by go_num, BB, HP5.out, HC5.out, by rw [HN.out]; exact HD5.out⟩, by simp [intOf]; omega⟩
      · have HK : Hid (k = xs.length) := Lib.hid (by omega)
        have hlt' : ¬ (k : Int) < xs.length := by omega
        clear hlt
        have d0 := HD.out.c0
        have d1 := HD.out.c1
        have c0 := HC.out.c0
        have c1 := HC.out.c1
        have f0 := HC.out.f0
        have f1 := HC.out.f1
        go_wp2_with fail
        refine bodyPost_ret (v := .tuple #[.agg #[.int .i64 (fo (spU L) (0, 1) xs k).1, .int .i64 (fo (spU L) (0, 1) xs k).2], .int .i64 0]) (by simp [results, Try.results29, go_sem, c0, c1]) rfl ⟨by rw [HK.out, HSP.out, HE.out], ?_⟩
        go_grown
  · have hne : (vErr L != 0) = true := by simpa using h0
    have HS : Hid (speedJ L = (0, 0)) := Lib.hid (if_neg h0)
    clear h0
    go_enter Try.func29, Try.ntmps29
    go_wp2_with fail
    refine (Validate_c _ _ _ _ _ (h.below HA.out (Nat.le_refl _))).mono ?_
    rintro e w1 ⟨rfl, hb1⟩
    have B1 : Below w.heap.size w w1 := btr HA.out hb1
    have C1 := HC.out.below hb1
    have c0 := C1.c0
    have c1 := C1.c1
    have f0 := C1.f0
    have f1 := C1.f1
    clear C1
    go_wp2_with fail
    refine bodyPost_ret (v := .tuple #[.agg #[.int .i64 0, .int .i64 0], .int .i64 (vErr L)]) (by simp [results, Try.results29, go_sem, c0, c1]) rfl ⟨by rw [HS.out], ?_⟩
    go_grown

set_option maxRecDepth 100000 in
set_option maxHeartbeats 3200000 in
theorem rSpeed_c (a : Option Addr) (n c : Nat) (L : List Jb) (w : World) (h : SlO w a n L) : Calls Try.prog 37 #[.slice a n c] w (RetQ w L) := by
  have hA : Below w.heap.size w (w.alloc (.cells #[.int .i64 0, .int .i64 0] 44)) := (Below.refl _ _).alloc (Nat.le_refl _) _
  have hC : Cell2 (w.alloc (.cells #[.int .i64 0, .int .i64 0] 44)) w.heap.size 0 0 := ⟨by simp [go_sem], by simp [go_sem], by simp [go_sem], by simp [go_sem]⟩
  have HA := Lib.hid hA
  have HC := Lib.hid hC
  clear hA hC
  by_cases h0 : vErr L = 0
  · have hne : (vErr L != 0) = false := by simp [h0]
    have hv := vErr_zero.1 h0
    have HV := Lib.hid hv
    have H := Lib.hid h
    have HE := Lib.hid h0
    have HSP : Hid (nOut (spU L) (0, 1) 60 = speedJ L) := Lib.hid (by unfold speedJ; rw [if_pos h0])
    have HIN : Hid (∀ k i, nIn (spU L) k (nOut (spU L) (0, 1) k) (i + 1) = spU L k ((k + 1 + i : Nat) : Int) (nIn (spU L) k (nOut (spU L) (0, 1) k) i)) := fun _ _ => rfl
    have HOUT : Hid (∀ k, nOut (spU L) (0, 1) (k + 1) = nIn (spU L) k (nOut (spU L) (0, 1) k) (60 - k)) := fun _ => rfl
    have HOK := Lib.hid (fun k (hk : k < 60) i hi => nestIn_ok hv hk i hi)
    clear h0 hv h
    go_enter Try.func37, Try.ntmps37
    go_wp2_with fail
    refine (rValidate_c _ _ _ _ _ (H.out.below HA.out (Nat.le_refl _))).mono ?_
    rintro e w1 ⟨rfl, hb1⟩
    have B1 : Below w.heap.size w w1 := btr HA.out hb1
    have C1 := HC.out.below hb1
    clear hb1 HA HC
    go_wp2_with fail
    refine wp_world ?_
    intro w3 hw3
    have B3 : Below w.heap.size w w3 := by rw [hw3]; exact B1.alloc B1.size _
    have C3 : Hid (Cell2 w3 w.heap.size 0 0) := Lib.hid (by rw [hw3]; exact C1.below ((Below.refl _ _).alloc (Nat.le_refl _) _))
    have D3 : Hid (Cell2 w3 w1.heap.size 0 1) := Lib.hid (by rw [hw3]; exact ⟨by simp [go_sem], by simp [go_sem], by simp [go_sem], by simp [go_sem]⟩)
    have hne0 : w.heap.size ≠ w1.heap.size := by have := C1.lt; omega
    have hle0 : w.heap.size ≤ w1.heap.size := B1.size
    have HB3 := Lib.hid B3
    generalize w1.heap.size = B5 at *
    clear hw3 B1 C1 B3
    go_loopw [6] (fun i wr => ∃ k : Nat, k ≤ 60 ∧ i = .int .i64 k ∧ Below w.heap.size w wr ∧ Cell2 wr w.heap.size 0 0 ∧ Cell2 wr B5 (nOut (spU L) (0, 1) k).1 (nOut (spU L) (0, 1) k).2) (fun i _ => 60 - (intOf i).toNat)
    case atStart => exact ⟨0, Nat.zero_le _, rfl, HB3.out, C3.out, D3.out⟩
    case round =>
      obtain ⟨k, hk, rfl, hb, hC, hD⟩ := hrel
      have HC := Lib.hid hC
      have HD := Lib.hid hD
      clear hC hD C3 D3 HB3
      by_cases hlt : k < 60
      · have hki : (k : Int) < 60 := by omega
        have HLT := Lib.hid hlt
        go_wp2_with fail
        obtain ⟨wo, hwo⟩ : ∃ wo : World, wo = wr := ⟨_, rfl⟩
        rw [← hwo] at hb HC HD ⊢
        clear hwo wr
        go_loopw [7] (fun i wr => ∃ j : Nat, j ≤ 60 - k ∧ i = .int .i64 ((k + 1 + j : Nat) : Int) ∧ Below w.heap.size w wr ∧ Cell2 wr w.heap.size 0 0 ∧ Cell2 wr B5 (nIn (spU L) k (nOut (spU L) (0, 1) k) j).1 (nIn (spU L) k (nOut (spU L) (0, 1) k) j).2) (fun i _ => 61 - (intOf i).toNat)
        case atStart => exact ⟨0, by omega, by go_num, hb, HC.out, HD.out⟩
        case round =>
          obtain ⟨j, hj, rfl, hb', hC, hD⟩ := hrel
          clear hb HC HD
          have HC := Lib.hid hC
          have HD := Lib.hid hD
          clear hC hD
          by_cases hjt : j < 60 - k
          · have hji : ((k + 1 + j : Nat) : Int) ≤ 60 := by omega
            have HST := Lib.hid (HIN.out k j)
            have hok := HOK.out k HLT.out j hj
            have hqk : (k : Int) < ((k + 1 + j : Nat) : Int) := by omega
            have hq1 : ((k + 1 + j : Nat) : Int) + 1 = ((k + 1 + (j + 1) : Nat) : Int) := by omega
            have HQ := Lib.hid hq1
            generalize nIn (spU L) k (nOut (spU L) (0, 1) k) j = s at *
            obtain ⟨s1, s2, s3, s4⟩ := hok
            clear hq1
            generalize hq : k + 1 + j = q at *
            have hdb := dem_bd HV.out k q (n := L.length) (Nat.le_refl _)
            have hdd : demN L k q L.length = dem L k q := rfl
            rw [hdd] at hdb
            obtain ⟨y1, y2⟩ := hdb
            have HQQ := Lib.hid hq
            clear hdd hq
            go_wp2_with fail
            refine (rdemand_c _ _ _ _ _ _ _ (H.out.below hb' (Nat.le_refl _)) HV.out).mono ?_
            rintro e w2 ⟨rfl, hb2⟩
            have B2 := btr hb' hb2
            have HC2 := Lib.hid (HC.out.below hb2)
            have HD2 := Lib.hid (HD.out.below hb2)
            clear hb2 HC HD hb'
            have d0 := HD2.out.c0
            have d1 := HD2.out.c1
            obtain ⟨p1, p2⟩ := mul_bd (A := 480) (B := 60) y1 y2 (show 0 ≤ s.2 by omega) s4
            obtain ⟨p3, p4⟩ := mul_bd (A := 480) (B := 60) s1 s2 (show 0 ≤ (q : Int) - k by omega) (show (q : Int) - k ≤ 60 by omega)
            have hqp : 0 < (q : Int) - k := by omega
            by_cases hc : s.1 * ((q : Int) - k) < dem L k q * s.2
            · have dc := decT hc
              have HN := Lib.hid (HST.out.trans (sp_yes hc))
              clear hc
              go_wp2_with fail
              refine (rRatio_c _ _ _ y1 (by omega) hqp (by omega)).mono ?_
              rintro e w6 ⟨rfl, hb6⟩
              have D6 := HD2.out.below hb6
              have f0 := D6.f0
              have f1 := D6.f1
              have e0 := D6.c0
              have e1 := D6.c1
              have HC6 := Lib.hid (HC2.out.below hb6)
              have B6 := btr B2 hb6
              clear d0 d1 hb6 D6
              go_wp2_with fail
              refine ⟨⟨j + 1, by omega, by rw [← HQ.out], (B6.setCell hle0 _).setCell hle0 _, (HC6.out.set hne0).set hne0, ?_⟩, by have := HQ.out; simp [intOf]; omega⟩
              rw [HN.out]
              exact ⟨by simp [go_sem, e0], by simp [go_sem, e1], by simp [go_sem, f0], by simp [go_sem, f1]⟩
            · have dc := decF hc
              have HN := Lib.hid (HST.out.trans (sp_no hc))
              clear hc
              go_wp2_with fail
              exact ⟨⟨j + 1, by omega, by rw [← HQ.out], B2, HC2.out, by rw [HN.out]; exact HD2.out⟩, by have := HQ.out; simp [intOf]; omega⟩
          · have hjn : j = 60 - k := by omega
            have hji : ¬ ((k + 1 + j : Nat) : Int) ≤ 60 := by omega
            have HJ := Lib.hid hjn
            clear hjn hjt
            generalize k + 1 + j = q at *
            go_wp2_with fail
            exact ⟨⟨k + 1, by omega, by go_num, hb', HC.out, by rw [HOUT.out, ← HJ.out]; exact HD.out⟩, by simp [intOf]; omega⟩
      · have hki : ¬ (k : Int) < 60 := by omega
        have HK : Hid (k = 60) := Lib.hid (by omega)
        clear hlt
        have d0 := HD.out.c0
        have d1 := HD.out.c1
        have c0 := HC.out.c0
        have c1 := HC.out.c1
        have f0 := HC.out.f0
        have f1 := HC.out.f1
        go_wp2_with fail
        refine bodyPost_ret (v := .tuple #[.agg #[.int .i64 (nOut (spU L) (0, 1) k).1, .int .i64 (nOut (spU L) (0, 1) k).2], .int .i64 0]) (by simp [results, Try.results37, go_sem, c0, c1]) rfl ⟨by rw [HK.out, HSP.out, HE.out], ?_⟩
        go_grown
  · have hne : (vErr L != 0) = true := by simpa using h0
    have HS : Hid (speedJ L = (0, 0)) := Lib.hid (if_neg h0)
    clear h0
    go_enter Try.func37, Try.ntmps37
    go_wp2_with fail
    refine (rValidate_c _ _ _ _ _ (h.below HA.out (Nat.le_refl _))).mono ?_
    rintro e w1 ⟨rfl, hb1⟩
    have B1 : Below w.heap.size w w1 := btr HA.out hb1
    have C1 := HC.out.below hb1
    have c0 := C1.c0
    have c1 := C1.c1
    have f0 := C1.f0
    have f1 := C1.f1
    clear C1
    go_wp2_with fail
    refine bodyPost_ret (v := .tuple #[.agg #[.int .i64 0, .int .i64 0], .int .i64 (vErr L)]) (by simp [results, Try.results37, go_sem, c0, c1]) rfl ⟨by rw [HS.out], ?_⟩
    go_grown

end Go.Proofs.Ytbmbogaejmgloaa
