/- numbered, CheckClash: contracts, program and reference. -/
import Derived.Test.YtgbdcemlnklmoaaD
namespace Go.Proofs.Ytgbdcemlnklmoaa
open Go.RowKit Go.Sort

def numErr (L : List Rd) (xs : List Int) : Int := if vErr L ≠ 0 then vErr L else if (scanJ (badN L.length xs) xs.length 0).isSome then 4 else 0

def inN (L : List Rd) (i : Int) : Bool := inB i 0 ((L.length : Int) - 1)
def clashI (L : List Rd) (r i j : Int) : Bool := clashB (at_ L i.toNat) (at_ L j.toNat) r
def ccErr (L : List Rd) (r i j : Int) : Int :=
  if vErr L ≠ 0 then vErr L
  else if ¬ (inN L i = true ∧ inN L j = true) then 4
  else if ¬ inB r 0 9 = true then 1
  else if i = j ∨ clashI L r i j = false then 7
  else 0

theorem ccErr_comm (L : List Rd) (r i j : Int) : ccErr L r i j = ccErr L r j i := by
  unfold ccErr
  have e1 : (inN L i = true ∧ inN L j = true) ↔ (inN L j = true ∧ inN L i = true) := And.comm
  have e2 : (i = j ∨ clashI L r i j = false) ↔ (j = i ∨ clashI L r j i = false) := by
    unfold clashI
    rw [clashB_comm, eq_comm]
  by_cases h1 : vErr L = 0
  · simp only [h1, ne_eq, not_true_eq_false, if_false, e1, e2]
  · simp only [h1, ne_eq, not_false_eq_true, if_true]

theorem ccErr_zero {L : List Rd} {r i j : Int} (h : ccErr L r i j = 0) : rErr L r = 0 ∧ aOk L r = false := by
  unfold ccErr at h
  by_cases h1 : vErr L = 0
  · by_cases h2 : inN L i = true ∧ inN L j = true
    · by_cases h3 : inB r 0 9 = true
      · by_cases h4 : i = j ∨ clashI L r i j = false
        · simp [h1, h2, h3, h4] at h
        · have hv := vErr_zero.1 h1
          have h5 := inB_true.1 h2.1
          have h6 := inB_true.1 h2.2
          have hr : rErr L r = 0 := by unfold rErr; simp [h1, h3]
          refine ⟨hr, ?_⟩
          cases ha : aOk L r
          · rfl
          · have := (agreeB_all hv).1 (aOk_true.1 ha).2 i.toNat j.toNat (by omega) (by omega)
            exact absurd (.inr this) h4
      · simp [h1, h2, h3] at h
    · simp [h1, h2] at h
  · simp [h1] at h

theorem numbered_c (a : Option Addr) (n c : Nat) (L : List Rd) (a2 : Option Addr) (n2 c2 : Nat) (xs : List Int) (w : World) (h : SlO w a n L) (h2 : IsO w a2 n2 xs) (hn : n ≤ 9223372036854775807) (hn2 : n2 ≤ 9223372036854775807) :
    Calls Try.prog 78 #[.slice a n c, .slice a2 n2 c2] w fun e w' => e = .returned (.int .i64 (numErr L xs)) ∧ Below w.heap.size w w' := by
  have hA : Below w.heap.size w (w.alloc (.cells #[.slice a n c] 22)) := (Below.refl _ _).alloc (Nat.le_refl _) _
  have HA := Lib.hid hA
  have HA3 : Hid ((w.alloc (.cells #[.slice a n c] 22)).cell? ⟨w.heap.size, 0, none⟩ = some (.slice a n c)) := Lib.hid (by simp [go_sem])
  clear hA
  by_cases h0 : vErr L = 0
  · have hv0 : (vErr L != 0) = false := by rw [h0]; rfl
    have HE : Hid (∀ s : Bool, (scanJ (badN n xs) n2 0).isSome = s → numErr L xs = if s then 4 else 0) := Lib.hid (by
      intro s hs
      unfold numErr
      rw [if_neg (by simp [h0]), ← h.1, ← h2.1, hs])
    generalize numErr L xs = R at *
    clear h0
    go_enter Try.func78, Try.ntmps78
    go_wp2_with fail
    refine (validate_c _ _ _ _ _ (h.below HA.out (Nat.le_refl _))).mono ?_
    rintro e w1 ⟨rfl, hb1⟩
    have B1 : Below w.heap.size w w1 := btr HA.out hb1
    have C1 := cellB hb1 HA3.out
    go_wp2_with fail
    refine (has_89 _ _ _ _ _ _ _ _ _ (h2.below B1 (Nat.le_refl _)) hn2 C1 hn).mono ?_
    rintro e w2 ⟨rfl, hb2⟩
    cases hs : (scanJ (badN n xs) n2 0).isSome
    · go_wp2_with fail
      go_ret
      exact ⟨by rw [HE.out _ hs]; rfl, btr B1 hb2⟩
    · go_wp2_with fail
      go_ret
      exact ⟨by rw [HE.out _ hs]; rfl, btr B1 hb2⟩
  · have hv0 : (vErr L != 0) = true := by simpa using h0
    have hE : numErr L xs = vErr L := by unfold numErr; rw [if_pos h0]
    rw [hE]
    clear h0 hE hn hn2 h2
    go_enter Try.func78, Try.ntmps78
    go_wp2_with fail
    refine (validate_c _ _ _ _ _ (h.below HA.out (Nat.le_refl _))).mono ?_
    rintro e w1 ⟨rfl, hb1⟩
    go_wp2_with fail
    go_ret
    exact ⟨rfl, btr HA.out hb1⟩

theorem num_two {L : List Rd} {i j : Int} (h0 : vErr L = 0) : numErr L [i, j] = if inN L i = true ∧ inN L j = true then 0 else 4 := by
  have hs : (scanJ (badN L.length [i, j]) [i, j].length 0).isSome = !(inN L i && inN L j) := by
    simp only [List.length_cons, List.length_nil]
    unfold scanJ scanJ scanJ badN inN gi
    simp only [List.getD_cons_zero, List.getD_cons_succ]
    cases inB i 0 ((L.length : Int) - 1) <;> cases inB j 0 ((L.length : Int) - 1) <;> rfl
  unfold numErr
  rw [if_neg (by simp [h0]), hs]
  cases inN L i <;> cases inN L j <;> rfl

theorem cc_v {L : List Rd} {r i j : Int} (h : ¬ vErr L = 0) : ccErr L r i j = vErr L := by simp [ccErr, h]
theorem cc_4 {L : List Rd} {r i j : Int} (h : vErr L = 0) (h2 : ¬ (inN L i = true ∧ inN L j = true)) : ccErr L r i j = 4 := by
  unfold ccErr; rw [if_neg (by simp [h]), if_pos h2]
theorem cc_1 {L : List Rd} {r i j : Int} (h : vErr L = 0) (h2 : inN L i = true ∧ inN L j = true) (h3 : inB r 0 9 = false) : ccErr L r i j = 1 := by
  unfold ccErr; rw [if_neg (by simp [h]), if_neg (by simp [h2]), if_pos (by simp [h3])]
theorem cc_7 {L : List Rd} {r i j : Int} (h : vErr L = 0) (h2 : inN L i = true ∧ inN L j = true) (h3 : inB r 0 9 = true) (h4 : i = j ∨ clashI L r i j = false) : ccErr L r i j = 7 := by
  unfold ccErr; rw [if_neg (by simp [h]), if_neg (by simp [h2]), if_neg (by simp [h3]), if_pos h4]
theorem cc_0 {L : List Rd} {r i j : Int} (h : vErr L = 0) (h2 : inN L i = true ∧ inN L j = true) (h3 : inB r 0 9 = true) (h4 : ¬ i = j) (h5 : clashI L r i j = true) : ccErr L r i j = 0 := by
  unfold ccErr; rw [if_neg (by simp [h]), if_neg (by simp [h2]), if_neg (by simp [h3]), if_neg (by simp [h4, h5])]


set_option maxRecDepth 100000 in
set_option maxHeartbeats 3200000 in
theorem CheckClash_c (a : Option Addr) (n c : Nat) (L : List Rd) (r i j : Int) (w : World) (h : SlO w a n L) (hn : n ≤ 9223372036854775807) :
    Calls Try.prog 43 #[.slice a n c, .int .i64 r, .int .i64 i, .int .i64 j] w fun e w' => e = .returned (.int .i64 (ccErr L r i j)) ∧ Below w.heap.size w w' := by
  have hA : Below w.heap.size w (w.alloc (.cells #[.int .i64 i, .int .i64 j] 3)) := (Below.refl _ _).alloc (Nat.le_refl _) _
  have HA := Lib.hid hA
  have hI : IsO (w.alloc (.cells #[.int .i64 i, .int .i64 j] 3)) (some ⟨w.heap.size, 0, none⟩) 2 [i, j] := IsO.of ⟨rfl, by simp, fun k hk => by
    have hk' : k = 0 ∨ k = 1 := by omega
    rcases hk' with rfl | rfl <;> simp [go_sem, gi]⟩
  have HI := Lib.hid hI
  clear hA hI
  by_cases h0 : vErr L = 0
  · have h0' := h0
    have HV := Lib.hid (vErr_zero.1 h0)
    obtain ⟨b, o, rfl, hS⟩ : ∃ b o, a = some ⟨b, o, none⟩ ∧ Sl w b o n L := by
      rcases h.2 with h' | h'
      · have := HV.out.pos; have := h.1; omega
      · exact h'
    by_cases h2 : inN L i = true ∧ inN L j = true
    · have hne : numErr L [i, j] = 0 := by rw [num_two h0, if_pos h2]
      have hnn : (numErr L [i, j] != 0) = false := by rw [hne]; rfl
      have HN := Lib.hid hne
      clear hne h0
      cases h3 : inB r 0 9
      · have hr : rErr L r = 1 := by unfold rErr; simp [h0', h3]
        have hrr : (rErr L r != 0) = true := by rw [hr]; rfl
        have HC := Lib.hid (cc_1 h0' h2 h3)
        have HR := Lib.hid hr
        clear hr h3 h2 h0'
        go_enter Try.func43, Try.ntmps43
        go_wp2_with fail
        refine (numbered_c _ _ _ _ _ _ _ _ _ (h.below HA.out (Nat.le_refl _)) HI.out hn (by omega)).mono ?_
        rintro e w1 ⟨rfl, hb1⟩
        have B1 : Below w.heap.size w w1 := btr HA.out hb1
        go_wp2_with fail
        refine (rated_c _ _ _ _ _ _ (h.below B1 (Nat.le_refl _))).mono ?_
        rintro e w2 ⟨rfl, hb2⟩
        go_wp2_with fail
        go_ret
        exact ⟨by rw [HC.out, ← HR.out]; rfl, btr B1 hb2⟩
      · have hr : rErr L r = 0 := by unfold rErr; simp [h0', h3]
        have hrr : (rErr L r != 0) = false := by rw [hr]; rfl
        clear hr
        go_enter Try.func43, Try.ntmps43
        go_wp2_with fail
        refine (numbered_c _ _ _ _ _ _ _ _ _ (h.below HA.out (Nat.le_refl _)) HI.out hn (by omega)).mono ?_
        rintro e w1 ⟨rfl, hb1⟩
        have B1 : Below w.heap.size w w1 := btr HA.out hb1
        go_wp2_with fail
        refine (rated_c _ _ _ _ _ _ (h.below B1 (Nat.le_refl _))).mono ?_
        rintro e w2 ⟨rfl, hb2⟩
        have BX := btr B1 hb2
        clear hb1 hb2 B1
        have hin := inB_true.1 h2.1
        have hjn := inB_true.1 h2.2
        have hr9 := inB_true.1 h3
        by_cases hij : i = j
        · have hq : (i == j) = true := by simp [hij]
          have HC := Lib.hid (cc_7 h0' h2 h3 (.inl hij))
          clear hij
          go_wp2_with fail
          refine wp_region_B (by kernel_rfl) (by kernel_rfl) ?_
          repeat (go_big_quiet_step (fail))
          refine wpQuiet_nil ?_
          intro w4 hb4
          go_wp2_with fail
          go_ret
          exact ⟨by rw [HC.out]; rfl, btr BX hb4⟩
        · have hq : (i == j) = false := by simp [hij]
          obtain ⟨ii, hii⟩ : ∃ k : Nat, i = k := ⟨i.toNat, by omega⟩
          obtain ⟨jj, hjj⟩ : ∃ k : Nat, j = k := ⟨j.toNat, by omega⟩
          subst hii hjj
          have hiL : ii < L.length := by omega
          have hjL : jj < L.length := by omega
          have hil : ii < n := by have := hS.len; omega
          have hjl : jj < n := by have := hS.len; omega
          have hS' := hS.below BX (Nat.le_refl _)
          have k0 := cell_regrown (hS'.c0 ii hil)
          have k1 := cell_regrown (hS'.c1 ii hil)
          have k2 := cell_regrown (hS'.c2 ii hil)
          have j0 := cell_regrown (hS'.c0 jj hjl)
          have j1 := cell_regrown (hS'.c1 jj hjl)
          have j2 := cell_regrown (hS'.c2 jj hjl)
          have cF := fun d os => Calls.regrown_of (clash_c (at_ L ii) (at_ L jj) r (grow (redrawn w2 d) os) (HV.out.ok ii hiL) (HV.out.ok jj hjL) hr9.1 hr9.2)
          have HS2 := Lib.hid hS
          clear hS'
          cases hc : clashB (at_ L ii) (at_ L jj) r
          · have HC := Lib.hid (cc_7 h0' h2 h3 (.inr (show clashI L r (ii : Int) (jj : Int) = false from hc)))
            simp only [hc] at cF
            clear hc hij
            go_wp2_with fail
            refine wp_region_B (by kernel_rfl) (by kernel_rfl) ?_
            repeat (go_big_quiet_step (exact cF _ _))
            refine wpQuiet_nil ?_
            intro w4 hb4
            go_wp2_with fail
            go_ret
            exact ⟨by rw [HC.out]; rfl, btr BX hb4⟩
          · have HC := Lib.hid (cc_0 h0' h2 h3 hij (show clashI L r (ii : Int) (jj : Int) = true from hc))
            simp only [hc] at cF
            clear hc hij
            go_wp2_with fail
            refine wp_region_B (by kernel_rfl) (by kernel_rfl) ?_
            repeat (go_big_quiet_step (exact cF _ _))
            refine wpQuiet_nil ?_
            intro w4 hb4
            go_wp2_with fail
            go_ret
            exact ⟨by rw [HC.out]; rfl, btr BX hb4⟩

    · have hne : numErr L [i, j] = 4 := by rw [num_two h0, if_neg h2]
      have hnn : (numErr L [i, j] != 0) = true := by rw [hne]; rfl
      have HN := Lib.hid hne
      have HC := Lib.hid (cc_4 (r := r) h0 h2)
      clear hne h0 h0' h2
      go_enter Try.func43, Try.ntmps43
      go_wp2_with fail
      refine (numbered_c _ _ _ _ _ _ _ _ _ (h.below HA.out (Nat.le_refl _)) HI.out hn (by omega)).mono ?_
      rintro e w1 ⟨rfl, hb1⟩
      go_wp2_with fail
      go_ret
      exact ⟨by rw [HC.out, ← HN.out]; rfl, btr HA.out hb1⟩
  · have hne : numErr L [i, j] = vErr L := by unfold numErr; rw [if_pos h0]
    have hnn : (numErr L [i, j] != 0) = true := by rw [hne]; simpa using h0
    have HN := Lib.hid hne
    have HC := Lib.hid (cc_v (r := r) (i := i) (j := j) h0)
    clear hne h0
    go_enter Try.func43, Try.ntmps43
    go_wp2_with fail
    refine (numbered_c _ _ _ _ _ _ _ _ _ (h.below HA.out (Nat.le_refl _)) HI.out hn (by omega)).mono ?_
    rintro e w1 ⟨rfl, hb1⟩
    go_wp2_with fail
    go_ret
    exact ⟨by rw [HC.out, ← HN.out]; rfl, btr HA.out hb1⟩


set_option maxRecDepth 100000 in
set_option maxHeartbeats 3200000 in
theorem rCheckClash_c (a : Option Addr) (n c : Nat) (L : List Rd) (r i j : Int) (w : World) (h : SlO w a n L) (hn : n ≤ 9223372036854775807) :
    Calls Try.prog 45 #[.slice a n c, .int .i64 r, .int .i64 i, .int .i64 j] w fun e w' => e = .returned (.int .i64 (ccErr L r i j)) ∧ Below w.heap.size w w' := by
  by_cases h0 : vErr L = 0
  · have h0' := h0
    have hv0 : (vErr L != 0) = false := by rw [h0]; rfl
    have HV := Lib.hid (vErr_zero.1 h0)
    obtain ⟨b, o, rfl, hS⟩ : ∃ b o, a = some ⟨b, o, none⟩ ∧ Sl w b o n L := by
      rcases h.2 with h' | h'
      · have := HV.out.pos; have := h.1; omega
      · exact h'
    have hLn : L.length = n := h.1.symm
    have hni : inN L i = inB i 0 ((n : Int) - 1) := by unfold inN; rw [hLn]
    have hnj : inN L j = inB j 0 ((n : Int) - 1) := by unfold inN; rw [hLn]
    clear h0 hLn
    by_cases h2 : inN L i = true ∧ inN L j = true
    · have g1 : inB i 0 ((n : Int) - 1) = true := by rw [← hni]; exact h2.1
      have g2 : inB j 0 ((n : Int) - 1) = true := by rw [← hnj]; exact h2.2
      clear hni hnj
      cases h3 : inB r 0 9
      · have HC := Lib.hid (cc_1 h0' h2 h3)
        clear h2 h0'
        go_enter Try.func45, Try.ntmps45
        go_wp2_with (first | (go_at_call 30; refine (rvalidate_c _ _ _ _ _ h).mono ?_; rintro e w1 ⟨rfl, hb1⟩) | (go_at_call 64; refine (rwithin_c _ _ _ _).mono ?_; rintro e w' ⟨rfl, rfl⟩))
        go_ret
        exact ⟨by rw [HC.out]; rfl, hb1⟩
      · have H2 := Lib.hid h2
        have H0 := Lib.hid h0'
        clear h2 h0'
        go_enter Try.func45, Try.ntmps45
        go_wp2_with (first | (go_at_call 30; refine (rvalidate_c _ _ _ _ _ h).mono ?_; rintro e w1 ⟨rfl, BX⟩) | (go_at_call 64; refine (rwithin_c _ _ _ _).mono ?_; rintro e w' ⟨rfl, rfl⟩))
        have h2 := H2.out
        have h0' := H0.out
        have hin := inB_true.1 h2.1
        have hjn := inB_true.1 h2.2
        have hr9 := inB_true.1 h3
        by_cases hij : i = j
        · have hq : (i == j) = true := by simp [hij]
          have HC := Lib.hid (cc_7 h0' h2 h3 (.inl hij))
          clear hij
          go_wp2_with fail
          refine wp_region_B (by kernel_rfl) (by kernel_rfl) ?_
          repeat (go_big_quiet_step (fail))
          refine wpQuiet_nil ?_
          intro w4 hb4
          go_wp2_with fail
          go_ret
          exact ⟨by rw [HC.out]; rfl, btr BX hb4⟩
        · have hq : (i == j) = false := by simp [hij]
          obtain ⟨ii, hii⟩ : ∃ k : Nat, i = k := ⟨i.toNat, by omega⟩
          obtain ⟨jj, hjj⟩ : ∃ k : Nat, j = k := ⟨j.toNat, by omega⟩
          subst hii hjj
          have hiL : ii < L.length := by omega
          have hjL : jj < L.length := by omega
          have hil : ii < n := by have := hS.len; omega
          have hjl : jj < n := by have := hS.len; omega
          have hS' := hS.below BX (Nat.le_refl _)
          have k0 := cell_regrown (hS'.c0 ii hil)
          have k1 := cell_regrown (hS'.c1 ii hil)
          have k2 := cell_regrown (hS'.c2 ii hil)
          have j0 := cell_regrown (hS'.c0 jj hjl)
          have j1 := cell_regrown (hS'.c1 jj hjl)
          have j2 := cell_regrown (hS'.c2 jj hjl)
          have cF := fun d os => Calls.regrown_of (rclash_c (at_ L ii) (at_ L jj) r (grow (redrawn w1 d) os) (HV.out.ok ii hiL) (HV.out.ok jj hjL) hr9.1 hr9.2)
          have HS2 := Lib.hid hS
          clear hS'
          cases hc : clashB (at_ L ii) (at_ L jj) r
          · have HC := Lib.hid (cc_7 h0' h2 h3 (.inr (show clashI L r (ii : Int) (jj : Int) = false from hc)))
            simp only [hc] at cF
            clear hc hij
            go_wp2_with fail
            refine wp_region_B (by kernel_rfl) (by kernel_rfl) ?_
            repeat (go_big_quiet_step (exact cF _ _))
            refine wpQuiet_nil ?_
            intro w4 hb4
            go_wp2_with fail
            go_ret
            exact ⟨by rw [HC.out]; rfl, btr BX hb4⟩
          · have HC := Lib.hid (cc_0 h0' h2 h3 hij (show clashI L r (ii : Int) (jj : Int) = true from hc))
            simp only [hc] at cF
            clear hc hij
            go_wp2_with fail
            refine wp_region_B (by kernel_rfl) (by kernel_rfl) ?_
            repeat (go_big_quiet_step (exact cF _ _))
            refine wpQuiet_nil ?_
            intro w4 hb4
            go_wp2_with fail
            go_ret
            exact ⟨by rw [HC.out]; rfl, btr BX hb4⟩

    · have HC := Lib.hid (cc_4 (r := r) h0' h2)
      cases g1 : inB i 0 ((n : Int) - 1)
      · clear h2 h0' hni hnj
        go_enter Try.func45, Try.ntmps45
        go_wp2_with (first | (go_at_call 30; refine (rvalidate_c _ _ _ _ _ h).mono ?_; rintro e w1 ⟨rfl, hb1⟩) | (go_at_call 64; refine (rwithin_c _ _ _ _).mono ?_; rintro e w' ⟨rfl, rfl⟩))
        go_ret
        exact ⟨by rw [HC.out]; rfl, hb1⟩
      · have g2 : inB j 0 ((n : Int) - 1) = false := by
          cases g2 : inB j 0 ((n : Int) - 1)
          · rfl
          · exact absurd ⟨hni.trans g1, hnj.trans g2⟩ h2
        clear h2 h0' hni hnj
        go_enter Try.func45, Try.ntmps45
        go_wp2_with (first | (go_at_call 30; refine (rvalidate_c _ _ _ _ _ h).mono ?_; rintro e w1 ⟨rfl, hb1⟩) | (go_at_call 64; refine (rwithin_c _ _ _ _).mono ?_; rintro e w' ⟨rfl, rfl⟩))
        go_ret
        exact ⟨by rw [HC.out]; rfl, hb1⟩
  · have hv0 : (vErr L != 0) = true := by simpa using h0
    have HC := Lib.hid (cc_v (r := r) (i := i) (j := j) h0)
    clear h0
    go_enter Try.func45, Try.ntmps45
    go_wp2_with (first | (go_at_call 30; refine (rvalidate_c _ _ _ _ _ h).mono ?_; rintro e w1 ⟨rfl, hb1⟩))
    go_ret
    exact ⟨by rw [HC.out]; rfl, hb1⟩

end Go.Proofs.Ytgbdcemlnklmoaa
