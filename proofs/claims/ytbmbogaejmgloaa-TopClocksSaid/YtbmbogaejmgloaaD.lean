/- The demand of a stretch, crowded stretches: program and reference. -/
import Derived.Test.YtbmbogaejmgloaaV
import Derived.WalkSpells
namespace Go.Proofs.Ytbmbogaejmgloaa
open Go.RowKit Go.Sort

def stErr (L : List Jb) (a b : Int) : Int := if vErr L ≠ 0 then vErr L else if a < 0 ∨ 60 < b ∨ b ≤ a then 1 else 0
def dmR (L : List Jb) (a b : Int) : Int := if stErr L a b = 0 then dem L a b else 0
def ccErr (L : List Jb) (a b : Int) : Int := if stErr L a b ≠ 0 then stErr L a b else if dem L a b ≤ b - a then 7 else 0

theorem stErr_zero {L : List Jb} {a b : Int} : stErr L a b = 0 ↔ Valid L ∧ 0 ≤ a ∧ b ≤ 60 ∧ a < b := by
  rw [← vErr_zero]
  unfold stErr
  by_cases h1 : vErr L = 0
  · by_cases h2 : a < 0 ∨ 60 < b ∨ b ≤ a
    · simp [h1, h2]; omega
    · simp [h1, h2]; omega
  · simp [h1]

theorem dem_step {L : List Jb} {p q : Int} {k : Nat} (h1 : p ≤ (at_ L k).s) (h2 : (at_ L k).e ≤ q) : demN L p q (k + 1) = demN L p q k + (at_ L k).d := by
  unfold demN
  rw [sumP, if_pos (inS_true.2 ⟨h1, h2⟩)]; rfl
theorem dem_stay {L : List Jb} {p q : Int} {k : Nat} (h : ¬ (p ≤ (at_ L k).s ∧ (at_ L k).e ≤ q)) : demN L p q (k + 1) = demN L p q k := by
  unfold demN
  rw [sumP, if_neg (fun h' => h (inS_true.1 h')), Int.add_zero]

set_option maxHeartbeats 800000 in
theorem demand_c (a : Option Addr) (n c : Nat) (L : List Jb) (p q : Int) (w : World) (h : SlO w a n L) (hv : Valid L) : Calls Try.prog 61 #[.slice a n c, .int .i64 p, .int .i64 q] w fun e w' => e = .returned (.int .i64 (dem L p q)) ∧ Below w.heap.size w w' := by
  have HLn : Hid (n = L.length) := Lib.hid h.1
  have h8 : n ≤ 8 := by have := hv.le; have := h.1; omega
  have HV := Lib.hid hv
  have H := Lib.hid h
  have HD : Hid (dem L p q = demN L p q n) := Lib.hid (by rw [HLn.out]; rfl)
  rw [HD.out]
  clear h hv HD
  go_enter Try.func61, Try.ntmps61
  go_wp2_with fail
  go_loopw [7, 12] (fun s i wr => ∃ k : Nat, k ≤ n ∧ i = .int .i64 k ∧ s = .int .i64 (demN L p q k) ∧ Below w.heap.size w wr) (fun _ i _ => n - (intOf i).toNat)
  case atStart => exact ⟨0, Nat.zero_le _, rfl, rfl, Below.refl _ _⟩
  case round =>
    obtain ⟨k, hk, rfl, rfl, hb⟩ := hrel
    by_cases hlt : k < n
    · obtain ⟨b, o, rfl, hS⟩ : ∃ b o, a = some ⟨b, o, none⟩ ∧ Sl w b o n L := by
        rcases H.out.2 with h' | h'
        · omega
        · exact h'
      have c0 := (hS.below hb (Nat.le_refl _)).c0 k hlt
      have c1 := (hS.below hb (Nat.le_refl _)).c1 k hlt
      have c2 := (hS.below hb (Nat.le_refl _)).c2 k hlt
      have hbd := HV.out.bd (i := k) (by rw [← HLn.out]; exact hlt)
      obtain ⟨x1, x2, x3, x4, x5⟩ := hbd
      have hdb := dem_bd HV.out p q (n := k) (by rw [← HLn.out]; omega)
      obtain ⟨y1, y2⟩ := hdb
      clear hS
      by_cases h1 : p ≤ (at_ L k).s
      · have d1 := decT h1
        by_cases h2 : (at_ L k).e ≤ q
        · have d2 := decT h2
          have HN := Lib.hid (dem_step h1 h2)
          clear h1 h2
          go_wp2_with fail
          exact ⟨⟨k + 1, by omega, by go_num, by rw [HN.out], hb.alloc hb.size _⟩, by simp [intOf]; omega⟩
        · have d2 := decF h2
          have HN := Lib.hid (dem_stay (L := L) (p := p) (q := q) (k := k) (fun h => h2 h.2))
          clear h1 h2
          go_wp2_with fail
          exact ⟨⟨k + 1, by omega, by go_num, by rw [HN.out], hb.alloc hb.size _⟩, by simp [intOf]; omega⟩
      · have d1 := decF h1
        have HN := Lib.hid (dem_stay (L := L) (p := p) (q := q) (k := k) (fun h => h1 h.1))
        clear h1
        go_wp2_with fail
        exact ⟨⟨k + 1, by omega, by go_num, by rw [HN.out], hb.alloc hb.size _⟩, by simp [intOf]; omega⟩
    · have hkn : k = n := by omega
      have hd : ¬ (k : Int) < n := by omega
      have HKN := Lib.hid hkn
      clear hkn hlt
      go_wp2_with fail
      go_ret
      exact ⟨by rw [HKN.out]; rfl, hb⟩

set_option maxHeartbeats 800000 in
theorem rdemand_c (a : Option Addr) (n c : Nat) (L : List Jb) (p q : Int) (w : World) (h : SlO w a n L) (hv : Valid L) : Calls Try.prog 69 #[.slice a n c, .int .i64 p, .int .i64 q] w fun e w' => e = .returned (.int .i64 (dem L p q)) ∧ Below w.heap.size w w' := by
  have HLn : Hid (n = L.length) := Lib.hid h.1
  have h8 : n ≤ 8 := by have := hv.le; have := h.1; omega
  have HV := Lib.hid hv
  have H := Lib.hid h
  have HD : Hid (dem L p q = demN L p q n) := Lib.hid (by rw [HLn.out]; rfl)
  rw [HD.out]
  clear h hv HD
  go_enter Try.func69, Try.ntmps69
  go_wp2_with fail
  go_loopw [7, 8] (fun s i wr => ∃ k : Nat, k ≤ n ∧ i = .int .i64 k ∧ s = .int .i64 (demN L p q k) ∧ wr = w) (fun _ i _ => n - (intOf i).toNat)
  case atStart => exact ⟨0, Nat.zero_le _, rfl, rfl, rfl⟩
  case round =>
    obtain ⟨k, hk, rfl, rfl, rfl⟩ := hrel
    by_cases hlt : k < n
    · obtain ⟨b, o, rfl, hS⟩ : ∃ b o, a = some ⟨b, o, none⟩ ∧ Sl wr b o n L := by
        rcases H.out.2 with h' | h'
        · omega
        · exact h'
      have c0 := hS.c0 k hlt
      have c1 := hS.c1 k hlt
      have c2 := hS.c2 k hlt
      have hbd := HV.out.bd (i := k) (by rw [← HLn.out]; exact hlt)
      obtain ⟨x1, x2, x3, x4, x5⟩ := hbd
      have hdb := dem_bd HV.out p q (n := k) (by rw [← HLn.out]; omega)
      obtain ⟨y1, y2⟩ := hdb
      clear hS
      by_cases h1 : p ≤ (at_ L k).s
      · have d1 := decT h1
        by_cases h2 : (at_ L k).e ≤ q
        · have d2 := decT h2
          have HN := Lib.hid (dem_step h1 h2)
          clear h1 h2
          go_wp2_with fail
          exact ⟨⟨k + 1, by omega, by go_num, by rw [HN.out], trivial⟩, by simp [intOf]; omega⟩
        · have d2 := decF h2
          have HN := Lib.hid (dem_stay (L := L) (p := p) (q := q) (k := k) (fun h => h2 h.2))
          clear h1 h2
          go_wp2_with fail
          exact ⟨⟨k + 1, by omega, by go_num, by rw [HN.out], trivial⟩, by simp [intOf]; omega⟩
      · have d1 := decF h1
        have HN := Lib.hid (dem_stay (L := L) (p := p) (q := q) (k := k) (fun h => h1 h.1))
        clear h1
        go_wp2_with fail
        exact ⟨⟨k + 1, by omega, by go_num, by rw [HN.out], trivial⟩, by simp [intOf]; omega⟩
    · have hkn : k = n := by omega
      have hd : ¬ (k : Int) < n := by omega
      have HKN := Lib.hid hkn
      clear hkn hlt
      go_wp2_with fail
      go_ret
      exact ⟨by rw [HKN.out]; rfl, Below.refl _ _⟩

theorem stretched_c (a : Option Addr) (n c : Nat) (L : List Jb) (p q : Int) (w : World) (h : SlO w a n L) : Calls Try.prog 64 #[.slice a n c, .int .i64 p, .int .i64 q] w fun e w' => e = .returned (.int .i64 (stErr L p q)) ∧ Below w.heap.size w w' := by
  by_cases h0 : vErr L = 0
  · have hne : (vErr L != 0) = false := by simp [h0]
    have HS : Hid (stErr L p q = if p < 0 ∨ 60 < q ∨ q ≤ p then 1 else 0) := Lib.hid (by unfold stErr; rw [if_neg (by simp [h0])])
    clear h0
    by_cases h0 : p < 0
    · have d0 := decT h0
      have HR : Hid (stErr L p q = 1) := Lib.hid (by rw [HS.out, if_pos (by omega)])
      rw [HR.out]
      go_enter Try.func64, Try.ntmps64
      go_wp2_with fail
      refine (Validate_c _ _ _ _ _ h).mono ?_
      rintro e w1 ⟨rfl, hb⟩
      go_wp2_with fail
      go_ret
      exact ⟨rfl, hb⟩
    · have d0 := decF h0
      by_cases h1 : 60 < q
      · have d1 := decT h1
        have HR : Hid (stErr L p q = 1) := Lib.hid (by rw [HS.out, if_pos (by omega)])
        rw [HR.out]
        go_enter Try.func64, Try.ntmps64
        go_wp2_with fail
        refine (Validate_c _ _ _ _ _ h).mono ?_
        rintro e w1 ⟨rfl, hb⟩
        go_wp2_with fail
        go_ret
        exact ⟨rfl, hb⟩
      · have d1 := decF h1
        by_cases h2 : q ≤ p
        · have d2 := decT h2
          have HR : Hid (stErr L p q = 1) := Lib.hid (by rw [HS.out, if_pos (by omega)])
          rw [HR.out]
          go_enter Try.func64, Try.ntmps64
          go_wp2_with fail
          refine (Validate_c _ _ _ _ _ h).mono ?_
          rintro e w1 ⟨rfl, hb⟩
          go_wp2_with fail
          go_ret
          exact ⟨rfl, hb⟩
        · have d2 := decF h2
          have HR : Hid (stErr L p q = 0) := Lib.hid (by rw [HS.out, if_neg (by omega)])
          rw [HR.out]
          go_enter Try.func64, Try.ntmps64
          go_wp2_with fail
          refine (Validate_c _ _ _ _ _ h).mono ?_
          rintro e w1 ⟨rfl, hb⟩
          go_wp2_with fail
          go_ret
          exact ⟨rfl, hb⟩
  · have hne : (vErr L != 0) = true := by simpa using h0
    have HS : Hid (stErr L p q = vErr L) := Lib.hid (by unfold stErr; rw [if_pos h0])
    rw [HS.out]
    clear h0
    go_enter Try.func64, Try.ntmps64
    go_wp2_with fail
    refine (Validate_c _ _ _ _ _ h).mono ?_
    rintro e w1 ⟨rfl, hb⟩
    go_wp2_with fail
    go_ret
    exact ⟨rfl, hb⟩

theorem rstretch_c (a : Option Addr) (n c : Nat) (L : List Jb) (p q : Int) (w : World) (h : SlO w a n L) : Calls Try.prog 73 #[.slice a n c, .int .i64 p, .int .i64 q] w fun e w' => e = .returned (.int .i64 (stErr L p q)) ∧ Below w.heap.size w w' := by
  by_cases h0 : vErr L = 0
  · have hne : (vErr L != 0) = false := by simp [h0]
    have HS : Hid (stErr L p q = if p < 0 ∨ 60 < q ∨ q ≤ p then 1 else 0) := Lib.hid (by unfold stErr; rw [if_neg (by simp [h0])])
    clear h0
    by_cases h0 : p < 0
    · have d0 := decT h0
      have HR : Hid (stErr L p q = 1) := Lib.hid (by rw [HS.out, if_pos (by omega)])
      rw [HR.out]
      go_enter Try.func73, Try.ntmps73
      go_wp2_with fail
      refine (rValidate_c _ _ _ _ _ h).mono ?_
      rintro e w1 ⟨rfl, hb⟩
      go_wp2_with fail
      go_ret
      exact ⟨rfl, hb⟩
    · have d0 := decF h0
      by_cases h1 : 60 < q
      · have d1 := decT h1
        have HR : Hid (stErr L p q = 1) := Lib.hid (by rw [HS.out, if_pos (by omega)])
        rw [HR.out]
        go_enter Try.func73, Try.ntmps73
        go_wp2_with fail
        refine (rValidate_c _ _ _ _ _ h).mono ?_
        rintro e w1 ⟨rfl, hb⟩
        go_wp2_with fail
        go_ret
        exact ⟨rfl, hb⟩
      · have d1 := decF h1
        by_cases h2 : q ≤ p
        · have d2 := decT h2
          have HR : Hid (stErr L p q = 1) := Lib.hid (by rw [HS.out, if_pos (by omega)])
          rw [HR.out]
          go_enter Try.func73, Try.ntmps73
          go_wp2_with fail
          refine (rValidate_c _ _ _ _ _ h).mono ?_
          rintro e w1 ⟨rfl, hb⟩
          go_wp2_with fail
          go_ret
          exact ⟨rfl, hb⟩
        · have d2 := decF h2
          have HR : Hid (stErr L p q = 0) := Lib.hid (by rw [HS.out, if_neg (by omega)])
          rw [HR.out]
          go_enter Try.func73, Try.ntmps73
          go_wp2_with fail
          refine (rValidate_c _ _ _ _ _ h).mono ?_
          rintro e w1 ⟨rfl, hb⟩
          go_wp2_with fail
          go_ret
          exact ⟨rfl, hb⟩
  · have hne : (vErr L != 0) = true := by simpa using h0
    have HS : Hid (stErr L p q = vErr L) := Lib.hid (by unfold stErr; rw [if_pos h0])
    rw [HS.out]
    clear h0
    go_enter Try.func73, Try.ntmps73
    go_wp2_with fail
    refine (rValidate_c _ _ _ _ _ h).mono ?_
    rintro e w1 ⟨rfl, hb⟩
    go_wp2_with fail
    go_ret
    exact ⟨rfl, hb⟩

theorem Demand_c (a : Option Addr) (n c : Nat) (L : List Jb) (p q : Int) (w : World) (h : SlO w a n L) : Calls Try.prog 47 #[.slice a n c, .int .i64 p, .int .i64 q] w fun e w' => e = .returned (.tuple #[.int .i64 (dmR L p q), .int .i64 (stErr L p q)]) ∧ Below w.heap.size w w' := by
  by_cases h0 : stErr L p q = 0
  · have hne : (stErr L p q != 0) = false := by simp [h0]
    have hv := (stErr_zero.1 h0).1
    have HD : Hid (dmR L p q = dem L p q) := Lib.hid (if_pos h0)
    have HE := Lib.hid h0
    rw [HD.out]
    clear h0
    go_enter Try.func47, Try.ntmps47
    go_wp2_with fail
    refine (stretched_c _ _ _ _ _ _ _ h).mono ?_
    rintro e w1 ⟨rfl, hb⟩
    go_wp2_with fail
    refine (demand_c _ _ _ _ _ _ _ (h.below hb (Nat.le_refl _)) hv).mono ?_
    rintro e w2 ⟨rfl, hb2⟩
    go_wp2_with fail
    go_ret2
    exact ⟨by rw [HE.out]; rfl, btr hb hb2⟩
  · have hne : (stErr L p q != 0) = true := by simpa using h0
    have HD : Hid (dmR L p q = 0) := Lib.hid (if_neg h0)
    rw [HD.out]
    clear h0
    go_enter Try.func47, Try.ntmps47
    go_wp2_with fail
    refine (stretched_c _ _ _ _ _ _ _ h).mono ?_
    rintro e w1 ⟨rfl, hb⟩
    go_wp2_with fail
    go_ret2
    exact ⟨rfl, hb⟩

theorem rDemand_c (a : Option Addr) (n c : Nat) (L : List Jb) (p q : Int) (w : World) (h : SlO w a n L) : Calls Try.prog 48 #[.slice a n c, .int .i64 p, .int .i64 q] w fun e w' => e = .returned (.tuple #[.int .i64 (dmR L p q), .int .i64 (stErr L p q)]) ∧ Below w.heap.size w w' := by
  by_cases h0 : stErr L p q = 0
  · have hne : (stErr L p q != 0) = false := by simp [h0]
    have hv := (stErr_zero.1 h0).1
    have HD : Hid (dmR L p q = dem L p q) := Lib.hid (if_pos h0)
    have HE := Lib.hid h0
    rw [HD.out]
    clear h0
    go_enter Try.func48, Try.ntmps48
    go_wp2_with fail
    refine (rstretch_c _ _ _ _ _ _ _ h).mono ?_
    rintro e w1 ⟨rfl, hb⟩
    go_wp2_with fail
    refine (rdemand_c _ _ _ _ _ _ _ (h.below hb (Nat.le_refl _)) hv).mono ?_
    rintro e w2 ⟨rfl, hb2⟩
    go_wp2_with fail
    go_ret2
    exact ⟨by rw [HE.out]; rfl, btr hb hb2⟩
  · have hne : (stErr L p q != 0) = true := by simpa using h0
    have HD : Hid (dmR L p q = 0) := Lib.hid (if_neg h0)
    rw [HD.out]
    clear h0
    go_enter Try.func48, Try.ntmps48
    go_wp2_with fail
    refine (rstretch_c _ _ _ _ _ _ _ h).mono ?_
    rintro e w1 ⟨rfl, hb⟩
    go_wp2_with fail
    go_ret2
    exact ⟨rfl, hb⟩

theorem CheckCrowded_c (a : Option Addr) (n c : Nat) (L : List Jb) (p q : Int) (w : World) (h : SlO w a n L) : Calls Try.prog 32 #[.slice a n c, .int .i64 p, .int .i64 q] w fun e w' => e = .returned (.int .i64 (ccErr L p q)) ∧ Below w.heap.size w w' := by
  by_cases h0 : stErr L p q = 0
  · have hne : (stErr L p q != 0) = false := by simp [h0]
    obtain ⟨hv, p0, q0, pq⟩ := stErr_zero.1 h0
    have HC : Hid (ccErr L p q = if dem L p q ≤ q - p then 7 else 0) := Lib.hid (by unfold ccErr; rw [if_neg (by simp [h0])])
    clear h0
    by_cases h1 : dem L p q ≤ q - p
    · have d1 := decT h1
      have HR : Hid (ccErr L p q = 7) := Lib.hid (by rw [HC.out, if_pos h1])
      rw [HR.out]
      clear h1
      go_enter Try.func32, Try.ntmps32
      go_wp2_with fail
      refine (stretched_c _ _ _ _ _ _ _ h).mono ?_
      rintro e w1 ⟨rfl, hb⟩
      go_wp2_with fail
      refine (demand_c _ _ _ _ _ _ _ (h.below hb (Nat.le_refl _)) hv).mono ?_
      rintro e w2 ⟨rfl, hb2⟩
      go_wp2_with fail
      go_ret
      exact ⟨rfl, btr hb hb2⟩
    · have d1 := decF h1
      have HR : Hid (ccErr L p q = 0) := Lib.hid (by rw [HC.out, if_neg h1])
      rw [HR.out]
      clear h1
      go_enter Try.func32, Try.ntmps32
      go_wp2_with fail
      refine (stretched_c _ _ _ _ _ _ _ h).mono ?_
      rintro e w1 ⟨rfl, hb⟩
      go_wp2_with fail
      refine (demand_c _ _ _ _ _ _ _ (h.below hb (Nat.le_refl _)) hv).mono ?_
      rintro e w2 ⟨rfl, hb2⟩
      go_wp2_with fail
      go_ret
      exact ⟨rfl, btr hb hb2⟩
  · have hne : (stErr L p q != 0) = true := by simpa using h0
    have HC : Hid (ccErr L p q = stErr L p q) := Lib.hid (by unfold ccErr; rw [if_pos h0])
    rw [HC.out]
    clear h0
    go_enter Try.func32, Try.ntmps32
    go_wp2_with fail
    refine (stretched_c _ _ _ _ _ _ _ h).mono ?_
    rintro e w1 ⟨rfl, hb⟩
    go_wp2_with fail
    go_ret
    exact ⟨rfl, hb⟩

theorem rCheckCrowded_c (a : Option Addr) (n c : Nat) (L : List Jb) (p q : Int) (w : World) (h : SlO w a n L) : Calls Try.prog 49 #[.slice a n c, .int .i64 p, .int .i64 q] w fun e w' => e = .returned (.int .i64 (ccErr L p q)) ∧ Below w.heap.size w w' := by
  by_cases h0 : stErr L p q = 0
  · have hne : (stErr L p q != 0) = false := by simp [h0]
    obtain ⟨hv, p0, q0, pq⟩ := stErr_zero.1 h0
    have HC : Hid (ccErr L p q = if dem L p q ≤ q - p then 7 else 0) := Lib.hid (by unfold ccErr; rw [if_neg (by simp [h0])])
    clear h0
    by_cases h1 : dem L p q ≤ q - p
    · have d1 := decT h1
      have HR : Hid (ccErr L p q = 7) := Lib.hid (by rw [HC.out, if_pos h1])
      rw [HR.out]
      clear h1
      go_enter Try.func49, Try.ntmps49
      go_wp2_with fail
      refine (rstretch_c _ _ _ _ _ _ _ h).mono ?_
      rintro e w1 ⟨rfl, hb⟩
      go_wp2_with fail
      refine (rdemand_c _ _ _ _ _ _ _ (h.below hb (Nat.le_refl _)) hv).mono ?_
      rintro e w2 ⟨rfl, hb2⟩
      go_wp2_with fail
      go_ret
      exact ⟨rfl, btr hb hb2⟩
    · have d1 := decF h1
      have HR : Hid (ccErr L p q = 0) := Lib.hid (by rw [HC.out, if_neg h1])
      rw [HR.out]
      clear h1
      go_enter Try.func49, Try.ntmps49
      go_wp2_with fail
      refine (rstretch_c _ _ _ _ _ _ _ h).mono ?_
      rintro e w1 ⟨rfl, hb⟩
      go_wp2_with fail
      refine (rdemand_c _ _ _ _ _ _ _ (h.below hb (Nat.le_refl _)) hv).mono ?_
      rintro e w2 ⟨rfl, hb2⟩
      go_wp2_with fail
      go_ret
      exact ⟨rfl, btr hb hb2⟩
  · have hne : (stErr L p q != 0) = true := by simpa using h0
    have HC : Hid (ccErr L p q = stErr L p q) := Lib.hid (by unfold ccErr; rw [if_pos h0])
    rw [HC.out]
    clear h0
    go_enter Try.func49, Try.ntmps49
    go_wp2_with fail
    refine (rstretch_c _ _ _ _ _ _ _ h).mono ?_
    rintro e w1 ⟨rfl, hb⟩
    go_wp2_with fail
    go_ret
    exact ⟨rfl, hb⟩

def crA (L : List Jb) : Int := (((crO L).getD (0, 0)).1 : Nat)
def crZ (L : List Jb) : Int := (((crO L).getD (0, 0)).2 : Nat)

/-- Two numbers, a bool and an error number come back. -/
def RetC (w : World) (L : List Jb) (e : Ending) (w' : World) : Prop :=
  e = .returned (.tuple #[.int .i64 (crA L), .int .i64 (crZ L), .bool (crO L).isSome, .int .i64 (vErr L)]) ∧ Below w.heap.size w w'

theorem scanI_step {c : Nat → Nat → Bool} {n m i : Nat} (h : scanJ (c i) (n - (i + 1)) (i + 1) = none) : scanI c n (m + 1) i = scanI c n m (i + 1) := by rw [scanI, h]
theorem scanI_hit {c : Nat → Nat → Bool} {n m i j : Nat} (h : scanJ (c i) (n - (i + 1)) (i + 1) = some j) : scanI c n (m + 1) i = some (i, j) := by rw [scanI, h]

set_option maxRecDepth 100000 in
set_option maxHeartbeats 1600000 in
theorem Crowded_c (a : Option Addr) (n c : Nat) (L : List Jb) (w : World) (h : SlO w a n L) : Calls Try.prog 30 #[.slice a n c] w (RetC w L) := by
  by_cases h0 : vErr L = 0
  · have hne : (vErr L != 0) = false := by simp [h0]
    have hv := vErr_zero.1 h0
    have HV := Lib.hid hv
    have H := Lib.hid h
    have HE := Lib.hid h0
    have HC : Hid (crO L = scanI (crP L) 61 60 0) := Lib.hid (if_pos h0)
    have HF : Hid (∀ o, scanI (crP L) 61 60 0 = o → crA L = ((o.getD (0, 0)).1 : Nat) ∧ crZ L = ((o.getD (0, 0)).2 : Nat) ∧ (crO L).isSome = o.isSome) := Lib.hid (fun o ho => by unfold crA crZ; rw [HC.out, ho]; exact ⟨rfl, rfl, rfl⟩)
    clear h0 hv h HC
    go_enter Try.func30, Try.ntmps30
    go_wp2_with fail
    refine (Validate_c _ _ _ _ _ H.out).mono ?_
    rintro e w1 ⟨rfl, hb1⟩
    go_wp2_with fail
    go_loopw [14] (fun i wr => ∃ k : Nat, k ≤ 60 ∧ i = .int .i64 k ∧ Below w.heap.size w wr ∧ scanI (crP L) 61 60 0 = scanI (crP L) 61 (60 - k) k) (fun i _ => 60 - (intOf i).toNat)
    case atStart => exact ⟨0, Nat.zero_le _, rfl, hb1, rfl⟩
    case round =>
      obtain ⟨k, hk, rfl, hb, hF⟩ := hrel
      have HK := Lib.hid hF
      clear hF hb1
      by_cases hlt : k < 60
      · have HLT := Lib.hid hlt
        have hki : (k : Int) < 60 := by omega
        go_wp2_with fail
        obtain ⟨wo, hwo⟩ : ∃ wo : World, wo = wr := ⟨_, rfl⟩
        rw [← hwo] at hb ⊢
        clear hwo wr
        go_loopw [8] (fun i wr => ∃ j : Nat, k + 1 ≤ j ∧ j ≤ 61 ∧ i = .int .i64 j ∧ Below w.heap.size w wr ∧ scanJ (crP L k) (61 - (k + 1)) (k + 1) = scanJ (crP L k) (61 - j) j) (fun i _ => 61 - (intOf i).toNat)
        case atStart => exact ⟨k + 1, by omega, by omega, by go_num, hb, rfl⟩
        case round =>
          obtain ⟨j, hj1, hj2, rfl, hb', hG⟩ := hrel
          have HG := Lib.hid hG
          clear hG hb
          by_cases hjt : j < 61
          · have hji : (j : Int) ≤ 60 := by omega
            have HJT := Lib.hid hjt
            have hdb := dem_bd HV.out k j (n := L.length) (Nat.le_refl _)
            have hdd : demN L k j L.length = dem L k j := rfl
            rw [hdd] at hdb
            obtain ⟨y1, y2⟩ := hdb
            clear hdd
            go_wp2_with fail
            refine (demand_c _ _ _ _ _ _ _ (H.out.below hb' (Nat.le_refl _)) HV.out).mono ?_
            rintro e w2 ⟨rfl, hb2⟩
            by_cases hc : (j : Int) - k < dem L k j
            · have dc := decT hc
              have HC : Hid (crP L k j = true) := Lib.hid dc
              clear hc
              go_wp2_with fail
              refine bodyPost_ret (results_tmp4 rfl _ _ _) rfl ?_
              have hs : scanI (crP L) 61 60 0 = some (k, j) := by
                rw [HK.out, show 60 - k = (60 - (k + 1)) + 1 by have := HLT.out; omega, scanI_hit]
                rw [HG.out, scan_yes HJT.out HC.out]
              obtain ⟨e1, e2, e3⟩ := HF.out _ hs
              exact ⟨by rw [e1, e2, e3, HE.out]; rfl, btr hb' hb2⟩
            · have dc := decF hc
              have HC : Hid (crP L k j = false) := Lib.hid dc
              clear hc
              go_wp2_with fail
              exact ⟨⟨j + 1, by omega, by omega, by go_num, btr hb' hb2, by rw [HG.out, scan_no HJT.out HC.out]⟩, by simp [intOf]; omega⟩
          · have hji : ¬ (j : Int) ≤ 60 := by omega
            have HJT := Lib.hid hjt
            clear hjt
            go_wp2_with fail
            exact ⟨⟨k + 1, by omega, by go_num, hb', by rw [HK.out, show 60 - k = (60 - (k + 1)) + 1 by have := HLT.out; omega, scanI_step (by rw [HG.out, scan_end HJT.out])]⟩, by simp [intOf]; omega⟩
      · have hki : ¬ (k : Int) < 60 := by omega
        have HLT := Lib.hid hlt
        clear hlt
        go_wp2_with fail
        refine bodyPost_ret (results_tmp4 rfl _ _ _) rfl ?_
        have hs : scanI (crP L) 61 60 0 = none := by rw [HK.out, show 60 - k = 0 by have := HLT.out; omega]; rfl
        obtain ⟨e1, e2, e3⟩ := HF.out _ hs
        exact ⟨by rw [e1, e2, e3, HE.out]; rfl, hb⟩
  · have hne : (vErr L != 0) = true := by simpa using h0
    have HC : Hid (crO L = none) := Lib.hid (if_neg h0)
    have HP : Hid (crA L = 0 ∧ crZ L = 0 ∧ (crO L).isSome = false) := Lib.hid (by unfold crA crZ; rw [HC.out]; exact ⟨rfl, rfl, rfl⟩)
    clear h0 HC
    go_enter Try.func30, Try.ntmps30
    go_wp2_with fail
    refine (Validate_c _ _ _ _ _ h).mono ?_
    rintro e w1 ⟨rfl, hb⟩
    go_wp2_with fail
    refine bodyPost_ret (results_tmp4 rfl _ _ _) rfl ?_
    exact ⟨by rw [HP.out.1, HP.out.2.1, HP.out.2.2]; rfl, hb⟩

set_option maxRecDepth 100000 in
set_option maxHeartbeats 1600000 in
theorem rCrowded_c (a : Option Addr) (n c : Nat) (L : List Jb) (w : World) (h : SlO w a n L) : Calls Try.prog 35 #[.slice a n c] w (RetC w L) := by
  by_cases h0 : vErr L = 0
  · have hne : (vErr L != 0) = false := by simp [h0]
    have hv := vErr_zero.1 h0
    have HV := Lib.hid hv
    have H := Lib.hid h
    have HE := Lib.hid h0
    have HC : Hid (crO L = scanI (crP L) 61 60 0) := Lib.hid (if_pos h0)
    have HF : Hid (∀ o, scanI (crP L) 61 60 0 = o → crA L = ((o.getD (0, 0)).1 : Nat) ∧ crZ L = ((o.getD (0, 0)).2 : Nat) ∧ (crO L).isSome = o.isSome) := Lib.hid (fun o ho => by unfold crA crZ; rw [HC.out, ho]; exact ⟨rfl, rfl, rfl⟩)
    clear h0 hv h HC
    go_enter Try.func35, Try.ntmps35
    go_wp2_with fail
    refine (rValidate_c _ _ _ _ _ H.out).mono ?_
    rintro e w1 ⟨rfl, hb1⟩
    go_wp2_with fail
    go_loopw [7] (fun i wr => ∃ k : Nat, k ≤ 60 ∧ i = .int .i64 k ∧ Below w.heap.size w wr ∧ scanI (crP L) 61 60 0 = scanI (crP L) 61 (60 - k) k) (fun i _ => 60 - (intOf i).toNat)
    case atStart => exact ⟨0, Nat.zero_le _, rfl, hb1, rfl⟩
    case round =>
      obtain ⟨k, hk, rfl, hb, hF⟩ := hrel
      have HK := Lib.hid hF
      clear hF hb1
      by_cases hlt : k < 60
      · have HLT := Lib.hid hlt
        have hki : (k : Int) < 60 := by omega
        go_wp2_with fail
        obtain ⟨wo, hwo⟩ : ∃ wo : World, wo = wr := ⟨_, rfl⟩
        rw [← hwo] at hb ⊢
        clear hwo wr
        go_loopw [8] (fun i wr => ∃ j : Nat, k + 1 ≤ j ∧ j ≤ 61 ∧ i = .int .i64 j ∧ Below w.heap.size w wr ∧ scanJ (crP L k) (61 - (k + 1)) (k + 1) = scanJ (crP L k) (61 - j) j) (fun i _ => 61 - (intOf i).toNat)
        case atStart => exact ⟨k + 1, by omega, by omega, by go_num, hb, rfl⟩
        case round =>
          obtain ⟨j, hj1, hj2, rfl, hb', hG⟩ := hrel
          have HG := Lib.hid hG
          clear hG hb
          by_cases hjt : j < 61
          · have hji : (j : Int) ≤ 60 := by omega
            have HJT := Lib.hid hjt
            have hdb := dem_bd HV.out k j (n := L.length) (Nat.le_refl _)
            have hdd : demN L k j L.length = dem L k j := rfl
            rw [hdd] at hdb
            obtain ⟨y1, y2⟩ := hdb
            clear hdd
            go_wp2_with fail
            refine (rdemand_c _ _ _ _ _ _ _ (H.out.below hb' (Nat.le_refl _)) HV.out).mono ?_
            rintro e w2 ⟨rfl, hb2⟩
            by_cases hc : (j : Int) - k < dem L k j
            · have dc := decT hc
              have HC : Hid (crP L k j = true) := Lib.hid dc
              clear hc
              go_wp2_with fail
              refine bodyPost_ret (results_tmp4 rfl _ _ _) rfl ?_
              have hs : scanI (crP L) 61 60 0 = some (k, j) := by
                rw [HK.out, show 60 - k = (60 - (k + 1)) + 1 by have := HLT.out; omega, scanI_hit]
                rw [HG.out, scan_yes HJT.out HC.out]
              obtain ⟨e1, e2, e3⟩ := HF.out _ hs
              exact ⟨by rw [e1, e2, e3, HE.out]; rfl, btr hb' hb2⟩
            · have dc := decF hc
              have HC : Hid (crP L k j = false) := Lib.hid dc
              clear hc
              go_wp2_with fail
              exact ⟨⟨j + 1, by omega, by omega, by go_num, btr hb' hb2, by rw [HG.out, scan_no HJT.out HC.out]⟩, by simp [intOf]; omega⟩
          · have hji : ¬ (j : Int) ≤ 60 := by omega
            have HJT := Lib.hid hjt
            clear hjt
            go_wp2_with fail
            exact ⟨⟨k + 1, by omega, by go_num, hb', by rw [HK.out, show 60 - k = (60 - (k + 1)) + 1 by have := HLT.out; omega, scanI_step (by rw [HG.out, scan_end HJT.out])]⟩, by simp [intOf]; omega⟩
      · have hki : ¬ (k : Int) < 60 := by omega
        have HLT := Lib.hid hlt
        clear hlt
        go_wp2_with fail
        refine bodyPost_ret (results_tmp4 rfl _ _ _) rfl ?_
        have hs : scanI (crP L) 61 60 0 = none := by rw [HK.out, show 60 - k = 0 by have := HLT.out; omega]; rfl
        obtain ⟨e1, e2, e3⟩ := HF.out _ hs
        exact ⟨by rw [e1, e2, e3, HE.out]; rfl, hb⟩
  · have hne : (vErr L != 0) = true := by simpa using h0
    have HC : Hid (crO L = none) := Lib.hid (if_neg h0)
    have HP : Hid (crA L = 0 ∧ crZ L = 0 ∧ (crO L).isSome = false) := Lib.hid (by unfold crA crZ; rw [HC.out]; exact ⟨rfl, rfl, rfl⟩)
    clear h0 HC
    go_enter Try.func35, Try.ntmps35
    go_wp2_with fail
    refine (rValidate_c _ _ _ _ _ h).mono ?_
    rintro e w1 ⟨rfl, hb⟩
    go_wp2_with fail
    refine bodyPost_ret (results_tmp4 rfl _ _ _) rfl ?_
    exact ⟨by rw [HP.out.1, HP.out.2.1, HP.out.2.2]; rfl, hb⟩

end Go.Proofs.Ytbmbogaejmgloaa
