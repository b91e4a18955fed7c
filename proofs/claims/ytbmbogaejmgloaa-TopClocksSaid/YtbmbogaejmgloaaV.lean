/- Validate of clock and of its reference: their contracts. -/
import Derived.Test.YtbmbogaejmgloaaA
namespace Go.Proofs.Ytbmbogaejmgloaa
open Go.RowKit Go.Sort

theorem ve_large {L : List Jb} (h : 8 < L.length) : vErr L = 3 := if_pos h
theorem ve_end {L : List Jb} {k : Nat} (h : ¬ 8 < L.length) (hs : scanJ (badJ L) L.length 0 = scanJ (badJ L) (L.length - k) k) (hk : ¬ k < L.length) : vErr L = 0 := by
  unfold vErr; rw [if_neg h, hs, scan_end hk]; rfl
theorem ve_bad {L : List Jb} {k : Nat} (h : ¬ 8 < L.length) (hs : scanJ (badJ L) L.length 0 = scanJ (badJ L) (L.length - k) k) (hk : k < L.length) (hb : okJ (at_ L k) = false) : vErr L = 1 := by
  unfold vErr; rw [if_neg h, hs, scan_yes hk (by simp [badJ, hb])]; rfl
theorem ve_ok {L : List Jb} {k : Nat} (hs : scanJ (badJ L) L.length 0 = scanJ (badJ L) (L.length - k) k) (hk : k < L.length) (hb : okJ (at_ L k) = true) : scanJ (badJ L) L.length 0 = scanJ (badJ L) (L.length - (k + 1)) (k + 1) := by
  rw [hs, scan_no hk (by simp [badJ, hb])]

set_option maxHeartbeats 800000 in
theorem validate_in (b o n c : Nat) (L : List Jb) (w : World) (hS : Sl w b o n L) (h1 : 1 ≤ n) (h8 : n ≤ 8) : Calls Try.prog 26 #[.slice (some ⟨b, o, none⟩) n c] w fun e w' => e = .returned (.int .i64 (vErr L)) ∧ Below w.heap.size w w' := by
  obtain rfl := hS.len
  have HS := Lib.hid hS
  have H8 : ¬ 8 < L.length := by omega
  have HH8 := Lib.hid H8
  have hd8 : decide (8 < L.length) = false := decF H8
  clear hS H8
  go_enter Try.func26, Try.ntmps26
  go_wp2
  go_loopw [10] (fun i wr => ∃ k : Nat, k ≤ L.length ∧ i = .int .i64 k ∧ Below w.heap.size w wr ∧ scanJ (badJ L) L.length 0 = scanJ (badJ L) (L.length - k) k) (fun i _ => L.length - (intOf i).toNat)
  case atStart => exact ⟨0, Nat.zero_le _, rfl, Below.refl _ _, rfl⟩
  case round =>
    obtain ⟨k, hk, rfl, hb, hokk⟩ := hrel
    have HK := Lib.hid hokk
    clear hokk
    by_cases hlt : k < L.length
    · have HLT := Lib.hid hlt
      have hS' := HS.out.below hb (Nat.le_refl _)
      have c0 := hS'.c0 k hlt
      have c1 := hS'.c1 k hlt
      have c2 := hS'.c2 k hlt
      clear hS'
      have HO : Hid (okJ (at_ L k) = (decide (0 ≤ (at_ L k).s) && decide ((at_ L k).s < (at_ L k).e) && decide ((at_ L k).e ≤ 60) && inB (at_ L k).d 1 60)) := Lib.hid rfl
      have hbd : okJ (at_ L k) = true ↔ 0 ≤ (at_ L k).s ∧ (at_ L k).s < (at_ L k).e ∧ (at_ L k).e ≤ 60 ∧ 1 ≤ (at_ L k).d ∧ (at_ L k).d ≤ 60 := okJ_iff
      have HB := Lib.hid hbd
      clear hbd
      by_cases h0 : (at_ L k).s < 0
      · have d0 := decT h0
        have HF : Hid (okJ (at_ L k) = false) := Lib.hid (by
          cases hq : okJ (at_ L k) with
          | false => rfl
          | true => have := HB.out.1 hq; omega)
        go_wp2_with fail
        go_ret
        exact ⟨by rw [ve_bad HH8.out HK.out HLT.out HF.out]; rfl, hb.alloc hb.size _⟩
      · have d0 := decF h0
        by_cases h1 : (at_ L k).e ≤ (at_ L k).s
        · have d1 := decT h1
          have HF : Hid (okJ (at_ L k) = false) := Lib.hid (by
            cases hq : okJ (at_ L k) with
            | false => rfl
            | true => have := HB.out.1 hq; omega)
          go_wp2_with fail
          go_ret
          exact ⟨by rw [ve_bad HH8.out HK.out HLT.out HF.out]; rfl, hb.alloc hb.size _⟩
        · have d1 := decF h1
          by_cases h2 : 60 < (at_ L k).e
          · have d2 := decT h2
            have HF : Hid (okJ (at_ L k) = false) := Lib.hid (by
              cases hq : okJ (at_ L k) with
              | false => rfl
              | true => have := HB.out.1 hq; omega)
            go_wp2_with fail
            go_ret
            exact ⟨by rw [ve_bad HH8.out HK.out HLT.out HF.out]; rfl, hb.alloc hb.size _⟩
          · have d2 := decF h2
            by_cases h3 : (at_ L k).d < 1
            · have d3 := decT h3
              have HF : Hid (okJ (at_ L k) = false) := Lib.hid (by
                cases hq : okJ (at_ L k) with
                | false => rfl
                | true => have := HB.out.1 hq; omega)
              go_wp2_with fail
              go_ret
              exact ⟨by rw [ve_bad HH8.out HK.out HLT.out HF.out]; rfl, hb.alloc hb.size _⟩
            · have d3 := decF h3
              by_cases h4 : 60 < (at_ L k).d
              · have d4 := decT h4
                have HF : Hid (okJ (at_ L k) = false) := Lib.hid (by
                  cases hq : okJ (at_ L k) with
                  | false => rfl
                  | true => have := HB.out.1 hq; omega)
                go_wp2_with fail
                go_ret
                exact ⟨by rw [ve_bad HH8.out HK.out HLT.out HF.out]; rfl, hb.alloc hb.size _⟩
              · have d4 := decF h4
                have HF : Hid (okJ (at_ L k) = true) := Lib.hid (HB.out.2 (by omega))
                go_wp2_with fail
                exact ⟨⟨k + 1, by omega, by go_num, hb.alloc hb.size _, ve_ok HK.out HLT.out HF.out⟩, by simp [intOf]; omega⟩
    · have hd : ¬ (k : Int) < L.length := by omega
      have HLT := Lib.hid hlt
      clear hlt
      go_wp2_with fail
      go_ret
      exact ⟨by rw [ve_end HH8.out HK.out HLT.out]; rfl, hb⟩

theorem Validate_c (a : Option Addr) (n c : Nat) (L : List Jb) (w : World) (h : SlO w a n L) : Calls Try.prog 26 #[.slice a n c] w fun e w' => e = .returned (.int .i64 (vErr L)) ∧ Below w.heap.size w w' := by
  by_cases h8 : 8 < n
  · have hv : vErr L = 3 := ve_large (by have := h.1; omega)
    have hd8 : decide (8 < n) = true := decT h8
    rw [hv]
    clear hv h
    go_enter Try.func26, Try.ntmps26
    go_wp2
    go_ret
    exact ⟨rfl, Below.refl _ _⟩
  · by_cases h0 : n = 0
    · subst h0
      have hL : L = [] := List.eq_nil_of_length_eq_zero h.1.symm
      subst hL
      have hv : vErr [] = 0 := rfl
      rw [hv]
      clear hv h
      go_enter Try.func26, Try.ntmps26
      go_wp2
      go_loopw [10] (fun i wr => i = .int .i64 0 ∧ wr = w) (fun _ _ => 0)
      case atStart => exact ⟨rfl, rfl⟩
      case round =>
        obtain ⟨rfl, rfl⟩ := hrel
        go_wp2_with fail
        go_ret
        exact ⟨rfl, Below.refl _ _⟩
    · rcases h.2 with h' | ⟨b, o, rfl, hS⟩
      · exact absurd h' h0
      · exact validate_in b o n c L w hS (by omega) (by omega)

set_option maxHeartbeats 800000 in
theorem rvalidate_in (b o n c : Nat) (L : List Jb) (w : World) (hS : Sl w b o n L) (h1 : 1 ≤ n) (h8 : n ≤ 8) : Calls Try.prog 50 #[.slice (some ⟨b, o, none⟩) n c] w fun e w' => e = .returned (.int .i64 (vErr L)) ∧ Below w.heap.size w w' := by
  obtain rfl := hS.len
  have HS := Lib.hid hS
  have H8 : ¬ 8 < L.length := by omega
  have HH8 := Lib.hid H8
  have hd8 : decide (8 < L.length) = false := decF H8
  clear hS H8
  go_enter Try.func50, Try.ntmps50
  go_wp2
  go_loopw [3] (fun i wr => ∃ k : Nat, k ≤ L.length ∧ i = .int .i64 k ∧ Below w.heap.size w wr ∧ scanJ (badJ L) L.length 0 = scanJ (badJ L) (L.length - k) k) (fun i _ => L.length - (intOf i).toNat)
  case atStart => exact ⟨0, Nat.zero_le _, rfl, Below.refl _ _, rfl⟩
  case round =>
    obtain ⟨k, hk, rfl, hb, hokk⟩ := hrel
    have HK := Lib.hid hokk
    clear hokk
    by_cases hlt : k < L.length
    · have HLT := Lib.hid hlt
      have hS' := HS.out.below hb (Nat.le_refl _)
      have c0 := hS'.c0 k hlt
      have c1 := hS'.c1 k hlt
      have c2 := hS'.c2 k hlt
      clear hS'
      go_wp2_with fail
      refine (right_c (at_ L k) _).mono ?_
      rintro e w1 ⟨rfl, hb1⟩
      have B1 := btr hb hb1
      cases ho : okJ (at_ L k)
      · have HF := Lib.hid ho
        clear ho
        go_wp2_with fail
        go_ret
        exact ⟨by rw [ve_bad HH8.out HK.out HLT.out HF.out]; rfl, B1⟩
      · have HF := Lib.hid ho
        clear ho
        go_wp2_with fail
        exact ⟨⟨k + 1, by omega, by go_num, B1, ve_ok HK.out HLT.out HF.out⟩, by simp [intOf]; omega⟩
    · have hd : ¬ (k : Int) < L.length := by omega
      have HLT := Lib.hid hlt
      clear hlt
      go_wp2_with fail
      go_ret
      exact ⟨by rw [ve_end HH8.out HK.out HLT.out]; rfl, hb⟩

theorem rValidate_c (a : Option Addr) (n c : Nat) (L : List Jb) (w : World) (h : SlO w a n L) : Calls Try.prog 50 #[.slice a n c] w fun e w' => e = .returned (.int .i64 (vErr L)) ∧ Below w.heap.size w w' := by
  by_cases h8 : 8 < n
  · have hv : vErr L = 3 := ve_large (by have := h.1; omega)
    have hd8 : decide (8 < n) = true := decT h8
    rw [hv]
    clear hv h
    go_enter Try.func50, Try.ntmps50
    go_wp2
    go_ret
    exact ⟨rfl, Below.refl _ _⟩
  · by_cases h0 : n = 0
    · subst h0
      have hL : L = [] := List.eq_nil_of_length_eq_zero h.1.symm
      subst hL
      have hv : vErr [] = 0 := rfl
      rw [hv]
      clear hv h
      go_enter Try.func50, Try.ntmps50
      go_wp2
      go_loopw [3] (fun i wr => i = .int .i64 0 ∧ wr = w) (fun _ _ => 0)
      case atStart => exact ⟨rfl, rfl⟩
      case round =>
        obtain ⟨rfl, rfl⟩ := hrel
        go_wp2_with fail
        go_ret
        exact ⟨rfl, Below.refl _ _⟩
    · rcases h.2 with h' | ⟨b, o, rfl, hS⟩
      · exact absurd h' h0
      · exact rvalidate_in b o n c L w hS (by omega) (by omega)

end Go.Proofs.Ytbmbogaejmgloaa
