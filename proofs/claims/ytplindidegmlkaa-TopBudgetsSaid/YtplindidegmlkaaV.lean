/- Validate of budget and of its reference; ContainsFunc over items. -/
import Derived.Test.YtplindidegmlkaaA2
namespace Go.Proofs.Ytplindidegmlkaa
open Go.RowKit Go.Sort

def iF (p : Nat → Bool) (n : Nat) : Int := match scanJ p n 0 with | some k => (k : Int) | none => -1
theorem iF_some {p : Nat → Bool} {n k : Nat} (h : scanJ p n 0 = some k) : iF p n = k := by simp [iF, h]
theorem iF_none {p : Nat → Bool} {n : Nat} (h : scanJ p n 0 = none) : iF p n = -1 := by simp [iF, h]
theorem iF_ge {p : Nat → Bool} {n : Nat} : decide (0 ≤ iF p n) = (scanJ p n 0).isSome := by
  unfold iF
  cases scanJ p n 0 <;> simp
theorem iF_bd {p : Nat → Bool} {n : Nat} : -1 ≤ iF p n := by
  unfold iF
  cases scanJ p n 0 <;> simp

theorem okI_rate (u n d : Int) : okI ⟨u, n, d⟩ = (inB u 1 8 && rateB n d) := rfl

theorem clo65 (u n d : Int) (w : World) : Calls Try.prog 65 #[.agg #[.int .i64 u, .int .i64 n, .int .i64 d]] w fun e w' => e = .returned (.bool (!okI ⟨u, n, d⟩)) ∧ Below w.heap.size w w' := by
  rw [okI_rate]
  have HA : Hid (Below w.heap.size w (w.alloc (.cells #[.int .i64 u, .int .i64 n, .int .i64 d] 31))) := Lib.hid ((Below.refl _ _).alloc (Nat.le_refl _) _)
  cases h1 : inB u 1 8
  · go_enter Try.func65, Try.ntmps65
    go_wp2_with fail
    refine (within_c _ _ _ _).mono ?_
    rintro e w1 ⟨rfl, rfl⟩
    rw [h1]
    go_wp2_with fail
    go_ret
    exact ⟨rfl, HA.out⟩
  · go_enter Try.func65, Try.ntmps65
    go_wp2_with fail
    refine (within_c _ _ _ _).mono ?_
    rintro e w1 ⟨rfl, rfl⟩
    rw [h1]
    go_wp2_with fail
    refine (isRate_c _ _ _).mono ?_
    rintro e w2 ⟨rfl, hb2⟩
    go_wp2_with fail
    go_ret
    exact ⟨by simp, btr HA.out hb2⟩

theorem idx_65 (a : Option Addr) (n c : Nat) (L : List It) (w : World) (h : SlO w a n L) (hn : n ≤ 9223372036854775807) : Calls Try.prog 96 #[.slice a n c, .func (.func 65) #[] #[]] w fun e w' => e = .returned (.int .i64 (iF (badI L) n)) ∧ Below w.heap.size w w' := by
  have HH := Lib.hid h
  have HI : Hid (∀ k, scanJ (badI L) n 0 = some k → iF (badI L) n = k) := fun k hk => iF_some hk
  have HI2 : Hid (scanJ (badI L) n 0 = none → iF (badI L) n = -1) := fun hk => iF_none hk
  generalize iF (badI L) n = R at *
  clear h
  go_enter Try.func96, Try.ntmps96
  go_wp2_with fail
  go_loopw [8] (fun i wr => ∃ k : Nat, k ≤ n ∧ i = .int .i64 k ∧ Below w.heap.size w wr ∧ scanJ (badI L) n 0 = scanJ (badI L) (n - k) k) (fun i _ => n - (intOf i).toNat)
  case atStart => exact ⟨0, Nat.zero_le _, rfl, Below.refl _ _, rfl⟩
  case round =>
    obtain ⟨k, hk, rfl, hb, hF⟩ := hrel
    have HF := Lib.hid hF
    clear hF
    by_cases hlt : k < n
    · obtain ⟨b, o, rfl, hS⟩ : ∃ b o, a = some ⟨b, o, none⟩ ∧ Sl w b o n L := by
        rcases HH.out.2 with h' | h'
        · omega
        · exact h'
      have hS' := hS.below hb (Nat.le_refl _)
      have c0 := hS'.c0 k hlt
      have c1 := hS'.c1 k hlt
      have c2 := hS'.c2 k hlt
      have HLT := Lib.hid hlt
      clear hS hS'
      go_wp2_with fail
      refine (clo65 _ _ _ _).mono ?_
      rintro e w2 ⟨rfl, hb2⟩
      have HP : Hid (badI L k = !okI (at_ L k)) := Lib.hid rfl
      change Hid (badI L k = !okI ⟨(at_ L k).u, (at_ L k).n, (at_ L k).d⟩) at HP
      cases hp : okI ⟨(at_ L k).u, (at_ L k).n, (at_ L k).d⟩
      · have HPP := Lib.hid hp
        clear hp
        go_wp2_with fail
        go_ret
        exact ⟨by rw [HI.out k (by rw [HF.out, scan_yes HLT.out (by rw [HP.out, HPP.out]; rfl)])]; rfl, btr hb hb2⟩
      · have HPP := Lib.hid hp
        clear hp
        go_wp2_with fail
        exact ⟨⟨k + 1, by omega, by go_num, btr hb hb2, by rw [HF.out, scan_no HLT.out (by rw [HP.out, HPP.out]; rfl)]⟩, by simp [intOf]; omega⟩
    · have HK := Lib.hid hlt
      have hd : ¬ (k : Int) < n := by omega
      clear hlt
      go_wp2_with fail
      go_ret
      exact ⟨by rw [HI2.out (by rw [HF.out, scan_end HK.out])]; rfl, hb⟩

theorem has_65 (a : Option Addr) (n c : Nat) (L : List It) (w : World) (h : SlO w a n L) (hn : n ≤ 9223372036854775807) : Calls Try.prog 64 #[.slice a n c, .func (.func 65) #[] #[]] w fun e w' => e = .returned (.bool (scanJ (badI L) n 0).isSome) ∧ Below w.heap.size w w' := by
  rw [← iF_ge]
  have hR := iF_bd (p := badI L) (n := n)
  have HX := Lib.hid (idx_65 a n c L w h hn)
  generalize iF (badI L) n = R at *
  clear h hn
  go_enter Try.func64, Try.ntmps64
  go_wp2_with fail
  refine HX.out.mono ?_
  rintro e w1 ⟨rfl, hb⟩
  go_wp2_with fail
  go_ret
  exact ⟨rfl, hb⟩

theorem ve_large {L : List It} (h : 6 < L.length) : vErr L = 3 := if_pos h
theorem ve_scan {L : List It} {b : Bool} (h : ¬ 6 < L.length) (hs : (scanJ (badI L) L.length 0).isSome = b) : vErr L = if b = true then 1 else 0 := by
  unfold vErr; rw [if_neg h, hs]

theorem Validate_c (a : Option Addr) (n c : Nat) (L : List It) (w : World) (h : SlO w a n L) : Calls Try.prog 21 #[.slice a n c] w fun e w' => e = .returned (.int .i64 (vErr L)) ∧ Below w.heap.size w w' := by
  have hLn := h.1
  by_cases h6 : 6 < n
  · have d6 : ((6 : Int) < n) := by omega
    have hv : vErr L = 3 := ve_large (by omega)
    rw [hv]
    clear hv h hLn
    go_enter Try.func21, Try.ntmps21
    go_wp2
    go_ret
    exact ⟨rfl, Below.refl _ _⟩
  · have d6 : ¬ ((6 : Int) < n) := by omega
    have HV := fun b => Lib.hid (ve_scan (L := L) (b := b) (by omega))
    have HX := Lib.hid (has_65 a n c L w h (by omega))
    rw [hLn] at HX
    have HLn := Lib.hid hLn
    clear h hLn
    cases hb : (scanJ (badI L) L.length 0).isSome
    · rw [(HV false).out hb]
      rw [hb] at HX
      clear hb
      go_enter Try.func21, Try.ntmps21
      go_wp2_with fail
      rw [HLn.out]
      refine HX.out.mono ?_
      rintro e w1 ⟨rfl, hb⟩
      go_wp2_with fail
      go_ret
      exact ⟨rfl, hb⟩
    · rw [(HV true).out hb]
      rw [hb] at HX
      clear hb
      go_enter Try.func21, Try.ntmps21
      go_wp2_with fail
      rw [HLn.out]
      refine HX.out.mono ?_
      rintro e w1 ⟨rfl, hb⟩
      go_wp2_with fail
      go_ret
      exact ⟨rfl, hb⟩

theorem ve_end {L : List It} {k : Nat} (h : ¬ 6 < L.length) (hs : scanJ (badI L) L.length 0 = scanJ (badI L) (L.length - k) k) (hk : ¬ k < L.length) : vErr L = 0 := by
  unfold vErr; rw [if_neg h, hs, scan_end hk]; rfl
theorem ve_bad {L : List It} {k : Nat} (h : ¬ 6 < L.length) (hs : scanJ (badI L) L.length 0 = scanJ (badI L) (L.length - k) k) (hk : k < L.length) (hb : okI (at_ L k) = false) : vErr L = 1 := by
  unfold vErr; rw [if_neg h, hs, scan_yes hk (by simp [badI, hb])]; rfl
theorem ve_ok {L : List It} {k : Nat} (hs : scanJ (badI L) L.length 0 = scanJ (badI L) (L.length - k) k) (hk : k < L.length) (hb : okI (at_ L k) = true) : scanJ (badI L) L.length 0 = scanJ (badI L) (L.length - (k + 1)) (k + 1) := by
  rw [hs, scan_no hk (by simp [badI, hb])]

theorem rValidate_c (a : Option Addr) (n c : Nat) (L : List It) (w : World) (h : SlO w a n L) : Calls Try.prog 39 #[.slice a n c] w fun e w' => e = .returned (.int .i64 (vErr L)) ∧ Below w.heap.size w w' := by
  obtain rfl := h.1
  by_cases h6 : 6 < L.length
  · have d6 : ((6 : Int) < L.length) := by omega
    have hv : vErr L = 3 := ve_large h6
    rw [hv]
    clear hv h
    go_enter Try.func39, Try.ntmps39
    go_wp2
    go_ret
    exact ⟨rfl, Below.refl _ _⟩
  · have d6 : ¬ ((6 : Int) < L.length) := by omega
    have H6 := Lib.hid h6
    have HH := Lib.hid h
    have hn : L.length ≤ 6 := by omega
    clear h6 h
    go_enter Try.func39, Try.ntmps39
    go_wp2_with fail
    go_loopw [3] (fun i wr => ∃ k : Nat, k ≤ L.length ∧ i = .int .i64 k ∧ Below w.heap.size w wr ∧ scanJ (badI L) L.length 0 = scanJ (badI L) (L.length - k) k) (fun i _ => L.length - (intOf i).toNat)
    case atStart => exact ⟨0, Nat.zero_le _, rfl, Below.refl _ _, rfl⟩
    case round =>
      obtain ⟨k, hk, rfl, hb, hF⟩ := hrel
      have HF := Lib.hid hF
      clear hF
      by_cases hlt : k < L.length
      · obtain ⟨b, o, rfl, hS⟩ : ∃ b o, a = some ⟨b, o, none⟩ ∧ Sl w b o L.length L := by
          rcases HH.out.2 with h' | h'
          · omega
          · exact h'
        have hS' := hS.below hb (Nat.le_refl _)
        have c0 := hS'.c0 k hlt
        have HS := Lib.hid hS
        have HLT := Lib.hid hlt
        have HOK : Hid (okI (at_ L k) = (inB (at_ L k).u 1 8 && rateB (at_ L k).n (at_ L k).d)) := Lib.hid rfl
        have c1 := hS'.c1 k hlt
        have c2 := hS'.c2 k hlt
        clear hS hS'
        cases h1 : inB (at_ L k).u 1 8
        · have HO : Hid (okI (at_ L k) = false) := Lib.hid (by rw [HOK.out, h1]; rfl)
          go_wp2_with fail
          refine (rWithin_c _ _ _ _).mono ?_
          rintro e w1 ⟨rfl, rfl⟩
          rw [h1]
          clear h1
          go_wp2_with fail
          go_ret
          exact ⟨by rw [ve_bad H6.out HF.out HLT.out HO.out]; rfl, hb⟩
        · have HOK2 : Hid (okI (at_ L k) = rateB (at_ L k).n (at_ L k).d) := Lib.hid (by rw [HOK.out, h1]; rfl)
          go_wp2_with fail
          refine (rWithin_c _ _ _ _).mono ?_
          rintro e w1 ⟨rfl, rfl⟩
          rw [h1]
          clear h1
          go_wp2_with fail
          refine (rIsRate_c _ _ _).mono ?_
          rintro e w2 ⟨rfl, hb2⟩
          cases h2 : rateB (at_ L k).n (at_ L k).d
          · have HO : Hid (okI (at_ L k) = false) := Lib.hid (by rw [HOK2.out, h2])
            clear h2
            go_wp2_with fail
            go_ret
            exact ⟨by rw [ve_bad H6.out HF.out HLT.out HO.out]; rfl, btr hb hb2⟩
          · have HO : Hid (okI (at_ L k) = true) := Lib.hid (by rw [HOK2.out, h2])
            clear h2
            go_wp2_with fail
            exact ⟨⟨k + 1, by omega, by go_num, btr hb hb2, ve_ok HF.out HLT.out HO.out⟩, by simp [intOf]; omega⟩
      · have HK := Lib.hid hlt
        have hd : ¬ (k : Int) < L.length := by omega
        clear hlt
        go_wp2_with fail
        go_ret
        exact ⟨by rw [ve_end H6.out HF.out HK.out]; rfl, hb⟩
end Go.Proofs.Ytplindidegmlkaa
