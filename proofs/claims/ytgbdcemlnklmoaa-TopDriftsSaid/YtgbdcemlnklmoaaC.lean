/- The functions that are handed to the library, and ContainsFunc with each of them. -/
import Derived.Test.YtgbdcemlnklmoaaS2
namespace Go.Proofs.Ytgbdcemlnklmoaa
open Go.RowKit Go.Sort

def badN (n' : Nat) (xs : List Int) (i : Nat) : Bool := !inB (gi xs i) 0 ((n' : Int) - 1)

/-- The first number below n that has the property, or -1. -/
def iF (p : Nat → Bool) (n : Nat) : Int := match scanJ p n 0 with | some k => (k : Int) | none => -1
theorem iF_some {p : Nat → Bool} {n k : Nat} (h : scanJ p n 0 = some k) : iF p n = k := by simp [iF, h]
theorem iF_none {p : Nat → Bool} {n : Nat} (h : scanJ p n 0 = none) : iF p n = -1 := by simp [iF, h]
theorem iF_ge {p : Nat → Bool} {n : Nat} : decide (0 ≤ iF p n) = (scanJ p n 0).isSome := by
  unfold iF
  cases scanJ p n 0 <;> simp
theorem iF_bd {p : Nat → Bool} {n : Nat} : -1 ≤ iF p n := by
  unfold iF
  cases scanJ p n 0 <;> simp

theorem clo75 (x : Int) (w : World) : Calls Try.prog 75 #[.int .i64 x] w fun e w' => e = .returned (.bool (!inB x (-1000) 1000)) ∧ Below w.heap.size w w' := by
  go_enter Try.func75, Try.ntmps75
  go_wp2_with (go_at_call 62; refine (within_c _ _ _ _).mono ?_; rintro e w' ⟨rfl, rfl⟩)
  go_ret
  exact ⟨rfl, Below.refl _ _⟩

theorem clo89 (x : Int) (B : Nat) (a : Option Addr) (n c : Nat) (w : World) (hc : w.cell? ⟨B, 0, none⟩ = some (.slice a n c)) (hm : n ≤ 9223372036854775807) :
    Calls Try.prog 89 #[.int .i64 x, .pointer (some ⟨B, 0, none⟩)] w fun e w' => e = .returned (.bool (!inB x 0 ((n : Int) - 1))) ∧ Below w.heap.size w w' := by
  go_enter Try.func89, Try.ntmps89
  go_wp2_with (go_at_call 62; refine (within_c _ _ _ _).mono ?_; rintro e w' ⟨rfl, rfl⟩)
  go_ret
  exact ⟨rfl, Below.refl _ _⟩

theorem clo77 (x : Rd) (b o n c b2 o2 n2 c2 : Nat) (B1 B2 : Nat) (L : List Rd) (xs : List Int) (w : World) (h1 : w.cell? ⟨B1, 0, none⟩ = some (.slice (some ⟨b2, o2, none⟩) n2 c2)) (h2 : w.cell? ⟨B2, 0, none⟩ = some (.slice (some ⟨b, o, none⟩) n c))
    (hS : Sl w b o n L) (hI : Is w b2 o2 n2 xs) (hn : 1 ≤ n) (hx : okRd x = true) (ht0 : 0 ≤ firstT L) (hp : firstT L ≤ x.t) (hp2 : x.t - firstT L < n2) :
    Calls Try.prog 77 #[.agg #[.int .i64 x.t, .int .i64 x.lo, .int .i64 x.hi], .pointer (some ⟨B1, 0, none⟩), .pointer (some ⟨B2, 0, none⟩)] w fun e w' =>
      e = .returned (.bool (!inB (gi xs (x.t - firstT L).toNat) x.lo x.hi)) ∧ Below w.heap.size w w' := by
  obtain ⟨⟨a1, a2⟩, ⟨a3, a4⟩, a5, a6⟩ := okRd_iff.1 hx
  obtain ⟨t, lo, hi⟩ := x
  dsimp only at *
  have p1 : 0 ≤ t - firstT L := by omega
  have HS := Lib.hid hS
  have HI := Lib.hid hI
  clear hS hI hx
  go_enter Try.func77, Try.ntmps77
  go_wp2_with fail
  refine wp_world ?_
  intro w1 hw1
  have B1' : Below w.heap.size w w1 := by rw [hw1]; exact (Below.refl _ _).alloc (Nat.le_refl _) _
  have x0 : w1.cell? ⟨w.heap.size, 0, none⟩ = some (.int .i64 t) := by rw [hw1]; simp [go_sem]
  have x1 : w1.cell? ⟨w.heap.size, 1, none⟩ = some (.int .i64 lo) := by rw [hw1]; simp [go_sem]
  have x2 : w1.cell? ⟨w.heap.size, 2, none⟩ = some (.int .i64 hi) := by rw [hw1]; simp [go_sem]
  have k0 := cell_regrown x0
  have k1 := cell_regrown x1
  have k2 := cell_regrown x2
  have m1 := cell_regrown (cellB B1' h1)
  have m2 := cell_regrown (cellB B1' h2)
  have t0 := (HS.out.below B1' (Nat.le_refl _)).c0 0 (by omega)
  simp only [Nat.zero_mul, Nat.add_zero] at t0
  have l0 := cell_regrown t0
  have l1 := cell_regrown ((HI.out.below B1' (Nat.le_refl _)).c0 (t - firstT L).toNat (by omega))
  have hfT : (at_ L 0).t = firstT L := rfl
  simp only [hfT] at l0
  clear hw1 x0 x1 x2 t0 hfT h1 h2
  have cF := fun d os => rg_same (within_c (gi xs (t - firstT L).toNat) lo hi (grow (redrawn w1 d) os))
  refine wp_region_B (by kernel_rfl) (by kernel_rfl) ?_
  repeat (go_big_quiet_step (exact cF _ _))
  refine wpQuiet_nil ?_
  intro w2 hb2
  go_wp2_with fail
  go_ret
  exact ⟨rfl, btr B1' hb2⟩


theorem idx_75 (a : Option Addr) (n c : Nat) (xs : List Int) (w : World) (h : IsO w a n xs) (hn : n ≤ 9223372036854775807)  : Calls Try.prog 87 #[.slice a n c, .func (.func 75) #[] #[]] w fun e w' => e = .returned (.int .i64 (iF (badR xs) n)) ∧ Below w.heap.size w w' := by
  by_cases h1 : n = 0
  · subst h1
    have hi : iF (badR xs) 0 = -1 := rfl
    rw [hi]
    clear h hi hn 
    go_enter Try.func87, Try.ntmps87
    go_wp2_with fail
    go_loopw [8] (fun i wr => wr = w ∧ i = .int .i64 0) (fun _ _ => 0)
    case atStart => exact ⟨rfl, rfl⟩
    case round =>
      obtain ⟨rfl, rfl⟩ := hrel
      go_wp2_with fail
      go_ret
      exact ⟨rfl, Below.refl _ _⟩
  · obtain ⟨b, o, rfl, hS⟩ : ∃ b o, a = some ⟨b, o, none⟩ ∧ Is w b o n xs := by
      rcases h.2 with h' | h'
      · exact absurd h' h1
      · exact h'
    have HS := Lib.hid hS
    have HH := Lib.hid h
    skip
    have HI : Hid (∀ k, scanJ (badR xs) n 0 = some k → iF (badR xs) n = k) := fun k hk => iF_some hk
    have HI2 : Hid (scanJ (badR xs) n 0 = none → iF (badR xs) n = -1) := fun hk => iF_none hk
    generalize iF (badR xs) n = R at *
    clear hS h h1
    go_enter Try.func87, Try.ntmps87
    go_wp2_with fail
    go_loopw [8] (fun i wr => ∃ k : Nat, k ≤ n ∧ i = .int .i64 k ∧ Below w.heap.size w wr ∧ scanJ (badR xs) n 0 = scanJ (badR xs) (n - k) k) (fun i _ => n - (intOf i).toNat)
    case atStart => exact ⟨0, Nat.zero_le _, rfl, Below.refl _ _, rfl⟩
    case round =>
      obtain ⟨k, hk, rfl, hb, hF⟩ := hrel
      have HF := Lib.hid hF
      clear hF
      by_cases hlt : k < n
      · have hS' := HS.out.below hb (Nat.le_refl _)
        have c0 := hS'.c0 k hlt
        clear hS'
        go_wp2_with fail
        refine (clo75 _ _).mono ?_
        rintro e w2 ⟨rfl, hb2⟩
        have hpk : badR xs k = (!inB (gi xs k) (-1000) 1000) := rfl
        have HP := Lib.hid hpk
        clear hpk
        by_cases hp : inB (gi xs k) (-1000) 1000 = true
        · simp only [hp]
          go_wp2_with fail
          exact ⟨⟨k + 1, by omega, by go_num, btr hb hb2, by rw [HF.out, scan_no hlt (by rw [HP.out, hp]; rfl)]⟩, by simp [intOf]; omega⟩
        · replace hp : inB (gi xs k) (-1000) 1000 = false := by simpa using hp
          simp only [hp]
          go_wp2_with fail
          go_ret
          exact ⟨by rw [HI.out k (by rw [HF.out, scan_yes hlt (by rw [HP.out, hp]; rfl)])]; rfl, btr hb hb2⟩
      · have HK := Lib.hid hlt
        have hd : ¬ (k : Int) < n := by omega
        clear hlt
        go_wp2_with fail
        go_ret
        exact ⟨by rw [HI2.out (by rw [HF.out, scan_end HK.out])]; rfl, hb⟩

theorem has_75 (a : Option Addr) (n c : Nat) (xs : List Int) (w : World) (h : IsO w a n xs) (hn : n ≤ 9223372036854775807)  : Calls Try.prog 74 #[.slice a n c, .func (.func 75) #[] #[]] w fun e w' => e = .returned (.bool (scanJ (badR xs) n 0).isSome) ∧ Below w.heap.size w w' := by
  rw [← iF_ge]
  have hR := iF_bd (p := badR xs) (n := n)
  have HX := Lib.hid (idx_75 a n c xs w h hn )
  generalize iF (badR xs) n = R at *
  clear h hn 
  go_enter Try.func74, Try.ntmps74
  go_wp2_with fail
  refine HX.out.mono ?_
  rintro e w1 ⟨rfl, hb⟩
  go_wp2_with fail
  go_ret
  exact ⟨rfl, hb⟩


theorem idx_89 (a : Option Addr) (n c : Nat) (xs : List Int) (B : Nat) (a' : Option Addr) (n' c' : Nat) (w : World) (h : IsO w a n xs) (hn : n ≤ 9223372036854775807) (hc : w.cell? ⟨B, 0, none⟩ = some (.slice a' n' c')) (hm : n' ≤ 9223372036854775807) : Calls Try.prog 87 #[.slice a n c, .func (.func 89) #[] #[.pointer (some ⟨B, 0, none⟩)]] w fun e w' => e = .returned (.int .i64 (iF (badN n' xs) n)) ∧ Below w.heap.size w w' := by
  by_cases h1 : n = 0
  · subst h1
    have hi : iF (badN n' xs) 0 = -1 := rfl
    rw [hi]
    clear h hi hn hc hm
    go_enter Try.func87, Try.ntmps87
    go_wp2_with fail
    go_loopw [8] (fun i wr => wr = w ∧ i = .int .i64 0) (fun _ _ => 0)
    case atStart => exact ⟨rfl, rfl⟩
    case round =>
      obtain ⟨rfl, rfl⟩ := hrel
      go_wp2_with fail
      go_ret
      exact ⟨rfl, Below.refl _ _⟩
  · obtain ⟨b, o, rfl, hS⟩ : ∃ b o, a = some ⟨b, o, none⟩ ∧ Is w b o n xs := by
      rcases h.2 with h' | h'
      · exact absurd h' h1
      · exact h'
    have HS := Lib.hid hS
    have HH := Lib.hid h
    have HC := Lib.hid hc
    clear hc
    have HI : Hid (∀ k, scanJ (badN n' xs) n 0 = some k → iF (badN n' xs) n = k) := fun k hk => iF_some hk
    have HI2 : Hid (scanJ (badN n' xs) n 0 = none → iF (badN n' xs) n = -1) := fun hk => iF_none hk
    generalize iF (badN n' xs) n = R at *
    clear hS h h1
    go_enter Try.func87, Try.ntmps87
    go_wp2_with fail
    go_loopw [8] (fun i wr => ∃ k : Nat, k ≤ n ∧ i = .int .i64 k ∧ Below w.heap.size w wr ∧ scanJ (badN n' xs) n 0 = scanJ (badN n' xs) (n - k) k) (fun i _ => n - (intOf i).toNat)
    case atStart => exact ⟨0, Nat.zero_le _, rfl, Below.refl _ _, rfl⟩
    case round =>
      obtain ⟨k, hk, rfl, hb, hF⟩ := hrel
      have HF := Lib.hid hF
      clear hF
      by_cases hlt : k < n
      · have hS' := HS.out.below hb (Nat.le_refl _)
        have c0 := hS'.c0 k hlt
        clear hS'
        go_wp2_with fail
        refine (clo89 _ _ _ _ _ _ (cellB hb HC.out) hm).mono ?_
        rintro e w2 ⟨rfl, hb2⟩
        have hpk : badN n' xs k = (!inB (gi xs k) 0 ((n' : Int) - 1)) := rfl
        have HP := Lib.hid hpk
        clear hpk
        by_cases hp : inB (gi xs k) 0 ((n' : Int) - 1) = true
        · simp only [hp]
          go_wp2_with fail
          exact ⟨⟨k + 1, by omega, by go_num, btr hb hb2, by rw [HF.out, scan_no hlt (by rw [HP.out, hp]; rfl)]⟩, by simp [intOf]; omega⟩
        · replace hp : inB (gi xs k) 0 ((n' : Int) - 1) = false := by simpa using hp
          simp only [hp]
          go_wp2_with fail
          go_ret
          exact ⟨by rw [HI.out k (by rw [HF.out, scan_yes hlt (by rw [HP.out, hp]; rfl)])]; rfl, btr hb hb2⟩
      · have HK := Lib.hid hlt
        have hd : ¬ (k : Int) < n := by omega
        clear hlt
        go_wp2_with fail
        go_ret
        exact ⟨by rw [HI2.out (by rw [HF.out, scan_end HK.out])]; rfl, hb⟩

theorem has_89 (a : Option Addr) (n c : Nat) (xs : List Int) (B : Nat) (a' : Option Addr) (n' c' : Nat) (w : World) (h : IsO w a n xs) (hn : n ≤ 9223372036854775807) (hc : w.cell? ⟨B, 0, none⟩ = some (.slice a' n' c')) (hm : n' ≤ 9223372036854775807) : Calls Try.prog 74 #[.slice a n c, .func (.func 89) #[] #[.pointer (some ⟨B, 0, none⟩)]] w fun e w' => e = .returned (.bool (scanJ (badN n' xs) n 0).isSome) ∧ Below w.heap.size w w' := by
  rw [← iF_ge]
  have hR := iF_bd (p := badN n' xs) (n := n)
  have HX := Lib.hid (idx_89 a n c xs B a' n' c' w h hn hc hm)
  generalize iF (badN n' xs) n = R at *
  clear h hn hc hm
  go_enter Try.func74, Try.ntmps74
  go_wp2_with fail
  refine HX.out.mono ?_
  rintro e w1 ⟨rfl, hb⟩
  go_wp2_with fail
  go_ret
  exact ⟨rfl, hb⟩


theorem idx_77 (a : Option Addr) (n c : Nat) (L : List Rd) (b2 o2 n2 c2 B1 B2 : Nat) (xs : List Int) (w : World) (h : SlO w a n L) (hn : n ≤ 9223372036854775807) (hc1 : w.cell? ⟨B1, 0, none⟩ = some (.slice (some ⟨b2, o2, none⟩) n2 c2)) (hc2 : w.cell? ⟨B2, 0, none⟩ = some (.slice a n c)) (hIx : Is w b2 o2 n2 xs) (hv : Valid L) (hlen : (n2 : Int) = lastT L - firstT L + 1) : Calls Try.prog 88 #[.slice a n c, .func (.func 77) #[] #[.pointer (some ⟨B1, 0, none⟩), .pointer (some ⟨B2, 0, none⟩)]] w fun e w' => e = .returned (.int .i64 (iF (badP L xs) n)) ∧ Below w.heap.size w w' := by
  by_cases h1 : n = 0
  · subst h1
    have hi : iF (badP L xs) 0 = -1 := rfl
    rw [hi]
    clear h hi hn hc1 hc2 hIx hv hlen
    go_enter Try.func88, Try.ntmps88
    go_wp2_with fail
    go_loopw [8] (fun i wr => wr = w ∧ i = .int .i64 0) (fun _ _ => 0)
    case atStart => exact ⟨rfl, rfl⟩
    case round =>
      obtain ⟨rfl, rfl⟩ := hrel
      go_wp2_with fail
      go_ret
      exact ⟨rfl, Below.refl _ _⟩
  · obtain ⟨b, o, rfl, hS⟩ : ∃ b o, a = some ⟨b, o, none⟩ ∧ Sl w b o n L := by
      rcases h.2 with h' | h'
      · exact absurd h' h1
      · exact h'
    have HS := Lib.hid hS
    have HH := Lib.hid h
    have HC1 := Lib.hid hc1
    have HC2 := Lib.hid hc2
    have HIx := Lib.hid hIx
    have HV := Lib.hid hv
    have HLN := Lib.hid hlen
    have HT : Hid (∀ k, k < n → okRd (at_ L k) = true ∧ 0 ≤ firstT L ∧ firstT L ≤ (at_ L k).t ∧ (at_ L k).t - firstT L < n2) := Lib.hid (by
      intro k hk
      have hk' : k < L.length := by have := hS.len; omega
      have h1 := times_bd hv hk'
      have h2 := (hv.bd (i := 0) (by omega)).1.1
      have h3 : 0 ≤ firstT L := h2
      exact ⟨hv.ok k hk', h3, h1.1, by omega⟩)
    clear hc1 hc2 hIx hv hlen
    have HI : Hid (∀ k, scanJ (badP L xs) n 0 = some k → iF (badP L xs) n = k) := fun k hk => iF_some hk
    have HI2 : Hid (scanJ (badP L xs) n 0 = none → iF (badP L xs) n = -1) := fun hk => iF_none hk
    generalize iF (badP L xs) n = R at *
    clear hS h h1
    go_enter Try.func88, Try.ntmps88
    go_wp2_with fail
    go_loopw [8] (fun i wr => ∃ k : Nat, k ≤ n ∧ i = .int .i64 k ∧ Below w.heap.size w wr ∧ scanJ (badP L xs) n 0 = scanJ (badP L xs) (n - k) k) (fun i _ => n - (intOf i).toNat)
    case atStart => exact ⟨0, Nat.zero_le _, rfl, Below.refl _ _, rfl⟩
    case round =>
      obtain ⟨k, hk, rfl, hb, hF⟩ := hrel
      have HF := Lib.hid hF
      clear hF
      by_cases hlt : k < n
      · have hS' := HS.out.below hb (Nat.le_refl _)
        have cl0 := hS'.c0 k hlt
        have cl1 := hS'.c1 k hlt
        have cl2 := hS'.c2 k hlt
        clear hS'
        go_wp2_with fail
        refine (clo77 (at_ L k) b o n c b2 o2 n2 c2 B1 B2 L xs _ (cellB hb HC1.out) (cellB hb HC2.out) (HS.out.below hb (Nat.le_refl _)) (HIx.out.below hb (Nat.le_refl _)) (by omega) (HT.out k hlt).1 (HT.out k hlt).2.1 (HT.out k hlt).2.2.1 (HT.out k hlt).2.2.2).mono ?_
        rintro e w2 ⟨rfl, hb2⟩
        have hpk : badP L xs k = (!inB (gi xs ((at_ L k).t - firstT L).toNat) (at_ L k).lo (at_ L k).hi) := rfl
        have HP := Lib.hid hpk
        clear hpk
        by_cases hp : inB (gi xs ((at_ L k).t - firstT L).toNat) (at_ L k).lo (at_ L k).hi = true
        · simp only [hp]
          go_wp2_with fail
          exact ⟨⟨k + 1, by omega, by go_num, btr hb hb2, by rw [HF.out, scan_no hlt (by rw [HP.out, hp]; rfl)]⟩, by simp [intOf]; omega⟩
        · replace hp : inB (gi xs ((at_ L k).t - firstT L).toNat) (at_ L k).lo (at_ L k).hi = false := by simpa using hp
          simp only [hp]
          go_wp2_with fail
          go_ret
          exact ⟨by rw [HI.out k (by rw [HF.out, scan_yes hlt (by rw [HP.out, hp]; rfl)])]; rfl, btr hb hb2⟩
      · have HK := Lib.hid hlt
        have hd : ¬ (k : Int) < n := by omega
        clear hlt
        go_wp2_with fail
        go_ret
        exact ⟨by rw [HI2.out (by rw [HF.out, scan_end HK.out])]; rfl, hb⟩

theorem has_77 (a : Option Addr) (n c : Nat) (L : List Rd) (b2 o2 n2 c2 B1 B2 : Nat) (xs : List Int) (w : World) (h : SlO w a n L) (hn : n ≤ 9223372036854775807) (hc1 : w.cell? ⟨B1, 0, none⟩ = some (.slice (some ⟨b2, o2, none⟩) n2 c2)) (hc2 : w.cell? ⟨B2, 0, none⟩ = some (.slice a n c)) (hIx : Is w b2 o2 n2 xs) (hv : Valid L) (hlen : (n2 : Int) = lastT L - firstT L + 1) : Calls Try.prog 76 #[.slice a n c, .func (.func 77) #[] #[.pointer (some ⟨B1, 0, none⟩), .pointer (some ⟨B2, 0, none⟩)]] w fun e w' => e = .returned (.bool (scanJ (badP L xs) n 0).isSome) ∧ Below w.heap.size w w' := by
  rw [← iF_ge]
  have hR := iF_bd (p := badP L xs) (n := n)
  have HX := Lib.hid (idx_77 a n c L b2 o2 n2 c2 B1 B2 xs w h hn hc1 hc2 hIx hv hlen)
  generalize iF (badP L xs) n = R at *
  clear h hn hc1 hc2 hIx hv hlen
  go_enter Try.func76, Try.ntmps76
  go_wp2_with fail
  refine HX.out.mono ?_
  rintro e w1 ⟨rfl, hb⟩
  go_wp2_with fail
  go_ret
  exact ⟨rfl, hb⟩

end Go.Proofs.Ytgbdcemlnklmoaa
