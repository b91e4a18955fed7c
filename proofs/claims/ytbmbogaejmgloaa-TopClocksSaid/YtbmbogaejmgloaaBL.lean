/- How much waits after each unit: program and reference. -/
import Derived.Test.YtbmbogaejmgloaaC
import Derived.Laws.EntriesVeiled
namespace Go.Proofs.Ytbmbogaejmgloaa
open Go.RowKit Go.Sort

theorem clo57 (x : Int) (w : World) : Calls Try.prog 57 #[.int .i64 x] w fun e w' => e = .returned (.bool (inB x 0 60)) ∧ Below w.heap.size w w' := by
  by_cases h1 : 0 ≤ x
  · have d1 := decT h1
    by_cases h2 : x ≤ 60
    · have d2 := decT h2
      have hr : inB x 0 60 = true := inB_true.2 ⟨h1, h2⟩
      rw [hr]; clear hr
      go_enter Try.func57, Try.ntmps57
      go_wp2_with fail
      go_ret
      exact ⟨rfl, Below.refl _ _⟩
    · have d2 := decF h2
      have hr : inB x 0 60 = false := inB_false.2 (by omega)
      rw [hr]; clear hr
      go_enter Try.func57, Try.ntmps57
      go_wp2_with fail
      go_ret
      exact ⟨rfl, Below.refl _ _⟩
  · have d1 := decF h1
    have hr : inB x 0 60 = false := inB_false.2 (by omega)
    rw [hr]; clear hr
    go_enter Try.func57, Try.ntmps57
    go_wp2_with fail
    go_ret
    exact ⟨rfl, Below.refl _ _⟩

theorem clo59 (x : Int) (B : Nat) (w : World) (hc : w.cell? ⟨B, 0, none⟩ = some (.func (.func 57) #[] #[])) :
    Calls Try.prog 59 #[.int .i64 x, .pointer (some ⟨B, 0, none⟩)] w fun e w' => e = .returned (.bool (!inB x 0 60)) ∧ Below w.heap.size w w' := by
  go_enter Try.func59, Try.ntmps59
  go_wp2_with fail
  refine (clo57 _ _).mono ?_
  rintro e w1 ⟨rfl, hb⟩
  go_wp2_with fail
  go_ret
  exact ⟨rfl, hb⟩

theorem idx_59 (a : Option Addr) (n c : Nat) (xs : List Int) (B : Nat) (w : World) (h : IsO w a n xs) (hn : n ≤ 9223372036854775807) (hc : w.cell? ⟨B, 0, none⟩ = some (.func (.func 57) #[] #[])) : Calls Try.prog 77 #[.slice a n c, .func (.func 59) #[] #[.pointer (some ⟨B, 0, none⟩)]] w fun e w' => e = .returned (.int .i64 (iF (badU xs) n)) ∧ Below w.heap.size w w' := by
  have HH := Lib.hid h
  have HC := Lib.hid hc
  clear hc
  have HI : Hid (∀ k, scanJ (badU xs) n 0 = some k → iF (badU xs) n = k) := fun k hk => iF_some hk
  have HI2 : Hid (scanJ (badU xs) n 0 = none → iF (badU xs) n = -1) := fun hk => iF_none hk
  generalize iF (badU xs) n = R at *
  clear h
  go_enter Try.func77, Try.ntmps77
  go_wp2_with fail
  go_loopw [8] (fun i wr => ∃ k : Nat, k ≤ n ∧ i = .int .i64 k ∧ Below w.heap.size w wr ∧ scanJ (badU xs) n 0 = scanJ (badU xs) (n - k) k) (fun i _ => n - (intOf i).toNat)
  case atStart => exact ⟨0, Nat.zero_le _, rfl, Below.refl _ _, rfl⟩
  case round =>
    obtain ⟨k, hk, rfl, hb, hF⟩ := hrel
    have HF := Lib.hid hF
    clear hF
    by_cases hlt : k < n
    · obtain ⟨b, o, rfl, hS⟩ : ∃ b o, a = some ⟨b, o, none⟩ ∧ Is w b o n xs := by
        rcases HH.out.2 with h' | h'
        · omega
        · exact h'
      have c0 := (hS.below hb (Nat.le_refl _)).c0 k hlt
      have HLT := Lib.hid hlt
      clear hS
      go_wp2_with fail
      refine (clo59 _ _ _ (cellB hb HC.out)).mono ?_
      rintro e w2 ⟨rfl, hb2⟩
      have HP : Hid ((badU xs) k = (!inB (gi xs k) 0 60)) := Lib.hid rfl
      cases hp : inB (gi xs k) 0 60
      · have HPP := Lib.hid hp
        clear hp
        go_wp2_with fail
        go_ret
        exact ⟨by rw [HI.out k (by rw [HF.out, scan_yes HLT.out (by rw [HP.out, HPP.out]; rfl)])]; rfl, btr hb hb2⟩
      · have HPP := Lib.hid hp
        clear hp
        go_wp2_with fail
        exact ⟨⟨k + 1, by omega, by go_num, btr hb hb2, by rw [HF.out, scan_no HLT.out (by rw [HP.out, HPP.out]; rfl)]⟩, by simp [intOf]; omega⟩
    · have HK := Lib.hid hlt
      have hd : ¬ (k : Int) < n := by omega
      clear hlt
      go_wp2_with fail
      go_ret
      exact ⟨by rw [HI2.out (by rw [HF.out, scan_end HK.out])]; rfl, hb⟩

theorem has_59 (a : Option Addr) (n c : Nat) (xs : List Int) (B : Nat) (w : World) (h : IsO w a n xs) (hn : n ≤ 9223372036854775807) (hc : w.cell? ⟨B, 0, none⟩ = some (.func (.func 57) #[] #[])) : Calls Try.prog 58 #[.slice a n c, .func (.func 59) #[] #[.pointer (some ⟨B, 0, none⟩)]] w fun e w' => e = .returned (.bool (scanJ (badU xs) n 0).isSome) ∧ Below w.heap.size w w' := by
  rw [← iF_ge]
  have hR := iF_bd (p := badU xs) (n := n)
  have HX := Lib.hid (idx_59 a n c xs B w h hn hc)
  generalize iF (badU xs) n = R at *
  clear h hn hc
  go_enter Try.func58, Try.ntmps58
  go_wp2_with fail
  refine HX.out.mono ?_
  rintro e w1 ⟨rfl, hb⟩
  go_wp2_with fail
  go_ret
  exact ⟨rfl, hb⟩

theorem bk_bad {xs : List Int} {dn : Int} (h : 60 < xs.length ∨ inB dn 0 60 = false ∨ (scanJ (badU xs) xs.length 0).isSome = true) : bkErr xs dn = 1 ∧ bkL xs dn = [] := by
  have e : bkErr xs dn = 1 := if_pos h
  exact ⟨e, by unfold bkL; rw [e]; rfl⟩
theorem bk_ok {xs : List Int} {dn : Int} (h1 : ¬ 60 < xs.length) (h2 : inB dn 0 60 = true) (h3 : (scanJ (badU xs) xs.length 0).isSome = false) : bkErr xs dn = 0 ∧ bkL xs dn = (List.range xs.length).map (fun t => waF (gi xs) dn (t + 1)) := by
  have e : bkErr xs dn = 0 := if_neg (by rw [h2, h3]; simp; omega)
  exact ⟨e, by unfold bkL; rw [if_pos e]⟩

theorem wa_step (f : Nat → Int) (dn : Int) (t : Nat) : waF f dn (t + 1) = max 0 (waF f dn t + f t - dn) := rfl

set_option maxRecDepth 100000 in
set_option maxHeartbeats 3200000 in
theorem Backlog_c (a : Option Addr) (n c : Nat) (xs : List Int) (dn : Int) (w : World) (h : IsO w a n xs) (hn : n ≤ 9223372036854775807) : Calls Try.prog 24 #[.slice a n c, .int .i64 dn] w (RetI2 w (bkL xs dn) (bkErr xs dn)) := by
  have HLn : Hid (n = xs.length) := Lib.hid h.1
  have H := Lib.hid h
  have hA : Below w.heap.size w (w.alloc (.cells #[.func (.func 57) #[] #[]] 67)) := (Below.refl _ _).alloc (Nat.le_refl _) _
  have HA := Lib.hid hA
  have HA3 : Hid ((w.alloc (.cells #[.func (.func 57) #[] #[]] 67)).cell? ⟨w.heap.size, 0, none⟩ = some (.func (.func 57) #[] #[])) := Lib.hid (by simp [go_sem])
  clear hA h
  by_cases h1 : 60 < n
  · have d1 := decT h1
    obtain ⟨e1, e2⟩ := bk_bad (dn := dn) (.inl (by rw [← HLn.out]; exact h1))
    rw [e1, e2]
    clear e1 e2
    go_enter Try.func24, Try.ntmps24
    go_wp2_with fail
    go_ret2
    exact ⟨_, rfl, IsV.nil _ _, HA.out⟩
  · have d1 := decF h1
    cases h2 : inB dn 0 60 with
    | false =>
      obtain ⟨e1, e2⟩ := bk_bad (xs := xs) (dn := dn) (.inr (.inl h2))
      rw [e1, e2]
      clear e1 e2
      go_enter Try.func24, Try.ntmps24
      go_wp2_with fail
      refine (clo57 _ _).mono ?_
      rintro e w1 ⟨rfl, hb1⟩
      simp only [h2]
      go_wp2_with fail
      go_ret2
      exact ⟨_, rfl, IsV.nil _ _, btr HA.out hb1⟩
    | true =>
      cases h3 : (scanJ (badU xs) n 0).isSome with
      | true =>
        obtain ⟨e1, e2⟩ := bk_bad (dn := dn) (.inr (.inr (by rw [← HLn.out]; exact h3)))
        rw [e1, e2]
        clear e1 e2
        go_enter Try.func24, Try.ntmps24
        go_wp2_with fail
        refine (clo57 _ _).mono ?_
        rintro e w1 ⟨rfl, hb1⟩
        simp only [h2]
        have C1 := cellB hb1 HA3.out
        have B1 := btr HA.out hb1
        go_wp2_with fail
        refine (has_59 _ _ _ _ _ _ (H.out.below B1 (Nat.le_refl _)) hn C1).mono ?_
        rintro e w2 ⟨rfl, hb2⟩
        simp only [h3]
        go_wp2_with fail
        go_ret2
        exact ⟨_, rfl, IsV.nil _ _, btr B1 hb2⟩
      | false =>
        obtain ⟨e1, e2⟩ := bk_ok (dn := dn) (by rw [← HLn.out]; exact h1) h2 (by rw [← HLn.out]; exact h3)
        rw [e1, e2, ← HLn.out]
        have HD : Hid (∀ k, k < n → 0 ≤ gi xs k ∧ gi xs k ≤ 60) := Lib.hid (fun k hk => by
          have := scan_none.1 h3 k hk
          simp [badU] at this
          exact inB_true.1 this)
        obtain ⟨b1, b2⟩ := inB_true.1 h2
        clear e1 e2
        obtain ⟨i0, hi, hz0, hz1, hz2⟩ := info_parts info3
        go_enter Try.func24, Try.ntmps24
        go_wp2_with fail
        refine (clo57 _ _).mono ?_
        rintro e w1 ⟨rfl, hb1⟩
        simp only [h2]
        have C1 := cellB hb1 HA3.out
        have B1 := btr HA.out hb1
        go_wp2_with fail
        refine (has_59 _ _ _ _ _ _ (H.out.below B1 (Nat.le_refl _)) hn C1).mono ?_
        rintro e w2 ⟨rfl, hb2⟩
        simp only [h3]
        have B2 := btr B1 hb2
        clear C1 hb1 hb2 B1 h2 h3
        go_wp2_with fail
        go_loopw [7, 8, 27] (fun v s i wr => ∃ k : Nat, k ≤ n ∧ i = .int .i64 k ∧ s = .int .i64 (waF (gi xs) dn k) ∧ Below w.heap.size w wr ∧ wr.ownsRow w.heap.size 3 1 v k (((List.range k).map (fun t => waF (gi xs) dn (t + 1))).map (Value.int .i64))) (fun _ _ i _ => n - (intOf i).toNat)
        case atStart => exact ⟨0, Nat.zero_le _, rfl, rfl, B2, World.ownsRow_nil _ _ _ _⟩
        case round =>
          obtain ⟨k, hk, rfl, rfl, hb, hown⟩ := hrel
          have HO := Lib.hid hown
          clear hown B2
          by_cases hlt : k < n
          · obtain ⟨b, o, hab, hI⟩ : ∃ b o, a = some ⟨b, o, none⟩ ∧ Is w b o n xs := by
              rcases H.out.2 with h' | h'
              · omega
              · exact h'
            subst hab
            have c0 := (hI.below hb (Nat.le_refl _)).c0 k hlt
            have hx := HD.out k hlt
            obtain ⟨x1, x2⟩ := hx
            have hw := waF_bd (f := gi xs) (dn := dn) b1 (t := k) (fun i hi => HD.out i (by omega))
            obtain ⟨w1', w2'⟩ := hw
            have HS := Lib.hid (wa_step (gi xs) dn k)
            generalize waF (gi xs) dn k = q at *
            clear hI
            by_cases hq : 0 < q + gi xs k - dn
            · have dq := decT hq
              have HN : Hid (waF (gi xs) dn (k + 1) = q + gi xs k - dn) := Lib.hid (by rw [HS.out]; omega)
              go_wp2_with (at_builtin; refine wpList_append_own _ rfl _ _ 23 rfl w.heap.size 3 i0 (.int .i64 0) 1 8 Try.underlying23 hi hz0 hz1 hz2 rfl (by decide) _ _ _ rfl (HO.out.alloc _) ⟨wr.heap.size, 0, none⟩ 1 1 [.int .i64 (q + gi xs k - dn)] rfl rfl (cell_one_new _ _ _) (by simp [Value.oneCell']) (by unfold maxLen; omega) (by omega) (by have := hb.size; simp; omega) ?_)
              intro v' w4 hown4 hg4 _
              have hb4 : Below w.heap.size w w4 := (hb.alloc hb.size _).grown hg4 (by have := hb.size; simp; omega) (fun q hq => (HO.out.lt q hq).1)
              have HO4 := Lib.hid hown4
              clear hown4 hg4
              go_wp2_with fail
              exact ⟨⟨k + 1, by omega, by go_num, by rw [HN.out], hb4, by have := HO4.out; rw [List.range_succ, List.map_append, List.map_append]; simpa [HN.out] using this⟩, by simp [intOf]; omega⟩
            · have dq := decF hq
              have HN : Hid (waF (gi xs) dn (k + 1) = 0) := Lib.hid (by rw [HS.out]; omega)
              go_wp2_with (at_builtin; refine wpList_append_own _ rfl _ _ 23 rfl w.heap.size 3 i0 (.int .i64 0) 1 8 Try.underlying23 hi hz0 hz1 hz2 rfl (by decide) _ _ _ rfl (HO.out.alloc _) ⟨wr.heap.size, 0, none⟩ 1 1 [.int .i64 0] rfl rfl (cell_one_new _ _ _) (by simp [Value.oneCell']) (by unfold maxLen; omega) (by omega) (by have := hb.size; simp; omega) ?_)
              intro v' w4 hown4 hg4 _
              have hb4 : Below w.heap.size w w4 := (hb.alloc hb.size _).grown hg4 (by have := hb.size; simp; omega) (fun q hq => (HO.out.lt q hq).1)
              have HO4 := Lib.hid hown4
              clear hown4 hg4
              go_wp2_with fail
              exact ⟨⟨k + 1, by omega, by go_num, by rw [HN.out], hb4, by have := HO4.out; rw [List.range_succ, List.map_append, List.map_append]; simpa [HN.out] using this⟩, by simp [intOf]; omega⟩
          · have hkn : k = n := by omega
            have hd : ¬ (k : Int) < n := by omega
            have HKN := Lib.hid hkn
            clear hkn hlt
            go_wp2_with fail
            go_ret2
            refine ⟨_, rfl, ?_, hb⟩
            have := ownsRow_is HO.out
            rw [HKN.out] at this
            exact this

set_option maxRecDepth 100000 in
set_option maxHeartbeats 3200000 in
theorem rBacklog_c (a : Option Addr) (n c : Nat) (xs : List Int) (dn : Int) (w : World) (h : IsO w a n xs) (hn : n ≤ 9223372036854775807) : Calls Try.prog 45 #[.slice a n c, .int .i64 dn] w (RetI2 w (bkL xs dn) (bkErr xs dn)) := by
  have HLn : Hid (n = xs.length) := Lib.hid h.1
  have H := Lib.hid h
  clear h
  by_cases h1 : 60 < n
  · have d1 := decT h1
    obtain ⟨e1, e2⟩ := bk_bad (dn := dn) (.inl (by rw [← HLn.out]; exact h1))
    rw [e1, e2]
    clear e1 e2
    go_enter Try.func45, Try.ntmps45
    go_wp2_with fail
    go_ret2
    exact ⟨_, rfl, IsV.nil _ _, Below.refl _ _⟩
  · have d1 := decF h1
    cases h2 : inB dn 0 60 with
    | false =>
      obtain ⟨e1, e2⟩ := bk_bad (xs := xs) (dn := dn) (.inr (.inl h2))
      rw [e1, e2]
      clear e1 e2
      go_enter Try.func45, Try.ntmps45
      go_wp2_with fail
      refine (within_c _ _ _ _).mono ?_
      rintro e w1 ⟨rfl, rfl⟩
      simp only [h2]
      go_wp2_with fail
      go_ret2
      exact ⟨_, rfl, IsV.nil _ _, Below.refl _ _⟩
    | true =>
      have hbk : ((scanJ (badU xs) n 0).isSome = true → bkErr xs dn = 1 ∧ bkL xs dn = []) ∧ ((scanJ (badU xs) n 0).isSome = false → bkErr xs dn = 0 ∧ bkL xs dn = (List.range n).map (fun t => waF (gi xs) dn (t + 1))) := by
        refine ⟨fun h3 => bk_bad (.inr (.inr (by rw [← HLn.out]; exact h3))), fun h3 => ?_⟩
        have := bk_ok (dn := dn) (by rw [← HLn.out]; exact h1) h2 (by rw [← HLn.out]; exact h3)
        rw [← HLn.out] at this
        exact this
      have HBK := Lib.hid hbk
      obtain ⟨b1, b2⟩ := inB_true.1 h2
      clear hbk
      generalize bkErr xs dn = er at *
      generalize bkL xs dn = ls at *
      obtain ⟨i0, hi, hz0, hz1, hz2⟩ := info_parts info3
      go_enter Try.func45, Try.ntmps45
      go_wp2_with fail
      refine (within_c _ _ _ _).mono ?_
      rintro e w1 ⟨rfl, rfl⟩
      simp only [h2]
      go_wp2_with fail
      go_loopw [6] (fun i wr => ∃ k : Nat, k ≤ n ∧ i = .int .i64 k ∧ Below w.heap.size w wr ∧ scanJ (badU xs) n 0 = scanJ (badU xs) (n - k) k) (fun i _ => n - (intOf i).toNat)
      case atStart => exact ⟨0, Nat.zero_le _, rfl, Below.refl _ _, rfl⟩
      case round =>
        obtain ⟨k, hk, rfl, hb1, hF⟩ := hrel
        have HF := Lib.hid hF
        clear hF
        by_cases hlt : k < n
        · obtain ⟨b, o, hab, hI⟩ : ∃ b o, a = some ⟨b, o, none⟩ ∧ Is w b o n xs := by
            rcases H.out.2 with h' | h'
            · omega
            · exact h'
          subst hab
          have c0 := (hI.below hb1 (Nat.le_refl _)).c0 k hlt
          have HLT := Lib.hid hlt
          have HP : Hid (badU xs k = !inB (gi xs k) 0 60) := Lib.hid rfl
          clear hI
          go_wp2_with fail
          refine (within_c _ _ _ _).mono ?_
          rintro e w1 ⟨rfl, rfl⟩
          cases hp : inB (gi xs k) 0 60
          · have HB : Hid (badU xs k = true) := Lib.hid (by rw [HP.out, hp]; rfl)
            clear hp
            go_wp2_with fail
            go_ret2
            have hbb := HBK.out.1 (by rw [HF.out, scan_yes HLT.out HB.out]; rfl)
            rw [hbb.1, hbb.2]
            exact ⟨_, rfl, IsV.nil _ _, hb1⟩
          · have HB : Hid (badU xs k = false) := Lib.hid (by rw [HP.out, hp]; rfl)
            clear hp
            go_wp2_with fail
            exact ⟨⟨k + 1, by omega, by go_num, hb1, by rw [HF.out, scan_no HLT.out HB.out]⟩, by simp [intOf]; omega⟩
        · have hd : ¬ (k : Int) < n := by omega
          have HK := Lib.hid hlt
          have HBN : Hid ((scanJ (badU xs) n 0).isSome = false) := Lib.hid (by rw [HF.out, scan_end HK.out]; rfl)
          have HD : Hid (∀ k, k < n → 0 ≤ gi xs k ∧ gi xs k ≤ 60) := Lib.hid (fun k hk => by
            have := scan_none.1 HBN.out k hk
            simp [badU] at this
            exact inB_true.1 this)
          have hbb := HBK.out.2 HBN.out
          obtain ⟨e1, e2⟩ := hbb
          have HE1 := Lib.hid e1
          have HE2 := Lib.hid e2
          clear hlt hk e1 e2 HF
          go_wp2_with fail
          go_loopw [7, 8] (fun v i w' => ∃ k : Nat, k ≤ n ∧ i = .int .i64 k ∧ Below w.heap.size w w' ∧ w'.ownsRow w.heap.size 3 1 v k (((List.range k).map (fun t => waF (gi xs) dn (t + 1))).map (Value.int .i64))) (fun _ i _ => n - (intOf i).toNat)
          case atStart => exact ⟨0, Nat.zero_le _, rfl, hb1, World.ownsRow_nil _ _ _ _⟩
          case round =>
            clear hb1
            obtain ⟨t, ht, rfl, hb, hown⟩ := hrel
            have HO := Lib.hid hown
            clear hown hd
            by_cases hlt : t < n
            · obtain ⟨b, o, hab, hI⟩ : ∃ b o, a = some ⟨b, o, none⟩ ∧ Is w b o n xs := by
                rcases H.out.2 with h' | h'
                · omega
                · exact h'
              subst hab
              have HI := Lib.hid hI
              clear hI
              go_wp2_with fail
              obtain ⟨wo, hwo⟩ : ∃ wo : World, wo = wr := ⟨_, rfl⟩
              rw [← hwo] at hb HO ⊢
              clear hwo
              go_loopw [9, 10, 11] (fun p q i w' => ∃ m : Nat, m ≤ t + 1 ∧ i = .int .i64 ((t : Int) - m) ∧ q = .int .i64 (bkS (gi xs) dn t m).1 ∧ p = .int .i64 (bkS (gi xs) dn t m).2 ∧ wo = w') (fun _ _ i _ => (intOf i + 1).toNat)
              case atStart => exact ⟨0, by omega, by simp, rfl, rfl, rfl⟩
              case round =>
                obtain ⟨m, hm, rfl, rfl, rfl, rfl⟩ := hrel
                by_cases hmt : m < t + 1
                · obtain ⟨q, hq⟩ : ∃ q : Nat, q = t - m := ⟨_, rfl⟩
                  have hqi : (t : Int) - m = q := by omega
                  have hqi2 : (q : Int) - 1 = (t : Int) - ((m + 1 : Nat) : Int) := by omega
                  have HQI := Lib.hid hqi2
                  have hqn : q < n := by omega
                  have c0 := (HI.out.below hb (Nat.le_refl _)).c0 q hqn
                  have hx := HD.out q hqn
                  obtain ⟨x1, x2⟩ := hx
                  have hS : bkS (gi xs) dn t (m + 1) = ((bkS (gi xs) dn t m).1 + (gi xs q - dn), max (bkS (gi xs) dn t m).2 ((bkS (gi xs) dn t m).1 + (gi xs q - dn))) := by rw [hq]; rfl
                  have hbd := bkS_bd (f := gi xs) (dn := dn) (t := t) ⟨b1, b2⟩ (fun i hi => HD.out i (by omega)) (m := m) (by omega)
                  obtain ⟨y1, y2, y3, y4⟩ := hbd
                  have HS := Lib.hid hS
                  rw [hqi]
                  have dq : decide (0 ≤ (q : Int)) = true := decT (by omega)
                  clear hqi2 hS hq
                  generalize hs1 : (bkS (gi xs) dn t m).1 = s1 at *
                  generalize hs2 : (bkS (gi xs) dn t m).2 = s2 at *
                  clear hs1 hs2
                  by_cases hc : s2 < s1 + (gi xs q - dn)
                  · have dc := decT hc
                    have HN : Hid (bkS (gi xs) dn t (m + 1) = (s1 + (gi xs q - dn), s1 + (gi xs q - dn))) := Lib.hid (by rw [HS.out]; exact Prod.ext rfl (by simp only; omega))
                    clear hqi
                    go_wp2_with fail
                    exact ⟨⟨m + 1, by omega, by rw [← HQI.out], by rw [HN.out], by rw [HN.out], trivial⟩, by simp only [intOf]; omega⟩
                  · have dc := decF hc
                    have HN : Hid (bkS (gi xs) dn t (m + 1) = (s1 + (gi xs q - dn), s2)) := Lib.hid (by rw [HS.out]; exact Prod.ext rfl (by simp only; omega))
                    clear hqi
                    go_wp2_with fail
                    exact ⟨⟨m + 1, by omega, by rw [← HQI.out], by rw [HN.out], by rw [HN.out], trivial⟩, by simp only [intOf]; omega⟩
                · have hmt' : m = t + 1 := by omega
                  have hneg : (t : Int) - m = -1 := by omega
                  have HWA : Hid ((bkS (gi xs) dn t m).2 = waF (gi xs) dn (t + 1)) := Lib.hid (by rw [hmt']; exact bkS_wa _ _ _)
                  rw [hneg, HWA.out]
                  clear hneg hmt hmt' hm
                  go_wp2_with (at_builtin; refine wpList_append_own _ rfl _ _ 23 rfl w.heap.size 3 i0 (.int .i64 0) 1 8 Try.underlying23 hi hz0 hz1 hz2 rfl (by decide) _ _ _ rfl (HO.out.alloc _) ⟨wo.heap.size, 0, none⟩ 1 1 [.int .i64 (waF (gi xs) dn (t + 1))] rfl rfl (cell_one_new _ _ _) (by simp [Value.oneCell']) (by unfold maxLen; omega) (by omega) (by have := hb.size; simp; omega) ?_)
                  intro v' w4 hown4 hg4 _
                  have hb4 : Below w.heap.size w w4 := (hb.alloc hb.size _).grown hg4 (by have := hb.size; simp; omega) (fun q hq => (HO.out.lt q hq).1)
                  have HO4 := Lib.hid hown4
                  clear hown4 hg4
                  go_wp2_with fail
                  exact ⟨⟨t + 1, by omega, by go_num, hb4, by have := HO4.out; rw [List.range_succ, List.map_append, List.map_append]; simpa using this⟩, by simp [intOf]; omega⟩
            · have hkn : t = n := by omega
              have hd : ¬ (t : Int) < n := by omega
              have HKN := Lib.hid hkn
              clear hkn hlt
              go_wp2_with fail
              go_ret2
              rw [HE1.out, HE2.out]
              refine ⟨_, rfl, ?_, hb⟩
              have := ownsRow_is HO.out
              rw [HKN.out] at this
              exact this

end Go.Proofs.Ytbmbogaejmgloaa
