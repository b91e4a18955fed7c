/- Shares of budget and of its reference; SameRats. -/
import Derived.Test.YtplindidegmlkaaK
namespace Go.Proofs.Ytplindidegmlkaa
open Go.RowKit Go.Sort

theorem cells2_past (w : World) (o : Obj) (x y : Value) (t : TypeId) : ∀ j u, [x, y][j]? = some u → ((w.alloc o).alloc (.cells #[x, y] t)).cell? ((⟨w.heap.size + 1, 0, none⟩ : Addr).add j) = some u := by
  have h := cells2_new (w.alloc o) x y t
  simpa using h

/-- Fractions and an error number come back. -/
def RetPe (w : World) (xs : List (Int × Int)) (er : Int) (e : Ending) (w' : World) : Prop := ∃ v, e = .returned (.tuple #[v, .int .i64 er]) ∧ P2V w' w.heap.size v xs ∧ Below w.heap.size w w'
def shO (L : List It) : List (Int × Int) := if vErr L = 0 then shL L else []
theorem shO_ok {L : List It} (h : vErr L = 0) : shO L = shL L := if_pos h
theorem shO_bad {L : List It} (h : vErr L ≠ 0) : shO L = [] := if_neg h
theorem P2V.nil (w : World) (B : Nat) : P2V w B (.slice none 0 0) [] := ⟨none, 0, rfl, ⟨rfl, .inl rfl⟩, Nat.le_refl _, Nat.zero_le _, fun _ h => by cases h⟩
theorem P2V.below {w w' : World} {B : Nat} {v : Value} {xs : List (Int × Int)} (h : P2V w B v xs) (hb : Below w.heap.size w w') : P2V w' B v xs := by
  obtain ⟨a, c, h1, h2, h3⟩ := h
  exact ⟨a, c, h1, h2.below hb (Nat.le_refl _), h3⟩

set_option maxRecDepth 100000 in
set_option maxHeartbeats 1600000 in
theorem Shares_c (a : Option Addr) (n c : Nat) (L : List It) (w : World) (h : SlO w a n L) : Calls Try.prog 22 #[.slice a n c] w (RetPe w (shO L) (vErr L)) := by
  by_cases h0 : vErr L = 0
  · have hne : (vErr L != 0) = false := by simp [h0]
    have HE := Lib.hid h0
    have HV := Lib.hid (vErr_zero.1 h0)
    have HLn := Lib.hid h.1
    have hn6 : n ≤ 6 := by have := h.1; have := HV.out.le; omega
    rw [shO_ok h0]
    obtain ⟨i0, hi, hz0, hz1, hz2⟩ := info_parts info25
    clear h0
    go_enter Try.func22, Try.ntmps22
    go_wp2_with fail
    refine (Validate_c _ _ _ _ _ h).mono ?_
    rintro e w1 ⟨rfl, hb1⟩
    go_wp2_with fail
    refine (shares_c a n c L _ (h.below hb1 (Nat.le_refl _)) HV.out).mono ?_
    rintro e w2 ⟨v, rfl, hown, hb2⟩
    obtain ⟨a2, c2, hv2, hP, -, -, -⟩ := ownsRow_p2 hown
    rw [shL_length, ← HLn.out] at hv2 hP
    rw [hv2]
    have HP := Lib.hid hP
    have B2 := Lib.hid (btr hb1 hb2)
    clear hown hb1 hb2 hv2 hP h
    go_wp2_with fail
    generalize w2 = wk at *
    go_loopw [5, 16] (fun v i wr => ∃ k : Nat, k ≤ n ∧ i = .int .i64 k ∧ Below wk.heap.size wk wr ∧ wr.ownsRow wk.heap.size 25 2 v k (p2Cells ((List.range k).map (shF L)))) (fun _ i _ => n - (intOf i).toNat)
    case atStart => exact ⟨0, Nat.zero_le _, rfl, Below.refl _ _, World.ownsRow_nil _ _ _ _⟩
    case round =>
      obtain ⟨k, hk, rfl, hb, hown⟩ := hrel
      have HO := Lib.hid hown
      clear hown
      by_cases hlt : k < n
      · obtain ⟨b2, o2, rfl, hQ⟩ : ∃ b o, a2 = some ⟨b, o, none⟩ ∧ P2 wk b o n (shL L) := by
          rcases HP.out.2 with h' | h'
          · omega
          · exact h'
        have hQ' := hQ.below hb (Nat.le_refl _)
        have hkL : k < L.length := by have := HLn.out; omega
        have d0 := hQ'.c0 k hlt
        have d1 := hQ'.c1 k hlt
        rw [pr_shL hkL] at d0 d1
        have HS := Lib.hid (show shF L k = ((shF L k).1, (shF L k).2) from rfl)
        generalize (shF L k).1 = p at *
        generalize (shF L k).2 = q at *
        clear hQ hQ'
        go_wp2_with (at_builtin; refine wpList_append_own _ rfl _ _ 36 rfl wk.heap.size 25 i0 (.agg #[.int .i64 0, .int .i64 0]) 2 16 Try.underlying36 hi hz0 hz1 hz2 rfl (by decide) _ _ _ rfl ((HO.out.alloc _).alloc _) ⟨wr.heap.size + 1, 0, none⟩ 1 1 [.int .i64 p, .int .i64 q] rfl rfl (cells2_past _ _ _ _ _) (one2 _ _) (by unfold maxLen; omega) (by omega) (by have := hb.size; simp; omega) ?_)
        intro v' w5 hown5 hg5 _
        have hb5 : Below wk.heap.size wk w5 := ((hb.alloc hb.size _).alloc (by have := hb.size; simp; omega) _).grown hg5 (by have := hb.size; simp; omega) (fun q hq => (HO.out.lt q hq).1)
        have HO5 := Lib.hid hown5
        clear hown5 hg5
        go_wp2_with fail
        exact ⟨⟨k + 1, by omega, by go_num, hb5, by rw [List.range_succ, List.map_append, List.map_singleton, p2Cells_snoc, HS.out]; exact HO5.out⟩, by simp [intOf]; omega⟩
      · have HKN : Hid (k = n) := Lib.hid (by omega)
        have hd : ¬ (k : Int) < n := by omega
        clear hlt
        go_wp2_with fail
        rw [HE.out]
        go_ret2
        refine ⟨_, rfl, ?_, btr B2.out hb⟩
        have h1 := HO.out
        rw [HKN.out, HLn.out] at h1
        obtain ⟨a3, c3, e3, q1, q2, q3, q4⟩ := ownsRow_p2 h1
        exact ⟨a3, c3, e3, q1, q2, q3, fun x hx => Nat.le_trans B2.out.size (q4 x hx)⟩
  · have hne : (vErr L != 0) = true := by simp [h0]
    rw [shO_bad h0]
    clear h0
    go_enter Try.func22, Try.ntmps22
    go_wp2_with fail
    refine (Validate_c _ _ _ _ _ h).mono ?_
    rintro e w1 ⟨rfl, hb1⟩
    go_wp2_with fail
    go_ret2
    exact ⟨_, rfl, P2V.nil _ _, hb1⟩

set_option maxRecDepth 100000 in
set_option maxHeartbeats 3200000 in
theorem rShares_c (a : Option Addr) (n c : Nat) (L : List It) (w : World) (h : SlO w a n L) : Calls Try.prog 37 #[.slice a n c] w (RetPe w (shO L) (vErr L)) := by
  by_cases h0 : vErr L = 0
  · have hne : (vErr L != 0) = false := by simp [h0]
    have HE := Lib.hid h0
    have HV := Lib.hid (vErr_zero.1 h0)
    have HLn := Lib.hid h.1
    have hn6 : n ≤ 6 := by have := h.1; have := HV.out.le; omega
    rw [shO_ok h0]
    obtain ⟨i0, hi, hz0, hz1, hz2⟩ := info_parts info25
    clear h0
    go_enter Try.func37, Try.ntmps37
    go_wp2_with fail
    refine (rValidate_c _ _ _ _ _ h).mono ?_
    rintro e w1 ⟨rfl, hb1⟩
    have H := Lib.hid h
    clear h
    go_wp2_with fail
    go_loopw [5, 6] (fun v i wr => ∃ k : Nat, k ≤ n ∧ i = .int .i64 k ∧ Below w.heap.size w wr ∧ wr.ownsRow w.heap.size 25 2 v k (p2Cells ((List.range k).map (shF L)))) (fun _ i _ => n - (intOf i).toNat)
    case atStart => exact ⟨0, Nat.zero_le _, rfl, hb1, World.ownsRow_nil _ _ _ _⟩
    case round =>
      obtain ⟨k, hk, rfl, hb, hown⟩ := hrel
      have HO := Lib.hid hown
      clear hown hb1
      by_cases hlt : k < n
      · obtain ⟨b, o, hab, hS⟩ : ∃ b o, a = some ⟨b, o, none⟩ ∧ Sl w b o n L := by
          rcases H.out.2 with h' | h'
          · omega
          · exact h'
        subst hab
        have hS' := hS.below hb (Nat.le_refl _)
        have k0 := cell_regrown (hS'.c0 k hlt)
        have k1 := cell_regrown (hS'.c1 k hlt)
        have k2 := cell_regrown (hS'.c2 k hlt)
        obtain ⟨a1, a2, a3, a4, a5, a6⟩ := HV.out.bd (i := k) (by rw [← HLn.out]; exact hlt)
        obtain ⟨m1, m2⟩ := mul_bd (a := (at_ L k).u) (b := (at_ L k).n) (A := 8) (B := 10) (by omega) a2 a5 (by omega)
        have hs1 : IntKind.i64.wrap ((at_ L k).u * (at_ L k).n) = (at_ L k).u * (at_ L k).n := IntWalk.i64_in _ (by omega)
        have cF := fun d os => Calls.regrown_of (Ratio_c ((at_ L k).u * (at_ L k).n) (at_ L k).d (grow (redrawn wr d) os) m1 (by omega) (by omega) (by omega))
        have HS := Lib.hid (show shF L k = (redN ((at_ L k).u * (at_ L k).n) (at_ L k).d, redD ((at_ L k).u * (at_ L k).n) (at_ L k).d) from rfl)
        clear hS' hS
        go_wp2_with fail
        refine wp_region_T1 20 _ _ u5 rfl rfl rfl rfl (by kernel_rfl) (by kernel_rfl) (fun _ _ _ _ h => h) ?_
        simp only [List.take_succ_cons, List.take_zero, List.drop_succ_cons, List.drop_zero, Act.put, List.setIfInBounds_toArray, List.set_cons_zero, List.set_cons_succ, Nat.reduceSub]
        repeat (go_big_quiet_step (exact cF _ _))
        refine wpQuiet_nil ?_
        intro w4 hb4
        have B4 : Below w.heap.size w w4 := btr hb hb4
        have HO3 := Lib.hid (ownsRow_below HO.out hb4)
        clear k0 k1 k2 hs1 cF
        go_wp2_with (at_builtin; refine wpList_append_own _ rfl _ _ 36 rfl w.heap.size 25 i0 (.agg #[.int .i64 0, .int .i64 0]) 2 16 Try.underlying36 hi hz0 hz1 hz2 rfl (by decide) _ _ _ rfl (HO3.out.alloc _) ⟨w4.heap.size, 0, none⟩ 1 1 [.int .i64 (redN ((at_ L k).u * (at_ L k).n) (at_ L k).d), .int .i64 (redD ((at_ L k).u * (at_ L k).n) (at_ L k).d)] rfl rfl (cells2_new _ _ _ _) (one2 _ _) (by unfold maxLen; omega) (by omega) (by have := B4.size; simp; omega) ?_)
        intro v' w5 hown5 hg5 _
        have hb5 : Below w.heap.size w w5 := (B4.alloc B4.size _).grown hg5 (by have := B4.size; simp; omega) (fun q hq => (HO3.out.lt q hq).1)
        have HO5 := Lib.hid hown5
        clear hown5 hg5
        go_wp2_with fail
        exact ⟨⟨k + 1, by omega, by go_num, hb5, by rw [List.range_succ, List.map_append, List.map_singleton, p2Cells_snoc, HS.out]; exact HO5.out⟩, by simp [intOf]; omega⟩
      · have HKN : Hid (k = n) := Lib.hid (by omega)
        have hd : ¬ (k : Int) < n := by omega
        clear hlt
        go_wp2_with fail
        rw [HE.out]
        go_ret2
        refine ⟨_, rfl, ?_, hb⟩
        have h1 := HO.out
        rw [HKN.out, HLn.out] at h1
        exact ownsRow_p2 h1
  · have hne : (vErr L != 0) = true := by simp [h0]
    rw [shO_bad h0]
    clear h0
    go_enter Try.func37, Try.ntmps37
    go_wp2_with fail
    refine (rValidate_c _ _ _ _ _ h).mono ?_
    rintro e w1 ⟨rfl, hb1⟩
    go_wp2_with fail
    go_ret2
    exact ⟨_, rfl, P2V.nil _ _, hb1⟩

def neqP (A B : List (Int × Int)) (i : Nat) : Bool := !(decide ((pr A i).1 = (pr B i).1) && decide ((pr A i).2 = (pr B i).2))
/-- Of equal lists SameRats says so. -/
theorem SameRats_c (a : Option Addr) (n c : Nat) (a2 : Option Addr) (c2 : Nat) (A : List (Int × Int)) (w : World) (h : P2O w a n A) (h2 : P2O w a2 n A) (hn : n ≤ 1000000) :
    Calls Try.prog 40 #[.slice a n c, .slice a2 n c2] w fun e w' => e = .returned (.bool true) ∧ Below w.heap.size w w' := by
  have HA := Lib.hid h
  have HB := Lib.hid h2
  have self := fun x : Int => (show (x != x) = false by simp)
  clear h h2
  go_enter Try.func40, Try.ntmps40
  go_wp2_with fail
  go_loopw [5] (fun i wr => ∃ k : Nat, k ≤ n ∧ i = .int .i64 k ∧ Below w.heap.size w wr) (fun i _ => n - (intOf i).toNat)
  case atStart => exact ⟨0, Nat.zero_le _, rfl, Below.refl _ _⟩
  case round =>
    obtain ⟨k, hk, rfl, hb⟩ := hrel
    by_cases hlt : k < n
    · obtain ⟨b, o, rfl, hS⟩ : ∃ b o, a = some ⟨b, o, none⟩ ∧ P2 w b o n A := by
        rcases HA.out.2 with h' | h'
        · omega
        · exact h'
      obtain ⟨b2, o2, rfl, hS2⟩ : ∃ b o, a2 = some ⟨b, o, none⟩ ∧ P2 w b o n A := by
        rcases HB.out.2 with h' | h'
        · omega
        · exact h'
      have hS' := hS.below hb (Nat.le_refl _)
      have hS2' := hS2.below hb (Nat.le_refl _)
      have k0 := cell_regrown (hS'.c0 k hlt)
      have k1 := cell_regrown (hS'.c1 k hlt)
      have k2 := cell_regrown (hS2'.c0 k hlt)
      have k3 := cell_regrown (hS2'.c1 k hlt)
      generalize (pr A k).1 = p at *
      generalize (pr A k).2 = q at *
      clear hS hS2 hS' hS2'
      go_wp2_with fail
      refine wp_region_B (by kernel_rfl) (by kernel_rfl) ?_
      repeat (go_big_quiet_step (fail))
      refine wpQuiet_nil ?_
      intro w2 hb2
      go_wp2_with fail
      exact ⟨⟨k + 1, by omega, by go_num, btr hb hb2⟩, by simp [intOf]; omega⟩
    · have hd : ¬ (k : Int) < n := by omega
      clear hlt
      go_wp2_with fail
      go_ret
      exact ⟨rfl, hb⟩
end Go.Proofs.Ytplindidegmlkaa
