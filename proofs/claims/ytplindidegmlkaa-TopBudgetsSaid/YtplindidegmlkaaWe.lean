/- With of budget and of its reference. -/
import Derived.Test.YtplindidegmlkaaG
namespace Go.Proofs.Ytplindidegmlkaa
open Go.RowKit Go.Sort

/-- A budget, a cost and an error number come back. -/
def RetWe (w : World) (L : List It) (cost : Int) (er : Int) (e : Ending) (w' : World) : Prop :=
  ∃ v, e = .returned (.tuple #[v, .int .i64 cost, .int .i64 er]) ∧ w'.ownsRow w.heap.size 31 3 v L.length (itCells L) ∧ Below w.heap.size w w'
def weErr (L : List It) (F : List Fx) (ch : List Int) : Int := if vfErr L F ≠ 0 then vfErr L F else chErr F ch
def weL (L : List It) (F : List Fx) (ch : List Int) : List It := if weErr L F ch = 0 then wiL L F ch else []
def weC (L : List It) (F : List Fx) (ch : List Int) : Int := if weErr L F ch = 0 then wcL F ch else 0
theorem we_bad {L : List It} {F : List Fx} {ch : List Int} (h : weErr L F ch ≠ 0) : weL L F ch = [] ∧ weC L F ch = 0 := ⟨if_neg h, if_neg h⟩
theorem we_good {L : List It} {F : List Fx} {ch : List Int} (h : weErr L F ch = 0) : weL L F ch = wiL L F ch ∧ weC L F ch = wcL F ch := ⟨if_pos h, if_pos h⟩
theorem we_v {L : List It} {F : List Fx} {ch : List Int} (h : vfErr L F ≠ 0) : weErr L F ch = vfErr L F ∧ weL L F ch = [] ∧ weC L F ch = 0 := by
  have e : weErr L F ch = vfErr L F := if_pos h
  exact ⟨e, we_bad (by rw [e]; exact h)⟩
theorem we_c {L : List It} {F : List Fx} {ch : List Int} (h : vfErr L F = 0) (hc : chErr F ch ≠ 0) : weErr L F ch = chErr F ch ∧ weL L F ch = [] ∧ weC L F ch = 0 := by
  have e : weErr L F ch = chErr F ch := if_neg (by simp [h])
  exact ⟨e, we_bad (by rw [e]; exact hc)⟩
theorem we_0 {L : List It} {F : List Fx} {ch : List Int} (h : vfErr L F = 0) (hc : chErr F ch = 0) : weErr L F ch = 0 ∧ weL L F ch = wiL L F ch ∧ weC L F ch = wcL F ch := by
  have e : weErr L F ch = 0 := by unfold weErr; rw [if_neg (by simp [h]), hc]
  exact ⟨e, we_good e⟩
theorem weErr_zero {L : List It} {F : List Fx} {ch : List Int} : weErr L F ch = 0 ↔ ValidF L F ∧ OkC F ch := by
  rw [← vfErr_zero, ← chErr_ok]
  by_cases h : vfErr L F = 0
  · by_cases hc : chErr F ch = 0
    · rw [(we_0 h hc).1]; simp [h, hc]
    · rw [(we_c h hc).1]; simp [h]
  · rw [(we_v h).1]; simp [h]
theorem ValidF.item {L : List It} {F : List Fx} (h : ValidF L F) : ∀ k, k < F.length → 0 ≤ (fx F k).i := fun k hk => (okF_true.1 (h.ok k hk)).1.1

set_option maxRecDepth 100000 in
set_option maxHeartbeats 3200000 in
theorem With_c (a : Option Addr) (n c : Nat) (L : List It) (fa : Option Addr) (m fc : Nat) (F : List Fx) (ca : Option Addr) (p cc : Nat) (ch : List Int) (w : World) (h : SlO w a n L) (hf : FlO w fa m F) (hc : IsO w ca p ch) (hm : m ≤ 9223372036854775807) (hp : p ≤ 1000) :
    Calls Try.prog 29 #[.slice a n c, .slice fa m fc, .slice ca p cc] w (RetWe w (weL L F ch) (weC L F ch) (weErr L F ch)) := by
  have HFn := Lib.hid hf.1
  by_cases h0 : vfErr L F = 0
  · have hne : (vfErr L F != 0) = false := by simp [h0]
    have HVF := Lib.hid (vfErr_zero.1 h0)
    cases hi : isC m ch
    · have e := ch_1 (F := F) (ch := ch) (by rw [← HFn.out]; exact hi)
      obtain ⟨e1, e2, e3⟩ := we_c (L := L) h0 (by rw [e]; decide)
      rw [e1, e2, e3, e]
      clear e e1 e2 e3 h0
      go_enter Try.func29, Try.ntmps29
      go_wp2_with fail
      refine (ValidateFixes_c _ _ _ _ _ _ _ _ _ h hf hm).mono ?_
      rintro e w1 ⟨rfl, hb1⟩
      go_wp2_with fail
      refine (isChoice_c _ _ _ _ _ _ ch _ (hc.below hb1 (Nat.le_refl _)) hm (by omega)).mono ?_
      rintro e w2 ⟨rfl, hb2⟩
      rw [hi]
      go_wp2_with fail
      go_ret3
      exact ⟨_, rfl, World.ownsRow_nil _ _ _ _, btr hb1 hb2⟩
    · have hi' : isC F.length ch = true := by rw [← HFn.out]; exact hi
      have HIR := Lib.hid ((isC_asc.1 hi').inR rfl)
      cases ht : twB F ch
      · have e := ch_0 hi' ht
        obtain ⟨e1, e2, e3⟩ := we_0 (L := L) h0 e
        obtain ⟨e4, e5⟩ := wt_ok (L := L) ht
        rw [e1, e2, e3]
        have E4 := Lib.hid e4
        have E5 := Lib.hid e5
        clear e e1 e2 e3 e4 e5 h0 hi'
        go_enter Try.func29, Try.ntmps29
        go_wp2_with fail
        refine (ValidateFixes_c _ _ _ _ _ _ _ _ _ h hf hm).mono ?_
        rintro e w1 ⟨rfl, hb1⟩
        go_wp2_with fail
        refine (isChoice_c _ _ _ _ _ _ ch _ (hc.below hb1 (Nat.le_refl _)) hm (by omega)).mono ?_
        rintro e w2 ⟨rfl, hb2⟩
        rw [hi]
        have B2 := btr hb1 hb2
        clear hb1 hb2 hi
        go_wp2_with fail
        refine (with_c a n c L fa m fc F ca p cc ch _ (h.below B2 (Nat.le_refl _)) (hf.below B2 (Nat.le_refl _)) (hc.below B2 (Nat.le_refl _)) HVF.out HIR.out hp).mono ?_
        rintro e w3 ⟨v, rfl, hown, hb3⟩
        rw [E4.out] at hown
        rw [E5.out, ht]
        have HO := Lib.hid (own_mono hown B2.size)
        have B3 := Lib.hid (btr B2 hb3)
        clear hown hb3 ht
        go_wp2_with fail
        go_ret3
        exact ⟨v, rfl, HO.out, B3.out⟩
      · have e := ch_6 hi' ht
        obtain ⟨e1, e2, e3⟩ := we_c (L := L) h0 (by rw [e]; decide)
        obtain ⟨e4, e5⟩ := wt_tw (L := L) ht
        rw [e1, e2, e3, e]
        have E4 := Lib.hid e4
        have E5 := Lib.hid e5
        clear e e1 e2 e3 e4 e5 h0 hi'
        go_enter Try.func29, Try.ntmps29
        go_wp2_with fail
        refine (ValidateFixes_c _ _ _ _ _ _ _ _ _ h hf hm).mono ?_
        rintro e w1 ⟨rfl, hb1⟩
        go_wp2_with fail
        refine (isChoice_c _ _ _ _ _ _ ch _ (hc.below hb1 (Nat.le_refl _)) hm (by omega)).mono ?_
        rintro e w2 ⟨rfl, hb2⟩
        rw [hi]
        have B2 := btr hb1 hb2
        clear hb1 hb2 hi
        go_wp2_with fail
        refine (with_c a n c L fa m fc F ca p cc ch _ (h.below B2 (Nat.le_refl _)) (hf.below B2 (Nat.le_refl _)) (hc.below B2 (Nat.le_refl _)) HVF.out HIR.out hp).mono ?_
        rintro e w3 ⟨v, rfl, hown, hb3⟩
        rw [E5.out, ht]
        have B3 := Lib.hid (btr B2 hb3)
        clear hown hb3 ht
        go_wp2_with fail
        go_ret3
        exact ⟨_, rfl, World.ownsRow_nil _ _ _ _, B3.out⟩
  · have hne : (vfErr L F != 0) = true := by simp [h0]
    obtain ⟨e1, e2, e3⟩ := we_v (L := L) (ch := ch) h0
    rw [e1, e2, e3]
    clear h0 e1 e2 e3
    go_enter Try.func29, Try.ntmps29
    go_wp2_with fail
    refine (ValidateFixes_c _ _ _ _ _ _ _ _ _ h hf hm).mono ?_
    rintro e w1 ⟨rfl, hb1⟩
    go_wp2_with fail
    go_ret3
    exact ⟨_, rfl, World.ownsRow_nil _ _ _ _, hb1⟩

set_option maxRecDepth 100000 in
set_option maxHeartbeats 3200000 in
theorem rWith_c (a : Option Addr) (n c : Nat) (L : List It) (fa : Option Addr) (m fc : Nat) (F : List Fx) (ca : Option Addr) (p cc : Nat) (ch : List Int) (w : World) (h : SlO w a n L) (hf : FlO w fa m F) (hc : IsO w ca p ch) (hm : m ≤ 9223372036854775807) (hp : p ≤ 1000) :
    Calls Try.prog 46 #[.slice a n c, .slice fa m fc, .slice ca p cc] w (RetWe w (weL L F ch) (weC L F ch) (weErr L F ch)) := by
  by_cases h0 : vfErr L F = 0
  · have hne : (vfErr L F != 0) = false := by simp [h0]
    have HVF := Lib.hid (vfErr_zero.1 h0)
    by_cases hch : chErr F ch = 0
    · have hcn : (chErr F ch != 0) = false := by simp [hch]
      obtain ⟨e1, e2, e3⟩ := we_0 (L := L) h0 hch
      rw [e1, e2, e3]
      have HIR := Lib.hid ((chErr_ok.1 hch).1.inR rfl)
      clear e1 e2 e3 h0 hch
      go_enter Try.func46, Try.ntmps46
      go_wp2_with fail
      refine (rValidateFixes_c _ _ _ _ _ _ _ _ _ h hf hm).mono ?_
      rintro e w1 ⟨rfl, hb1⟩
      go_wp2_with fail
      refine (chosen_c _ _ _ F _ _ _ ch _ (hf.below hb1 (Nat.le_refl _)) (hc.below hb1 (Nat.le_refl _)) hm (by omega) HVF.out.item).mono ?_
      rintro e w2 ⟨rfl, hb2⟩
      have B2 := btr hb1 hb2
      clear hb1 hb2
      go_wp2_with fail
      refine (rwith_c a n c L fa m fc F ca p cc ch _ (h.below B2 (Nat.le_refl _)) (hf.below B2 (Nat.le_refl _)) (hc.below B2 (Nat.le_refl _)) HVF.out HIR.out hp).mono ?_
      rintro e w3 ⟨v, rfl, hown, hb3⟩
      have HO := Lib.hid (own_mono hown B2.size)
      have B3 := Lib.hid (btr B2 hb3)
      clear hown hb3
      go_wp2_with fail
      go_ret3
      exact ⟨v, rfl, HO.out, B3.out⟩
    · have hcn : (chErr F ch != 0) = true := by simp [hch]
      obtain ⟨e1, e2, e3⟩ := we_c (L := L) h0 hch
      rw [e1, e2, e3]
      clear e1 e2 e3 h0 hch
      go_enter Try.func46, Try.ntmps46
      go_wp2_with fail
      refine (rValidateFixes_c _ _ _ _ _ _ _ _ _ h hf hm).mono ?_
      rintro e w1 ⟨rfl, hb1⟩
      go_wp2_with fail
      refine (chosen_c _ _ _ F _ _ _ ch _ (hf.below hb1 (Nat.le_refl _)) (hc.below hb1 (Nat.le_refl _)) hm (by omega) HVF.out.item).mono ?_
      rintro e w2 ⟨rfl, hb2⟩
      go_wp2_with fail
      go_ret3
      exact ⟨_, rfl, World.ownsRow_nil _ _ _ _, btr hb1 hb2⟩
  · have hne : (vfErr L F != 0) = true := by simp [h0]
    obtain ⟨e1, e2, e3⟩ := we_v (L := L) (ch := ch) h0
    rw [e1, e2, e3]
    clear h0 e1 e2 e3
    go_enter Try.func46, Try.ntmps46
    go_wp2_with fail
    refine (rValidateFixes_c _ _ _ _ _ _ _ _ _ h hf hm).mono ?_
    rintro e w1 ⟨rfl, hb1⟩
    go_wp2_with fail
    go_ret3
    exact ⟨_, rfl, World.ownsRow_nil _ _ _ _, hb1⟩
end Go.Proofs.Ytplindidegmlkaa
