/- What the program answers where the document gives the numbers. -/
import Derived.Test.YtbmbogaejmgloaaS2
import Derived.Test.YtbmbogaejmgloaaE2
namespace Go.Proofs.Ytbmbogaejmgloaa
open Go.RowKit Go.Sort

/-- A new block of three cells. -/
theorem cells3_new (w : World) (x y z : Value) (t : TypeId) : ∀ j u, [x, y, z][j]? = some u → (w.alloc (.cells #[x, y, z] t)).cell? ((⟨w.heap.size, 0, none⟩ : Addr).add j) = some u := by
  intro j u hj
  match j, hj with
  | 0, hj => simp at hj; subst hj; simp [go_sem, Addr.add]
  | 1, hj => simp at hj; subst hj; simp [go_sem, Addr.add]
  | 2, hj => simp at hj; subst hj; simp [go_sem, Addr.add]
  | j + 3, hj => simp at hj
theorem one3 (a b c : Int) : ∀ u ∈ [Value.int .i64 a, .int .i64 b, .int .i64 c], u.oneCell' = true := by simp [Value.oneCell']

theorem IsO.grown {w w' : World} {n : Nat} {a : Option Addr} {xs : List Int} {row : Option Nat} (h : IsO w a n xs) (hg : w.grownBy w' row) (hne : ∀ x : Addr, a = some x → row ≠ some x.block) : IsO w' a n xs := by
  obtain ⟨h1, h2⟩ := h
  refine ⟨h1, ?_⟩
  rcases h2 with h2 | ⟨b, o, h3, h4⟩
  · exact .inl h2
  · have e := hg.block b h4.lt (fun e => hne _ h3 e.symm)
    exact .inr ⟨b, o, h3, ⟨h4.len, Nat.lt_of_lt_of_le h4.lt hg.size, fun i hi => (World.cell?_of_block (w := w) (w' := w') (a := ⟨b, o + i, none⟩) e).trans (h4.c0 i hi)⟩⟩

def exA : List Jb := [⟨0, 2, 1⟩, ⟨0, 3, 2⟩]
def exB : List Jb := [⟨0, 2, 1⟩, ⟨0, 3, 2⟩, ⟨1, 2, 1⟩]

theorem exA_v : vErr exA = 0 := by decide +kernel
theorem exA_u : urR exA = [0, 1, 1] := by decide +kernel
theorem exA_s : slackJ exA = 0 ∧ someJ exA = true := by decide +kernel
theorem exB_v : vErr exB = 0 := by decide +kernel
theorem exB_l : laR exB = 1 := by decide +kernel
theorem exB_s : speedJ exB = (4, 3) := (speed_own (vErr_zero.1 exB_v)).symm.trans (by decide +kernel)

set_option maxRecDepth 100000 in
set_option maxHeartbeats 1600000 in
theorem known_c (w : World) : Calls Try.prog 17 #[] w fun e w' => e = .returned (.bool true) ∧ Below w.heap.size w w' := by
  have HO : Hid ((w.alloc (.cells #[.int .i64 0, .int .i64 2, .int .i64 1, .int .i64 0, .int .i64 3, .int .i64 2] 30)).ownsRow w.heap.size 30 3 (.slice (some ⟨w.heap.size, 0, none⟩) 2 2) 2 (jbCells exA)) := Lib.hid ⟨rfl, .inr ⟨w.heap.size, 2, _, rfl, Nat.le_refl _, Deep.blk_alloc_new _ _, Nat.le_refl _, by unfold maxLen; omega, by decide, rfl⟩⟩
  have HB : Hid (Below w.heap.size w (w.alloc (.cells #[.int .i64 0, .int .i64 2, .int .i64 1, .int .i64 0, .int .i64 3, .int .i64 2] 30))) := Lib.hid ((Below.refl _ _).alloc (Nat.le_refl _) _)
  have hJ := ownsRow_jb HO.out
  have HA : Hid (SlO (w.alloc (.cells #[.int .i64 0, .int .i64 2, .int .i64 1, .int .i64 0, .int .i64 3, .int .i64 2] 30)) (some ⟨w.heap.size, 0, none⟩) 2 exA) := by
    obtain ⟨a, c, e, h1, _⟩ := hJ
    simp at e
    obtain ⟨rfl, _⟩ := e
    exact Lib.hid h1
  clear hJ
  have H1 := Lib.hid exA_v
  have H2 := Lib.hid exA_u
  have H3 := Lib.hid exA_s
  have H4 := Lib.hid exB_v
  have H5 := Lib.hid exB_l
  have H6 := Lib.hid exB_s
  obtain ⟨i0, hi, hz0, hz1, hz2⟩ := info_parts info30
  go_enter Try.func17, Try.ntmps17
  go_wp2_with fail
  refine (Urgent_c _ _ _ exA _ HA.out).mono ?_
  rintro e w1 ⟨v1, rfl, hv1, hb1⟩
  rw [H1.out]
  rw [H2.out] at hv1
  obtain ⟨a1, c1, e1, i1, l1, m1, b1⟩ := hv1
  rw [e1]
  have I1 := Lib.hid i1
  have HBL : Hid (∀ x : Addr, a1 = some x → w.heap.size < x.block) := Lib.hid (fun x hx => by have := b1 x hx; simp at this; omega)
  clear e1 i1 b1
  go_wp2_with fail
  refine (Slack_c _ _ _ exA _ (HA.out.below hb1 (Nat.le_refl _))).mono ?_
  rintro e w2 ⟨rfl, hb2⟩
  rw [H1.out, H3.out.1, H3.out.2]
  have hbb := btr hb1 hb2
  have B2 := btr HB.out hbb
  have HO2 := Lib.hid (ownsRow_below HO.out hbb)
  have I2 := Lib.hid (I1.out.below hb2 (Nat.le_refl _))
  clear hb1 hb2 hbb HO HB HA
  go_wp2_with (at_builtin; refine wpList_append_own _ rfl _ _ 22 rfl w.heap.size 30 i0 (.agg #[.int .i64 0, .int .i64 0, .int .i64 0]) 3 24 Try.underlying22 hi hz0 hz1 hz2 rfl (by decide) _ _ _ rfl (HO2.out.alloc _) ⟨w2.heap.size, 0, none⟩ 1 1 [.int .i64 1, .int .i64 2, .int .i64 1] rfl rfl (cells3_new _ _ _ _ _) (one3 _ _ _) (by unfold maxLen; omega) (by omega) (by have := B2.size; simp; omega) ?_)
  intro v3 w3 hown3 hg3 _
  have B3 : Below w.heap.size w w3 := (B2.alloc B2.size _).grown hg3 (by have := B2.size; simp; omega) (fun q hq => (HO2.out.lt q hq).1)
  have hJ3 : JbV w3 w.heap.size v3 exB := ownsRow_jb (show w3.ownsRow w.heap.size 30 3 v3 3 (jbCells exB) from hown3)
  obtain ⟨a3, c3, e3, j3, l3, m3, -⟩ := hJ3
  rw [e3]
  have I3 := Lib.hid ((I2.out.below (B := w2.heap.size) ((Below.refl _ _).alloc (Nat.le_refl _) _) (Nat.le_refl _)).grown hg3 (fun x hx e => by have := HBL.out x hx; simp [Value.ownBlock] at e; omega))
  clear e3 hown3 hg3
  go_wp2_with fail
  refine (Speed_c _ _ _ exB _ j3).mono ?_
  rintro e w4 ⟨rfl, hb4⟩
  rw [H6.out, H4.out]
  have B4 := btr B3 hb4
  have J4 := j3.below hb4 (Nat.le_refl _)
  go_wp2_with fail
  refine (Late_c _ _ _ exB _ (J4.below ((Below.refl _ _).alloc (Nat.le_refl _) _) (Nat.le_refl _))).mono ?_
  rintro e w5 ⟨rfl, hb5⟩
  rw [H5.out, H4.out]
  have HXI : Hid (IsO (w5.alloc (.cells #[.int .i64 0, .int .i64 1, .int .i64 1] 3)) (some ⟨w5.heap.size, 0, none⟩) 3 [0, 1, 1]) := Lib.hid (IsO.of ⟨rfl, by simp, fun k hk => by
    have hk' : k = 0 ∨ k = 1 ∨ k = 2 := by omega
    rcases hk' with rfl | rfl | rfl <;> simp [go_sem, gi]⟩)
  have hba : Below w4.heap.size w4 (w4.alloc (.cells #[.int .i64 4, .int .i64 3] 44)) := (Below.refl _ _).alloc (Nat.le_refl _) _
  have D5 : Cell2 w5 w4.heap.size 4 3 := Cell2.below (w := w4.alloc (.cells #[.int .i64 4, .int .i64 3] 44)) ⟨by simp [go_sem], by simp [go_sem], by simp [go_sem], by simp [go_sem]⟩ hb5
  have b35 := btr (btr hb4 hba) hb5
  have B5 := btr B3 b35
  have I5 := I3.out.below b35 (Nat.le_refl _)
  have hbc : Below w5.heap.size w5 (w5.alloc (.cells #[.int .i64 0, .int .i64 1, .int .i64 1] 3)) := (Below.refl _ _).alloc (Nat.le_refl _) _
  have I6 := Lib.hid (I5.below hbc (Nat.le_refl _))
  have D6 := Lib.hid (D5.below hbc)
  have B6 := Lib.hid (btr B5 hbc)
  clear b35 hba hb4 hb5 B4 J4 B5 I5 D5 hbc
  go_wp2_with fail
  refine (SameInts_c _ _ _ _ _ _ _ _ _ I6.out HXI.out (by simp)).mono ?_
  rintro e w6 ⟨rfl, hb6⟩
  rw [sameI_self]
  have D7 := D6.out.below hb6
  have d0 := D7.c0
  have d1 := D7.c1
  clear D7
  go_wp2_with fail
  go_ret
  exact ⟨rfl, btr B6.out hb6⟩

end Go.Proofs.Ytbmbogaejmgloaa
