/- Join of budget and of its reference. -/
import Derived.Test.YtplindidegmlkaaW
import Derived.Lib.AppendZeros
import Derived.Maps.AppendAt
import Derived.Lib.EndianMore
import Derived.WalkSmall
namespace Go.Proofs.Ytplindidegmlkaa
open Go.RowKit Go.Sort

/-- A row of items of the call's own comes back. -/
def RetRow (w : World) (m : Nat) (L : List It) (e : Ending) (w' : World) : Prop :=
  ∃ v, e = .returned v ∧ w'.ownsRow w.heap.size 31 3 v m (itCells L) ∧ Below w.heap.size w w'

set_option maxRecDepth 100000 in
theorem Grow_c (m : Nat) (w : World) (hm : m ≤ 1000) : Calls Try.prog 101 #[.slice none 0 0, .int .i64 m] w (RetRow w 0 []) := by
  by_cases h0 : m = 0
  · subst h0
    go_enter Try.func101, Try.ntmps101
    go_wp2_with fail
    go_ret
    exact ⟨_, rfl, World.ownsRow_nil _ _ _ _, Below.refl _ _⟩
  · have d0 : decide (0 < m) = true := decT (by omega)
    have h1 : 0 < m := by omega
    obtain ⟨i0, hi, hz0, hz1, hz2⟩ := info_parts info31
    have happ := fun W => Lib.run_append_nil_zeros (P := Try.prog) W 22 3 22 31 i0 (.agg #[.int .i64 0, .int .i64 0, .int .i64 0]) .i64 .i64 Try.underlying22 Try.underlying3 hi hz0 m h1 (by rw [hz1]; decide) (by omega) (by rw [hz2]; omega)
    have hge := fun W => grownCap_ge W m 0 31
    have hle := fun W => grownCap_le_maxLen W m 0 31 (by unfold maxLen; omega)
    have hcs : (Value.cells (.agg #[.int .i64 0, .int .i64 0, .int .i64 0])).size = 3 := rfl
    have hsz : ∀ W, (Builtin.zeroCells (Value.cells (.agg #[.int .i64 0, .int .i64 0, .int .i64 0])) m ++ Builtin.zeroCells (Value.cells (.agg #[.int .i64 0, .int .i64 0, .int .i64 0])) (grownCap W m 0 31 - m)).size = grownCap W m 0 31 * 3 := fun W => by
      rw [Array.size_append, size_zeroCells, size_zeroCells, hcs]
      have := hge W
      omega
    have HAPP := Lib.hid happ
    have HSZ := Lib.hid hsz
    have HGE := Lib.hid hge
    have HLE := Lib.hid hle
    clear happ hge hle hcs hsz
    go_enter Try.func101, Try.ntmps101
    go_wp2_with (at_builtin; refine Lib.wpList_append_run _ rfl _ _ 22 3 rfl _ _ rfl rfl _ _ (HAPP.out _) ?_)
    go_ret
    exact ⟨_, rfl, (World.ownsRow_made w _ _ (Nat.le_refl _) (HLE.out w) (HSZ.out w)).drew, ((Below.refl _ _).alloc (Nat.le_refl _) _).drew⟩


def szC (n1 n2 k : Nat) : Nat := if k = 0 then 0 else if k = 1 then n1 else n1 + n2
def catC (A B : List It) (k : Nat) : List It := if k = 0 then [] else if k = 1 then A else A ++ B
theorem itCells_app (A B : List It) : itCells (A ++ B) = itCells A ++ itCells B := by simp [itCells]

set_option maxRecDepth 100000 in
set_option maxHeartbeats 3200000 in
theorem Concat_c (BB n1 c1 n2 c2 : Nat) (ad1 ad2 : Option Addr) (A B : List It) (w : World) (h1 : w.cell? ⟨BB, 0, none⟩ = some (.slice ad1 n1 c1)) (h2 : w.cell? ⟨BB, 1, none⟩ = some (.slice ad2 n2 c2))
    (hA : SlO w ad1 n1 A) (hB : SlO w ad2 n2 B) (hn : n1 + n2 ≤ 1000) :
    Calls Try.prog 92 #[.slice (some ⟨BB, 0, none⟩) 2 2] w (RetRow w (n1 + n2) (A ++ B)) := by
  have H1 := Lib.hid h1
  have H2 := Lib.hid h2
  have HA := Lib.hid hA
  have HB := Lib.hid hB
  clear h1 h2 hA hB
  go_enter Try.func92, Try.ntmps92
  go_wp2_with fail
  go_loopw [3, 11] (fun s i wr => ∃ k : Nat, k ≤ 2 ∧ i = .int .i64 k ∧ s = .int .i64 (szC n1 n2 k : Nat) ∧ w = wr) (fun _ i _ => 2 - (intOf i).toNat)
  case atStart => exact ⟨0, Nat.zero_le _, rfl, rfl, rfl⟩
  case round =>
    obtain ⟨k, hk, rfl, rfl, rfl⟩ := hrel
    by_cases hlt : k < 2
    · have hk' : k = 0 ∨ k = 1 := by omega
      rcases hk' with rfl | rfl
      · have q1 := H1.out
        simp only [szC]
        go_wp2_with fail
        exact ⟨⟨1, by omega, rfl, by simp, trivial⟩, by simp [intOf]⟩
      · have q2 := H2.out
        simp only [szC]
        go_wp2_with fail
        exact ⟨⟨2, by omega, rfl, by simp, trivial⟩, by simp [intOf]⟩
    · obtain rfl : k = 2 := by omega
      simp only [szC]
      go_wp2_with fail
      rw [← Int.natCast_add]
      refine (Grow_c _ _ (by omega)).mono ?_
      rintro e w1 ⟨v1, rfl, hv1, hb1⟩
      have HV1 := Lib.hid hv1
      clear hv1
      go_wp2_with fail
      go_loopw [6, 27] (fun v i wr => ∃ k : Nat, k ≤ 2 ∧ i = .int .i64 k ∧ Below w.heap.size w wr ∧ wr.ownsRow w.heap.size 31 3 v (szC n1 n2 k) (itCells (catC A B k))) (fun _ i _ => 2 - (intOf i).toNat)
      case atStart => exact ⟨0, Nat.zero_le _, rfl, hb1, HV1.out⟩
      case round =>
        obtain ⟨k, hk, rfl, hb, hown⟩ := hrel
        have HO := Lib.hid hown
        clear hown hb1 HV1
        by_cases hlt : k < 2
        · have hk' : k = 0 ∨ k = 1 := by omega
          rcases hk' with rfl | rfl
          · have q0 := cellB hb H1.out
            have hO : wr.ownsRow w.heap.size 31 3 u6 0 (itCells []) := by simpa [szC, catC] using HO.out
            have HO2 := Lib.hid hO
            clear hO
            go_wp2_with (at_builtin; refine wpList_append_its rfl _ _ rfl w.heap.size _ 0 (itCells []) rfl HO2.out ad1 n1 c1 A rfl (HA.out.below hb (Nat.le_refl _)) (by omega) hb.size ?_)
            intro v' w4 hown4 hg4
            have hb4 : Below w.heap.size w w4 := hb.grown hg4 hb.size (fun q hq => (HO2.out.lt q hq).1)
            have HO4 := Lib.hid hown4
            clear hown4 hg4
            go_wp2_with fail
            exact ⟨⟨1, by omega, rfl, hb4, by simpa [szC, catC, itCells] using HO4.out⟩, by simp [intOf]⟩
          · have q0 := cellB hb H2.out
            have hO : wr.ownsRow w.heap.size 31 3 u6 n1 (itCells A) := by simpa [szC, catC] using HO.out
            have HO2 := Lib.hid hO
            clear hO
            go_wp2_with (at_builtin; refine wpList_append_its rfl _ _ rfl w.heap.size _ n1 (itCells A) rfl HO2.out ad2 n2 c2 B rfl (HB.out.below hb (Nat.le_refl _)) (by omega) hb.size ?_)
            intro v' w4 hown4 hg4
            have hb4 : Below w.heap.size w w4 := hb.grown hg4 hb.size (fun q hq => (HO2.out.lt q hq).1)
            have HO4 := Lib.hid hown4
            clear hown4 hg4
            go_wp2_with fail
            exact ⟨⟨2, by omega, rfl, hb4, by simpa [szC, catC, itCells_app] using HO4.out⟩, by simp [intOf]⟩
        · obtain rfl : k = 2 := by omega
          have hd : ¬ ((2 : Nat) : Int) < 2 := by omega
          go_wp2_with fail
          go_ret
          exact ⟨_, rfl, HO.out, hb⟩

def joErr (L M : List It) : Int := if vErr L ≠ 0 then vErr L else if vErr M ≠ 0 then vErr M else if 6 < L.length + M.length then 3 else 0
def joL (L M : List It) : List It := if joErr L M = 0 then L ++ M else []
theorem jo_1 {L M : List It} (h : vErr L ≠ 0) : joErr L M = vErr L ∧ joL L M = [] := by
  have e : joErr L M = vErr L := if_pos h
  exact ⟨e, if_neg (by rw [e]; exact h)⟩
theorem jo_2 {L M : List It} (h : vErr L = 0) (h2 : vErr M ≠ 0) : joErr L M = vErr M ∧ joL L M = [] := by
  have e : joErr L M = vErr M := by unfold joErr; rw [if_neg (by simp [h]), if_pos h2]
  exact ⟨e, if_neg (by rw [e]; exact h2)⟩
theorem jo_3 {L M : List It} (h : vErr L = 0) (h2 : vErr M = 0) (h3 : 6 < L.length + M.length) : joErr L M = 3 ∧ joL L M = [] := by
  have e : joErr L M = 3 := by unfold joErr; rw [if_neg (by simp [h]), if_neg (by simp [h2]), if_pos h3]
  exact ⟨e, if_neg (by rw [e]; decide)⟩
theorem jo_0 {L M : List It} (h : vErr L = 0) (h2 : vErr M = 0) (h3 : ¬ 6 < L.length + M.length) : joErr L M = 0 ∧ joL L M = L ++ M := by
  have e : joErr L M = 0 := by unfold joErr; rw [if_neg (by simp [h]), if_neg (by simp [h2]), if_neg h3]
  exact ⟨e, if_pos e⟩
theorem joErr_zero {L M : List It} : joErr L M = 0 ↔ Valid L ∧ Valid M ∧ L.length + M.length ≤ 6 := by
  rw [← vErr_zero, ← vErr_zero]
  by_cases h : vErr L = 0
  · by_cases h2 : vErr M = 0
    · by_cases h3 : 6 < L.length + M.length
      · rw [(jo_3 h h2 h3).1]; simp; omega
      · rw [(jo_0 h h2 h3).1]; simp [h, h2]; omega
    · rw [(jo_2 h h2).1]; simp [h2]
  · rw [(jo_1 h).1]; simp [h]

set_option maxRecDepth 100000 in
set_option maxHeartbeats 3200000 in
theorem Join_c (a : Option Addr) (n c : Nat) (L : List It) (a2 : Option Addr) (n2 c2 : Nat) (M : List It) (w : World) (h : SlO w a n L) (h2 : SlO w a2 n2 M) : Calls Try.prog 56 #[.slice a n c, .slice a2 n2 c2] w (RetIt w (joL L M) (joErr L M)) := by
  have HLn := Lib.hid h.1
  have HMn := Lib.hid h2.1
  by_cases h0 : vErr L = 0
  · have hne : (vErr L != 0) = false := by simp [h0]
    have hle : n ≤ 6 := by have := (vErr_zero.1 h0).le; have := HLn.out; omega
    by_cases h1 : vErr M = 0
    · have hne2 : (vErr M != 0) = false := by simp [h1]
      have hle2 : n2 ≤ 6 := by have := (vErr_zero.1 h1).le; have := HMn.out; omega
      by_cases h6 : 6 < n + n2
      · obtain ⟨q1, q2⟩ := jo_3 h0 h1 (by have := HLn.out; have := HMn.out; omega)
        rw [q1, q2]
        have h6' : (6 : Int) < (n : Int) + (n2 : Int) := by omega
        clear q1 q2 h0 h1
        go_enter Try.func56, Try.ntmps56
        go_wp2_with fail
        refine (Validate_c _ _ _ _ _ h).mono ?_
        rintro e w1 ⟨rfl, hb1⟩
        go_wp2_with fail
        refine (Validate_c _ _ _ _ _ (h2.below hb1 (Nat.le_refl _))).mono ?_
        rintro e w2 ⟨rfl, hb2⟩
        have B2 := btr hb1 hb2
        clear hb1 hb2
        go_wp2_with fail
        go_ret2
        exact ⟨_, rfl, ItV.nil _ _, B2⟩
      · obtain ⟨q1, q2⟩ := jo_0 h0 h1 (by have := HLn.out; have := HMn.out; omega)
        rw [q1, q2]
        have h6' : ¬ (6 : Int) < (n : Int) + (n2 : Int) := by omega
        clear q1 q2 h0 h1
        go_enter Try.func56, Try.ntmps56
        go_wp2_with fail
        refine (Validate_c _ _ _ _ _ h).mono ?_
        rintro e w1 ⟨rfl, hb1⟩
        go_wp2_with fail
        refine (Validate_c _ _ _ _ _ (h2.below hb1 (Nat.le_refl _))).mono ?_
        rintro e w2 ⟨rfl, hb2⟩
        have B2 := btr hb1 hb2
        clear hb1 hb2
        have HX : Hid (Calls Try.prog 92 #[.slice (some ⟨w2.heap.size, 0, none⟩) 2 2] (w2.alloc (.cells #[.slice a n c, .slice a2 n2 c2] 22)) (RetRow (w2.alloc (.cells #[.slice a n c, .slice a2 n2 c2] 22)) (n + n2) (L ++ M))) := Lib.hid
          (Concat_c w2.heap.size n c n2 c2 a a2 L M _ (by simp [go_sem]) (by simp [go_sem]) ((h.below B2 (Nat.le_refl _)).below ((Below.refl _ _).alloc (Nat.le_refl _) _) (Nat.le_refl _)) ((h2.below B2 (Nat.le_refl _)).below ((Below.refl _ _).alloc (Nat.le_refl _) _) (Nat.le_refl _)) (by omega))
        go_wp2_with fail
        refine HX.out.mono ?_
        rintro e w3 ⟨v3, rfl, hown, hb3⟩
        have HR := Lib.hid (ownsRow_it hown)
        have BX := Lib.hid (btr B2 (btr ((Below.refl _ _).alloc (Nat.le_refl _) _) hb3))
        have hsz : w.heap.size ≤ (w2.alloc (.cells #[.slice a n c, .slice a2 n2 c2] 22)).heap.size := by have := B2.size; simp; omega
        clear hown hb3 HX
        go_wp2_with fail
        go_ret2
        obtain ⟨a9, c9, e9, i9, l9, m9, g9⟩ := HR.out
        exact ⟨_, rfl, ⟨a9, c9, e9, i9, l9, m9, fun x hx => Nat.le_trans hsz (g9 x hx)⟩, BX.out⟩
    · have hne2 : (vErr M != 0) = true := by simp [h1]
      obtain ⟨q1, q2⟩ := jo_2 h0 h1
      rw [q1, q2]
      clear q1 q2 h0 h1
      go_enter Try.func56, Try.ntmps56
      go_wp2_with fail
      refine (Validate_c _ _ _ _ _ h).mono ?_
      rintro e w1 ⟨rfl, hb1⟩
      go_wp2_with fail
      refine (Validate_c _ _ _ _ _ (h2.below hb1 (Nat.le_refl _))).mono ?_
      rintro e w2 ⟨rfl, hb2⟩
      have B2 := btr hb1 hb2
      clear hb1 hb2
      go_wp2_with fail
      go_ret2
      exact ⟨_, rfl, ItV.nil _ _, B2⟩
  · have hne : (vErr L != 0) = true := by simp [h0]
    obtain ⟨q1, q2⟩ := jo_1 (M := M) h0
    rw [q1, q2]
    clear q1 q2 h0
    go_enter Try.func56, Try.ntmps56
    go_wp2_with fail
    refine (Validate_c _ _ _ _ _ h).mono ?_
    rintro e w1 ⟨rfl, hb1⟩
    go_wp2_with fail
    go_ret2
    exact ⟨_, rfl, ItV.nil _ _, hb1⟩

set_option maxRecDepth 100000 in
set_option maxHeartbeats 3200000 in
theorem rJoin_c (a : Option Addr) (n c : Nat) (L : List It) (a2 : Option Addr) (n2 c2 : Nat) (M : List It) (w : World) (h : SlO w a n L) (h2 : SlO w a2 n2 M) : Calls Try.prog 57 #[.slice a n c, .slice a2 n2 c2] w (RetIt w (joL L M) (joErr L M)) := by
  have HLn := Lib.hid h.1
  have HMn := Lib.hid h2.1
  by_cases h0 : vErr L = 0
  · have hne : (vErr L != 0) = false := by simp [h0]
    have hle : n ≤ 6 := by have := (vErr_zero.1 h0).le; have := HLn.out; omega
    by_cases h1 : vErr M = 0
    · have hne2 : (vErr M != 0) = false := by simp [h1]
      have hle2 : n2 ≤ 6 := by have := (vErr_zero.1 h1).le; have := HMn.out; omega
      by_cases h6 : 6 < n + n2
      · obtain ⟨q1, q2⟩ := jo_3 h0 h1 (by have := HLn.out; have := HMn.out; omega)
        rw [q1, q2]
        have h6' : (6 : Int) < (n : Int) + (n2 : Int) := by omega
        clear q1 q2 h0 h1
        go_enter Try.func57, Try.ntmps57
        go_wp2_with fail
        refine (rValidate_c _ _ _ _ _ h).mono ?_
        rintro e w1 ⟨rfl, hb1⟩
        go_wp2_with fail
        refine (rValidate_c _ _ _ _ _ (h2.below hb1 (Nat.le_refl _))).mono ?_
        rintro e w2 ⟨rfl, hb2⟩
        have B2 := btr hb1 hb2
        clear hb1 hb2
        go_wp2_with fail
        go_ret2
        exact ⟨_, rfl, ItV.nil _ _, B2⟩
      · obtain ⟨q1, q2⟩ := jo_0 h0 h1 (by have := HLn.out; have := HMn.out; omega)
        rw [q1, q2]
        have h6' : ¬ (6 : Int) < (n : Int) + (n2 : Int) := by omega
        clear q1 q2 h0 h1
        go_enter Try.func57, Try.ntmps57
        go_wp2_with fail
        refine (rValidate_c _ _ _ _ _ h).mono ?_
        rintro e w1 ⟨rfl, hb1⟩
        go_wp2_with fail
        refine (rValidate_c _ _ _ _ _ (h2.below hb1 (Nat.le_refl _))).mono ?_
        rintro e w2 ⟨rfl, hb2⟩
        have B2 := btr hb1 hb2
        clear hb1 hb2
        go_wp2_with (at_builtin; refine wpList_append_its rfl (.tmp 23) (.tmp 24) rfl w2.heap.size _ 0 [] rfl (World.ownsRow_made _ #[] 0 (Nat.le_refl _) (Nat.zero_le _) rfl) a n c L rfl ((h.below B2 (Nat.le_refl _)).below ((Below.refl _ _).alloc (Nat.le_refl _) _) (Nat.le_refl _)) (by omega) (by simp) ?_)
        intro v7 wA hownA hgA
        have hbA : Below w2.heap.size w2 wA := ((Below.refl _ _).alloc (Nat.le_refl _) _).grown hgA (by simp) (fun q hq => by cases hq; exact Nat.le_refl _)
        have HOA : Hid (wA.ownsRow w2.heap.size 31 3 v7 n (itCells L)) := Lib.hid (by simpa using hownA)
        clear hownA hgA
        go_wp2_with (at_builtin; refine wpList_append_its rfl (.tmp 25) (.tmp 26) rfl w2.heap.size v7 n (itCells L) rfl HOA.out a2 n2 c2 M rfl ((h2.below B2 (Nat.le_refl _)).below hbA (Nat.le_refl _)) (by omega) hbA.size ?_)
        intro v8 wB hownB hgB
        have hbB : Below w2.heap.size w2 wB := hbA.grown hgB hbA.size (fun q hq => (HOA.out.lt q hq).1)
        have hOB : wB.ownsRow w2.heap.size 31 3 v8 (n + n2) (itCells (L ++ M)) := by rw [itCells_app]; exact hownB
        have HR := Lib.hid (ownsRow_it hOB)
        have BX := Lib.hid (btr B2 hbB)
        have hsz : w.heap.size ≤ w2.heap.size := B2.size
        clear hownB hgB hOB hbB hbA HOA
        go_wp2_with fail
        go_ret2
        obtain ⟨a9, c9, e9, i9, l9, m9, g9⟩ := HR.out
        exact ⟨_, rfl, ⟨a9, c9, e9, i9, l9, m9, fun x hx => Nat.le_trans hsz (g9 x hx)⟩, BX.out⟩
    · have hne2 : (vErr M != 0) = true := by simp [h1]
      obtain ⟨q1, q2⟩ := jo_2 h0 h1
      rw [q1, q2]
      clear q1 q2 h0 h1
      go_enter Try.func57, Try.ntmps57
      go_wp2_with fail
      refine (rValidate_c _ _ _ _ _ h).mono ?_
      rintro e w1 ⟨rfl, hb1⟩
      go_wp2_with fail
      refine (rValidate_c _ _ _ _ _ (h2.below hb1 (Nat.le_refl _))).mono ?_
      rintro e w2 ⟨rfl, hb2⟩
      have B2 := btr hb1 hb2
      clear hb1 hb2
      go_wp2_with fail
      go_ret2
      exact ⟨_, rfl, ItV.nil _ _, B2⟩
  · have hne : (vErr L != 0) = true := by simp [h0]
    obtain ⟨q1, q2⟩ := jo_1 (M := M) h0
    rw [q1, q2]
    clear q1 q2 h0
    go_enter Try.func57, Try.ntmps57
    go_wp2_with fail
    refine (rValidate_c _ _ _ _ _ h).mono ?_
    rintro e w1 ⟨rfl, hb1⟩
    go_wp2_with fail
    go_ret2
    exact ⟨_, rfl, ItV.nil _ _, hb1⟩

end Go.Proofs.Ytplindidegmlkaa
