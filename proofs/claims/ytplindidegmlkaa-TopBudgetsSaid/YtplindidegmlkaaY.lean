/- choices, cheapest, Cheapest, Choice of budget. -/
import Derived.Test.YtplindidegmlkaaX
import Derived.Laws.BitsLemmas
namespace Go.Proofs.Ytplindidegmlkaa
open Go.RowKit Go.Sort

/-- The closure that cheapest makes. -/
def fn99 (s : Nat) : Value := .func (.func 99) #[] #[.pointer (some ⟨s, 0, none⟩), .pointer (some ⟨s + 3, 0, none⟩), .pointer (some ⟨s + 2, 0, none⟩), .pointer (some ⟨s + 1, 0, none⟩)]

theorem info3' : (Try.prog.info? 3).map (fun i => (i.zero, i.size, i.bytes)) = some (some (.int .i64 0), 1, 8) := by kernel_rfl

theorem i64_and1 (n : Int) : bits .and .i64 n 1 = n % 2 := by
  have h1 : (BitVec.ofInt 64 1).toNat = 2 ^ 1 - 1 := by decide
  have key : (BitVec.ofInt 64 n &&& BitVec.ofInt 64 1).toNat = (n % ((2 ^ 64 : Nat) : Int)).toNat % 2 ^ 1 := by
    rw [BitVec.toNat_and, BitVec.toNat_ofInt, h1, Nat.and_two_pow_sub_one_eq_mod]
  show IntKind.i64.wrap ((BitVec.ofInt 64 n &&& BitVec.ofInt 64 1).toNat : Nat) = n % 2
  rw [key, IntKind.wrap_i64]
  omega
theorem bit_at (k j : Nat) : (bits .and .i64 ((k : Int) / 2 ^ j) 1 == 1) = k.testBit j := by
  rw [i64_and1, Nat.testBit_eq_decide_div_mod_eq]
  have e : ((k : Int) / 2 ^ j) % 2 = ((k / 2 ^ j % 2 : Nat) : Int) := by simp
  rw [e, Bool.eq_iff_iff]
  simp only [beq_iff_eq, decide_eq_true_eq]
  omega
theorem chM_yes {k j : Nat} (h : k.testBit j = true) : (chM k (j + 1)).length = (chM k j).length + 1 ∧ (chM k (j + 1)).map (Value.int .i64) = (chM k j).map (Value.int .i64) ++ [.int .i64 (j : Int)] := by
  rw [chM_succ, if_pos h]; simp
theorem chM_no {k j : Nat} (h : k.testBit j = false) : chM k (j + 1) = chM k j := by rw [chM_succ, if_neg (by simp [h]), List.append_nil]
theorem cells1_new (w : World) (x : Value) (t : TypeId) : ∀ j u, [x][j]? = some u → (w.alloc (.cells #[x] t)).cell? ((⟨w.heap.size, 0, none⟩ : Addr).add j) = some u := by
  intro j u hj
  match j, hj with
  | 0, hj => simp at hj; subst hj; simp [go_sem, Addr.add]
  | j + 1, hj => simp at hj

set_option maxRecDepth 100000 in
set_option maxHeartbeats 3200000 in
theorem choices99 (w0 W : World) (x y : Int) (a : Option Addr) (n c : Nat) (L : List It) (fa : Option Addr) (m fc : Nat) (F : List Fx) (h : SlO w0 a n L) (hf : FlO w0 fa m F) (hv : ValidF L F) (hlim : limB x y = true) (hI : ChI w0 W x y bst0) :
    Calls Try.prog 74 #[.slice a n c, .slice fa m fc, .func (.func 99) #[] #[.pointer (some ⟨w0.heap.size, 0, none⟩), .pointer (some ⟨w0.heap.size + 3, 0, none⟩), .pointer (some ⟨w0.heap.size + 2, 0, none⟩), .pointer (some ⟨w0.heap.size + 1, 0, none⟩)]] W (ChRet w0 x y (che L F x y)) := by
  have HV := Lib.hid hv
  have HLim := Lib.hid hlim
  have HFn := Lib.hid hf.1
  have HH := Lib.hid h
  have HF := Lib.hid hf
  have hm8 : m ≤ 8 := by have := hf.1; have := hv.le; omega
  have HI := Lib.hid hI
  clear h hf hv hlim hI
  obtain ⟨PW, hPW⟩ : ∃ PW : Nat, PW = 2 ^ m := ⟨_, rfl⟩
  have hP1 : PW ≤ 256 := by rw [hPW]; exact Nat.le_trans (Nat.pow_le_pow_right (by decide) hm8) (by decide)
  have hsh : wrap64 ((2 : Int) ^ m) = (PW : Int) := by
    have e : (2 : Int) ^ m = ((2 ^ m : Nat) : Int) := by simp
    rw [e, ← hPW]
    unfold wrap64
    omega
  have HPW := Lib.hid hPW
  have CZ : Hid (cheM L F x y 0 = bst0) := Lib.hid rfl
  obtain ⟨i3, hi3, hz30, hz31, hz32⟩ := info_parts info3
  clear hPW
  go_enter Try.func74, Try.ntmps74
  go_wp2_with fail
  rw [hsh]
  clear hsh
  go_loopw [15] (fun i wr => ∃ k : Nat, k ≤ PW ∧ i = .int .i64 k ∧ ChI w0 wr x y (cheM L F x y k)) (fun i _ => PW - (intOf i).toNat)
  case atStart => exact ⟨0, Nat.zero_le _, rfl, by rw [CZ.out]; exact HI.out⟩
  case round =>
    obtain ⟨k, hk, rfl, hI⟩ := hrel
    clear HI CZ
    have HI := Lib.hid hI
    clear hI
    by_cases hlt : k < PW
    · go_wp2_with fail
      generalize wr = wk at *
      go_loopw [7, 20] (fun v i wr => ∃ j : Nat, j ≤ m ∧ i = .int .i64 j ∧ Below wk.heap.size wk wr ∧ wr.ownsRow wk.heap.size 3 1 v (chM k j).length ((chM k j).map (Value.int .i64))) (fun _ i _ => m - (intOf i).toNat)
      case atStart => exact ⟨0, Nat.zero_le _, rfl, Below.refl _ _, World.ownsRow_nil _ _ _ _⟩
      case round =>
        obtain ⟨j, hj, rfl, hb, hown⟩ := hrel
        have HO := Lib.hid hown
        clear hown
        by_cases hlt2 : j < m
        · have HBT := Lib.hid (bit_at k j)
          have hcl : (chM k j).length ≤ j := (chM_asc k j).len
          cases ht : k.testBit j
          · have htb : (bits BinOp.and IntKind.i64 ((k : Int) / 2 ^ j) 1 == 1) = false := by rw [HBT.out, ht]
            have HCM := Lib.hid (chM_no ht)
            clear ht
            go_wp2_with fail
            exact ⟨⟨j + 1, by omega, by go_num, hb, by rw [HCM.out]; exact HO.out⟩, by simp [intOf]; omega⟩
          · have htb : (bits BinOp.and IntKind.i64 ((k : Int) / 2 ^ j) 1 == 1) = true := by rw [HBT.out, ht]
            have HCM := Lib.hid (chM_yes ht)
            clear ht
            go_wp2_with (at_builtin; refine wpList_append_own _ rfl _ _ 26 rfl wk.heap.size 3 i3 (.int .i64 0) 1 8 Try.underlying26 hi3 hz30 hz31 hz32 rfl (by decide) _ _ _ rfl (HO.out.alloc _) ⟨wr.heap.size, 0, none⟩ 1 1 [.int .i64 (j : Int)] rfl rfl (cells1_new _ _ _) (by intro u hu; simp at hu; subst hu; rfl) (by unfold maxLen; omega) (by omega) (by have := hb.size; simp; omega) ?_)
            intro v' w5 hown5 hg5 _
            have hb5 : Below wk.heap.size wk w5 := (hb.alloc hb.size _).grown hg5 (by have := hb.size; simp; omega) (fun q hq => (HO.out.lt q hq).1)
            have HO5 := Lib.hid hown5
            clear hown5 hg5 htb
            go_wp2_with fail
            exact ⟨⟨j + 1, by omega, by go_num, hb5, by rw [HCM.out.1, HCM.out.2]; exact HO5.out⟩, by simp [intOf]; omega⟩
        · have hd2 : ¬ (j : Int) < m := by omega
          have HJ : Hid (j = F.length) := Lib.hid (by have := HFn.out; omega)
          have HIV : Hid (IsV wr wk.heap.size u7 (chM k F.length)) := Lib.hid (by have h := HO.out; rw [HJ.out] at h; exact ownsRow_is h)
          have HIr := Lib.hid (HI.out.below hb)
          have hasc := chM_asc k F.length
          have HIR := Lib.hid (hasc.inR rfl)
          have hlen8 : (chM k F.length).length ≤ 8 := by have := hasc.len; have := HFn.out; omega
          have HS4 : Hid (w0.heap.size + 4 ≤ wk.heap.size) := Lib.hid (by have := HI.out.some.lt; omega)
          have TW1 := Lib.hid (cheM_tw (L := L) (F := F) (x := x) (y := y) (k := k))
          have TW2 := Lib.hid (cheM_step (L := L) (F := F) (x := x) (y := y) (k := k))
          have HWV : Hid (Valid (wiL L F (chM k F.length))) := Lib.hid (wiK_valid HV.out HIR.out (Nat.le_refl _))
          generalize hCH : chM k F.length = ch at *
          obtain ⟨a7, c7, rfl, i7, l7, m7, q7⟩ := HIV.out
          have I7 := Lib.hid i7
          have h7 : IsV wr wk.heap.size (.slice a7 ch.length c7) ch := ⟨a7, c7, rfl, i7, l7, m7, q7⟩
          have H7 := Lib.hid (h7.mono HS4.out)
          have WC := Lib.hid (with_c a n c L fa m fc F a7 ch.length c7 ch wr (HH.out.below HIr.out.bel (Nat.le_refl _)) (HF.out.below HIr.out.bel (Nat.le_refl _)) i7 HV.out HIR.out (by omega))
          clear HO i7 q7 hCH hasc hlt2 h7 HIV hb l7 m7
          cases htw : twB F ch
          · obtain ⟨r1, r2⟩ := wt_ok (L := L) htw
            have W2 := Lib.hid WC.out
            rw [r1, r2, htw] at W2
            have TS := Lib.hid (TW2.out htw)
            clear r1 r2 htw WC TW1 TW2
            go_wp2_with fail
            refine W2.out.mono ?_
            rintro e w1 ⟨v9, rfl, hown9, hb9⟩
            have HI9 := Lib.hid (HIr.out.below hb9)
            have H79 := Lib.hid (H7.out.below hb9)
            obtain ⟨a9, c9, rfl, i9, -, -, -⟩ := ownsRow_it hown9
            have I9 := Lib.hid i9
            clear hown9 i9 hb9
            go_wp2_with fail
            refine (clo99 w0 w1 x y _ L F ch a7 c7 a9 _ c9 HI9.out H79.out (by omega) I9.out HWV.out HLim.out).mono ?_
            rintro e w2 ⟨rfl, hI2⟩
            rw [← TS.out] at hI2
            have HI2 := Lib.hid hI2
            clear hI2
            go_wp2_with fail
            exact ⟨⟨k + 1, by omega, by go_num, HI2.out⟩, by simp [intOf]; omega⟩
          · obtain ⟨r1, r2⟩ := wt_tw (L := L) htw
            have W2 := Lib.hid WC.out
            rw [r1, r2, htw] at W2
            have TS := Lib.hid (TW1.out htw)
            clear r1 r2 htw WC TW1 TW2
            go_wp2_with fail
            refine W2.out.mono ?_
            rintro e w1 ⟨v9, rfl, hown9, hb9⟩
            have HI9 := Lib.hid (HIr.out.below hb9)
            clear hown9 hb9
            go_wp2_with fail
            exact ⟨⟨k + 1, by omega, by go_num, by rw [TS.out]; exact HI9.out⟩, by simp [intOf]; omega⟩
    · have hd : ¬ (k : Int) < PW := by omega
      have HK : Hid (k = 2 ^ F.length) := Lib.hid (by have := HPW.out; have := HFn.out; subst this; omega)
      clear hlt
      go_wp2_with fail
      refine bodyPost_ret (results_none rfl _ _ _) rfl ?_
      refine ⟨rfl, ?_⟩
      have h := HI.out
      rw [HK.out] at h
      exact h
end Go.Proofs.Ytplindidegmlkaa
