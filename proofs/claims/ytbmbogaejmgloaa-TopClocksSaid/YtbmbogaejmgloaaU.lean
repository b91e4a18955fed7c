/- Rows that a call makes and writes; the table by urgency of the program. -/
import Derived.Test.YtbmbogaejmgloaaV
import Derived.Deep.OwnRows
import Derived.WalkSpells
namespace Go.Proofs.Ytbmbogaejmgloaa
open Go.RowKit Go.Sort

theorem rowIs_below {w w' : World} {b n : Nat} {t : TypeId} {f : Nat → Value} (h : w.rowIs b t n f) (hb : Below w.heap.size w w') : w'.rowIs b t n f :=
  h.of_block (hb.block b h.lt)

theorem rowIs_grown {w w' : World} {b n : Nat} {t : TypeId} {f : Nat → Value} {row : Option Nat} (h : w.rowIs b t n f) (hg : w.grownBy w' row) (hne : row ≠ some b) : w'.rowIs b t n f :=
  h.of_block (hg.block b h.lt (fun e => hne e.symm))

theorem grown_set (w : World) (a : Addr) (v : Value) : w.grownBy (w.setCell a v) (some a.block) :=
  ⟨rfl, rfl, rfl, by simp [World.setCell], fun i _ hne => Below.heap_setCell w a v i (fun h => hne (by rw [h]))⟩

theorem own_ne {w : World} {base : Nat} {e : TypeId} {size : Nat} {v : Value} {n : Nat} {xs : List Value} {b : Nat} (h : w.ownsRow base e size v n xs) (hb : b < base) : v.ownBlock ≠ some b :=
  fun hv => by have := (h.lt b hv).1; omega

theorem own_set {w : World} {base : Nat} {e : TypeId} {size : Nat} {v : Value} {n : Nat} {xs : List Value} (h : w.ownsRow base e size v n xs) {a : Addr} (hb : a.block < base) (u : Value) : (w.setCell a u).ownsRow base e size v n xs :=
  h.kept (grown_set w a u) (.inr (own_ne h hb))

theorem IsV.mono {w : World} {B B' : Nat} {v : Value} {xs : List Int} (h : IsV w B v xs) (hB : B' ≤ B) : IsV w B' v xs := by
  obtain ⟨a, c, h1, h2, h3, h4, h5⟩ := h
  exact ⟨a, c, h1, h2, h3, h4, fun x hx => Nat.le_trans hB (h5 x hx)⟩

theorem cell_far (w : World) (p a : Addr) (v : Value) (h : a.block ≠ p.block) : (w.setCell p v).cell? a = w.cell? a := World.cell?_of_block (w := w) (Below.heap_setCell w p v a.block h)

theorem row_isO {w : World} {b n : Nat} {t : TypeId} {f : Nat → Int} {xs : List Int} (h : w.rowIs b t n (fun j => .int .i64 (f j))) (hx : xs = (List.range n).map f) : IsO w (some ⟨b, 0, none⟩) n xs := by
  subst hx
  refine IsO.of ⟨by simp, h.lt, fun i hi => ?_⟩
  rw [Nat.zero_add, h.cell hi]
  simp [gi, hi]

theorem row_isV {w : World} {b n : Nat} {t : TypeId} {f : Nat → Int} {B : Nat} (h : w.rowIs b t n (fun j => .int .i64 (f j))) (hB : B ≤ b) (hm : n ≤ maxLen) : IsV w B (.slice (some ⟨b, 0, none⟩) n n) ((List.range n).map f) := by
  refine ⟨some ⟨b, 0, none⟩, n, ?_, ?_, ?_, hm, fun x hx => by cases hx; exact hB⟩
  · simp
  · have := row_isO h rfl
    simpa using this
  · simp

def seenF (L : List Jb) (k j : Nat) : Int := if j < k then nd L j else 0

theorem seen_step {L : List Jb} {k : Nat} (j : Nat) : (if j = k then Value.int .i64 (nd L k) else .int .i64 (seenF L k j)) = .int .i64 (seenF L (k + 1) j) := by
  unfold seenF
  by_cases h : j = k
  · subst h; simp
  · rw [if_neg h]
    by_cases h2 : j < k
    · rw [if_pos h2, if_pos (by omega)]
    · rw [if_neg h2, if_neg (by omega)]

theorem seen_all {L : List Jb} {j : Nat} (h : j < L.length) : seenF L L.length j = nd L j := if_pos h

theorem sum_step {L : List Jb} (k : Nat) : sumP allB (nd L) (k + 1) = sumP allB (nd L) k + (at_ L k).d := by
  rw [sumP, if_pos (show allB k = true from rfl)]; rfl

theorem sum_bd {L : List Jb} (hv : Valid L) {k : Nat} (hk : k ≤ L.length) : 0 ≤ sumP allB (nd L) k ∧ sumP allB (nd L) k ≤ 480 := by
  refine ⟨sumP_nonneg fun j hj _ => by have := nd_pos hv (k := j) (by omega); omega, ?_⟩
  have h1 := sumP_le (p := allB) (f := nd L) (B := 60) (by decide) (n := k) (fun j hj => (hv.bd (i := j) (by omega)).2.2.2.2)
  have := hv.le
  omega

theorem len_open {L : List Jb} (hv : Valid L) {t : Nat} (ht : t ≤ lenT (edf L) L) : 0 < openAt (edf L) L t ↔ t < lenT (edf L) L := by
  obtain ⟨h1, h2, h3⟩ := lenT_facts hv (edf_rule hv)
  constructor
  · intro h
    rcases Nat.lt_or_ge t (lenT (edf L) L) with h' | h'
    · exact h'
    · have e : t = lenT (edf L) L := by omega
      rw [e, h2] at h; omega
  · exact h3 t

theorem best_step {L : List Jb} {r : Nat → Int} {t k : Nat} : best L r t (k + 1) = if can L r t k && decide ((at_ L k).e < byO L (best L r t k)) then some k else best L r t k := rfl
theorem best_yes {L : List Jb} {r : Nat → Int} {t k : Nat} (h1 : (at_ L k).s ≤ t) (h2 : 0 < r k) (h3 : (at_ L k).e < byO L (best L r t k)) : best L r t (k + 1) = some k := by
  rw [best_step, if_pos (by simp [can, h1, h2, h3])]
theorem best_no {L : List Jb} {r : Nat → Int} {t k : Nat} (h : ¬ ((at_ L k).s ≤ t ∧ 0 < r k ∧ (at_ L k).e < byO L (best L r t k))) : best L r t (k + 1) = best L r t k := by
  rw [best_step, if_neg (by simp only [can, Bool.and_eq_true, decide_eq_true_iff]; rintro ⟨⟨h1, h2⟩, h3⟩; exact h ⟨h1, h2, h3⟩)]
def bestV (L : List Jb) (o : Option Nat) : Value := .iface 83 (.agg #[.int .i64 (oI o), .int .i64 (byO L o)])
theorem oI_bd {L : List Jb} {r : Nat → Int} {t : Nat} (hv : Valid L) {k : Nat} (hk : k ≤ L.length) : -1 ≤ oI (best L r t k) ∧ oI (best L r t k) < L.length := by
  cases h : best L r t k with
  | none => simp [oI]; omega
  | some j => have := ((best_is hv k hk).fit j h).2.1; simp [oI]; omega

set_option maxRecDepth 100000 in
set_option maxHeartbeats 3200000 in
theorem urgent_in (b o n c : Nat) (L : List Jb) (w : World) (hS : Sl w b o n L) (h1 : 1 ≤ n) (hv : Valid L) : Calls Try.prog 55 #[.slice (some ⟨b, o, none⟩) n c] w (RetI1 w (tbl (edf L) L)) := by
  obtain rfl := hS.len
  have h8 := hv.le
  have HV := Lib.hid hv
  have HS := Lib.hid hS
  have hr := edf_rule hv
  have HR := Lib.hid hr
  have HB : Hid (∀ t, openAt (edf L) L t = sumP allB (rest (edf L) L t) L.length) := fun _ => rfl
  obtain ⟨t1, t2, t3⟩ := lenT_facts hv hr
  have hmk := run_make_row' (P := Try.prog) 23 3 (.int .i64 0) 8 Try.underlying23 info3 rfl .i64 .i64 L.length (by omega) (by omega)
  clear hv hS hr t2 t3
  obtain ⟨i0, hi, hz0, hz1, hz2⟩ := info_parts info3
  go_enter Try.func55, Try.ntmps55
  go_wp2_with fail
  clear hmk
  have hrow := World.rowIs_made w (.int .i64 0) L.length 3
  have HX : Hid (Below w.heap.size w (w.alloc (.cells (madeCells #[.int .i64 0] L.length) 3))) := Lib.hid ((Below.refl _ _).alloc (Nat.le_refl _) _)
  have HRW : Hid ((w.alloc (.cells (madeCells #[.int .i64 0] L.length) 3)).rowIs w.heap.size 3 L.length (fun j => .int .i64 (seenF L 0 j))) := Lib.hid (hrow.congr fun i _ => by simp [seenF])
  clear hrow
  go_loopw [4, 17] (fun s i wr => ∃ k : Nat, k ≤ L.length ∧ i = .int .i64 k ∧ s = .int .i64 (sumP allB (nd L) k) ∧ Below w.heap.size w wr ∧ wr.rowIs w.heap.size 3 L.length (fun j => .int .i64 (seenF L k j))) (fun _ i _ => L.length - (intOf i).toNat)
  case atStart => exact ⟨0, Nat.zero_le _, rfl, rfl, HX.out, HRW.out⟩
  case round =>
    obtain ⟨k, hk, rfl, rfl, hb, hrw⟩ := hrel
    have HRW2 := Lib.hid hrw
    clear hrw HX HRW
    by_cases hlt : k < L.length
    · have hS' := HS.out.below hb (Nat.le_refl _)
      have c2 := hS'.c2 k hlt
      have cr := HRW2.out.cell hlt
      have cz := HRW2.out.frozen k
      have hbd := HV.out.bd hlt
      obtain ⟨a1, a2, a3, a4, a5⟩ := hbd
      have hne : b ≠ w.heap.size := Nat.ne_of_lt HS.out.lt
      have hsb := sum_bd HV.out (k := k) (by omega)
      obtain ⟨sb1, sb2⟩ := hsb
      have HSS := Lib.hid (sum_step (L := L) k)
      have HNE := Lib.hid hne
      have hc2' : (wr.setCell ⟨w.heap.size, k, none⟩ (.int .i64 (at_ L k).d)).cell? ⟨b, o + k * 3 + 2, none⟩ = some (.int .i64 (at_ L k).d) := by
        rw [cell_far _ _ _ _ HNE.out]; exact c2
      clear hS' hne
      go_wp2_with fail
      have hrw3 := HRW2.out.set k (.int .i64 (at_ L k).d)
      have HRW3 : Hid ((wr.setCell ⟨w.heap.size, k, none⟩ (.int .i64 (at_ L k).d)).rowIs w.heap.size 3 L.length (fun j => .int .i64 (seenF L (k + 1) j))) := Lib.hid (hrw3.congr fun i _ => seen_step i)
      exact ⟨⟨k + 1, by omega, by go_num, by rw [HSS.out], hb.setCell (Nat.le_refl _) _, HRW3.out⟩, by simp [intOf]; omega⟩
    · have hkn : k = L.length := by omega
      have hd : ¬ (k : Int) < L.length := by omega
      have HKN := Lib.hid hkn
      clear hkn hlt
      go_wp2_with fail
      rw [HKN.out]
      have HRW3 : Hid (wr.rowIs w.heap.size 3 L.length (fun j => .int .i64 (rest (edf L) L 0 j))) := Lib.hid (HRW2.out.congr fun i hi => by
        show Value.int .i64 (seenF L k i) = _
        rw [HKN.out, seen_all hi]; rfl)
      have HO0 : Hid (sumP allB (nd L) L.length = openAt (edf L) L 0) := rfl
      rw [HO0.out]
      clear HKN HRW2 HO0 hk hd
      obtain ⟨wo, hwo⟩ : ∃ wo : World, wo = wr := ⟨_, rfl⟩
      rw [← hwo] at hb HRW3 ⊢
      clear hwo wr
      go_loopw [4, 6, 7] (fun s v i wr => ∃ t : Nat, t ≤ lenT (edf L) L ∧ i = .int .i64 t ∧ s = .int .i64 (openAt (edf L) L t) ∧ Below w.heap.size w wr ∧ wr.rowIs w.heap.size 3 L.length (fun j => .int .i64 (rest (edf L) L t j)) ∧ wr.ownsRow (w.heap.size + 1) 3 1 v t (((List.range t).map (pickN (edf L) L)).map (Value.int .i64))) (fun _ _ i _ => lenT (edf L) L - (intOf i).toNat)
      case atStart => exact ⟨0, Nat.zero_le _, rfl, rfl, hb, HRW3.out, World.ownsRow_nil _ _ _ _⟩
      case round =>
        obtain ⟨t, ht, rfl, rfl, hb', hrw, hown⟩ := hrel
        have HRW := Lib.hid hrw
        have HO := Lib.hid hown
        clear hrw hown HRW3 hb
        obtain ⟨o1, o2⟩ := open_bd HV.out HR.out t
        by_cases hlt : t < lenT (edf L) L
        · have ho := (len_open HV.out ht).2 hlt
          have hod : decide (0 < openAt (edf L) L t) = true := decT ho
          go_wp2_with fail
          obtain ⟨wo, hwo⟩ : ∃ wo : World, wo = wr := ⟨_, rfl⟩
          rw [← hwo] at hb' HRW HO ⊢
          clear hwo wr
          go_loopw [8, 44] (fun v i wr => ∃ k : Nat, k ≤ L.length ∧ i = .int .i64 k ∧ v = bestV L (best L (rest (edf L) L t) t k) ∧ Below wo.heap.size wo wr) (fun _ i _ => L.length - (intOf i).toNat)
          case atStart => exact ⟨0, Nat.zero_le _, rfl, rfl, Below.refl _ _⟩
          case round =>
            obtain ⟨k, hk, rfl, rfl, hbi⟩ := hrel
            by_cases hlk : k < L.length
            · have BW : Below w.heap.size w wr := btr hb' hbi
              have hS' := HS.out.below BW (Nat.le_refl _)
              have c0 := hS'.c0 k hlk
              have c1 := hS'.c1 k hlk
              have cr := (rowIs_below HRW.out hbi).cell hlk
              have hbd := HV.out.bd hlk
              obtain ⟨a1, a2, a3, a4, a5⟩ := hbd
              have t60 : t ≤ 540 := by omega
              have hbl : b < wr.heap.size := hS'.lt
              have hwl : w.heap.size < wr.heap.size := (rowIs_below HRW.out hbi).lt
              clear hS'
              generalize hob : best L (rest (edf L) L t) t k = ob
              have HOB := Lib.hid hob
              clear hob
              unfold bestV
              by_cases h1 : (at_ L k).s ≤ t
              · have d1 := decT h1
                by_cases h2 : 0 < rest (edf L) L t k
                · have d2 := decT h2
                  go_wp2_with fail
                  refine (ahead_c _ _ _ _ _).mono ?_
                  rintro e w1 ⟨rfl, hb1⟩
                  have x0 := cellB hb1 (a := ⟨wr.heap.size, 0, none⟩) (v := .int .i64 k) (by simp [go_sem])
                  have x1 := cellB hb1 (a := ⟨wr.heap.size, 1, none⟩) (v := .int .i64 (at_ L k).e) (by simp [go_sem])
                  have B1 : Below wo.heap.size wo w1 := btr (hbi.alloc hbi.size _) hb1
                  clear hb1 c0 c1 cr
                  by_cases h3 : (at_ L k).e < byO L ob
                  · have d3 := decT h3
                    have HN : Hid (best L (rest (edf L) L t) t (k + 1) = some k) := Lib.hid (best_yes h1 h2 (by rw [HOB.out]; exact h3))
                    clear h1 h2 h3
                    go_wp2_with fail
                    exact ⟨⟨k + 1, by omega, by go_num, by rw [HN.out]; rfl, B1⟩, by simp [intOf]; omega⟩
                  · have d3 := decF h3
                    have HN : Hid (best L (rest (edf L) L t) t (k + 1) = ob) := Lib.hid ((best_no (by rw [HOB.out]; exact fun h => h3 h.2.2)).trans HOB.out)
                    clear h1 h2 h3
                    go_wp2_with fail
                    exact ⟨⟨k + 1, by omega, by go_num, by rw [HN.out], B1⟩, by simp [intOf]; omega⟩
                · have d2 := decF h2
                  have HN : Hid (best L (rest (edf L) L t) t (k + 1) = ob) := Lib.hid ((best_no (fun h => h2 h.2.1)).trans HOB.out)
                  clear h1 h2
                  go_wp2_with fail
                  exact ⟨⟨k + 1, by omega, by go_num, by rw [HN.out], hbi.alloc hbi.size _⟩, by simp [intOf]; omega⟩
              · have d1 := decF h1
                have HN : Hid (best L (rest (edf L) L t) t (k + 1) = ob) := Lib.hid ((best_no (fun h => h1 h.1)).trans HOB.out)
                clear h1 cr
                go_wp2_with fail
                exact ⟨⟨k + 1, by omega, by go_num, by rw [HN.out], hbi.alloc hbi.size _⟩, by simp [intOf]; omega⟩
            · have hkn : k = L.length := by omega
              have hd : ¬ (k : Int) < L.length := by omega
              have BW : Below w.heap.size w wr := btr hb' hbi
              have HKN := Lib.hid hkn
              have HLT := Lib.hid hlt
              have HO3 := Lib.hid (ownsRow_below HO.out hbi)
              have HRW3 := Lib.hid (rowIs_below HRW.out hbi)
              clear hkn hlk
              rw [HKN.out] at hd ⊢
              have hd2 : ¬ (L.length : Int) < L.length := by omega
              cases hp : best L (rest (edf L) L t) t L.length with
              | none =>
                have HPN : Hid (pickN (edf L) L t = -1) := Lib.hid (by show oI (edf L (rest (edf L) L t) t) = _; rw [show edf L (rest (edf L) L t) t = _ from hp]; rfl)
                have HOP : Hid (openAt (edf L) L (t + 1) = openAt (edf L) L t) := Lib.hid (open_none (pk := edf L) hp)
                have HRS : Hid (rest (edf L) L (t + 1) = rest (edf L) L t) := Lib.hid (by funext j; simp [rest, edf, hp])
                clear hp hod ho
                unfold bestV oI byO
                have hta : ∀ (x y : Int) (w : World), Sem.run Try.prog (Instr.typeAssert (.iface 83 (.agg #[.int .i64 x, .int .i64 y])) 81 83 false) w = .ok (.agg #[.int .i64 x, .int .i64 y]) w := fun _ _ _ => by kernel_rfl
                have hfd : ∀ (x y : Int) (w : World), Sem.run Try.prog (Instr.field 83 (.agg #[.int .i64 x, .int .i64 y]) 0) w = .ok (.int .i64 x) w := fun _ _ _ => by kernel_rfl
                go_wp2_with (at_builtin; refine wpList_append_own _ rfl _ _ 23 rfl (w.heap.size + 1) 3 i0 (.int .i64 0) 1 8 Try.underlying23 hi hz0 hz1 hz2 rfl (by decide) _ _ _ rfl (HO3.out.alloc _) ⟨wr.heap.size, 0, none⟩ 1 1 [.int .i64 (-1)] rfl rfl (cell_one_new _ _ _) (by simp [Value.oneCell']) (by unfold maxLen; omega) (by omega) (by have := HRW3.out.lt; simp; omega) ?_)
                intro v' w4 hown4 hg4 _
                have hb4 : Below w.heap.size w w4 := (BW.alloc BW.size _).grown hg4 (by have := BW.size; simp; omega) (fun q hq => by have := (HO3.out.lt q hq).1; omega)
                have HO4 := Lib.hid hown4
                have HRW4 := Lib.hid (rowIs_grown (HRW3.out.alloc _) hg4 (own_ne HO3.out (Nat.lt_succ_self _)))
                clear hown4 hg4
                go_wp2_with fail
                exact ⟨⟨t + 1, by have := HLT.out; omega, by go_num, by rw [HOP.out], hb4, by rw [HRS.out]; exact HRW4.out, by rw [List.range_succ, List.map_append, List.map_append]; simpa [HPN.out] using HO4.out⟩, by have := HLT.out; simp [intOf]; omega⟩
              | some j =>
                have hfit := HR.out.fit _ _ _ (show edf L (rest (edf L) L t) t = some j from hp)
                obtain ⟨f1, f2, f3⟩ := hfit
                have HPN : Hid (pickN (edf L) L t = (j : Int)) := Lib.hid (by show oI (edf L (rest (edf L) L t) t) = _; rw [show edf L (rest (edf L) L t) t = _ from hp]; rfl)
                have HOP : Hid (openAt (edf L) L (t + 1) = openAt (edf L) L t - 1) := Lib.hid (open_some (pk := edf L) HR.out hp)
                have HRS : Hid (∀ i, (if i = j then Value.int .i64 (rest (edf L) L t j - 1) else .int .i64 (rest (edf L) L t i)) = .int .i64 (rest (edf L) L (t + 1) i)) := Lib.hid (by
                  intro i
                  by_cases hij : i = j
                  · subst hij; simp [rest, edf, hp]
                  · have hji : ¬ j = i := fun h => hij h.symm
                    simp [rest, edf, hp, hij, hji])
                have hrb := rest_le HV.out HR.out t f1
                obtain ⟨r1, r2⟩ := hrb
                clear hp hod ho f3
                unfold bestV oI byO
                have hta : ∀ (x y : Int) (w : World), Sem.run Try.prog (Instr.typeAssert (.iface 83 (.agg #[.int .i64 x, .int .i64 y])) 81 83 false) w = .ok (.agg #[.int .i64 x, .int .i64 y]) w := fun _ _ _ => by kernel_rfl
                have hfd : ∀ (x y : Int) (w : World), Sem.run Try.prog (Instr.field 83 (.agg #[.int .i64 x, .int .i64 y]) 0) w = .ok (.int .i64 x) w := fun _ _ _ => by kernel_rfl
                go_wp2_with (at_builtin; refine wpList_append_own _ rfl _ _ 23 rfl (w.heap.size + 1) 3 i0 (.int .i64 0) 1 8 Try.underlying23 hi hz0 hz1 hz2 rfl (by decide) _ _ _ rfl (HO3.out.alloc _) ⟨wr.heap.size, 0, none⟩ 1 1 [.int .i64 (j : Int)] rfl rfl (cell_one_new _ _ _) (by simp [Value.oneCell']) (by unfold maxLen; omega) (by omega) (by have := HRW3.out.lt; simp; omega) ?_)
                intro v' w4 hown4 hg4 _
                have hb4 : Below w.heap.size w w4 := (BW.alloc BW.size _).grown hg4 (by have := BW.size; simp; omega) (fun q hq => by have := (HO3.out.lt q hq).1; omega)
                have HO4 := Lib.hid hown4
                have HRW4 := Lib.hid (rowIs_grown (HRW3.out.alloc _) hg4 (own_ne HO3.out (Nat.lt_succ_self _)))
                clear hown4 hg4
                have cr := HRW4.out.cell f1
                have cz := HRW4.out.frozen j
                go_wp2_with fail
                have hrw5 := HRW4.out.set j (.int .i64 (rest (edf L) L t j - 1))
                have HRW5 : Hid ((w4.setCell ⟨w.heap.size, j, none⟩ (.int .i64 (rest (edf L) L t j - 1))).rowIs w.heap.size 3 L.length (fun i => .int .i64 (rest (edf L) L (t + 1) i))) := Lib.hid (hrw5.congr fun i _ => HRS.out i)
                exact ⟨⟨t + 1, by have := HLT.out; omega, by go_num, by rw [HOP.out], hb4.setCell (Nat.le_refl _) _, HRW5.out, own_set (by rw [List.range_succ, List.map_append, List.map_append]; simpa [HPN.out] using HO4.out) (Nat.lt_succ_self _) _⟩, by have := HLT.out; simp [intOf]; omega⟩
        · have hte : t = lenT (edf L) L := by omega
          have hod : decide (0 < openAt (edf L) L t) = false := decF (fun h => hlt ((len_open HV.out ht).1 h))
          have HTE := Lib.hid hte
          clear hte hlt
          go_wp2_with fail
          go_ret
          refine ⟨_, rfl, ?_, hb'⟩
          have h1 := (ownsRow_is HO.out).mono (Nat.le_succ _)
          rw [HTE.out] at h1
          exact h1

theorem tbl_nil : tbl (edf []) [] = [] := by decide

theorem urgent_c (a : Option Addr) (n c : Nat) (L : List Jb) (w : World) (h : SlO w a n L) (hv : Valid L) : Calls Try.prog 55 #[.slice a n c] w (RetI1 w (tbl (edf L) L)) := by
  by_cases h0 : n = 0
  · subst h0
    have hL : L = [] := List.eq_nil_of_length_eq_zero h.1.symm
    subst hL
    rw [tbl_nil]
    have hmk : ∀ w : World, (Instr.makeSlice 23 (.int .i64 0) (.int .i64 0)).run Try.prog w = .ok (.slice (some ⟨w.heap.size, 0, none⟩) 0 0) (w.alloc (.cells #[] 3)) := fun _ => by kernel_rfl
    clear h hv
    go_enter Try.func55, Try.ntmps55
    go_wp2_with fail
    have HX : Hid (Below w.heap.size w (w.alloc (.cells #[] 3))) := Lib.hid ((Below.refl _ _).alloc (Nat.le_refl _) _)
    clear hmk
    go_loopw [4, 17] (fun s i wr => s = .int .i64 0 ∧ i = .int .i64 0 ∧ Below w.heap.size w wr) (fun _ _ _ => 0)
    case atStart => exact ⟨rfl, rfl, HX.out⟩
    case round =>
      obtain ⟨rfl, rfl, hb⟩ := hrel
      go_wp2_with fail
      go_loopw [4, 6, 7] (fun s v i wr' => s = .int .i64 0 ∧ v = .slice none 0 0 ∧ i = .int .i64 0 ∧ wr' = wr) (fun _ _ _ _ => 0)
      case atStart => exact ⟨rfl, rfl, rfl, rfl⟩
      case round =>
        obtain ⟨rfl, rfl, rfl, rfl⟩ := hrel
        go_wp2_with fail
        go_ret
        exact ⟨_, rfl, IsV.nil _ _, hb⟩
  · rcases h.2 with h' | ⟨b, o, rfl, hS⟩
    · exact absurd h' h0
    · exact urgent_in b o n c L w hS (by omega) hv
end Go.Proofs.Ytbmbogaejmgloaa
