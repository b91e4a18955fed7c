/- ClockOrders: the walk. -/
import Derived.Test.YtbmbogaejmgloaaMath5
import Derived.Test.YtbmbogaejmgloaaH
namespace Go.Proofs.Ytbmbogaejmgloaa
open Go.RowKit Go.Sort

set_option maxRecDepth 100000 in
set_option maxHeartbeats 3200000 in
theorem orders_in (b o n c : Nat) (L : List Jb) (a2 : Option Addr) (n2 c2 : Nat) (xs : List Int) (w : World) (hS : Sl w b o n L) (h1 : 1 ≤ n) (h2 : IsO w a2 n2 xs) (hv : Valid L) (h100 : n2 ≤ 100) :
    Calls Try.prog 3 #[.slice (some ⟨b, o, none⟩) n c, .slice a2 n2 c2] w fun e w' => e = .returned (.bool true) ∧ Below w.heap.size w w' := by
  obtain rfl := hS.len
  obtain rfl := h2.1
  have h8 := hv.le
  have hlong : longB L.length = false := decF (by omega)
  have hvz : vErr L = 0 := vErr_zero.2 hv
  have hlar : laR L = lateJ L := if_pos hvz
  have HV := Lib.hid hv
  have HS := Lib.hid hS
  have HI := Lib.hid h2
  have hr := ord_rule L xs
  have HR := Lib.hid hr
  have HB : Hid (∀ t, openAt (ordP L xs) L t = sumP allB (rest (ordP L xs) L t) L.length) := fun _ => rfl
  obtain ⟨t1, t2, t3⟩ := lenT_facts hv hr
  have hn0 : ((L.length : Int) == 0) = false := by rw [beq_eq_false_iff_ne]; omega
  have HML : Hid (lateJ L ≤ (moO (ordP L xs) L (lenT (ordP L xs) L)).1) := Lib.hid (mo_late hv hr (by omega))
  have HT2 := Lib.hid t2
  have hmk := run_make_row' (P := Try.prog) 23 3 (.int .i64 0) 8 Try.underlying23 info3 rfl .i64 .i64 L.length (by omega) (by omega)
  have HLar := Lib.hid hlar
  have HVz := Lib.hid hvz
  clear hv hS hr t2 t3 h2 hlar hvz
  obtain ⟨i0, hi, hz0, hz1, hz2⟩ := info_parts info3
  go_enter Try.func3, Try.ntmps3
  go_wp2_with fail
  refine (Long_c _ _ _ _).mono ?_
  rintro e wl ⟨rfl, hb1⟩
  simp only [hlong]
  go_wp2_with fail
  refine (Late_c _ _ _ _ _ (SlO.of (HS.out.below hb1 (Nat.le_refl _)))).mono ?_
  rintro e wb ⟨rfl, hb2⟩
  have BB : Hid (Below w.heap.size w wb) := Lib.hid (btr hb1 hb2)
  have HSb := Lib.hid (HS.out.below BB.out (Nat.le_refl _))
  have HIb := Lib.hid (HI.out.below BB.out (Nat.le_refl _))
  clear hb1 hb2 HS HI
  rw [HLar.out, HVz.out]
  clear HLar HVz
  generalize lateJ L = lj at *
  go_wp2_with fail
  clear hmk
  have hrow := World.rowIs_made wb (.int .i64 0) L.length 3
  have HX : Hid (Below wb.heap.size wb (wb.alloc (.cells (madeCells #[.int .i64 0] L.length) 3))) := Lib.hid ((Below.refl _ _).alloc (Nat.le_refl _) _)
  have HRW : Hid ((wb.alloc (.cells (madeCells #[.int .i64 0] L.length) 3)).rowIs wb.heap.size 3 L.length (fun j => .int .i64 (seenF L 0 j))) := Lib.hid (hrow.congr fun i _ => by simp [seenF])
  clear hrow
  go_loopw [8, 9] (fun s i wr => ∃ k : Nat, k ≤ L.length ∧ i = .int .i64 k ∧ s = .int .i64 (sumP allB (nd L) k) ∧ Below wb.heap.size wb wr ∧ wr.rowIs wb.heap.size 3 L.length (fun j => .int .i64 (seenF L k j))) (fun _ i _ => L.length - (intOf i).toNat)
  case atStart => exact ⟨0, Nat.zero_le _, rfl, rfl, HX.out, HRW.out⟩
  case round =>
    obtain ⟨k, hk, rfl, rfl, hb, hrw⟩ := hrel
    have HRW2 := Lib.hid hrw
    clear hrw HX HRW
    by_cases hlt : k < L.length
    · have hS' := HSb.out.below hb (Nat.le_refl _)
      have c2 := hS'.c2 k hlt
      have cr := HRW2.out.cell hlt
      have cz := HRW2.out.frozen k
      have hbd := HV.out.bd hlt
      obtain ⟨a1, a2, a3, a4, a5⟩ := hbd
      have hne : b ≠ wb.heap.size := Nat.ne_of_lt HSb.out.lt
      have hsb := sum_bd HV.out (k := k) (by omega)
      obtain ⟨sb1, sb2⟩ := hsb
      have HSS := Lib.hid (sum_step (L := L) k)
      have HNE := Lib.hid hne
      have hc2' : (wr.setCell ⟨wb.heap.size, k, none⟩ (.int .i64 (at_ L k).d)).cell? ⟨b, o + k * 3 + 2, none⟩ = some (.int .i64 (at_ L k).d) := by
        rw [cell_far _ _ _ _ HNE.out]; exact c2
      clear hS' hne
      go_wp2_with fail
      have hrw3 := HRW2.out.set k (.int .i64 (at_ L k).d)
      have HRW3 : Hid ((wr.setCell ⟨wb.heap.size, k, none⟩ (.int .i64 (at_ L k).d)).rowIs wb.heap.size 3 L.length (fun j => .int .i64 (seenF L (k + 1) j))) := Lib.hid (hrw3.congr fun i _ => seen_step i)
      exact ⟨⟨k + 1, by omega, by go_num, by rw [HSS.out], hb.setCell (Nat.le_refl _) _, HRW3.out⟩, by simp [intOf]; omega⟩
    · have hkn : k = L.length := by omega
      have hd : ¬ (k : Int) < L.length := by omega
      have hsb := sum_bd HV.out (k := k) (by omega)
      obtain ⟨sb1, sb2⟩ := hsb
      have HKN := Lib.hid hkn
      clear hkn hlt
      go_wp2_with fail
      have hq := HKN.out
      rw [hq]
      have HRW3 : Hid (wr.rowIs wb.heap.size 3 L.length (fun j => .int .i64 (rest (ordP L xs) L 0 j))) := Lib.hid (HRW2.out.congr fun i hi => by
        show Value.int .i64 (seenF L k i) = _
        rw [HKN.out, seen_all hi]; rfl)
      have HO0 : Hid (sumP allB (nd L) L.length = openAt (ordP L xs) L 0) := rfl
      rw [HO0.out]
      clear HKN HRW2 HO0 hk hd sb1 sb2 hq
      obtain ⟨wo, hwo⟩ : ∃ wo : World, wo = wr := ⟨_, rfl⟩
      rw [← hwo] at hb HRW3 ⊢
      clear hwo wr
      go_loopw [8, 10, 11, 12] (fun s m f i wr => ∃ t : Nat, t ≤ lenT (ordP L xs) L ∧ i = .int .i64 t ∧ s = .int .i64 (openAt (ordP L xs) L t) ∧ m = .int .i64 (moO (ordP L xs) L t).1 ∧ f = .bool (moO (ordP L xs) L t).2 ∧ Below wb.heap.size wb wr ∧ wr.rowIs wb.heap.size 3 L.length (fun j => .int .i64 (rest (ordP L xs) L t j))) (fun _ _ _ i _ => lenT (ordP L xs) L - (intOf i).toNat)
      case atStart => exact ⟨0, Nat.zero_le _, rfl, rfl, rfl, rfl, hb, HRW3.out⟩
      case round =>
        obtain ⟨t, ht, rfl, rfl, rfl, rfl, hb', hrw⟩ := hrel
        have HRW := Lib.hid hrw
        clear hrw HRW3 hb
        obtain ⟨o1, o2⟩ := open_bd HV.out HR.out t
        by_cases hlt : t < lenT (ordP L xs) L
        · have ho := (len_openR HV.out HR.out ht).2 hlt
          have hod : decide (0 < openAt (ordP L xs) L t) = true := decT ho
          go_wp2_with fail
          obtain ⟨wo, hwo⟩ : ∃ wo : World, wo = wr := ⟨_, rfl⟩
          rw [← hwo] at hb' HRW ⊢
          clear hwo wr
          go_loopw [13, 14] (fun v i wr => ∃ k : Nat, k ≤ xs.length + L.length ∧ i = .int .i64 k ∧ v = .int .i64 (oI (pkO L xs (rest (ordP L xs) L t) t k)) ∧ wo = wr) (fun _ i _ => xs.length + L.length - (intOf i).toNat)
          case atStart => exact ⟨0, Nat.zero_le _, rfl, rfl, rfl⟩
          case round =>
            obtain ⟨k, hk, rfl, rfl, rfl⟩ := hrel
            by_cases hlk : k < xs.length + L.length
            · have hlk' : (k : Int) < (xs.length : Int) + L.length := by omega
              by_cases hf : k < xs.length
              · have KK := Lib.hid (show kO xs k = gi xs k from if_pos hf)
                obtain ⟨b2, o2, rfl, hIs⟩ : ∃ b2 o2, a2 = some ⟨b2, o2, none⟩ ∧ Is wb b2 o2 xs.length xs := by
                  rcases HIb.out.2 with h' | h'
                  · omega
                  · exact h'
                have cf := (hIs.below hb' (Nat.le_refl _)).c0 k hf
                clear hIs
                cases hob : pkO L xs (rest (ordP L xs) L t) t (k) with
                | some j =>
                  have HN : Hid (pkO L xs (rest (ordP L xs) L t) t (k + 1) = some j) := Lib.hid (pkO_some hob)
                  clear hob
                  unfold oI
                  go_wp2_with fail
                  refine ⟨⟨k + 1, by omega, ?_⟩, by simp [intOf]; omega⟩
                  rw [HN.out]
                  first | exact ⟨by go_num, rfl, trivial⟩ | exact ⟨by go_num, rfl⟩ | exact ⟨by go_num, rfl, rfl⟩
                | none =>
                  by_cases g1 : 0 ≤ gi xs k
                  · by_cases g2 : gi xs k < L.length
                    · obtain ⟨q, hq⟩ : ∃ q : Nat, gi xs k = q := ⟨(gi xs k).toNat, by omega⟩
                      have KQ := Lib.hid (KK.out.trans hq)
                      have hql : q < L.length := by omega
                      rw [hq] at cf
                      clear g1 g2 hq KK
                      have cr := HRW.out.cell hql
                      have cs := (HSb.out.below hb' (Nat.le_refl _)).c0 q hql
                      have hbd := HV.out.bd hql
                      obtain ⟨a1, a2', a3, a4, a5⟩ := hbd
                      by_cases g3 : 0 < (rest (ordP L xs) L t) q
                      · have d3 := decT g3
                        by_cases g4 : (at_ L q).s ≤ t
                        · have d4 := decT g4
                          have HN : Hid (pkO L xs (rest (ordP L xs) L t) t (k + 1) = some q) := Lib.hid (pkO_yes hob KQ.out hql g3 g4)
                          clear hob g3 g4
                          unfold oI
                          go_wp2_with fail
                          refine ⟨⟨k + 1, by omega, ?_⟩, by simp [intOf]; omega⟩
                          rw [HN.out]
                          first | exact ⟨by go_num, rfl, trivial⟩ | exact ⟨by go_num, rfl⟩ | exact ⟨by go_num, rfl, rfl⟩
                        · have d4 := decF g4
                          have HN : Hid (pkO L xs (rest (ordP L xs) L t) t (k + 1) = none) := Lib.hid (pkO_no hob (by rw [KQ.out, Int.toNat_natCast]; exact fun h => g4 h.2.2.2))
                          clear hob g3 g4
                          unfold oI
                          go_wp2_with fail
                          refine ⟨⟨k + 1, by omega, ?_⟩, by simp [intOf]; omega⟩
                          rw [HN.out]
                          first | exact ⟨by go_num, rfl, trivial⟩ | exact ⟨by go_num, rfl⟩ | exact ⟨by go_num, rfl, rfl⟩
                      · have d3 := decF g3
                        have HN : Hid (pkO L xs (rest (ordP L xs) L t) t (k + 1) = none) := Lib.hid (pkO_no hob (by rw [KQ.out, Int.toNat_natCast]; exact fun h => g3 h.2.2.1))
                        clear hob g3
                        unfold oI
                        go_wp2_with fail
                        refine ⟨⟨k + 1, by omega, ?_⟩, by simp [intOf]; omega⟩
                        rw [HN.out]
                        first | exact ⟨by go_num, rfl, trivial⟩ | exact ⟨by go_num, rfl⟩ | exact ⟨by go_num, rfl, rfl⟩
                    · have d1 := decT g1
                      have d2 := decF g2
                      have HN : Hid (pkO L xs (rest (ordP L xs) L t) t (k + 1) = none) := Lib.hid (pkO_no hob (by rw [KK.out]; exact fun h => g2 h.2.1))
                      clear hob g1 g2
                      unfold oI
                      go_wp2_with fail
                      refine ⟨⟨k + 1, by omega, ?_⟩, by simp [intOf]; omega⟩
                      rw [HN.out]
                      first | exact ⟨by go_num, rfl, trivial⟩ | exact ⟨by go_num, rfl⟩ | exact ⟨by go_num, rfl, rfl⟩
                  · have d1 := decF g1
                    have HN : Hid (pkO L xs (rest (ordP L xs) L t) t (k + 1) = none) := Lib.hid (pkO_no hob (by rw [KK.out]; exact fun h => g1 h.1))
                    clear hob g1
                    unfold oI
                    go_wp2_with fail
                    refine ⟨⟨k + 1, by omega, ?_⟩, by simp [intOf]; omega⟩
                    rw [HN.out]
                    first | exact ⟨by go_num, rfl, trivial⟩ | exact ⟨by go_num, rfl⟩ | exact ⟨by go_num, rfl, rfl⟩
              · obtain ⟨m, rfl⟩ : ∃ m, k = xs.length + m := ⟨k - xs.length, by omega⟩
                have KK := Lib.hid (show kO xs (xs.length + m) = (m : Int) by unfold kO; rw [if_neg hf]; omega)
                have hsub : (xs.length : Int) + (m : Int) - xs.length = m := by omega
                have hml : m < L.length := by omega
                cases hob : pkO L xs (rest (ordP L xs) L t) t (xs.length + m) with
                | some j =>
                  have HN : Hid (pkO L xs (rest (ordP L xs) L t) t (xs.length + m + 1) = some j) := Lib.hid (pkO_some hob)
                  clear hob
                  unfold oI
                  go_wp2_with fail
                  refine ⟨⟨xs.length + m + 1, by omega, ?_⟩, by simp [intOf]; omega⟩
                  rw [HN.out]
                  first | exact ⟨by go_num, rfl, trivial⟩ | exact ⟨by go_num, rfl⟩ | exact ⟨by go_num, rfl, rfl⟩
                | none =>
                  by_cases g1 : 0 ≤ (m : Int)
                  · by_cases g2 : (m : Int) < L.length
                    · obtain ⟨q, hq⟩ : ∃ q : Nat, (m : Int) = q := ⟨((m : Int)).toNat, by omega⟩
                      have KQ := Lib.hid (KK.out.trans hq)
                      have hql : q < L.length := by omega
                      obtain rfl : m = q := by omega
                      clear g1 g2 hq KK
                      have cr := HRW.out.cell hql
                      have cs := (HSb.out.below hb' (Nat.le_refl _)).c0 m hql
                      have hbd := HV.out.bd hql
                      obtain ⟨a1, a2', a3, a4, a5⟩ := hbd
                      by_cases g3 : 0 < (rest (ordP L xs) L t) m
                      · have d3 := decT g3
                        by_cases g4 : (at_ L m).s ≤ t
                        · have d4 := decT g4
                          have HN : Hid (pkO L xs (rest (ordP L xs) L t) t (xs.length + m + 1) = some m) := Lib.hid (pkO_yes hob KQ.out hql g3 g4)
                          clear hob g3 g4
                          unfold oI
                          go_wp2_with fail
                          refine ⟨⟨xs.length + m + 1, by omega, ?_⟩, by simp [intOf]; omega⟩
                          rw [HN.out]
                          first | exact ⟨by go_num, rfl, trivial⟩ | exact ⟨by go_num, rfl⟩ | exact ⟨by go_num, rfl, rfl⟩
                        · have d4 := decF g4
                          have HN : Hid (pkO L xs (rest (ordP L xs) L t) t (xs.length + m + 1) = none) := Lib.hid (pkO_no hob (by rw [KQ.out, Int.toNat_natCast]; exact fun h => g4 h.2.2.2))
                          clear hob g3 g4
                          unfold oI
                          go_wp2_with fail
                          refine ⟨⟨xs.length + m + 1, by omega, ?_⟩, by simp [intOf]; omega⟩
                          rw [HN.out]
                          first | exact ⟨by go_num, rfl, trivial⟩ | exact ⟨by go_num, rfl⟩ | exact ⟨by go_num, rfl, rfl⟩
                      · have d3 := decF g3
                        have HN : Hid (pkO L xs (rest (ordP L xs) L t) t (xs.length + m + 1) = none) := Lib.hid (pkO_no hob (by rw [KQ.out, Int.toNat_natCast]; exact fun h => g3 h.2.2.1))
                        clear hob g3
                        unfold oI
                        go_wp2_with fail
                        refine ⟨⟨xs.length + m + 1, by omega, ?_⟩, by simp [intOf]; omega⟩
                        rw [HN.out]
                        first | exact ⟨by go_num, rfl, trivial⟩ | exact ⟨by go_num, rfl⟩ | exact ⟨by go_num, rfl, rfl⟩
                    · omega
                  · omega
            · have hkn : k = xs.length + L.length := by omega
              have hd : ¬ (k : Int) < (xs.length : Int) + L.length := by omega
              have HKN := Lib.hid hkn
              have HLT := Lib.hid hlt
              clear hkn hlk
              rw [HKN.out] at hd ⊢
              have hd2 : ¬ ((xs.length + L.length : Nat) : Int) < (xs.length : Int) + L.length := by omega
              cases hp : pkO L xs (rest (ordP L xs) L t) t (xs.length + L.length) with
              | none =>
                have hp' : ordP L xs (rest (ordP L xs) L t) t = none := hp
                have HOP : Hid (openAt (ordP L xs) L (t + 1) = openAt (ordP L xs) L t) := Lib.hid (open_none (pk := ordP L xs) hp')
                have HRS : Hid (rest (ordP L xs) L (t + 1) = rest (ordP L xs) L t) := Lib.hid (by funext j; simp [rest, hp'])
                have HM : Hid (moO (ordP L xs) L (t + 1) = moO (ordP L xs) L t) := Lib.hid (mo_none hp')
                clear hp hp' hod ho
                unfold oI
                go_wp2_with fail
                exact ⟨⟨t + 1, by have := HLT.out; omega, by go_num, by rw [HOP.out], by rw [HM.out], by rw [HM.out], hb', by rw [HRS.out]; exact HRW.out⟩, by have := HLT.out; simp [intOf]; omega⟩
              | some j =>
                have hp' : ordP L xs (rest (ordP L xs) L t) t = some j := hp
                have hfit := HR.out.fit _ _ _ hp'
                obtain ⟨f1, f2, f3⟩ := hfit
                have HOP : Hid (openAt (ordP L xs) L (t + 1) = openAt (ordP L xs) L t - 1) := Lib.hid (open_some (pk := ordP L xs) HR.out hp')
                have HRS : Hid (∀ i, (if i = j then Value.int .i64 (rest (ordP L xs) L t j - 1) else .int .i64 (rest (ordP L xs) L t i)) = .int .i64 (rest (ordP L xs) L (t + 1) i)) := Lib.hid (by
                  intro i
                  by_cases hij : i = j
                  · subst hij; simp [rest, hp']
                  · have hji : ¬ j = i := fun h => hij h.symm
                    simp [rest, hp', hij, hji])
                have HMO := Lib.hid (mo_some hp')
                have hrb := rest_le HV.out HR.out t f1
                obtain ⟨r1, r2⟩ := hrb
                have hbd := HV.out.bd f1
                obtain ⟨a1, a2', a3, a4, a5⟩ := hbd
                clear hp hp' hod ho f3
                unfold oI
                have cr := HRW.out.cell f1
                have cz := HRW.out.frozen j
                have hrw5 := HRW.out.set j (.int .i64 (rest (ordP L xs) L t j - 1))
                have HRW5 : Hid ((wo.setCell ⟨wb.heap.size, j, none⟩ (.int .i64 (rest (ordP L xs) L t j - 1))).rowIs wb.heap.size 3 L.length (fun i => .int .i64 (rest (ordP L xs) L (t + 1) i))) := Lib.hid (hrw5.congr fun i _ => HRS.out i)
                have HB5 : Hid (Below wb.heap.size wb (wo.setCell ⟨wb.heap.size, j, none⟩ (.int .i64 (rest (ordP L xs) L t j - 1)))) := Lib.hid (hb'.setCell (Nat.le_refl _) _)
                have cq : (wo.setCell ⟨wb.heap.size, j, none⟩ (.int .i64 (rest (ordP L xs) L t j - 1))).cell? ⟨wb.heap.size, j, none⟩ = some (.int .i64 (rest (ordP L xs) L t j - 1)) := (hrw5.cell f1).trans (by simp)
                have ce := (HSb.out.below HB5.out (Nat.le_refl _)).c1 j f1
                clear hrw5
                by_cases hz : rest (ordP L xs) L t j - 1 = 0
                · have dz : ((rest (ordP L xs) L t j - 1) == 0) = true := by rw [beq_iff_eq]; exact hz
                  cases hf : (moO (ordP L xs) L t).2
                  · have HM : Hid (moO (ordP L xs) L (t + 1) = ((t : Int) + 1 - (at_ L j).e, true)) := Lib.hid (HMO.out.trans (if_pos ⟨hz, .inl hf⟩))
                    clear hz hf HMO
                    go_wp2_with fail
                    exact ⟨⟨t + 1, by have := HLT.out; omega, by go_num, by rw [HOP.out], by rw [HM.out], by rw [HM.out], HB5.out, HRW5.out⟩, by have := HLT.out; simp [intOf]; omega⟩
                  · by_cases hm : (moO (ordP L xs) L t).1 < (t : Int) + 1 - (at_ L j).e
                    · have dm := decT hm
                      have HM : Hid (moO (ordP L xs) L (t + 1) = ((t : Int) + 1 - (at_ L j).e, true)) := Lib.hid (HMO.out.trans (if_pos ⟨hz, .inr hm⟩))
                      clear hz hf hm HMO
                      go_wp2_with fail
                      exact ⟨⟨t + 1, by have := HLT.out; omega, by go_num, by rw [HOP.out], by rw [HM.out], by rw [HM.out], HB5.out, HRW5.out⟩, by have := HLT.out; simp [intOf]; omega⟩
                    · have dm := decF hm
                      have HM : Hid (moO (ordP L xs) L (t + 1) = moO (ordP L xs) L t) := Lib.hid (HMO.out.trans (if_neg (fun h => h.2.elim (fun h' => by rw [hf] at h'; cases h') hm)))
                      have HF := Lib.hid hf
                      clear hz hf hm HMO
                      go_wp2_with fail
                      exact ⟨⟨t + 1, by have := HLT.out; omega, by go_num, by rw [HOP.out], by rw [HM.out], by rw [HM.out, HF.out], HB5.out, HRW5.out⟩, by have := HLT.out; simp [intOf]; omega⟩
                · have dz : ((rest (ordP L xs) L t j - 1) == 0) = false := by rw [beq_eq_false_iff_ne]; exact hz
                  have HM : Hid (moO (ordP L xs) L (t + 1) = moO (ordP L xs) L t) := Lib.hid (HMO.out.trans (if_neg (fun h => hz h.1)))
                  clear hz HMO
                  go_wp2_with fail
                  exact ⟨⟨t + 1, by have := HLT.out; omega, by go_num, by rw [HOP.out], by rw [HM.out], by rw [HM.out], HB5.out, HRW5.out⟩, by have := HLT.out; simp [intOf]; omega⟩
        · have hte : t = lenT (ordP L xs) L := by omega
          have hod : decide (0 < openAt (ordP L xs) L t) = false := decF (fun h => hlt ((len_openR HV.out HR.out ht).1 h))
          have hz : openAt (ordP L xs) L t = 0 := by rw [hte]; exact HT2.out
          have hml : decide (lj ≤ (moO (ordP L xs) L t).1) = true := decT (by rw [hte]; exact HML.out)
          have HTE := Lib.hid hte
          clear hte hlt
          rw [hz]
          clear hz hod
          generalize (moO (ordP L xs) L t).1 = mq at *
          go_wp2_with fail
          refine (known_c _).mono ?_
          rintro e w9 ⟨rfl, hb9⟩
          go_wp2_with fail
          go_ret
          exact ⟨rfl, btr BB.out (btr hb' hb9)⟩

set_option maxRecDepth 100000 in
set_option maxHeartbeats 3200000 in
theorem orders_w (a : Option Addr) (n c : Nat) (L : List Jb) (a2 : Option Addr) (n2 c2 : Nat) (xs : List Int) (w : World) (h : SlO w a n L) (hc : n ≤ c) (hm : c ≤ maxLen) (h2 : IsO w a2 n2 xs) (hc2 : n2 ≤ c2) (hm2 : c2 ≤ maxLen) :
    Calls Try.prog 3 #[.slice a n c, .slice a2 n2 c2] w fun e w' => e = .returned (.bool true) ∧ Below w.heap.size w w' := by
  have _ := hc
  have _ := hm
  have _ := hc2
  have _ := hm2
  cases hl : longB n
  case true =>
    go_enter Try.func3, Try.ntmps3
    go_wp2_with fail
    refine (Long_c _ _ _ _).mono ?_
    rintro e w1 ⟨rfl, hb1⟩
    have B1 : Below w.heap.size w w1 := btr (Below.refl _ _) hb1
    simp only [hl]
    go_wp2_with fail
    refine (known_c _).mono ?_
    rintro e w2 ⟨rfl, hb2⟩
    have B2 : Below w.heap.size w w2 := btr B1 hb2
    go_wp2_with fail
    go_ret
    exact ⟨rfl, B2⟩
  case false =>
    by_cases g : 100 < n2
    · have dg : ((100 : Int) < n2) := by omega
      go_enter Try.func3, Try.ntmps3
      go_wp2_with fail
      refine (Long_c _ _ _ _).mono ?_
      rintro e w1 ⟨rfl, hb1⟩
      have B1 : Below w.heap.size w w1 := btr (Below.refl _ _) hb1
      simp only [hl]
      go_wp2_with fail
      refine (known_c _).mono ?_
      rintro e w2 ⟨rfl, hb2⟩
      have B2 : Below w.heap.size w w2 := btr B1 hb2
      go_wp2_with fail
      go_ret
      exact ⟨rfl, B2⟩
    · have dg : ¬ ((100 : Int) < n2) := by omega
      by_cases hz : vErr L = 0
      · by_cases hn : n = 0
        · subst hn
          go_enter Try.func3, Try.ntmps3
          go_wp2_with fail
          refine (Long_c _ _ _ _).mono ?_
          rintro e w1 ⟨rfl, hb1⟩
          have B1 : Below w.heap.size w w1 := btr (Below.refl _ _) hb1
          simp only [hl]
          go_wp2_with fail
          refine (Late_c _ _ _ _ _ (h.below B1 (Nat.le_refl _))).mono ?_
          rintro e w2 ⟨rfl, hb2⟩
          have B2 : Below w.heap.size w w2 := btr B1 hb2
          rw [hz]
          go_wp2_with fail
          refine (known_c _).mono ?_
          rintro e w3 ⟨rfl, hb3⟩
          have B3 : Below w.heap.size w w3 := btr B2 hb3
          go_wp2_with fail
          go_ret
          exact ⟨rfl, B3⟩
        · rcases h.2 with h' | ⟨b, o, rfl, hS⟩
          · exact absurd h' hn
          · exact orders_in b o n c L a2 n2 c2 xs w hS (by omega) h2 (vErr_zero.1 hz) (by omega)
      · have hne : (vErr L != 0) = true := by simpa using hz
        clear hz
        go_enter Try.func3, Try.ntmps3
        go_wp2_with fail
        refine (Long_c _ _ _ _).mono ?_
        rintro e w1 ⟨rfl, hb1⟩
        have B1 : Below w.heap.size w w1 := btr (Below.refl _ _) hb1
        simp only [hl]
        go_wp2_with fail
        refine (Late_c _ _ _ _ _ (h.below B1 (Nat.le_refl _))).mono ?_
        rintro e w2 ⟨rfl, hb2⟩
        have B2 : Below w.heap.size w w2 := btr B1 hb2
        go_wp2_with fail
        refine (known_c _).mono ?_
        rintro e w3 ⟨rfl, hb3⟩
        have B3 : Below w.heap.size w w3 := btr B2 hb3
        go_wp2_with fail
        go_ret
        exact ⟨rfl, B3⟩
end Go.Proofs.Ytbmbogaejmgloaa
