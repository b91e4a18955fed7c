/- BudgetWith: the walk. -/
import Derived.Test.YtplindidegmlkaaQ
import Derived.Test.YtplindidegmlkaaK
namespace Go.Proofs.Ytplindidegmlkaa
open Go.RowKit Go.Sort

theorem tot_facts {L M : List It} (hL : vErr L = 0) (hM : vErr M = 0) (hp : parts M ≤ parts L) : (0 ≤ totN L ∧ totN L ≤ 134217728 ∧ 1 ≤ totD L ∧ totD L ≤ 134217728) ∧ (0 ≤ totN M ∧ totN M ≤ 134217728 ∧ 1 ≤ totD M ∧ totD M ≤ 134217728) ∧ ¬ (totN L * totD M < totN M * totD L) := by
  have e3 : totN L = toN L L.length := if_pos hL
  have e4 : totD L = toD L L.length := if_pos hL
  have e5 : totN M = toN M M.length := if_pos hM
  have e6 : totD M = toD M M.length := if_pos hM
  have b1 := to_bd (vErr_zero.1 hL) (Nat.le_refl L.length)
  have b2 := to_bd (vErr_zero.1 hM) (Nat.le_refl M.length)
  rw [e3, e4, e5, e6]
  refine ⟨by omega, by omega, ?_⟩
  have h := red_le (n := paT L L.length) (d := 2520) (x := redN (paT M M.length) 2520) (y := redD (paT M M.length) 2520) (by decide)
  have h2 := red_ge (n := paT M M.length) (d := 2520) (x := paT L L.length) (y := 2520) (by decide)
  have h3 : paT M M.length ≤ paT L L.length := hp
  unfold toN toD
  have h4 : paT M M.length * 2520 ≤ paT L L.length * 2520 := by omega
  have h5 := h.2 (h2.2 h4)
  omega
theorem we_facts {L : List It} {F : List Fx} {ch : List Int} (h : weErr L F ch = 0) : vErr L = 0 ∧ vErr (weL L F ch) = 0 ∧ parts (weL L F ch) ≤ parts L := by
  obtain ⟨hv, hc⟩ := weErr_zero.1 h
  obtain ⟨e1, _⟩ := we_good h
  have hr := hc.1.inR rfl
  rw [e1]
  exact ⟨vErr_zero.2 hv.v, vErr_zero.2 (wiK_valid hv hr (Nat.le_refl _)), wiK_parts hv hr (Nat.le_refl _)⟩
/-- A row that is owned, whatever it holds. -/
def Own3 (w : World) (base : Nat) (v : Value) (n : Nat) : Prop := ∃ xs, w.ownsRow base 31 3 v n xs
theorem we_len {L : List It} {F : List Fx} {ch : List Int} : (weL L F ch).length ≤ L.length := by
  by_cases h : weErr L F ch = 0
  · rw [(we_good h).1]; unfold wiL; rw [wiK_length]; exact Nat.le_refl _
  · rw [(we_bad h).1]; simp

set_option maxRecDepth 100000 in
set_option maxHeartbeats 3200000 in
theorem with_w (a : Option Addr) (n c : Nat) (L : List It) (fa : Option Addr) (m fc : Nat) (F : List Fx) (ca : Option Addr) (p cc : Nat) (ch : List Int) (w : World) (h : SlO w a n L) (hc : n ≤ c) (hm : c ≤ maxLen) (hf : FlO w fa m F) (hc2 : m ≤ fc) (hm2 : fc ≤ maxLen) (hch : IsO w ca p ch) (hc3 : p ≤ cc) (hm3 : cc ≤ maxLen) :
    Calls Try.prog 10 #[.slice a n c, .slice fa m fc, .slice ca p cc] w fun e w' => e = .returned (.bool true) ∧ Below w.heap.size w w' := by
  have _ := hc
  have _ := hm
  have _ := hc2
  have _ := hm2
  have _ := hc3
  have _ := hm3
  have self := fun x : Int => (show (x != x) = false by simp)
  have selfe := fun x : Int => (show (x == x) = true by simp)
  have selfb := fun x : Bool => (show (x != x) = false by simp)
  have selfc := fun x : Bool => (show (x == x) = true by simp)
  have hmm : m ≤ 9223372036854775807 := by unfold maxLen at hm2; omega
  obtain rfl := h.1
  cases hl : longB L.length
  case true =>
    go_enter Try.func10, Try.ntmps10
    go_wp2_with fail
    refine (Long_c _ _ _ _).mono ?_
    rintro e w1 ⟨rfl, hb1⟩
    have B1 : Below w.heap.size w w1 := btr (Below.refl _ _) hb1
    simp only [hl]
    go_wp2_with fail
    refine (known_c _).mono ?_
    rintro e w2 ⟨rfl, hb2⟩
    have B2 : Below w.heap.size w w2 := btr B1 hb2
    go_wp2_with fail
    go_ret
    exact ⟨rfl, B2⟩
  case false =>
    have hL50 := longB_false hl
    have hwl := we_len (L := L) (F := F) (ch := ch)
    by_cases h50 : 50 < m
    · have h50' : (50 : Int) < m := by omega
      go_enter Try.func10, Try.ntmps10
      go_wp2_with fail
      refine (Long_c _ _ _ _).mono ?_
      rintro e w1 ⟨rfl, hb1⟩
      have B1 : Below w.heap.size w w1 := btr (Below.refl _ _) hb1
      simp only [hl]
      go_wp2_with fail
      refine (known_c _).mono ?_
      rintro e w2 ⟨rfl, hb2⟩
      have B2 : Below w.heap.size w w2 := btr B1 hb2
      go_wp2_with fail
      go_ret
      exact ⟨rfl, B2⟩
    · have h50' : ¬ (50 : Int) < m := by omega
      by_cases h51 : 50 < p
      · have h51' : (50 : Int) < p := by omega
        go_enter Try.func10, Try.ntmps10
        go_wp2_with fail
        refine (Long_c _ _ _ _).mono ?_
        rintro e w1 ⟨rfl, hb1⟩
        have B1 : Below w.heap.size w w1 := btr (Below.refl _ _) hb1
        simp only [hl]
        go_wp2_with fail
        refine (known_c _).mono ?_
        rintro e w2 ⟨rfl, hb2⟩
        have B2 : Below w.heap.size w w2 := btr B1 hb2
        go_wp2_with fail
        go_ret
        exact ⟨rfl, B2⟩
      · have h51' : ¬ (50 : Int) < p := by omega
        by_cases h0 : weErr L F ch = 0
        · have hz : (weErr L F ch == 0) = true := by simp [h0]
          obtain ⟨hv1, hv2, hpp⟩ := we_facts h0
          obtain ⟨⟨f1, f2, f3, f4⟩, ⟨g1, g2, g3, g4⟩, hls⟩ := tot_facts hv1 hv2 hpp
          have HV1 := Lib.hid hv1
          have HV2 := Lib.hid hv2
          have HLS := Lib.hid (decF hls)
          have HE := Lib.hid h0
          clear h0 hv1 hv2 hls hpp
          go_enter Try.func10, Try.ntmps10
          go_wp2_with fail
          refine (Long_c _ _ _ _).mono ?_
          rintro e w1 ⟨rfl, hb1⟩
          have B1 : Below w.heap.size w w1 := btr (Below.refl _ _) hb1
          simp only [hl]
          go_wp2_with (at_builtin; refine wpList_append_its rfl _ _ rfl w1.heap.size _ 0 [] rfl (World.ownsRow_made _ #[] 0 (Nat.le_refl _) (Nat.zero_le _) rfl) a L.length c L rfl (h.below (B1.alloc B1.size _) (Nat.le_refl _)) (by omega) (by simp) ?_)
          intro v7 wA hownA hgA
          have hbA : Below w1.heap.size w1 wA := ((Below.refl _ _).alloc (Nat.le_refl _) _).grown hgA (by simp) (fun q hq => by cases hq; exact Nat.le_refl _)
          have hOA : wA.ownsRow w1.heap.size 31 3 v7 L.length (itCells L) := by simpa using hownA
          have BA : Below w.heap.size w wA := btr B1 hbA
          obtain ⟨a7, c7, e7, i7, -, -, -⟩ := ownsRow_it hOA
          subst e7
          have I7A := Lib.hid i7
          have BAH := Lib.hid BA
          clear hownA hgA hbA hOA
          go_wp2_with fail
          refine (With_c _ _ _ L _ _ _ F _ _ _ ch _ i7 (hf.below BA (Nat.le_refl _)) (hch.below BA (Nat.le_refl _)) hmm (by omega)).mono ?_
          rintro e w2 ⟨v2, rfl, hv2, hb2⟩
          have B2 : Below w.heap.size w w2 := btr BA hb2
          replace i7 := i7.below hb2 (Nat.le_refl _)
          obtain ⟨a2, c2, e2, i2, -, -, -⟩ := ownsRow_it hv2
          subst e2
          have o2 := hv2
          clear hv2
          go_wp2_with fail
          refine (rWith_c _ _ _ L _ _ _ F _ _ _ ch _ (h.below B2 (Nat.le_refl _)) (hf.below B2 (Nat.le_refl _)) (hch.below B2 (Nat.le_refl _)) hmm (by omega)).mono ?_
          rintro e w3 ⟨v3, rfl, hv3, hb3⟩
          have B3 : Below w.heap.size w w3 := btr B2 hb3
          replace i7 := i7.below hb3 (Nat.le_refl _)
          replace i2 := i2.below hb3 (Nat.le_refl _)
          replace o2 := ownsRow_below o2 hb3
          obtain ⟨a3, c3, e3, i3, -, -, -⟩ := ownsRow_it hv3
          subst e3
          have o3 := hv3
          clear hv3
          go_wp2_with fail
          refine (ValidateFixes_c _ _ _ L _ _ _ F _ (h.below B3 (Nat.le_refl _)) (hf.below B3 (Nat.le_refl _)) hmm).mono ?_
          rintro e w4 ⟨rfl, hb4⟩
          have B4 : Below w.heap.size w w4 := btr B3 hb4
          replace i7 := i7.below hb4 (Nat.le_refl _)
          replace i2 := i2.below hb4 (Nat.le_refl _)
          replace i3 := i3.below hb4 (Nat.le_refl _)
          replace o2 := ownsRow_below o2 hb4
          replace o3 := ownsRow_below o3 hb4
          go_wp2_with fail
          refine (rValidateFixes_c _ _ _ L _ _ _ F _ (h.below B4 (Nat.le_refl _)) (hf.below B4 (Nat.le_refl _)) hmm).mono ?_
          rintro e w5 ⟨rfl, hb5⟩
          have B5 : Below w.heap.size w w5 := btr B4 hb5
          replace i7 := i7.below hb5 (Nat.le_refl _)
          replace i2 := i2.below hb5 (Nat.le_refl _)
          replace i3 := i3.below hb5 (Nat.le_refl _)
          replace o2 := ownsRow_below o2 hb5
          replace o3 := ownsRow_below o3 hb5
          go_wp2_with fail
          refine (Same_c _ _ _ _ _ (weL L F ch) _ i2 i3 (by omega)).mono ?_
          rintro e w6 ⟨rfl, hb6⟩
          have B6 : Below w.heap.size w w6 := btr B5 hb6
          replace i7 := i7.below hb6 (Nat.le_refl _)
          replace i2 := i2.below hb6 (Nat.le_refl _)
          replace i3 := i3.below hb6 (Nat.le_refl _)
          replace o2 := ownsRow_below o2 hb6
          replace o3 := ownsRow_below o3 hb6
          clear i3 o3
          go_wp2_with fail
          refine (Total_c _ _ _ L _ (h.below B6 (Nat.le_refl _))).mono ?_
          rintro e w7 ⟨rfl, hb7⟩
          have B7 : Below w.heap.size w w7 := btr B6 hb7
          replace i7 := i7.below hb7 (Nat.le_refl _)
          replace i2 := i2.below hb7 (Nat.le_refl _)
          replace o2 := ownsRow_below o2 hb7
          rw [HV1.out]
          go_wp2_with fail
          refine (Total_c _ _ _ (weL L F ch) _ (i2.below ((Below.refl _ _).alloc (Nat.le_refl _) _) (Nat.le_refl _))).mono ?_
          rintro e w8 ⟨rfl, hb8⟩
          have ha8 : Below w7.heap.size w7 w8 := btr ((Below.refl _ _).alloc (Nat.le_refl _) _) hb8
          have D7 : Cell2 w8 w7.heap.size (totN L) (totD L) := Cell2.below (w := w7.alloc (.cells #[.int .i64 (totN L), .int .i64 (totD L)] 25)) ⟨by simp [go_sem], by simp [go_sem], by simp [go_sem], by simp [go_sem]⟩ hb8
          have B8 : Below w.heap.size w w8 := btr (B7.alloc B7.size _) hb8
          replace i7 := i7.below ha8 (Nat.le_refl _)
          replace i2 := i2.below ha8 (Nat.le_refl _)
          replace o2 := ownsRow_below o2 ha8
          rw [HV2.out]
          have D70 := D7.c0
          have D71 := D7.c1
          have D7l := D7.lt
          go_wp2_with fail
          refine (fair_c _ _ _ ⟨f1, f2, f3, f4⟩).mono ?_
          rintro e w9 ⟨rfl, hb9⟩
          clear D70 D71 D7l
          have ha9 : Below w8.heap.size w8 w9 := btr ((Below.refl _ _).alloc (Nat.le_refl _) _) hb9
          have D8 : Cell2 w9 w8.heap.size (totN (weL L F ch)) (totD (weL L F ch)) := Cell2.below (w := w8.alloc (.cells #[.int .i64 (totN (weL L F ch)), .int .i64 (totD (weL L F ch))] 25)) ⟨by simp [go_sem], by simp [go_sem], by simp [go_sem], by simp [go_sem]⟩ hb9
          have B9 : Below w.heap.size w w9 := btr (B8.alloc B8.size _) hb9
          replace i7 := i7.below ha9 (Nat.le_refl _)
          replace i2 := i2.below ha9 (Nat.le_refl _)
          replace D7 := D7.below ha9
          replace o2 := ownsRow_below o2 ha9
          have D70 := D7.c0
          have D71 := D7.c1
          have D80 := D8.c0
          have D81 := D8.c1
          go_wp2_with fail
          refine (fair_c _ _ _ ⟨g1, g2, g3, g4⟩).mono ?_
          rintro e w10 ⟨rfl, hb10⟩
          clear D70 D71 D80 D81
          have B10 : Below w.heap.size w w10 := btr B9 hb10
          replace i7 := i7.below hb10 (Nat.le_refl _)
          replace i2 := i2.below hb10 (Nat.le_refl _)
          replace D7 := D7.below hb10
          replace D8 := D8.below hb10
          replace o2 := ownsRow_below o2 hb10
          have D70 := D7.c0
          have D71 := D7.c1
          have D80 := D8.c0
          have D81 := D8.c1
          go_wp2_with fail
          refine (Calls.val (less_c (totN L) (totD L) (totN (weL L F ch)) (totD (weL L F ch)) _ ⟨f1, by omega, by omega, by omega⟩ ⟨g1, by omega, by omega, by omega⟩) (vb HLS.out)).mono ?_
          rintro e w11 ⟨rfl, hb11⟩
          clear D70 D71 D80 D81
          have B11 : Below w.heap.size w w11 := btr B10 hb11
          replace i7 := i7.below hb11 (Nat.le_refl _)
          replace i2 := i2.below hb11 (Nat.le_refl _)
          replace D7 := D7.below hb11
          replace D8 := D8.below hb11
          replace o2 := ownsRow_below o2 hb11
          have CH := Lib.hid (btr (btr (btr (btr (btr (btr (btr (btr (btr hb2 hb3) hb4) hb5) hb6) hb7) ha8) ha9) hb10) hb11)
          have O2 : Hid (Own3 _ wA.heap.size (.slice a2 (weL L F ch).length c2) (weL L F ch).length) := Lib.hid ⟨_, o2⟩
          clear o2 i7 i2
          have D70 := D7.c0
          have D71 := D7.c1
          have D80 := D8.c0
          have D81 := D8.c1
          go_wp2_with fail
          clear D70 D71 D80 D81
          go_loopw [18] (fun i wr => ∃ k : Nat, k ≤ (weL L F ch).length ∧ i = .int .i64 k ∧ Below wA.heap.size wA wr ∧ Own3 wr wA.heap.size (.slice a2 (weL L F ch).length c2) (weL L F ch).length) (fun i _ => (weL L F ch).length - (intOf i).toNat)
          case atStart => exact ⟨0, Nat.zero_le _, rfl, CH.out, O2.out⟩
          case round =>
            obtain ⟨k, hk, rfl, hb, xs, hown⟩ := hrel
            clear O2 CH
            by_cases hlt : k < (weL L F ch).length
            · obtain ⟨g, cap, hge, hg1, hg2, hown'⟩ := own_open hown (by omega)
              cases hge
              have hx : k * 3 < xs.length := by have := hown'.1; omega
              have c0 : wr.cell? ⟨g, k * 3, none⟩ = some (xs[k * 3]'hx) := by rw [hown'.cellAt (k * 3) (by omega), List.getElem?_eq_getElem hx]
              have f0 : wr.frozen? ⟨g, k * 3, none⟩ = false := hown'.frozenAt _
              have HO := Lib.hid hown'
              generalize xs[k * 3]'hx = u0 at *
              clear hown hown' hx
              go_wp2_with fail
              exact ⟨⟨k + 1, by omega, by go_num, hb.setCell hg1 _, ⟨_, (HO.out.stored _ _).1⟩⟩, by simp [intOf]; omega⟩
            · have hd : ¬ (k : Int) < (weL L F ch).length := by omega
              clear hlt
              have HB := Lib.hid (btr BAH.out hb)
              go_wp2_with fail
              refine (Same_c _ _ _ _ _ L _ (I7A.out.below hb (Nat.le_refl _)) (h.below HB.out (Nat.le_refl _)) (by omega)).mono ?_
              rintro e w2 ⟨rfl, hb2⟩
              go_wp2_with fail
              refine (known_c _).mono ?_
              rintro e w3 ⟨rfl, hb3⟩
              go_wp2_with fail
              go_ret
              exact ⟨rfl, btr (btr HB.out hb2) hb3⟩
        · have hz : (weErr L F ch == 0) = false := by simp [h0]
          clear h0
          go_enter Try.func10, Try.ntmps10
          go_wp2_with fail
          refine (Long_c _ _ _ _).mono ?_
          rintro e w1 ⟨rfl, hb1⟩
          have B1 : Below w.heap.size w w1 := btr (Below.refl _ _) hb1
          simp only [hl]
          go_wp2_with (at_builtin; refine wpList_append_its rfl _ _ rfl w1.heap.size _ 0 [] rfl (World.ownsRow_made _ #[] 0 (Nat.le_refl _) (Nat.zero_le _) rfl) a L.length c L rfl (h.below (B1.alloc B1.size _) (Nat.le_refl _)) (by omega) (by simp) ?_)
          intro v7 wA hownA hgA
          have hbA : Below w1.heap.size w1 wA := ((Below.refl _ _).alloc (Nat.le_refl _) _).grown hgA (by simp) (fun q hq => by cases hq; exact Nat.le_refl _)
          have hOA : wA.ownsRow w1.heap.size 31 3 v7 L.length (itCells L) := by simpa using hownA
          have BA : Below w.heap.size w wA := btr B1 hbA
          obtain ⟨a7, c7, e7, i7, -, -, -⟩ := ownsRow_it hOA
          subst e7
          have I7A := Lib.hid i7
          have BAH := Lib.hid BA
          clear hownA hgA hbA hOA
          go_wp2_with fail
          refine (With_c _ _ _ L _ _ _ F _ _ _ ch _ i7 (hf.below BA (Nat.le_refl _)) (hch.below BA (Nat.le_refl _)) hmm (by omega)).mono ?_
          rintro e w2 ⟨v2, rfl, hv2, hb2⟩
          have B2 : Below w.heap.size w w2 := btr BA hb2
          replace i7 := i7.below hb2 (Nat.le_refl _)
          obtain ⟨a2, c2, e2, i2, -, -, -⟩ := ownsRow_it hv2
          subst e2
          have o2 := hv2
          clear hv2
          go_wp2_with fail
          refine (rWith_c _ _ _ L _ _ _ F _ _ _ ch _ (h.below B2 (Nat.le_refl _)) (hf.below B2 (Nat.le_refl _)) (hch.below B2 (Nat.le_refl _)) hmm (by omega)).mono ?_
          rintro e w3 ⟨v3, rfl, hv3, hb3⟩
          have B3 : Below w.heap.size w w3 := btr B2 hb3
          replace i7 := i7.below hb3 (Nat.le_refl _)
          replace i2 := i2.below hb3 (Nat.le_refl _)
          replace o2 := ownsRow_below o2 hb3
          obtain ⟨a3, c3, e3, i3, -, -, -⟩ := ownsRow_it hv3
          subst e3
          have o3 := hv3
          clear hv3
          go_wp2_with fail
          refine (ValidateFixes_c _ _ _ L _ _ _ F _ (h.below B3 (Nat.le_refl _)) (hf.below B3 (Nat.le_refl _)) hmm).mono ?_
          rintro e w4 ⟨rfl, hb4⟩
          have B4 : Below w.heap.size w w4 := btr B3 hb4
          replace i7 := i7.below hb4 (Nat.le_refl _)
          replace i2 := i2.below hb4 (Nat.le_refl _)
          replace i3 := i3.below hb4 (Nat.le_refl _)
          replace o2 := ownsRow_below o2 hb4
          replace o3 := ownsRow_below o3 hb4
          go_wp2_with fail
          refine (rValidateFixes_c _ _ _ L _ _ _ F _ (h.below B4 (Nat.le_refl _)) (hf.below B4 (Nat.le_refl _)) hmm).mono ?_
          rintro e w5 ⟨rfl, hb5⟩
          have B5 : Below w.heap.size w w5 := btr B4 hb5
          replace i7 := i7.below hb5 (Nat.le_refl _)
          replace i2 := i2.below hb5 (Nat.le_refl _)
          replace i3 := i3.below hb5 (Nat.le_refl _)
          replace o2 := ownsRow_below o2 hb5
          replace o3 := ownsRow_below o3 hb5
          go_wp2_with fail
          refine (Same_c _ _ _ _ _ (weL L F ch) _ i2 i3 (by omega)).mono ?_
          rintro e w6 ⟨rfl, hb6⟩
          have B6 : Below w.heap.size w w6 := btr B5 hb6
          replace i7 := i7.below hb6 (Nat.le_refl _)
          replace i2 := i2.below hb6 (Nat.le_refl _)
          replace i3 := i3.below hb6 (Nat.le_refl _)
          replace o2 := ownsRow_below o2 hb6
          replace o3 := ownsRow_below o3 hb6
          clear i3 o3
          go_wp2_with fail
          refine (Total_c _ _ _ L _ (h.below B6 (Nat.le_refl _))).mono ?_
          rintro e w7 ⟨rfl, hb7⟩
          have B7 : Below w.heap.size w w7 := btr B6 hb7
          replace i7 := i7.below hb7 (Nat.le_refl _)
          replace i2 := i2.below hb7 (Nat.le_refl _)
          replace o2 := ownsRow_below o2 hb7
          go_wp2_with fail
          refine (Total_c _ _ _ (weL L F ch) _ (i2.below ((Below.refl _ _).alloc (Nat.le_refl _) _) (Nat.le_refl _))).mono ?_
          rintro e w8 ⟨rfl, hb8⟩
          have ha8 : Below w7.heap.size w7 w8 := btr ((Below.refl _ _).alloc (Nat.le_refl _) _) hb8
          have D7 : Cell2 w8 w7.heap.size (totN L) (totD L) := Cell2.below (w := w7.alloc (.cells #[.int .i64 (totN L), .int .i64 (totD L)] 25)) ⟨by simp [go_sem], by simp [go_sem], by simp [go_sem], by simp [go_sem]⟩ hb8
          have B8 : Below w.heap.size w w8 := btr (B7.alloc B7.size _) hb8
          replace i7 := i7.below ha8 (Nat.le_refl _)
          replace i2 := i2.below ha8 (Nat.le_refl _)
          replace o2 := ownsRow_below o2 ha8
          have CH := Lib.hid (btr (btr (btr (btr (btr (btr (btr hb2 hb3) hb4) hb5) hb6) hb7) ha8) ((Below.refl _ _).alloc (Nat.le_refl _) (.cells #[.int .i64 (totN (weL L F ch)), .int .i64 (totD (weL L F ch))] 25)))
          have O2 : Hid (Own3 _ wA.heap.size (.slice a2 (weL L F ch).length c2) (weL L F ch).length) := Lib.hid ⟨_, o2.alloc (.cells #[.int .i64 (totN (weL L F ch)), .int .i64 (totD (weL L F ch))] 25)⟩
          clear o2 i7 i2
          have D70 := D7.c0
          have D71 := D7.c1
          have D7l := D7.lt
          go_wp2_with fail
          clear D70 D71 D7l
          go_loopw [18] (fun i wr => ∃ k : Nat, k ≤ (weL L F ch).length ∧ i = .int .i64 k ∧ Below wA.heap.size wA wr ∧ Own3 wr wA.heap.size (.slice a2 (weL L F ch).length c2) (weL L F ch).length) (fun i _ => (weL L F ch).length - (intOf i).toNat)
          case atStart => exact ⟨0, Nat.zero_le _, rfl, CH.out, O2.out⟩
          case round =>
            obtain ⟨k, hk, rfl, hb, xs, hown⟩ := hrel
            clear O2 CH
            by_cases hlt : k < (weL L F ch).length
            · obtain ⟨g, cap, hge, hg1, hg2, hown'⟩ := own_open hown (by omega)
              cases hge
              have hx : k * 3 < xs.length := by have := hown'.1; omega
              have c0 : wr.cell? ⟨g, k * 3, none⟩ = some (xs[k * 3]'hx) := by rw [hown'.cellAt (k * 3) (by omega), List.getElem?_eq_getElem hx]
              have f0 : wr.frozen? ⟨g, k * 3, none⟩ = false := hown'.frozenAt _
              have HO := Lib.hid hown'
              generalize xs[k * 3]'hx = u0 at *
              clear hown hown' hx
              go_wp2_with fail
              exact ⟨⟨k + 1, by omega, by go_num, hb.setCell hg1 _, ⟨_, (HO.out.stored _ _).1⟩⟩, by simp [intOf]; omega⟩
            · have hd : ¬ (k : Int) < (weL L F ch).length := by omega
              clear hlt
              have HB := Lib.hid (btr BAH.out hb)
              go_wp2_with fail
              refine (Same_c _ _ _ _ _ L _ (I7A.out.below hb (Nat.le_refl _)) (h.below HB.out (Nat.le_refl _)) (by omega)).mono ?_
              rintro e w2 ⟨rfl, hb2⟩
              go_wp2_with fail
              refine (known_c _).mono ?_
              rintro e w3 ⟨rfl, hb3⟩
              go_wp2_with fail
              go_ret
              exact ⟨rfl, btr (btr HB.out hb2) hb3⟩
end Go.Proofs.Ytplindidegmlkaa
