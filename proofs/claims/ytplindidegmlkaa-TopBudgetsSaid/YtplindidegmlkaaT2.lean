/- The total of budget and of its reference. -/
import Derived.Test.YtplindidegmlkaaT
namespace Go.Proofs.Ytplindidegmlkaa
open Go.RowKit Go.Sort

theorem P2.set {w : World} {b o n p q : Nat} {xs : List (Int × Int)} {u : Value} (h : P2 w b o n xs) (hne : b ≠ p) : P2 (w.setCell ⟨p, q, none⟩ u) b o n xs := by
  have e : ∀ j : Nat, (w.setCell ⟨p, q, none⟩ u).cell? ⟨b, j, none⟩ = w.cell? ⟨b, j, none⟩ := fun j => World.cell?_of_block (w := w) (Below.heap_setCell w ⟨p, q, none⟩ u b hne)
  exact ⟨h.len, by simpa [World.setCell] using h.lt, fun i hi => by rw [e]; exact h.c0 i hi, fun i hi => by rw [e]; exact h.c1 i hi⟩

theorem Cell2.store {w : World} {b : Nat} {x y : Int} (h : Cell2 w b x y) (x' y' : Int) : Cell2 ((w.setCell ⟨b, 0, none⟩ (.int .i64 x')).setCell ⟨b, 1, none⟩ (.int .i64 y')) b x' y' :=
  ⟨by simp [go_sem, h.c0], by simp [go_sem, h.c1], by simp [go_sem, h.f0], by simp [go_sem, h.f1]⟩

/-- A fraction comes back. -/
def RetF (w : World) (x y : Int) (e : Ending) (w' : World) : Prop := e = .returned (.agg #[.int .i64 x, .int .i64 y]) ∧ Below w.heap.size w w'

theorem own_p2 {w : World} {base g cap n : Nat} {e : TypeId} {L : List (Int × Int)} (h : w.ownsRow base e 2 (.slice (some ⟨g, 0, none⟩) n cap) n (p2Cells L)) : P2 w g 0 n L := by
  have hn : n = L.length := by have := h.1; rw [p2Cells_length] at this; omega
  refine ⟨hn, (h.lt g rfl).2, fun i hi => ?_, fun i hi => ?_⟩
  · rw [Nat.zero_add, h.cellAt _ (by omega)]; exact (p2Cells_at L i (by omega)).1
  · rw [Nat.zero_add, h.cellAt _ (by omega)]; exact (p2Cells_at L i (by omega)).2

set_option maxRecDepth 100000 in
set_option maxHeartbeats 1600000 in
theorem total_c (a : Option Addr) (n c : Nat) (L : List It) (w : World) (h : SlO w a n L) (hv : Valid L) : Calls Try.prog 63 #[.slice a n c] w (RetF w (toN L L.length) (toD L L.length)) := by
  have HV := Lib.hid hv
  have HLn := Lib.hid h.1
  have hn6 : n ≤ 6 := by have := h.1; have := hv.le; omega
  have HA : Hid (Below w.heap.size w ((w.alloc (.cells #[.int .i64 0, .int .i64 0] 77)).alloc (.cells #[.int .i64 0, .int .i64 1] 77))) := Lib.hid (((Below.refl _ _).alloc (Nat.le_refl _) _).alloc (by simp) _)
  have HC1 : Hid (Cell2 ((w.alloc (.cells #[.int .i64 0, .int .i64 0] 77)).alloc (.cells #[.int .i64 0, .int .i64 1] 77)) (w.heap.size + 1) 0 1) := Lib.hid ⟨by simp [go_sem], by simp [go_sem], by simp [go_sem], by simp [go_sem]⟩
  have HC0 : Hid (Cell2 ((w.alloc (.cells #[.int .i64 0, .int .i64 0] 77)).alloc (.cells #[.int .i64 0, .int .i64 1] 77)) w.heap.size 0 0) := Lib.hid ⟨by simp [go_sem], by simp [go_sem], by simp [go_sem], by simp [go_sem]⟩
  have HX := Lib.hid (shares_c a n c L _ (h.below HA.out (Nat.le_refl _)) hv)
  clear h hv
  go_enter Try.func63, Try.ntmps63
  go_wp2_with fail
  refine HX.out.mono ?_
  rintro e w1 ⟨v, rfl, hown, hb1⟩
  obtain ⟨a2, c2, hv2, hP, -, -, hB⟩ := ownsRow_p2 hown
  rw [shL_length, ← HLn.out] at hv2 hP
  rw [hv2]
  have HP := Lib.hid hP
  have HBL : Hid (∀ x : Addr, a2 = some x → x.block ≠ w.heap.size + 1 ∧ x.block ≠ w.heap.size) := Lib.hid (fun x hx => by have := hB x hx; simp at this; omega)
  have B1 : Below w.heap.size w w1 := btr HA.out hb1
  have HD1 := Lib.hid (HC1.out.below hb1)
  have HD0 := Lib.hid (HC0.out.below hb1)
  clear hown hb1 HA HC1 HC0 HX hv2 hP hB
  have TZ := Lib.hid (to_zero L)
  rw [← TZ.out.1] at HD1
  have HD1' : Hid (Cell2 w1 (w.heap.size + 1) (toN L 0) (toD L 0)) := by rw [TZ.out.2]; exact HD1
  clear HD1 TZ
  have HD0' : Hid (Cell2 w1 w.heap.size 0 0) := by have h := HD0.out; exact Lib.hid ⟨h.c0, h.c1, h.f0, h.f1⟩
  clear HD0
  go_wp2_with fail
  go_loopw [10] (fun i wr => ∃ k : Nat, k ≤ n ∧ i = .int .i64 k ∧ Below w.heap.size w wr ∧ Cell2 wr (w.heap.size + 1) (toN L k) (toD L k) ∧ Cell2 wr w.heap.size 0 0 ∧ P2O wr a2 n (shL L)) (fun i _ => n - (intOf i).toNat)
  case atStart => exact ⟨0, Nat.zero_le _, rfl, B1, HD1'.out, HD0'.out, HP.out⟩
  case round =>
    obtain ⟨k, hk, rfl, hb, hc, hc0, hp⟩ := hrel
    have HC := Lib.hid hc
    have HC0 := Lib.hid hc0
    have HP2 := Lib.hid hp
    clear hc hc0 hp HD1' HD0' HP
    have x0 := HC.out.c0
    have x1 := HC.out.c1
    by_cases hlt : k < n
    · obtain ⟨b2, o2, rfl, hQ⟩ : ∃ b o, a2 = some ⟨b, o, none⟩ ∧ P2 wr b o n (shL L) := by
        rcases HP2.out.2 with h' | h'
        · omega
        · exact h'
      have hkL : k < L.length := by have := HLn.out; omega
      have d0 := hQ.c0 k hlt
      have d1 := hQ.c1 k hlt
      rw [pr_shL hkL] at d0 d1
      change _ = some (Value.int .i64 (shN (at_ L k))) at d0
      change _ = some (Value.int .i64 (shD (at_ L k))) at d1
      have HTB := to_bd HV.out (k := k) (by omega)
      have HSB := sh_bd (HV.out.ok k hkL)
      have HTS := Lib.hid (to_step HV.out hkL)
      obtain ⟨t1, t2, t3, t4⟩ := HTB
      obtain ⟨s1, s2, s3, s4⟩ := HSB
      have hne := HBL.out _ rfl
      have HNE := Lib.hid hne
      have HQ := Lib.hid hQ
      have hwl : w.heap.size + 1 < wr.heap.size := HC.out.lt
      have hw0 : w.heap.size < wr.heap.size := HC0.out.lt
      clear hQ hne
      go_wp2_with fail
      refine (plus_c (toN L k) (toD L k) (shN (at_ L k)) (shD (at_ L k)) _ (by omega) (by omega)).mono ?_
      rintro e w5 ⟨rfl, hb5⟩
      rw [HTS.out.1, HTS.out.2]
      have ha5 : Below wr.heap.size wr w5 := btr ((Below.refl _ _).alloc (Nat.le_refl _) _) hb5
      have HC5 := Lib.hid (HC.out.below ha5)
      have HC05 := Lib.hid (HC0.out.below ha5)
      have HQ5 := Lib.hid (HQ.out.below ha5 (Nat.le_refl _))
      have B5 : Below w.heap.size w w5 := btr hb ha5
      have y0 := HC5.out.c0
      have y1 := HC5.out.c1
      have g0 := HC5.out.f0
      have g1 := HC5.out.f1
      clear hb5 ha5 x0 x1 d0 d1
      go_wp2_with fail
      exact ⟨⟨k + 1, by omega, by go_num, (B5.setCell (by simp) _).setCell (by simp) _, HC5.out.store _ _, (HC05.out.set (by simp)).set (by simp), ⟨HP2.out.1, .inr ⟨b2, o2, rfl, (HQ5.out.set HNE.out.1).set HNE.out.1⟩⟩⟩, by simp [intOf]; omega⟩
    · have hkn : k = n := by omega
      have hd : ¬ (k : Int) < n := by omega
      have HKN := Lib.hid (hkn.trans HLn.out)
      have y0 := HC0.out.c0
      have y1 := HC0.out.c1
      have g0 := HC0.out.f0
      have g1 := HC0.out.f1
      clear hkn hlt
      rw [HKN.out] at x0 x1
      go_wp2_with fail
      refine bodyPost_ret (v := .agg #[.int .i64 (toN L L.length), .int .i64 (toD L L.length)]) (by simp [results, Try.results63, go_sem, y0, y1]) rfl ⟨rfl, ?_⟩
      go_grown

/-- A fraction and an error number come back. -/
def RetFe (w : World) (x y er : Int) (e : Ending) (w' : World) : Prop := e = .returned (.tuple #[.agg #[.int .i64 x, .int .i64 y], .int .i64 er]) ∧ Below w.heap.size w w'

def totN (L : List It) : Int := if vErr L = 0 then toN L L.length else 0
def totD (L : List It) : Int := if vErr L = 0 then toD L L.length else 0

set_option maxHeartbeats 800000 in
theorem Total_c (a : Option Addr) (n c : Nat) (L : List It) (w : World) (h : SlO w a n L) : Calls Try.prog 20 #[.slice a n c] w (RetFe w (totN L) (totD L) (vErr L)) := by
  have HA : Hid (Below w.heap.size w (w.alloc (.cells #[.int .i64 0, .int .i64 0] 25))) := Lib.hid ((Below.refl _ _).alloc (Nat.le_refl _) _)
  have HC : Hid (Cell2 (w.alloc (.cells #[.int .i64 0, .int .i64 0] 25)) w.heap.size 0 0) := Lib.hid ⟨by simp [go_sem], by simp [go_sem], by simp [go_sem], by simp [go_sem]⟩
  by_cases h0 : vErr L = 0
  · have hne : (vErr L != 0) = false := by simp [h0]
    have HN : Hid (totN L = toN L L.length) := Lib.hid (if_pos h0)
    have HD : Hid (totD L = toD L L.length) := Lib.hid (if_pos h0)
    have HV := Lib.hid (vErr_zero.1 h0)
    have HE := Lib.hid h0
    rw [HN.out, HD.out]
    clear h0
    go_enter Try.func20, Try.ntmps20
    go_wp2_with fail
    refine (Validate_c _ _ _ _ _ (h.below HA.out (Nat.le_refl _))).mono ?_
    rintro e w1 ⟨rfl, hb1⟩
    have B1 : Below w.heap.size w w1 := btr HA.out hb1
    have HC1 := Lib.hid (HC.out.below hb1)
    clear hb1
    go_wp2_with fail
    refine (total_c _ _ _ _ _ (h.below B1 (Nat.le_refl _)) HV.out).mono ?_
    rintro e w2 ⟨rfl, hb2⟩
    have B2 : Below w.heap.size w w2 := btr B1 hb2
    have HC2 := Lib.hid (HC1.out.below hb2)
    have y0 := HC2.out.c0
    have y1 := HC2.out.c1
    have g0 := HC2.out.f0
    have g1 := HC2.out.f1
    clear hb2
    go_wp2_with fail
    rw [HE.out]
    refine bodyPost_ret (v := .tuple #[.agg #[.int .i64 (toN L L.length), .int .i64 (toD L L.length)], .int .i64 0]) (by simp [results, Try.results20, go_sem, y0, y1]) rfl ⟨rfl, ?_⟩
    go_grown
  · have hne : (vErr L != 0) = true := by simp [h0]
    have HN : Hid (totN L = 0) := Lib.hid (if_neg h0)
    have HD : Hid (totD L = 0) := Lib.hid (if_neg h0)
    rw [HN.out, HD.out]
    clear h0
    go_enter Try.func20, Try.ntmps20
    go_wp2_with fail
    refine (Validate_c _ _ _ _ _ (h.below HA.out (Nat.le_refl _))).mono ?_
    rintro e w1 ⟨rfl, hb1⟩
    have B1 : Below w.heap.size w w1 := btr HA.out hb1
    have HC1 := Lib.hid (HC.out.below hb1)
    have y0 := HC1.out.c0
    have y1 := HC1.out.c1
    have g0 := HC1.out.f0
    have g1 := HC1.out.f1
    clear hb1
    go_wp2_with fail
    refine bodyPost_ret (v := .tuple #[.agg #[.int .i64 0, .int .i64 0], .int .i64 (vErr L)]) (by simp [results, Try.results20, go_sem, y0, y1]) rfl ⟨rfl, ?_⟩
    go_grown
end Go.Proofs.Ytplindidegmlkaa
