/- BudgetAllows: the walk. -/
import Derived.Test.YtplindidegmlkaaAl
import Derived.Test.YtplindidegmlkaaK
namespace Go.Proofs.Ytplindidegmlkaa
open Go.RowKit Go.Sort

theorem al_parts {L : List It} {ps : List Int} {y : Int} (h : shErr L ps y = false) : ∀ k : Nat, k ≤ L.length → paT L k * y ≤ suK ps k * 2520
  | 0, _ => by simp [paT, suK, sumP]
  | k + 1, hk => by
    have ih := al_parts h k (by omega)
    have h1 := scan_none.1 h k (by omega)
    unfold shBad at h1
    rw [Bool.not_eq_false', clB_true, parts_one] at h1
    rw [paT_step, suK_step, Int.add_mul, Int.add_mul]
    omega
theorem al_facts {L : List It} {x y : Int} {ps : List Int} (h : alErr L x y ps = 0) : liErr L x y = 0 ∧ closeB L x y = true := by
  by_cases hv : vErr L = 0
  · by_cases h1 : limB x y = false ∨ ps.length ≠ L.length ∨ paErr ps = true
    · rw [al_1 hv h1] at h; cases h
    · have hl : limB x y = true := by
        cases hh : limB x y
        · exact absurd (.inl hh) h1
        · rfl
      have he : ps.length = L.length := Classical.byContradiction fun hh => h1 (.inr (.inl hh))
      have hp : paErr ps = false := by
        cases hh : paErr ps
        · rfl
        · exact absurd (.inr (.inr hh)) h1
      by_cases h4 : x < suK ps ps.length
      · rw [al_5 hv hl he hp h4] at h; cases h
      · cases h5 : shErr L ps y
        · have hli := li_ok hv hl
          refine ⟨hli, ?_⟩
          rw [close_ok hli, clB_true]
          have := al_parts h5 L.length (Nat.le_refl _)
          rw [he] at h4
          have e : parts L = paT L L.length := rfl
          rw [e]
          omega
        · rw [al_8 hv hl he hp h4 h5] at h; cases h
  · rw [al_v hv] at h; exact absurd h hv

set_option maxRecDepth 100000 in
set_option maxHeartbeats 3200000 in
theorem allows_w (a : Option Addr) (n c : Nat) (L : List It) (x y : Int) (pa : Option Addr) (p pc : Nat) (ps : List Int) (w : World) (h : SlO w a n L) (hc : n ≤ c) (hm : c ≤ maxLen) (hp : IsO w pa p ps) (hc2 : p ≤ pc) (hm2 : pc ≤ maxLen) :
    Calls Try.prog 12 #[.slice a n c, .agg #[.int .i64 x, .int .i64 y], .slice pa p pc] w fun e w' => e = .returned (.bool true) ∧ Below w.heap.size w w' := by
  have _ := hc
  have _ := hm
  have _ := hc2
  have _ := hm2
  have self := fun x : Int => (show (x != x) = false by simp)
  have selfe := fun x : Int => (show (x == x) = true by simp)
  have selfb := fun x : Bool => (show (x != x) = false by simp)
  have selfc := fun x : Bool => (show (x == x) = true by simp)
  cases hl : longB n
  case true =>
    go_enter Try.func12, Try.ntmps12
    go_wp2_with fail
    refine (Long_c _ _ _ _).mono ?_
    rintro e w1 ⟨rfl, hb1⟩
    have ha1 : Below w.heap.size w w1 := btr ((Below.refl _ _).alloc (Nat.le_refl _) _) hb1
    have D0 : Cell2 w1 w.heap.size x y := Cell2.below (w := w.alloc (.cells #[.int .i64 x, .int .i64 y] 25)) ⟨by simp [go_sem], by simp [go_sem], by simp [go_sem], by simp [go_sem]⟩ hb1
    have B1 : Below w.heap.size w w1 := btr ((Below.refl w.heap.size w).alloc (Nat.le_refl _) _) hb1
    simp only [hl]
    have D00 := D0.c0
    have D01 := D0.c1
    go_wp2_with fail
    refine (known_c _).mono ?_
    rintro e w2 ⟨rfl, hb2⟩
    clear D00 D01
    have B2 : Below w.heap.size w w2 := btr B1 hb2
    replace D0 := D0.below hb2
    have D00 := D0.c0
    have D01 := D0.c1
    go_wp2_with fail
    go_ret
    exact ⟨rfl, B2⟩
  case false =>
    by_cases h50 : 50 < p
    · have h50' : (50 : Int) < p := by omega
      go_enter Try.func12, Try.ntmps12
      go_wp2_with fail
      refine (Long_c _ _ _ _).mono ?_
      rintro e w1 ⟨rfl, hb1⟩
      have ha1 : Below w.heap.size w w1 := btr ((Below.refl _ _).alloc (Nat.le_refl _) _) hb1
      have D0 : Cell2 w1 w.heap.size x y := Cell2.below (w := w.alloc (.cells #[.int .i64 x, .int .i64 y] 25)) ⟨by simp [go_sem], by simp [go_sem], by simp [go_sem], by simp [go_sem]⟩ hb1
      have B1 : Below w.heap.size w w1 := btr ((Below.refl w.heap.size w).alloc (Nat.le_refl _) _) hb1
      simp only [hl]
      have D00 := D0.c0
      have D01 := D0.c1
      go_wp2_with fail
      refine (known_c _).mono ?_
      rintro e w2 ⟨rfl, hb2⟩
      clear D00 D01
      have B2 : Below w.heap.size w w2 := btr B1 hb2
      replace D0 := D0.below hb2
      have D00 := D0.c0
      have D01 := D0.c1
      go_wp2_with fail
      go_ret
      exact ⟨rfl, B2⟩
    · have h50' : ¬ (50 : Int) < p := by omega
      by_cases h0 : alErr L x y ps = 0
      · have hz : (alErr L x y ps != 0) = false := by simp [h0]
        obtain ⟨hli, hcl⟩ := al_facts h0
        have HLI := Lib.hid hli
        have HCL := Lib.hid hcl
        clear h0 hli hcl
        go_enter Try.func12, Try.ntmps12
        go_wp2_with fail
        refine (Long_c _ _ _ _).mono ?_
        rintro e w1 ⟨rfl, hb1⟩
        have ha1 : Below w.heap.size w w1 := btr ((Below.refl _ _).alloc (Nat.le_refl _) _) hb1
        have D0 : Cell2 w1 w.heap.size x y := Cell2.below (w := w.alloc (.cells #[.int .i64 x, .int .i64 y] 25)) ⟨by simp [go_sem], by simp [go_sem], by simp [go_sem], by simp [go_sem]⟩ hb1
        have B1 : Below w.heap.size w w1 := btr ((Below.refl w.heap.size w).alloc (Nat.le_refl _) _) hb1
        simp only [hl]
        have D00 := D0.c0
        have D01 := D0.c1
        go_wp2_with fail
        refine (Allow_c _ _ _ L x y _ _ _ ps _ (h.below B1 (Nat.le_refl _)) (hp.below B1 (Nat.le_refl _)) (by omega)).mono ?_
        rintro e w2 ⟨rfl, hb2⟩
        clear D00 D01
        have B2 : Below w.heap.size w w2 := btr B1 hb2
        replace D0 := D0.below hb2
        have D00 := D0.c0
        have D01 := D0.c1
        go_wp2_with fail
        refine (rAllow_c _ _ _ L x y _ _ _ ps _ (h.below B2 (Nat.le_refl _)) hc (hp.below B2 (Nat.le_refl _)) (by omega)).mono ?_
        rintro e w3 ⟨rfl, hb3⟩
        clear D00 D01
        have B3 : Below w.heap.size w w3 := btr B2 hb3
        replace D0 := D0.below hb3
        have D00 := D0.c0
        have D01 := D0.c1
        go_wp2_with fail
        refine (Closes_c _ _ _ L x y _ (h.below B3 (Nat.le_refl _))).mono ?_
        rintro e w4 ⟨rfl, hb4⟩
        clear D00 D01
        have B4 : Below w.heap.size w w4 := btr B3 hb4
        replace D0 := D0.below hb4
        rw [HLI.out, HCL.out]
        have D00 := D0.c0
        have D01 := D0.c1
        go_wp2_with fail
        refine (known_c _).mono ?_
        rintro e w5 ⟨rfl, hb5⟩
        clear D00 D01
        have B5 : Below w.heap.size w w5 := btr B4 hb5
        replace D0 := D0.below hb5
        have D00 := D0.c0
        have D01 := D0.c1
        go_wp2_with fail
        go_ret
        exact ⟨rfl, B5⟩
      · have hz : (alErr L x y ps != 0) = true := by simp [h0]
        clear h0
        go_enter Try.func12, Try.ntmps12
        go_wp2_with fail
        refine (Long_c _ _ _ _).mono ?_
        rintro e w1 ⟨rfl, hb1⟩
        have ha1 : Below w.heap.size w w1 := btr ((Below.refl _ _).alloc (Nat.le_refl _) _) hb1
        have D0 : Cell2 w1 w.heap.size x y := Cell2.below (w := w.alloc (.cells #[.int .i64 x, .int .i64 y] 25)) ⟨by simp [go_sem], by simp [go_sem], by simp [go_sem], by simp [go_sem]⟩ hb1
        have B1 : Below w.heap.size w w1 := btr ((Below.refl w.heap.size w).alloc (Nat.le_refl _) _) hb1
        simp only [hl]
        have D00 := D0.c0
        have D01 := D0.c1
        go_wp2_with fail
        refine (Allow_c _ _ _ L x y _ _ _ ps _ (h.below B1 (Nat.le_refl _)) (hp.below B1 (Nat.le_refl _)) (by omega)).mono ?_
        rintro e w2 ⟨rfl, hb2⟩
        clear D00 D01
        have B2 : Below w.heap.size w w2 := btr B1 hb2
        replace D0 := D0.below hb2
        have D00 := D0.c0
        have D01 := D0.c1
        go_wp2_with fail
        refine (rAllow_c _ _ _ L x y _ _ _ ps _ (h.below B2 (Nat.le_refl _)) hc (hp.below B2 (Nat.le_refl _)) (by omega)).mono ?_
        rintro e w3 ⟨rfl, hb3⟩
        clear D00 D01
        have B3 : Below w.heap.size w w3 := btr B2 hb3
        replace D0 := D0.below hb3
        have D00 := D0.c0
        have D01 := D0.c1
        go_wp2_with fail
        refine (Closes_c _ _ _ L x y _ (h.below B3 (Nat.le_refl _))).mono ?_
        rintro e w4 ⟨rfl, hb4⟩
        clear D00 D01
        have B4 : Below w.heap.size w w4 := btr B3 hb4
        replace D0 := D0.below hb4
        have D00 := D0.c0
        have D01 := D0.c1
        go_wp2_with fail
        refine (known_c _).mono ?_
        rintro e w5 ⟨rfl, hb5⟩
        clear D00 D01
        have B5 : Below w.heap.size w w5 := btr B4 hb5
        replace D0 := D0.below hb5
        have D00 := D0.c0
        have D01 := D0.c1
        go_wp2_with fail
        go_ret
        exact ⟨rfl, B5⟩
end Go.Proofs.Ytplindidegmlkaa
