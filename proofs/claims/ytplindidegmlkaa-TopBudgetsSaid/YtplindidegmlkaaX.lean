/- slices.Compare; the closure of cheapest. -/
import Derived.Test.YtplindidegmlkaaW
namespace Go.Proofs.Ytplindidegmlkaa
open Go.RowKit Go.Sort

theorem isNaN_c (x : Int) (w : World) : Calls Try.prog 103 #[.int .i64 x] w fun e w' => e = .returned (.bool false) ∧ w = w' := by
  have self : (x != x) = false := by simp
  go_enter Try.func103, Try.ntmps103
  go_wp2
  go_ret
  exact ⟨rfl, rfl⟩

/-- Which of two numbers is smaller. -/
def cmpN (x y : Int) : Int := if x < y then -1 else if y < x then 1 else 0
theorem cmpCompare_c (x y : Int) (w : World) : Calls Try.prog 102 #[.int .i64 x, .int .i64 y] w fun e w' => e = .returned (.int .i64 (cmpN x y)) ∧ w = w' := by
  by_cases h1 : x < y
  · have e : cmpN x y = -1 := if_pos h1
    rw [e]
    clear e
    go_enter Try.func102, Try.ntmps102
    go_wp2_with (go_at_call 103; refine (isNaN_c _ _).mono ?_; rintro e w' ⟨rfl, rfl⟩)
    go_ret
    exact ⟨rfl, rfl⟩
  · by_cases h2 : y < x
    · have e : cmpN x y = 1 := by unfold cmpN; rw [if_neg h1, if_pos h2]
      rw [e]
      clear e
      go_enter Try.func102, Try.ntmps102
      go_wp2_with (go_at_call 103; refine (isNaN_c _ _).mono ?_; rintro e w' ⟨rfl, rfl⟩)
      go_ret
      exact ⟨rfl, rfl⟩
    · have e : cmpN x y = 0 := by unfold cmpN; rw [if_neg h1, if_neg h2]
      rw [e]
      clear e
      go_enter Try.func102, Try.ntmps102
      go_wp2_with (go_at_call 103; refine (isNaN_c _ _).mono ?_; rintro e w' ⟨rfl, rfl⟩)
      go_ret
      exact ⟨rfl, rfl⟩

theorem cmp_ne {xs ys : List Int} {i : Nat} (hs : cmpL xs ys = cmpL (xs.drop i) (ys.drop i)) (hx : i < xs.length) (hy : i < ys.length) (h : cmpN (gi xs i) (gi ys i) ≠ 0) : cmpL xs ys = cmpN (gi xs i) (gi ys i) := by
  rw [hs, cmp_step hx hy]
  unfold cmpN at h ⊢
  by_cases h1 : gi xs i < gi ys i
  · rw [if_pos h1, if_pos h1]
  · by_cases h2 : gi ys i < gi xs i
    · rw [if_neg h1, if_neg h1, if_pos h2, if_pos h2]
    · rw [if_neg h1, if_neg h2] at h; exact absurd rfl h
theorem cmp_same {xs ys : List Int} {i : Nat} (hs : cmpL xs ys = cmpL (xs.drop i) (ys.drop i)) (hx : i < xs.length) (hy : i < ys.length) (h : cmpN (gi xs i) (gi ys i) = 0) : cmpL xs ys = cmpL (xs.drop (i + 1)) (ys.drop (i + 1)) := by
  rw [hs, cmp_step hx hy]
  unfold cmpN at h
  by_cases h1 : gi xs i < gi ys i
  · rw [if_pos h1] at h; simp at h
  · by_cases h2 : gi ys i < gi xs i
    · rw [if_neg h1, if_pos h2] at h; simp at h
    · rw [if_neg h1, if_neg h2]
theorem cmp_one {xs ys : List Int} {i : Nat} (hs : cmpL xs ys = cmpL (xs.drop i) (ys.drop i)) (hx : i < xs.length) (hy : ¬ i < ys.length) : cmpL xs ys = 1 := by rw [hs, cmp_long hx hy]
theorem cmp_less {xs ys : List Int} {i : Nat} (hs : cmpL xs ys = cmpL (xs.drop i) (ys.drop i)) (hx : ¬ i < xs.length) (hy : i < ys.length) : cmpL xs ys = -1 := by rw [hs, cmp_end hx, if_pos hy]
theorem cmp_eq {xs ys : List Int} {i : Nat} (hs : cmpL xs ys = cmpL (xs.drop i) (ys.drop i)) (hx : ¬ i < xs.length) (hy : ¬ i < ys.length) : cmpL xs ys = 0 := by rw [hs, cmp_end hx, if_neg hy]

set_option maxHeartbeats 1600000 in
theorem Compare_c (a : Option Addr) (n c : Nat) (xs : List Int) (a2 : Option Addr) (n2 c2 : Nat) (ys : List Int) (w : World) (h : IsO w a n xs) (h2 : IsO w a2 n2 ys) (hn : n ≤ 1000000) :
    Calls Try.prog 100 #[.slice a n c, .slice a2 n2 c2] w fun e w' => e = .returned (.int .i64 (cmpL xs ys)) ∧ Below w.heap.size w w' := by
  have HX := Lib.hid h.1
  have HY := Lib.hid h2.1
  have H1 := Lib.hid h
  have H2 := Lib.hid h2
  have C1 := fun i => Lib.hid (cmp_ne (xs := xs) (ys := ys) (i := i))
  have C2 := fun i => Lib.hid (cmp_same (xs := xs) (ys := ys) (i := i))
  have C3 := fun i => Lib.hid (cmp_one (xs := xs) (ys := ys) (i := i))
  have C4 := fun i => Lib.hid (cmp_less (xs := xs) (ys := ys) (i := i))
  have C5 := fun i => Lib.hid (cmp_eq (xs := xs) (ys := ys) (i := i))
  have C0 : Hid (cmpL xs ys = cmpL (xs.drop 0) (ys.drop 0)) := Lib.hid rfl
  generalize cmpL xs ys = R at *
  clear h h2
  go_enter Try.func100, Try.ntmps100
  go_wp2_with fail
  go_loopw [11] (fun i wr => ∃ k : Nat, k ≤ n ∧ k ≤ n2 ∧ i = .int .i64 k ∧ w = wr ∧ Hid (R = cmpL (xs.drop k) (ys.drop k))) (fun i _ => n - (intOf i).toNat)
  case atStart => exact ⟨0, Nat.zero_le _, Nat.zero_le _, rfl, rfl, C0⟩
  case round =>
    obtain ⟨k, hk, hk2, rfl, rfl, hF⟩ := hrel
    clear C0
    by_cases hlt : k < n
    · have hx : Hid (k < xs.length) := Lib.hid (by have := HX.out; omega)
      obtain ⟨b, o, rfl, hS⟩ : ∃ b o, a = some ⟨b, o, none⟩ ∧ Is w b o n xs := by
        rcases H1.out.2 with h' | h'
        · omega
        · exact h'
      have c0 := hS.c0 k hlt
      by_cases hlt2 : k < n2
      · have hy : Hid (k < ys.length) := Lib.hid (by have := HY.out; omega)
        obtain ⟨b2, o2, rfl, hS2⟩ : ∃ b o, a2 = some ⟨b, o, none⟩ ∧ Is w b o n2 ys := by
          rcases H2.out.2 with h' | h'
          · omega
          · exact h'
        have c1 := hS2.c0 k hlt2
        have D1 := Lib.hid ((C1 k).out hF.out hx.out hy.out)
        have D2 := Lib.hid ((C2 k).out hF.out hx.out hy.out)
        clear C1 C2 C3 C4 C5 hS hS2
        generalize gi xs k = x at *
        generalize gi ys k = y at *
        by_cases hc : cmpN x y = 0
        · have hcn : (cmpN x y != 0) = false := by simp [hc]
          have D := Lib.hid (D2.out hc)
          clear D1 D2 hc
          go_wp2_with fail
          refine (cmpCompare_c _ _ _).mono ?_
          rintro e w2 ⟨rfl, rfl⟩
          go_wp2_with fail
          exact ⟨⟨k + 1, by omega, by omega, by go_num, trivial, D⟩, by simp [intOf]; omega⟩
        · have hcn : (cmpN x y != 0) = true := by simp [hc]
          have D := Lib.hid (D1.out hc)
          clear D1 D2 hc
          go_wp2_with fail
          refine (cmpCompare_c _ _ _).mono ?_
          rintro e w2 ⟨rfl, rfl⟩
          go_wp2_with fail
          go_ret
          exact ⟨by rw [D.out]; rfl, Below.refl _ _⟩
      · have hy : Hid (¬ k < ys.length) := Lib.hid (by have := HY.out; omega)
        have D := Lib.hid ((C3 k).out hF.out hx.out hy.out)
        have hd2 : ¬ (k : Int) < n2 := by omega
        clear C1 C2 C3 C4 C5 hS
        go_wp2_with fail
        go_ret
        exact ⟨by rw [D.out]; rfl, Below.refl _ _⟩
    · have hx : Hid (¬ k < xs.length) := Lib.hid (by have := HX.out; omega)
      have hd : ¬ (k : Int) < n := by omega
      have hkn : k = n := by omega
      have HKN := Lib.hid hkn
      clear hkn
      by_cases hlt2 : k < n2
      · have hy : Hid (k < ys.length) := Lib.hid (by have := HY.out; omega)
        have D := Lib.hid ((C4 k).out hF.out hx.out hy.out)
        have hnn : n < n2 := by have := HKN.out; omega
        clear C1 C2 C3 C4 C5 hlt
        go_wp2_with fail
        go_ret
        exact ⟨by rw [D.out]; rfl, Below.refl _ _⟩
      · have hy : Hid (¬ k < ys.length) := Lib.hid (by have := HY.out; omega)
        have D := Lib.hid ((C5 k).out hF.out hx.out hy.out)
        have hnn : ¬ n < n2 := by have := HKN.out; omega
        clear C1 C2 C3 C4 C5 hlt
        go_wp2_with fail
        go_ret
        exact ⟨by rw [D.out]; rfl, Below.refl _ _⟩

theorem Is.set {w : World} {b o n p q : Nat} {xs : List Int} {u : Value} (h : Is w b o n xs) (hne : b ≠ p) : Is (w.setCell ⟨p, q, none⟩ u) b o n xs := by
  have e : ∀ j : Nat, (w.setCell ⟨p, q, none⟩ u).cell? ⟨b, j, none⟩ = w.cell? ⟨b, j, none⟩ := fun j => World.cell?_of_block (w := w) (Below.heap_setCell w ⟨p, q, none⟩ u b hne)
  exact ⟨h.len, by simpa [World.setCell] using h.lt, fun i hi => by rw [e]; exact h.c0 i hi⟩
theorem IsV.set {w : World} {B p q : Nat} {v : Value} {xs : List Int} {u : Value} (h : IsV w B v xs) (hp : p < B) : IsV (w.setCell ⟨p, q, none⟩ u) B v xs := by
  obtain ⟨a, c, h1, ⟨h2, h3⟩, h4, h5, h6⟩ := h
  refine ⟨a, c, h1, ⟨h2, ?_⟩, h4, h5, h6⟩
  rcases h3 with h3 | ⟨b, o, rfl, h3⟩
  · exact .inl h3
  · exact .inr ⟨b, o, rfl, h3.set (by have := h6 _ rfl; simp at this; omega)⟩
theorem IsV.mono {w : World} {B B' : Nat} {v : Value} {xs : List Int} (h : IsV w B v xs) (hB : B' ≤ B) : IsV w B' v xs := by
  obtain ⟨a, c, h1, h2, h4, h5, h6⟩ := h
  exact ⟨a, c, h1, h2, h4, h5, fun x hx => Nat.le_trans hB (h6 x hx)⟩

theorem cell_set_ne {w : World} {b o p q : Nat} {u v : Value} (h : w.cell? ⟨b, o, none⟩ = some v) (hne : b ≠ p) : (w.setCell ⟨p, q, none⟩ u).cell? ⟨b, o, none⟩ = some v := by
  rw [World.cell?_of_block (w := w) (Below.heap_setCell w ⟨p, q, none⟩ u b hne)]; exact h
theorem fz_set_ne {w : World} {b o p q : Nat} {u : Value} (h : w.frozen? ⟨b, o, none⟩ = false) (hne : b ≠ p) : (w.setCell ⟨p, q, none⟩ u).frozen? ⟨b, o, none⟩ = false := by
  rw [World.frozen?_of_block (w := w) (Below.heap_setCell w ⟨p, q, none⟩ u b hne)]; exact h

theorem IsV.isO {w : World} {B n c : Nat} {a : Option Addr} {xs : List Int} (h : IsV w B (.slice a n c) xs) : IsO w a n xs := by
  obtain ⟨a', c', h1, h2, _⟩ := h
  cases h1
  exact h2

/-- A cell that holds a value and may be written. -/
structure Var (w : World) (b : Nat) (v : Value) : Prop where
  c : w.cell? ⟨b, 0, none⟩ = some v
  f : w.frozen? ⟨b, 0, none⟩ = false
theorem Var.lt {w : World} {b : Nat} {v : Value} (h : Var w b v) : b < w.heap.size := block_lt_of_cell h.c
theorem Var.below {w w' : World} {b : Nat} {v : Value} (h : Var w b v) (hb : Below w.heap.size w w') : Var w' b v :=
  ⟨cellB hb h.c, by rw [hb.frozen (p := ⟨b, 0, none⟩) h.lt]; exact h.f⟩
theorem Var.set {w : World} {b p q : Nat} {u v : Value} (h : Var w b v) (hne : b ≠ p) : Var (w.setCell ⟨p, q, none⟩ u) b v := ⟨cell_set_ne h.c hne, fz_set_ne h.f hne⟩
theorem Var.put {w : World} {b : Nat} {v : Value} (h : Var w b v) (u : Value) : Var (w.setCell ⟨b, 0, none⟩ u) b u := ⟨by simp [go_sem, h.c], by simp [go_sem, h.f]⟩

/-- What cheapest keeps while it goes through the choices: its limit, the best choice, its cost, whether there is one. -/
structure ChI (w0 w : World) (x y : Int) (st : Bst) : Prop where
  bel : Below w0.heap.size w0 w
  lim : Cell2 w w0.heap.size x y
  best : ∃ v, Var w (w0.heap.size + 1) v ∧ IsV w (w0.heap.size + 4) v st.best
  least : Var w (w0.heap.size + 2) (.int .i64 st.least)
  some : Var w (w0.heap.size + 3) (.bool st.some)
  len : st.best.length ≤ 1000
theorem ChI.below {w0 w w' : World} {x y : Int} {st : Bst} (h : ChI w0 w x y st) (hb : Below w.heap.size w w') : ChI w0 w' x y st := by
  obtain ⟨v, h1, h2⟩ := h.best
  exact ⟨btr h.bel hb, h.lim.below hb, ⟨v, h1.below hb, h2.below hb⟩, h.least.below hb, h.some.below hb, h.len⟩
theorem ChI.store {w0 w : World} {x y : Int} {st : Bst} (h : ChI w0 w x y st) {v : Value} {ch : List Int} (hv : IsV w (w0.heap.size + 4) v ch) (hl : ch.length ≤ 1000) (c : Int) :
    ChI w0 (((w.setCell ⟨w0.heap.size + 1, 0, none⟩ v).setCell ⟨w0.heap.size + 2, 0, none⟩ (.int .i64 c)).setCell ⟨w0.heap.size + 3, 0, none⟩ (.bool true)) x y ⟨ch, c, true⟩ := by
  obtain ⟨v0, h1, h2⟩ := h.best
  refine ⟨((h.bel.setCell (Nat.le_add_right _ _) _).setCell (Nat.le_add_right _ _) _).setCell (Nat.le_add_right _ _) _, ((h.lim.set (by omega)).set (by omega)).set (by omega), ⟨v, ((h1.put v).set (by omega)).set (by omega), ((hv.set (by omega)).set (by omega)).set (by omega)⟩, ((h.least.set (by omega)).put _).set (by omega), ((h.some.set (by omega)).set (by omega)).put _, hl⟩

/-- The state goes on. -/
def ChRet (w0 : World) (x y : Int) (st : Bst) (e : Ending) (w' : World) : Prop := e = .returned (.tuple #[]) ∧ ChI w0 w' x y st

theorem st_no {L : List It} {F : List Fx} {x y : Int} {st : Bst} {ch : List Int} (h : clB (wiL L F ch) x y = false) : stepC (cdB L F x y) (wcL F) st ch = st := by
  unfold stepC cdB; rw [h]; rfl
theorem st_yes {L : List It} {F : List Fx} {x y : Int} {st : Bst} {ch : List Int} (h : clB (wiL L F ch) x y = true) : stepC (cdB L F x y) (wcL F) st ch = if betterC (wcL F) st ch = true then ⟨ch, wcL F ch, true⟩ else st := by
  unfold stepC cdB; rw [h]; rfl

set_option maxRecDepth 100000 in
set_option maxHeartbeats 3200000 in
theorem clo99 (w0 W : World) (x y : Int) (st : Bst) (L : List It) (F : List Fx) (ch : List Int) (ca : Option Addr) (cc : Nat) (oa : Option Addr) (n oc : Nat) (hI : ChI w0 W x y st) (hc : IsV W (w0.heap.size + 4) (.slice ca ch.length cc) ch) (hl : ch.length ≤ 1000)
    (ho : SlO W oa n (wiL L F ch)) (hv : Valid (wiL L F ch)) (hlim : limB x y = true) :
    Calls Try.prog 99 #[.slice ca ch.length cc, .slice oa n oc, .int .i64 (wcL F ch), .pointer (some ⟨w0.heap.size, 0, none⟩), .pointer (some ⟨w0.heap.size + 3, 0, none⟩), .pointer (some ⟨w0.heap.size + 2, 0, none⟩), .pointer (some ⟨w0.heap.size + 1, 0, none⟩)] W (ChRet w0 x y (stepC (cdB L F x y) (wcL F) st ch)) := by
  have S1 : Hid (clB (wiL L F ch) x y = false → stepC (cdB L F x y) (wcL F) st ch = st) := Lib.hid st_no
  have S2 : Hid (clB (wiL L F ch) x y = true → stepC (cdB L F x y) (wcL F) st ch = if betterC (wcL F) st ch = true then ⟨ch, wcL F ch, true⟩ else st) := Lib.hid st_yes
  have HB : Hid (betterC (wcL F) st ch = (!st.some || decide (wcL F ch < st.least) || (decide (wcL F ch = st.least) && decide (cmpL ch st.best < 0)))) := Lib.hid rfl
  generalize stepC (cdB L F x y) (wcL F) st ch = st' at *
  generalize betterC (wcL F) st ch = bt at *
  generalize hM : wiL L F ch = M at *
  clear hM
  have HI := Lib.hid hI
  have HC := Lib.hid hc
  have HO := Lib.hid ho
  have HL := Lib.hid hl
  have l0 := hI.lim.c0
  have l1 := hI.lim.c1
  clear hc ho hI
  cases hcl : clB M x y
  · have HX := Lib.hid (Calls.val (closes_c oa n oc M x y W HO.out hv hlim) (vb hcl))
    have HS := Lib.hid (S1.out hcl)
    clear hcl S1 S2 hv hlim
    go_enter Try.func99, Try.ntmps99
    go_wp2_with fail
    refine HX.out.mono ?_
    rintro e w1 ⟨rfl, hb1⟩
    go_wp2_with fail
    refine bodyPost_ret (results_none rfl _ _ _) rfl ?_
    refine ⟨rfl, ?_⟩
    rw [HS.out]
    exact HI.out.below hb1
  · have HX := Lib.hid (Calls.val (closes_c oa n oc M x y W HO.out hv hlim) (vb hcl))
    have HS2 := Lib.hid (S2.out hcl)
    clear hcl S1 S2 hv hlim
    cases hs : st.some
    · have HS : Hid (st' = ⟨ch, wcL F ch, true⟩) := Lib.hid (by rw [HS2.out, HB.out, hs]; rfl)
      go_enter Try.func99, Try.ntmps99
      go_wp2_with fail
      refine HX.out.mono ?_
      rintro e w1 ⟨rfl, hb1⟩
      have HI1 := Lib.hid (HI.out.below hb1)
      have HC1 := Lib.hid (HC.out.below hb1)
      obtain ⟨vb0, hvb0, hbv⟩ := HI1.out.best
      obtain ⟨ba, bc, rfl, bI, bl, bm, bq⟩ := hbv
      have HBI := Lib.hid bI
      have m0 := HI1.out.some.c
      have m1 := HI1.out.least.c
      have m2 := hvb0.c
      have m3 := HI1.out.some.f
      have m4 := HI1.out.least.f
      have m5 := hvb0.f
      clear l0 l1 hvb0 bI bq hb1
      rw [hs] at m0
      clear hs
      go_wp2_with fail
      refine bodyPost_ret (results_none rfl _ _ _) rfl ?_
      refine ⟨rfl, ?_⟩
      rw [HS.out]
      exact HI1.out.store HC1.out HL.out _
    · by_cases h1 : wcL F ch < st.least
      · have h1' : decide (wcL F ch < st.least) = true := decT h1
        have HS : Hid (st' = ⟨ch, wcL F ch, true⟩) := Lib.hid (by rw [HS2.out, HB.out, hs, h1']; rfl)
        go_enter Try.func99, Try.ntmps99
        go_wp2_with fail
        refine HX.out.mono ?_
        rintro e w1 ⟨rfl, hb1⟩
        have HI1 := Lib.hid (HI.out.below hb1)
        have HC1 := Lib.hid (HC.out.below hb1)
        obtain ⟨vb0, hvb0, hbv⟩ := HI1.out.best
        obtain ⟨ba, bc, rfl, bI, bl, bm, bq⟩ := hbv
        have HBI := Lib.hid bI
        have m0 := HI1.out.some.c
        have m1 := HI1.out.least.c
        have m2 := hvb0.c
        have m3 := HI1.out.some.f
        have m4 := HI1.out.least.f
        have m5 := hvb0.f
        clear l0 l1 hvb0 bI bq hb1
        rw [hs] at m0
        clear hs h1
        go_wp2_with fail
        refine bodyPost_ret (results_none rfl _ _ _) rfl ?_
        refine ⟨rfl, ?_⟩
        rw [HS.out]
        exact HI1.out.store HC1.out HL.out _
      · have h1' : decide (wcL F ch < st.least) = false := decF h1
        by_cases h2 : wcL F ch = st.least
        · have h2' : decide (wcL F ch = st.least) = true := decT h2
          have H2 := Lib.hid h2
          have h2'' : (wcL F ch == st.least) = true := by simpa using h2
          by_cases h3 : cmpL ch st.best < 0
          · have h3' : decide (cmpL ch st.best < 0) = true := decT h3
            have HS : Hid (st' = ⟨ch, wcL F ch, true⟩) := Lib.hid (by rw [HS2.out, HB.out, hs, h2', h3']; simp)
            go_enter Try.func99, Try.ntmps99
            go_wp2_with fail
            refine HX.out.mono ?_
            rintro e w1 ⟨rfl, hb1⟩
            have HI1 := Lib.hid (HI.out.below hb1)
            have HC1 := Lib.hid (HC.out.below hb1)
            obtain ⟨vb0, hvb0, hbv⟩ := HI1.out.best
            obtain ⟨ba, bc, rfl, bI, bl, bm, bq⟩ := hbv
            have HBI := Lib.hid bI
            have m0 := HI1.out.some.c
            have m1 := HI1.out.least.c
            have m2 := hvb0.c
            have m3 := HI1.out.some.f
            have m4 := HI1.out.least.f
            have m5 := hvb0.f
            clear l0 l1 hvb0 bI bq hb1
            rw [hs] at m0
            have HL2 := Lib.hid HI1.out.len
            clear hs h1 h2 h2'
            go_wp2_with fail
            refine (Compare_c _ _ _ ch _ _ _ st.best _ HC1.out.isO HBI.out (Nat.le_trans HL.out (by decide))).mono ?_
            rintro e w2 ⟨rfl, hb2⟩
            have HI2 := Lib.hid (HI1.out.below hb2)
            have HC2 := Lib.hid (HC1.out.below hb2)
            have d3 : decide (cmpL ch st.best < 0) = true := decT h3
            obtain ⟨vb1, hvb1, -⟩ := HI2.out.best
            have n0 := HI2.out.some.c
            have n1 := HI2.out.least.c
            have n2 := hvb1.c
            have n3 := HI2.out.some.f
            have n4 := HI2.out.least.f
            have n5 := hvb1.f
            clear m0 m1 m2 m3 m4 m5 h3 hb2 hvb1
            go_wp2_with fail
            refine bodyPost_ret (results_none rfl _ _ _) rfl ?_
            refine ⟨rfl, ?_⟩
            rw [HS.out, H2.out]
            exact HI2.out.store HC2.out HL.out _
          · have h3' : decide (cmpL ch st.best < 0) = false := decF h3
            have HS : Hid (st' = st) := Lib.hid (by rw [HS2.out, HB.out, hs, h2', h3', h1']; rfl)
            go_enter Try.func99, Try.ntmps99
            go_wp2_with fail
            refine HX.out.mono ?_
            rintro e w1 ⟨rfl, hb1⟩
            have HI1 := Lib.hid (HI.out.below hb1)
            have HC1 := Lib.hid (HC.out.below hb1)
            obtain ⟨vb0, hvb0, hbv⟩ := HI1.out.best
            obtain ⟨ba, bc, rfl, bI, bl, bm, bq⟩ := hbv
            have HBI := Lib.hid bI
            have m0 := HI1.out.some.c
            have m1 := HI1.out.least.c
            have m2 := hvb0.c
            have m3 := HI1.out.some.f
            have m4 := HI1.out.least.f
            have m5 := hvb0.f
            clear l0 l1 hvb0 bI bq hb1
            rw [hs] at m0
            have HL2 := Lib.hid HI1.out.len
            clear hs h1 h2 h2'
            go_wp2_with fail
            refine (Compare_c _ _ _ ch _ _ _ st.best _ HC1.out.isO HBI.out (Nat.le_trans HL.out (by decide))).mono ?_
            rintro e w2 ⟨rfl, hb2⟩
            have HI2 := Lib.hid (HI1.out.below hb2)
            have HC2 := Lib.hid (HC1.out.below hb2)
            have d3 : decide (cmpL ch st.best < 0) = false := decF (by omega)
            obtain ⟨vb1, hvb1, -⟩ := HI2.out.best
            have n0 := HI2.out.some.c
            have n1 := HI2.out.least.c
            have n2 := hvb1.c
            have n3 := HI2.out.some.f
            have n4 := HI2.out.least.f
            have n5 := hvb1.f
            clear m0 m1 m2 m3 m4 m5 h3 hb2 hvb1
            go_wp2_with fail
            refine bodyPost_ret (results_none rfl _ _ _) rfl ?_
            refine ⟨rfl, ?_⟩
            rw [HS.out]
            exact HI2.out
        · have h2' : decide (wcL F ch = st.least) = false := decF h2
          have h2'' : (wcL F ch == st.least) = false := by simpa using h2
          have HS : Hid (st' = st) := Lib.hid (by rw [HS2.out, HB.out, hs, h2', h1']; rfl)
          go_enter Try.func99, Try.ntmps99
          go_wp2_with fail
          refine HX.out.mono ?_
          rintro e w1 ⟨rfl, hb1⟩
          have HI1 := Lib.hid (HI.out.below hb1)
          have HC1 := Lib.hid (HC.out.below hb1)
          obtain ⟨vb0, hvb0, hbv⟩ := HI1.out.best
          obtain ⟨ba, bc, rfl, bI, bl, bm, bq⟩ := hbv
          have HBI := Lib.hid bI
          have m0 := HI1.out.some.c
          have m1 := HI1.out.least.c
          have m2 := hvb0.c
          have m3 := HI1.out.some.f
          have m4 := HI1.out.least.f
          have m5 := hvb0.f
          clear l0 l1 hvb0 bI bq hb1
          rw [hs] at m0
          clear hs h1 h2 h2'
          go_wp2_with fail
          refine bodyPost_ret (results_none rfl _ _ _) rfl ?_
          refine ⟨rfl, ?_⟩
          rw [HS.out]
          exact HI1.out
end Go.Proofs.Ytplindidegmlkaa
