/- Fractions in lowest terms; slices of pairs; the edges. -/
import Derived.Test.YtbmbogaejmgloaaD
import Derived.Test.YtbmbogaejmgloaaU
namespace Go.Proofs.Ytbmbogaejmgloaa
open Go.RowKit Go.Sort

structure Cell2 (w : World) (b : Nat) (x y : Int) : Prop where
  c0 : w.cell? ⟨b, 0, none⟩ = some (.int .i64 x)
  c1 : w.cell? ⟨b, 1, none⟩ = some (.int .i64 y)
  f0 : w.frozen? ⟨b, 0, none⟩ = false
  f1 : w.frozen? ⟨b, 1, none⟩ = false

theorem Cell2.lt {w : World} {b : Nat} {x y : Int} (h : Cell2 w b x y) : b < w.heap.size := block_lt_of_cell h.c0
theorem Cell2.below {w w' : World} {b : Nat} {x y : Int} (h : Cell2 w b x y) (hb : Below w.heap.size w w') : Cell2 w' b x y :=
  ⟨cellB hb h.c0, cellB hb h.c1, by rw [hb.frozen (p := ⟨b, 0, none⟩) h.lt]; exact h.f0, by rw [hb.frozen (p := ⟨b, 1, none⟩) h.lt]; exact h.f1⟩
theorem Cell2.drew {w : World} {b : Nat} {x y : Int} (h : Cell2 w b x y) : Cell2 w.drew b x y := ⟨h.c0, h.c1, h.f0, h.f1⟩
theorem Cell2.set {w : World} {b p q : Nat} {x y : Int} {u : Value} (h : Cell2 w b x y) (hne : b ≠ p) : Cell2 (w.setCell ⟨p, q, none⟩ u) b x y := by
  have e : ∀ o : Nat, (w.setCell ⟨p, q, none⟩ u).cell? ⟨b, o, none⟩ = w.cell? ⟨b, o, none⟩ := fun o => World.cell?_of_block (w := w) (Below.heap_setCell w ⟨p, q, none⟩ u b hne)
  have f : ∀ o : Nat, (w.setCell ⟨p, q, none⟩ u).frozen? ⟨b, o, none⟩ = w.frozen? ⟨b, o, none⟩ := fun o => World.frozen?_of_block (w := w) (Below.heap_setCell w ⟨p, q, none⟩ u b hne)
  exact ⟨by rw [e]; exact h.c0, by rw [e]; exact h.c1, by rw [f]; exact h.f0, by rw [f]; exact h.f1⟩

theorem mul_bd {a b A B : Int} (h1 : 0 ≤ a) (h2 : a ≤ A) (h3 : 0 ≤ b) (h4 : b ≤ B) : 0 ≤ a * b ∧ a * b ≤ A * B := by
  have p1 : a * b ≤ A * b := Int.mul_le_mul_of_nonneg_right h2 h3
  have p2 : A * b ≤ A * B := Int.mul_le_mul_of_nonneg_left h4 (by omega)
  exact ⟨Int.mul_nonneg h1 h3, by omega⟩

set_option maxHeartbeats 800000 in
theorem ratio_c (n d : Int) (w : World) (hn : 0 ≤ n) (hn' : n ≤ 1000000000000) (hd : 0 < d) (hd' : d ≤ 1000000000000) :
    Calls Try.prog 62 #[.int .i64 n, .int .i64 d] w fun e w' => e = .returned (.agg #[.int .i64 (redN n d), .int .i64 (redD n d)]) ∧ Below w.heap.size w w' := by
  have hA : Below w.heap.size w (w.alloc (.cells #[.int .i64 0, .int .i64 0] 44)) := (Below.refl _ _).alloc (Nat.le_refl _) _
  have hC : Cell2 (w.alloc (.cells #[.int .i64 0, .int .i64 0] 44)) w.heap.size 0 0 := ⟨by simp [go_sem], by simp [go_sem], by simp [go_sem], by simp [go_sem]⟩
  have HA := Lib.hid hA
  have HC := Lib.hid hC
  have g0 := gcdI_pos (a := n) hd
  have hgn : redN n d = n / gcdI n d := rfl
  have hgd : redD n d = d / gcdI n d := rfl
  rw [hgn, hgd]
  generalize hg : gcdI n d = g at *
  have HG := Lib.hid hg
  clear hg hgn hgd hA hC
  go_enter Try.func62, Try.ntmps62
  go_wp2_with fail
  go_loopw [5, 6] (fun u v wr => ∃ x y : Int, u = .int .i64 x ∧ v = .int .i64 y ∧ 0 ≤ x ∧ x ≤ 1000000000000 ∧ 0 ≤ y ∧ y ≤ 1000000000000 ∧ gcdI x y = g ∧ Below w.heap.size w wr ∧ Cell2 wr w.heap.size 0 0) (fun _ v _ => (intOf v).toNat)
  case atStart => exact ⟨n, d, rfl, rfl, hn, hn', Int.le_of_lt hd, hd', HG.out, HA.out, HC.out⟩
  case round =>
    obtain ⟨x, y, rfl, rfl, hx, hx', hy, hy', hgg, hb, hC⟩ := hrel
    have HG1 := Lib.hid hgg
    have HC1 := Lib.hid hC
    clear hgg HG HA HC hC
    by_cases h0 : y = 0
    · have hne : (y != 0) = false := by simp [h0]
      have HX : Hid (x = g) := Lib.hid (by have := HG1.out; rw [h0, gcdI_zero hx] at this; exact this)
      rw [HX.out]
      have c0 := HC1.out.c0
      have c1 := HC1.out.c1
      have f0 := HC1.out.f0
      have f1 := HC1.out.f1
      have g1 : 1 ≤ g := by omega
      have d0 : 0 ≤ d := by omega
      clear h0
      go_wp2_with fail
      go_region
      go_wp2_with fail
      refine bodyPost_ret (v := .agg #[.int .i64 (n / g), .int .i64 (d / g)]) (by simp [results, Try.results62, go_sem, c0, c1]) rfl ⟨rfl, ?_⟩
      go_grown
    · have hne : (y != 0) = true := by simp [h0]
      have hy0 : 0 < y := by omega
      have m0 : 0 ≤ x % y := Int.emod_nonneg _ h0
      have m1 : x % y < y := Int.emod_lt_of_pos _ hy0
      have HS : Hid (gcdI y (x % y) = g) := Lib.hid (by rw [gcdI_step]; exact HG1.out)
      clear h0
      go_wp2_with fail
      refine wp_region_B (by kernel_rfl) (by kernel_rfl) ?_
      repeat (go_big_quiet_step (fail))
      refine wpQuiet_nil ?_
      intro w3 hb3
      go_wp2_with fail
      exact ⟨⟨y, x % y, rfl, rfl, hy, hy', m0, by omega, HS.out, btr hb hb3, HC1.out.below hb3⟩, by simp [intOf]; omega⟩

set_option maxHeartbeats 800000 in
theorem rRatio_c (n d : Int) (w : World) (hn : 0 ≤ n) (hn' : n ≤ 1000000000000) (hd : 0 < d) (hd' : d ≤ 1000000000000) :
    Calls Try.prog 70 #[.int .i64 n, .int .i64 d] w fun e w' => e = .returned (.agg #[.int .i64 (redN n d), .int .i64 (redD n d)]) ∧ Below w.heap.size w w' := by
  have hA : Below w.heap.size w (w.alloc (.cells #[.int .i64 0, .int .i64 0] 44)) := (Below.refl _ _).alloc (Nat.le_refl _) _
  have hC : Cell2 (w.alloc (.cells #[.int .i64 0, .int .i64 0] 44)) w.heap.size 0 0 := ⟨by simp [go_sem], by simp [go_sem], by simp [go_sem], by simp [go_sem]⟩
  have HA := Lib.hid hA
  have HC := Lib.hid hC
  have g0 := gcdI_pos (a := n) hd
  have hgn : redN n d = n / gcdI n d := rfl
  have hgd : redD n d = d / gcdI n d := rfl
  rw [hgn, hgd]
  generalize hg : gcdI n d = g at *
  have HG := Lib.hid hg
  clear hg hgn hgd hA hC
  go_enter Try.func70, Try.ntmps70
  go_wp2_with fail
  go_loopw [5, 6] (fun u v wr => ∃ x y : Int, u = .int .i64 x ∧ v = .int .i64 y ∧ 0 ≤ x ∧ x ≤ 1000000000000 ∧ 0 ≤ y ∧ y ≤ 1000000000000 ∧ gcdI x y = g ∧ Below w.heap.size w wr ∧ Cell2 wr w.heap.size 0 0) (fun _ v _ => (intOf v).toNat)
  case atStart => exact ⟨n, d, rfl, rfl, hn, hn', Int.le_of_lt hd, hd', HG.out, HA.out, HC.out⟩
  case round =>
    obtain ⟨x, y, rfl, rfl, hx, hx', hy, hy', hgg, hb, hC⟩ := hrel
    have HG1 := Lib.hid hgg
    have HC1 := Lib.hid hC
    clear hgg HG HA HC hC
    by_cases h0 : y = 0
    · have hne : (y != 0) = false := by simp [h0]
      have HX : Hid (x = g) := Lib.hid (by have := HG1.out; rw [h0, gcdI_zero hx] at this; exact this)
      rw [HX.out]
      have c0 := HC1.out.c0
      have c1 := HC1.out.c1
      have f0 := HC1.out.f0
      have f1 := HC1.out.f1
      have g1 : 1 ≤ g := by omega
      have d0 : 0 ≤ d := by omega
      clear h0
      go_wp2_with fail
      go_region
      go_wp2_with fail
      refine bodyPost_ret (v := .agg #[.int .i64 (n / g), .int .i64 (d / g)]) (by simp [results, Try.results70, go_sem, c0, c1]) rfl ⟨rfl, ?_⟩
      go_grown
    · have hne : (y != 0) = true := by simp [h0]
      have hy0 : 0 < y := by omega
      have m0 : 0 ≤ x % y := Int.emod_nonneg _ h0
      have m1 : x % y < y := Int.emod_lt_of_pos _ hy0
      have HS : Hid (gcdI y (x % y) = g) := Lib.hid (by rw [gcdI_step]; exact HG1.out)
      clear h0
      go_wp2_with fail
      skip
      exact ⟨⟨y, x % y, rfl, rfl, hy, hy', m0, by omega, HS.out, hb, HC1.out⟩, by simp [intOf]; omega⟩

/-! ### Pairs -/

structure P2 (w : World) (b o n : Nat) (xs : List (Int × Int)) : Prop where
  len : n = xs.length
  lt : b < w.heap.size
  c0 : ∀ i, i < n → w.cell? ⟨b, o + i * 2, none⟩ = some (.int .i64 (pr xs i).1)
  c1 : ∀ i, i < n → w.cell? ⟨b, o + i * 2 + 1, none⟩ = some (.int .i64 (pr xs i).2)
theorem P2.below {w w' : World} {B b o n : Nat} {xs : List (Int × Int)} (h : P2 w b o n xs) (hb : Below B w w') (hB : w.heap.size ≤ B) : P2 w' b o n xs :=
  have hl : b < B := Nat.lt_of_lt_of_le h.lt hB
  ⟨h.len, Nat.lt_of_lt_of_le h.lt hb.size, fun i hi => by rw [hb.cell (p := ⟨b, _, none⟩) hl]; exact h.c0 i hi, fun i hi => by rw [hb.cell (p := ⟨b, _, none⟩) hl]; exact h.c1 i hi⟩
def P2O (w : World) (a : Option Addr) (n : Nat) (xs : List (Int × Int)) : Prop := n = xs.length ∧ (n = 0 ∨ ∃ b o, a = some ⟨b, o, none⟩ ∧ P2 w b o n xs)
def P2V (w : World) (B : Nat) (v : Value) (xs : List (Int × Int)) : Prop :=
  ∃ a c, v = .slice a xs.length c ∧ P2O w a xs.length xs ∧ xs.length ≤ c ∧ c ≤ maxLen ∧ ∀ x : Addr, a = some x → B ≤ x.block
def p2Cells (xs : List (Int × Int)) : List Value := xs.flatMap fun x => [.int .i64 x.1, .int .i64 x.2]
theorem p2Cells_length (xs : List (Int × Int)) : (p2Cells xs).length = xs.length * 2 := by
  induction xs with
  | nil => rfl
  | cons x L ih => simp only [p2Cells, List.flatMap_cons, List.length_append, List.length_cons, List.length_nil] at *; omega
theorem p2Cells_at : ∀ (L : List (Int × Int)) (i : Nat), i < L.length → (p2Cells L)[i * 2]? = some (.int .i64 (pr L i).1) ∧ (p2Cells L)[i * 2 + 1]? = some (.int .i64 (pr L i).2)
  | [], i, h => absurd h (by simp)
  | x :: L, 0, _ => ⟨rfl, rfl⟩
  | x :: L, i + 1, h => by
    obtain ⟨h1, h2⟩ := p2Cells_at L i (by simpa using h)
    have e : ∀ k, (p2Cells (x :: L))[k + 2]? = (p2Cells L)[k]? := fun k => by simp [p2Cells]
    have ea : pr (x :: L) (i + 1) = pr L i := rfl
    rw [ea]
    refine ⟨?_, ?_⟩
    · rw [show (i + 1) * 2 = i * 2 + 2 by omega, e]; exact h1
    · rw [show (i + 1) * 2 + 1 = (i * 2 + 1) + 2 by omega, e]; exact h2
theorem p2Cells_snoc (L : List (Int × Int)) (x : Int × Int) : p2Cells (L ++ [x]) = p2Cells L ++ [.int .i64 x.1, .int .i64 x.2] := by simp [p2Cells]
theorem ownsRow_p2 {w : World} {base : Nat} {e : TypeId} {v : Value} {n : Nat} {L : List (Int × Int)} (h : w.ownsRow base e 2 v n (p2Cells L)) : P2V w base v L := by
  obtain ⟨h1, h2⟩ := h
  have hn : n = L.length := by rw [p2Cells_length] at h1; omega
  subst hn
  rcases h2 with ⟨rfl, h0⟩ | ⟨g, cap, cur, hv, hg, hh, hc1, hc2, hsz, htk⟩
  · have : L = [] := List.eq_nil_of_length_eq_zero h0
    subst this
    exact ⟨none, 0, rfl, ⟨rfl, .inl rfl⟩, Nat.le_refl _, Nat.zero_le _, fun _ h => by cases h⟩
  · subst hv
    have hown : w.ownsRow base e 2 (.slice (some ⟨g, 0, none⟩) L.length cap) L.length (p2Cells L) :=
      ⟨p2Cells_length L, .inr ⟨g, cap, cur, rfl, hg, hh, hc1, hc2, hsz, htk⟩⟩
    refine ⟨some ⟨g, 0, none⟩, cap, rfl, ⟨rfl, .inr ⟨g, 0, rfl, ⟨rfl, ?_, fun i hi => ?_, fun i hi => ?_⟩⟩⟩, hc1, hc2, fun x hx => by cases hx; exact hg⟩
    · exact (Array.getElem?_eq_some_iff.1 hh).1
    · rw [Nat.zero_add, hown.cellAt _ (by omega)]; exact (p2Cells_at L i hi).1
    · rw [Nat.zero_add, hown.cellAt _ (by omega)]; exact (p2Cells_at L i hi).2

/-- A row that a call owns is no block of another type. -/
theorem own_ne_type {w : World} {base : Nat} {e t : TypeId} {size : Nat} {v : Value} {n : Nat} {xs : List Value} {B : Nat} {c : Array Value} (h : w.ownsRow base e size v n xs) (hB : w.heap[B]? = some (.cells c t (0, 0))) (hne : t ≠ e) : v.ownBlock ≠ some B := by
  intro hv
  obtain ⟨h1, h2⟩ := h
  rcases h2 with ⟨rfl, h0⟩ | ⟨g, cap, cur, rfl, hg, hh, _⟩
  · cases hv
  · have : g = B := by simpa [Value.ownBlock] using hv
    subst this
    rw [hh] at hB
    cases hB
    exact hne rfl

theorem info71 : (Try.prog.info? 71).map (fun i => (i.zero, i.size, i.bytes)) = some (some (.agg #[.int .i64 0, .int .i64 0]), 2, 16) := by kernel_rfl
/-- A new block of two cells. -/
theorem cells2_new (w : World) (x y : Value) (t : TypeId) : ∀ j u, [x, y][j]? = some u → (w.alloc (.cells #[x, y] t)).cell? ((⟨w.heap.size, 0, none⟩ : Addr).add j) = some u := by
  intro j u hj
  match j, hj with
  | 0, hj => simp at hj; subst hj; simp [go_sem, Addr.add]
  | 1, hj => simp at hj; subst hj; simp [go_sem, Addr.add]
  | j + 2, hj => simp at hj
theorem one2 (a b : Int) : ∀ u ∈ [Value.int .i64 a, .int .i64 b], u.oneCell' = true := by simp [Value.oneCell']

/-- A slice of pairs comes back. -/
def RetP2 (w : World) (xs : List (Int × Int)) (e : Ending) (w' : World) : Prop :=
  ∃ v, e = .returned v ∧ P2V w' w.heap.size v xs ∧ Below w.heap.size w w'

theorem ed_yes {L : List Jb} {j k : Nat} (h : edB L j k = true) : eIn L j (k + 1) = eIn L j k ++ [((at_ L j).s, (at_ L k).e)] := by rw [eIn, if_pos h]
theorem ed_no {L : List Jb} {j k : Nat} (h : edB L j k = false) : eIn L j (k + 1) = eIn L j k := by rw [eIn, if_neg (by simp [h]), List.append_nil]
theorem ed_in {L : List Jb} {j k : Nat} (h1 : (at_ L j).s < (at_ L k).e) (h2 : 0 < dem L (at_ L j).s (at_ L k).e) : edB L j k = true := by simp [edB, h1, h2]
theorem ed_out {L : List Jb} {j k : Nat} (h : ¬ ((at_ L j).s < (at_ L k).e ∧ 0 < dem L (at_ L j).s (at_ L k).e)) : edB L j k = false := by
  rw [Bool.eq_false_iff]; intro h'; simp [edB] at h'; exact h h'
theorem e_len {L : List Jb} (h8 : L.length ≤ 8) {j k : Nat} (hj : j ≤ 8) (hk : k ≤ 8) : (eOut L j ++ eIn L j k).length ≤ 100 := by
  have := eOut_len h8 j
  have := eIn_len (L := L) (j := j) k
  rw [List.length_append]; omega

set_option maxRecDepth 100000 in
set_option maxHeartbeats 3200000 in
theorem edges_c (a : Option Addr) (n c : Nat) (L : List Jb) (w : World) (h : SlO w a n L) (hv : Valid L) : Calls Try.prog 60 #[.slice a n c] w (RetP2 w (edges L)) := by
  have HLn : Hid (n = L.length) := Lib.hid h.1
  have h8 : n ≤ 8 := by have := hv.le; have := h.1; omega
  have HV := Lib.hid hv
  have H := Lib.hid h
  have HE : Hid (edges L = eOut L n) := Lib.hid (by rw [HLn.out]; rfl)
  rw [HE.out]
  clear h hv HE
  obtain ⟨i0, hi, hz0, hz1, hz2⟩ := info_parts info71
  go_enter Try.func60, Try.ntmps60
  go_wp2_with fail
  go_loopw [3, 10] (fun v i wr => ∃ j m : Nat, j ≤ n ∧ i = .int .i64 j ∧ Below w.heap.size w wr ∧ wr.ownsRow w.heap.size 71 2 v m (p2Cells (eOut L j))) (fun _ i _ => n - (intOf i).toNat)
  case atStart => exact ⟨0, 0, Nat.zero_le _, rfl, Below.refl _ _, World.ownsRow_nil _ _ _ _⟩
  case round =>
    obtain ⟨j, m, hj, rfl, hb, hown⟩ := hrel
    have HO := Lib.hid hown
    clear hown
    by_cases hlt : j < n
    · obtain ⟨b, o, rfl, hS⟩ : ∃ b o, a = some ⟨b, o, none⟩ ∧ Sl w b o n L := by
        rcases H.out.2 with h' | h'
        · omega
        · exact h'
      have HS := Lib.hid hS
      have c0 := (hS.below hb (Nat.le_refl _)).c0 j hlt
      have c1 := (hS.below hb (Nat.le_refl _)).c1 j hlt
      have c2 := (hS.below hb (Nat.le_refl _)).c2 j hlt
      clear hS
      go_wp2_with fail
      refine wp_world ?_
      intro w3 hw3
      have B3 : Below w.heap.size w w3 := by rw [hw3]; exact hb.alloc hb.size _
      have hX : w3.heap[wr.heap.size]? = some (.cells #[.int .i64 (at_ L j).s, .int .i64 (at_ L j).e, .int .i64 (at_ L j).d] 30 (0, 0)) := by rw [hw3]; exact Deep.blk_alloc_new _ _
      have hO3 : w3.ownsRow w.heap.size 71 2 u3 m (p2Cells (eOut L j)) := by rw [hw3]; exact HO.out.alloc _
      generalize wr.heap.size = B7 at *
      have HX := Lib.hid hX
      have HO3 := Lib.hid hO3
      clear hw3 hb HO c0 c1 c2 hX hO3
      go_loopw [3, 16] (fun v i wr => ∃ k m : Nat, k ≤ n ∧ i = .int .i64 k ∧ Below w.heap.size w wr ∧ wr.heap[B7]? = some (.cells #[.int .i64 (at_ L j).s, .int .i64 (at_ L j).e, .int .i64 (at_ L j).d] 30 (0, 0)) ∧ wr.ownsRow w.heap.size 71 2 v m (p2Cells (eOut L j ++ eIn L j k))) (fun _ i _ => n - (intOf i).toNat)
      case atStart => exact ⟨0, m, Nat.zero_le _, rfl, B3, HX.out, by rw [show eIn L j 0 = [] from rfl, List.append_nil]; exact HO3.out⟩
      case round =>
        obtain ⟨k, m, hk, rfl, hb, hX, hown⟩ := hrel
        have HO := Lib.hid hown
        have HX := Lib.hid hX
        clear hown hX HO3 B3
        by_cases hlk : k < n
        · have c0 := (HS.out.below hb (Nat.le_refl _)).c0 k hlk
          have c1 := (HS.out.below hb (Nat.le_refl _)).c1 k hlk
          have c2 := (HS.out.below hb (Nat.le_refl _)).c2 k hlk
          have hx7 : B7 < wr.heap.size := (Array.getElem?_eq_some_iff.1 HX.out).1
          have hm1 : m = (eOut L j ++ eIn L j k).length := by have := HO.out.1; rw [p2Cells_length] at this; omega
          have hm2 := e_len (L := L) (by rw [← HLn.out]; exact h8) (j := j) (k := k) (by omega) (by omega)
          have hm : m ≤ 100 := by omega
          have x0 : wr.cell? ⟨B7, 0, none⟩ = some (.int .i64 (at_ L j).s) := by simp [World.cell?, HX.out]
          clear hm1 hm2
          by_cases h1 : (at_ L j).s < (at_ L k).e
          · have d1 := decT h1
            have hdb := dem_bd HV.out (at_ L j).s (at_ L k).e (n := L.length) (Nat.le_refl _)
            have hdd : demN L (at_ L j).s (at_ L k).e L.length = dem L (at_ L j).s (at_ L k).e := rfl
            rw [hdd] at hdb
            obtain ⟨y1, y2⟩ := hdb
            clear hdd
            go_wp2_with fail
            refine (demand_c _ _ _ _ _ _ _ ((SlO.of HS.out).below (hb.alloc hb.size _) (Nat.le_refl _)) HV.out).mono ?_
            rintro e w4 ⟨rfl, hb4⟩
            have B4 : Below w.heap.size w w4 := btr (hb.alloc hb.size _) hb4
            have z0 : w4.cell? ⟨wr.heap.size, 1, none⟩ = some (.int .i64 (at_ L k).e) := cellB hb4 (by simp [go_sem])
            have z1 : w4.cell? ⟨B7, 0, none⟩ = some (.int .i64 (at_ L j).s) := cellB (btr ((Below.refl _ _).alloc (Nat.le_refl _) _) hb4) x0
            have HX4 : Hid (w4.heap[B7]? = some (.cells #[.int .i64 (at_ L j).s, .int .i64 (at_ L j).e, .int .i64 (at_ L j).d] 30 (0, 0))) := Lib.hid (((btr ((Below.refl _ _).alloc (Nat.le_refl _) _) hb4).block B7 hx7).trans HX.out)
            have HO4 := Lib.hid (ownsRow_below (HO.out.alloc _) hb4)
            clear hb4 c0 c1 c2 x0 hb
            by_cases h2 : 0 < dem L (at_ L j).s (at_ L k).e
            · have d2 := decT h2
              have HN := Lib.hid (ed_yes (ed_in h1 h2))
              clear h1 h2
              go_wp2_with (at_builtin; refine wpList_append_own _ rfl _ _ 69 rfl w.heap.size 71 i0 (.agg #[.int .i64 0, .int .i64 0]) 2 16 Try.underlying69 hi hz0 hz1 hz2 rfl (by decide) _ _ _ rfl (HO4.out.alloc _) ⟨w4.heap.size, 0, none⟩ 1 1 [.int .i64 (at_ L j).s, .int .i64 (at_ L k).e] rfl rfl (cells2_new _ _ _ _) (one2 _ _) (by unfold maxLen; omega) (by omega) (by have := B4.size; simp; omega) ?_)
              intro v' w5 hown5 hg5 _
              have hb5 : Below w.heap.size w w5 := (B4.alloc B4.size _).grown hg5 (by have := B4.size; simp; omega) (fun q hq => (HO4.out.lt q hq).1)
              have hx5 : w5.heap[B7]? = some (.cells #[.int .i64 (at_ L j).s, .int .i64 (at_ L j).e, .int .i64 (at_ L j).d] 30 (0, 0)) := by
                have hlt7 : B7 < w4.heap.size := (Array.getElem?_eq_some_iff.1 HX4.out).1
                rw [hg5.block B7 (by simp; omega) (fun e => own_ne_type HO4.out HX4.out (by decide) e.symm), Below.heap_alloc _ _ _ hlt7]
                exact HX4.out
              have HO5 := Lib.hid hown5
              clear hown5 hg5
              go_wp2_with fail
              exact ⟨⟨k + 1, m + 1, by omega, by go_num, hb5, hx5, by rw [HN.out, ← List.append_assoc, p2Cells_snoc]; exact HO5.out⟩, by simp [intOf]; omega⟩
            · have d2 := decF h2
              have HN := Lib.hid (ed_no (ed_out (L := L) (j := j) (k := k) (fun h => h2 h.2)))
              clear h1 h2
              go_wp2_with fail
              exact ⟨⟨k + 1, m, by omega, by go_num, B4, HX4.out, by rw [HN.out]; exact HO4.out⟩, by simp [intOf]; omega⟩
          · have d1 := decF h1
            have HN := Lib.hid (ed_no (ed_out (L := L) (j := j) (k := k) (fun h => h1 h.1)))
            clear h1
            go_wp2_with fail
            exact ⟨⟨k + 1, m, by omega, by go_num, hb.alloc hb.size _, by rw [Below.heap_alloc _ _ _ hx7]; exact HX.out, by rw [HN.out]; exact HO.out.alloc _⟩, by simp [intOf]; omega⟩
        · have hkn : k = n := by omega
          have hd : ¬ (k : Int) < n := by omega
          have HKN := Lib.hid hkn
          clear hkn hlk
          go_wp2_with fail
          exact ⟨⟨j + 1, m, by omega, by go_num, hb, by rw [show eOut L (j + 1) = eOut L j ++ eIn L j L.length from rfl, ← HLn.out, ← HKN.out]; exact HO.out⟩, by simp [intOf]; omega⟩
    · have hkn : j = n := by omega
      have hd : ¬ (j : Int) < n := by omega
      have HKN := Lib.hid hkn
      clear hkn hlt
      go_wp2_with fail
      go_ret
      refine ⟨_, rfl, ?_, hb⟩
      have := ownsRow_p2 HO.out
      rw [HKN.out] at this
      exact this

end Go.Proofs.Ytbmbogaejmgloaa
