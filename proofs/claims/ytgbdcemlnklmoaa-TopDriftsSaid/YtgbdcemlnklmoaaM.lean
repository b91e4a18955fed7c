/- Turn of the program: a range over slices.Backward. -/
import Derived.RangeFuncNested
import Derived.RangeFuncBound
import Derived.RangeFuncCalls
import Derived.RangeFuncLeaves
import Derived.Shelf.Abstract
import Derived.Shelf.RegionOpen
import Derived.WalkKit
import Derived.OwnWalkIn
import Derived.TacticsInMore
import Derived.LoopNIn
import Derived.LoopIn
import Derived.Maps.AppendAt
import Derived.Maps.OwnIn
import Derived.Test.YtgbdcemlnklmoaaG
namespace Go.Proofs.Ytgbdcemlnklmoaa
open Go.RowKit Go.Sort Go.Shelf

attribute [local go_sem] Oper.semAt_some

/-- What has come when k rounds are over. -/
def upto {α : Type} (f : Nat → α) (k : Nat) : List α := (List.range k).map f
theorem upto_succ {α : Type} (f : Nat → α) (k : Nat) : upto f (k + 1) = upto f k ++ [f k] := by simp [upto, List.range_succ]
theorem upto_length {α : Type} (f : Nat → α) (k : Nat) : (upto f k).length = k := by simp [upto]

/-- Below, and one block more that is kept. -/
def Kq (n₀ Bs : Nat) (A B : World) : Prop := Below n₀ A B ∧ B.heap[Bs]? = A.heap[Bs]?
theorem Kq.refl (n₀ Bs : Nat) (A : World) : Kq n₀ Bs A A := ⟨Below.refl _ _, rfl⟩
theorem Kq.trans {n₀ Bs : Nat} {A B C : World} (h : Kq n₀ Bs A B) (k : Kq n₀ Bs B C) : Kq n₀ Bs A C := ⟨h.1.trans k.1, k.2.trans h.2⟩
theorem Kq.cell {n₀ Bs : Nat} {A B : World} (h : Kq n₀ Bs A B) : B.cell? ⟨Bs, 0, none⟩ = A.cell? ⟨Bs, 0, none⟩ := World.cell?_of_block h.2
theorem Kq.putObj {n₀ Bs : Nat} {w : World} (hn : n₀ ≤ w.heap.size) (hB : Bs < w.heap.size) : ∀ (W : World) (l : Nat) (o o' : Obj), w.heap.size ≤ l → W.heap[l]? = some o → o.isCells = false → o.isWalk = false → Kq n₀ Bs W (W.putObj l o') := fun W l o o' h1 h2 h3 h4 =>
  ⟨belowK_b hn W l o o' h1 h2 h3 h4, World.putObj_heap_other (by omega)⟩

/-- An index of the list. -/
abbrev Ix (n : Nat) := { j : Nat // j < n }
def bk (n : Nat) (h : 0 < n) (k : Nat) : Ix n := ⟨n - 1 - k, by omega⟩
def encP (L : List Rd) (j : Nat) : Array Value := #[.int .i64 (j : Int), .agg #[.int .i64 (at_ L j).t, .int .i64 (at_ L j).lo, .int .i64 (at_ L j).hi]]

set_option maxRecDepth 100000 in
set_option maxHeartbeats 3200000 in
/-- The closure of slices.Backward: for every loop body that keeps what lay below n0. -/
theorem back1_in (F : Fence) (m : Nat) (h7 : F.fn 86) (hro : F.round = none) (hm : 1 ≤ m) (l Bs n₀ b o n cap : Nat) (L : List Rd) (hn : 0 < n) (hn1 : n ≤ 1000) (hb : b < n₀) (J Jx : List (Ix n) → World → Prop)
    (hY : ∀ pre x W, J pre W → pre.length < n → YieldAt F (m - 1) Try.prog l (encP L x.1) W fun e W' =>
      (e = .returned (.bool true) ∧ J (pre ++ [x]) W' ∧ Kq n₀ Bs W W') ∨ (e = .returned (.bool false) ∧ Jx (pre ++ [x]) W'))
    (W : World) (hBs : W.cell? ⟨Bs, 0, none⟩ = some (.slice (some ⟨b, o, none⟩) n cap)) (hS : Sl W b o n L) (h0 : J [] W) :
    CallsIn F m Try.prog 86 #[.func (.yield l) #[] #[], .pointer (some ⟨Bs, 0, none⟩)] W fun e W' => (∃ v, e = .returned v) ∧
      ((∃ ys, ys = upto (bk n hn) n ∧ J ys W') ∨ (∃ pre, (∃ k, k ≤ n ∧ pre = upto (bk n hn) k) ∧ Jx pre W')) := by
  refine callsIn_of_wp Try.func86 rfl h7 ?_ hro
  simp only [Try.ntmps86, List.size_toArray, List.length_cons, List.length_nil, Nat.reduceAdd, Nat.reduceSub, Array.replicate_succ, Array.replicate_zero, List.push_toArray, List.append_toArray, List.nil_append, List.cons_append]
  gi_wp2
  gi_loopw [3] (fun i wr => ∃ k : Nat, k ≤ n ∧ i = .int .i64 ((n : Int) - 1 - k) ∧ J (upto (bk n hn) k) wr ∧ Kq n₀ Bs W wr)
    (fun i _ => (intOf i + 1).toNat)
  case atStart => exact ⟨0, Nat.zero_le _, by simp, h0, Kq.refl _ _ _⟩
  case round =>
    obtain ⟨k, hk, rfl, hJs, hnx⟩ := hrel
    have hbx := hnx.cell.trans hBs
    by_cases hlt : k < n
    · obtain ⟨j, hj⟩ : ∃ j : Nat, j = n - 1 - k := ⟨_, rfl⟩
      have ej : (n : Int) - 1 - k = (j : Int) := by omega
      have c0 : wr.cell? ⟨b, o + j * 3, none⟩ = some (.int .i64 (at_ L j).t) := (hnx.1.cell (p := ⟨b, _, none⟩) hb).trans (hS.c0 j (by omega))
      have c1 : wr.cell? ⟨b, o + j * 3 + 1, none⟩ = some (.int .i64 (at_ L j).lo) := (hnx.1.cell (p := ⟨b, _, none⟩) hb).trans (hS.c1 j (by omega))
      have c2 : wr.cell? ⟨b, o + j * 3 + 2, none⟩ = some (.int .i64 (at_ L j).hi) := (hnx.1.cell (p := ⟨b, _, none⟩) hb).trans (hS.c2 j (by omega))
      obtain ⟨fn, tmps, assign, body, hy, hR⟩ := hY _ (bk n hn k) wr hJs (by rw [upto_length]; exact hlt)
      rw [show (bk n hn k).1 = j from hj.symm] at hy
      unfold encP at hy
      have hjn : j < n := by omega
      have HE := Lib.hid ej
      rw [HE.out]
      clear ej hj
      gi_wp2
      refine hR.mono ?_
      rintro e W3 (⟨rfl, hJ3, hk3⟩ | ⟨rfl, hJx3⟩)
      · gi_wp2
        go_roundw
        case rel => exact ⟨k + 1, by omega, by have := HE.out; go_num, by rw [upto_succ]; exact hJ3, hnx.trans hk3⟩
        case measure => have := HE.out; simp [intOf]
      · gi_wp2
        refine bodyPost_ret (results_none rfl _ _ _) rfl ?_
        exact ⟨⟨_, rfl⟩, .inr ⟨_, ⟨k + 1, by omega, (upto_succ _ _).symm⟩, hJx3⟩⟩
    · obtain rfl : k = n := by omega
      rw [show (k : Int) - 1 - k = -1 by omega]
      gi_wp2
      go_end0
      exact ⟨⟨_, rfl⟩, .inl ⟨_, rfl, hJs⟩⟩

set_option maxHeartbeats 1000000 in
theorem back_in (F : Fence) (m : Nat) (h5 : F.fn 73) (hro : F.round = none) (a : Option Addr) (len cap : Nat) (w : World) :
    CallsIn F m Try.prog 73 #[.slice a len cap] w fun e w' => e = .returned (.func (.func 86) #[] #[.pointer (some ⟨w.heap.size, 0, none⟩)]) ∧ w' = w.alloc (.cells #[.slice a len cap] 22) := by
  refine callsIn_of_wp Try.func73 rfl h5 ?_ hro
  simp only [Try.ntmps73, List.size_toArray, List.length_cons, List.length_nil, Nat.reduceAdd, Nat.reduceSub, Array.replicate_succ, Array.replicate_zero, List.push_toArray, List.append_toArray, List.nil_append, List.cons_append]
  gi_wp2
  go_ret
  exact ⟨rfl, rfl⟩


/-- The value of slices.Backward: all indices, from the last on. -/
theorem back_stops (F : Fence) (m : Nat) (h7 : F.fn 86) (hro : F.round = none) (hm : 1 ≤ m) (Bs n₀ b o n cap : Nat) (L : List Rd) (hn : 0 < n) (hn1 : n ≤ 1000) (w : World) (hBs : Bs < w.heap.size) (hb : b < n₀)
    (hc : w.cell? ⟨Bs, 0, none⟩ = some (.slice (some ⟨b, o, none⟩) n cap)) (hS : Sl w b o n L) :
    SeqStopsK F m Try.prog 86 #[.pointer (some ⟨Bs, 0, none⟩)] (fun x : Ix n => encP L x.1) (Kq n₀ Bs) (fun ys => ys = upto (bk n hn) n) (fun pre => ∃ k, k ≤ n ∧ pre = upto (bk n hn) k) n w := fun l J Jx W hW _ _ hY h0 =>
  back1_in F m h7 hro hm l Bs n₀ b o n cap L hn hn1 hb J Jx hY W ((hW.cell (p := ⟨Bs, 0, none⟩) hBs).trans hc) (hS.below hW (Nat.le_refl _)) h0

/-- A box of one reading. -/
def Tri (W : World) (B : Nat) (x : Rd) : Prop := W.heap[B]? = some (.cells #[.int .i64 x.t, .int .i64 x.lo, .int .i64 x.hi] 54 (0, 0))
theorem Tri.lt {W : World} {B : Nat} {x : Rd} (h : Tri W B x) : B < W.heap.size := (Array.getElem?_eq_some_iff.1 h).1
theorem Tri.kept {W W' : World} {row : Option Nat} {B : Nat} {x : Rd} (h : Tri W B x) (hg : W.grownBy W' row) (hne : some B ≠ row) : Tri W' B x := (hg.block B h.lt hne).trans h
theorem Tri.c0 {W : World} {B : Nat} {x : Rd} (h : Tri W B x) : W.cell? ⟨B, 0, none⟩ = some (.int .i64 x.t) := by simp [World.cell?, show W.heap[B]? = _ from h]
theorem Tri.c1 {W : World} {B : Nat} {x : Rd} (h : Tri W B x) : W.cell? ⟨B, 1, none⟩ = some (.int .i64 x.lo) := by simp [World.cell?, show W.heap[B]? = _ from h]
theorem Tri.c2 {W : World} {B : Nat} {x : Rd} (h : Tri W B x) : W.cell? ⟨B, 2, none⟩ = some (.int .i64 x.hi) := by simp [World.cell?, show W.heap[B]? = _ from h]
theorem Tri.frozen {W : World} {B : Nat} {x : Rd} (h : Tri W B x) (i : Nat) : W.frozen? ⟨B, i, none⟩ = false := by simp [World.frozen?, show W.heap[B]? = _ from h]
theorem Tri.set {W : World} {B : Nat} {x : Rd} (t : Int) (h : Tri W B x) : Tri (W.setCell ⟨B, 0, none⟩ (.int .i64 t)) B ⟨t, x.lo, x.hi⟩ := by
  obtain ⟨hlt, hk⟩ := Array.getElem?_eq_some_iff.1 h
  show (W.heap.modify B _)[B]? = _
  rw [Array.getElem?_eq_getElem (by rw [Array.size_modify]; exact hlt), Array.getElem_modify_self, hk]
  rfl

theorem turn_list {L : List Rd} (hn : 0 < L.length) : (upto (bk L.length hn) L.length).map (fun i => tuF (at_ L i.1)) = turnL L := by
  apply List.ext_getElem
  · simp [upto, turn_length]
  · intro i h1 h2
    have hi : i < L.length := by simpa [upto] using h1
    have e := turn_at hi
    have e2 : at_ (turnL L) i = (turnL L)[i] := by simp [at_, h2]
    rw [← e2, e]
    simp [upto, bk]


/-- A row of readings of the call's own and an errno come back. -/
def RetRw (w : World) (L : List Rd) (er : Int) (e : Ending) (w' : World) : Prop :=
  ∃ v, e = .returned (.tuple #[v, .int .i64 er]) ∧ w'.ownsRow w.heap.size 54 3 v L.length (rdCells L) ∧ Below w.heap.size w w'

set_option maxRecDepth 100000 in
set_option maxHeartbeats 3200000 in
theorem Turn_c (a : Option Addr) (n c : Nat) (L : List Rd) (w : World) (h : SlO w a n L) : Calls Try.prog 40 #[.slice a n c] w (RetRw w (tuR L) (vErr L)) := by
  by_cases h0 : vErr L = 0
  · have hv0 : (vErr L != 0) = false := by rw [h0]; rfl
    have hv := vErr_zero.1 h0
    have hLn := h.1
    obtain ⟨b, o, rfl, hS⟩ : ∃ b o, a = some ⟨b, o, none⟩ ∧ Sl w b o n L := by
      rcases h.2 with h' | h'
      · have := hv.pos; omega
      · exact h'
    have hp : 0 < L.length := hv.pos
    have hle := hv.le
    subst hLn
    have hn1 : L.length ≤ 1000 := by omega
    have q2 : tuR L = turnL L := if_pos h0
    have HTL : Hid ((upto (bk L.length hp) L.length).map (fun i => tuF (at_ L i.1)) = turnL L) := turn_list hp
    have HBD : Hid (∀ i : Ix L.length, 0 ≤ (at_ L i.1).t ∧ (at_ L i.1).t ≤ 1000) := fun i => (hv.bd (i := i.1) i.2).1
    rw [q2, h0]
    clear q2
    obtain ⟨i0, hi, hz0, hz1, hz2⟩ := info_parts info54
    have hbw : b < w.heap.size := block_lt_of_cell (hS.c0 0 hp)
    refine (callsIn_wide (n := 6)).1 ?_
    refine callsIn_of_wp_marks Try.func40 rfl trivial ?_ rfl
    simp only [Try.ntmps40, List.size_toArray, List.length_cons, List.length_nil, Nat.reduceAdd, Nat.reduceSub, Array.replicate_succ, Array.replicate_zero, List.push_toArray, List.append_toArray, List.nil_append, List.cons_append]
    gi_wp2_with (first | (refine ⟨trivial, ?_⟩; gi_at_call 29; refine (callsIn_wide.2 (validate_c _ _ _ _ _ h)).mono ?_; rintro e w1 ⟨rfl, hb1⟩) | (refine ⟨trivial, ?_⟩; gi_at_call 73; refine (back_in Fence.wide 5 trivial rfl _ _ _ _).mono ?_; rintro e w' ⟨rfl, rfl⟩))
    have bO := (Boxed.new w1 22 (.slice none 0 0)).alloc (.cells #[.slice (some ⟨b, o, none⟩) L.length c] 22)
    have bN := Boxed.new (w1.alloc (.cells #[.slice none 0 0] 22)) 22 (.slice (some ⟨b, o, none⟩) L.length c)
    simp only [World.size_alloc] at bN
    have hB0 : Below w.heap.size w ((w1.alloc (.cells #[.slice none 0 0] 22)).alloc (.cells #[.slice (some ⟨b, o, none⟩) L.length c] 22)) := (hb1.alloc hb1.size _).alloc (by have := hb1.size; simp; omega) _
    have hsz : ((w1.alloc (.cells #[.slice none 0 0] 22)).alloc (.cells #[.slice (some ⟨b, o, none⟩) L.length c] 22)).heap.size = w1.heap.size + 2 := by simp
    obtain ⟨W0, hW0⟩ : ∃ W0, (w1.alloc (.cells #[.slice none 0 0] 22)).alloc (.cells #[.slice (some ⟨b, o, none⟩) L.length c] 22) = W0 := ⟨_, rfl⟩
    rw [hW0] at bO bN hB0 hsz ⊢
    clear hW0
    have hs1 := hb1.size
    obtain ⟨B, hBe⟩ : ∃ B, w1.heap.size = B := ⟨_, rfl⟩
    rw [hBe] at bO bN hsz hs1 ⊢
    refine wpIn_rangeFunc_ownH rfl (by omega) (gf := 86) (lb := #[.pointer (some ⟨B + 1, 0, none⟩)]) rfl trivial (enters_of Try.func86 (by kernel_rfl) rfl)
      (back_stops Fence.wide 5 trivial rfl (by omega) (B + 1) w.heap.size b o L.length c L hp hn1 W0 (by omega) hbw bN.cell (hS.below hB0 (Nat.le_refl _))) Kq.trans (Kq.putObj (by omega) (by omega)) (Below.refl _ _) (fun _ => rfl)
      (fun pre W => (∃ v, Boxed W B 22 v ∧ W.ownsRow w.heap.size 54 3 v pre.length (rdCells (pre.map fun i => tuF (at_ L i.1))) ∧ True) ∧ (Boxed W (B + 1) 22 (.slice (some ⟨b, o, none⟩) L.length c) ∧ Below w.heap.size w W))
      (fun _ _ _ => False)
      (OwnFrom.and (Own.from (holdsRow_own w.heap.size B 22 54 3 (fun pre : List (Ix L.length) => pre.length) (fun pre => rdCells (pre.map fun i => tuF (at_ L i.1))) (fun _ _ => True)) _) (OwnFrom.and (Own.from (boxed_own _ _ _) _) (ownFrom_below (Nat.le_refl _) (by omega))))
      (fun _ _ _ _ _ hs _ _ => hs)
      ⟨⟨_, bO, World.ownsRow_nil _ _ _ _, trivial⟩, bN, hB0⟩
      (fun x a' W => ∃ Bx v, B + 1 < Bx ∧ Tri W Bx (at_ L x.1) ∧ Boxed W B 22 v ∧ some Bx ≠ v.ownBlock ∧ a' = { tmps := #[.slice (some ⟨b, o, none⟩) L.length c, undef, .slice none 0 0, .int .i64 0, .int .i64 0, .pointer (some ⟨B, 0, none⟩), undef, .pointer (some ⟨Bx, 0, none⟩), .slice (some ⟨b, o, none⟩) L.length c, .int .i64 0, .int .i64 0, .bool false, undef, .slice (some ⟨b, o, none⟩) L.length c, .func (.func 86) #[] #[.pointer (some ⟨B + 1, 0, none⟩)], .int .i64 (x.1 : Int), .agg #[.int .i64 (at_ L x.1).t, .int .i64 (at_ L x.1).lo, .int .i64 (at_ L x.1).hi], undef, undef, undef, undef, undef, undef, undef, undef, undef], defers := [] })
      (fun x a' _ X Y row hs hg hr => by
        obtain ⟨Bx, v, e1, e2, e3, e4, e5⟩ := hs
        refine ⟨Bx, v, e1, e2.kept hg (fun e' => ?_), boxed_own B 22 (fun (_ : Unit) => v) () X Y row e3 hg (fun r e => (hr r e).2), e4, e5⟩
        obtain ⟨_, o', ho, hc⟩ := hr Bx e'.symm
        rw [show X.heap[Bx]? = _ from e2] at ho; cases ho; cases hc)
      ?assign ?body ?done ?stop
    case assign =>
      rintro l pre x W K ⟨⟨v, hv, hrow, _⟩, hN, hB⟩ hK
      unfold encP
      gi_wp2
      exact hK _ _ ((KeepsOthers.alloc _ _).from _) ⟨(Below.refl _ W).alloc hB.size _, Below.heap_alloc W _ _ hN.lt⟩ ⟨⟨v, hv.alloc _, hrow.alloc _, trivial⟩, hN.alloc _, hB.alloc hB.size _⟩
        ⟨W.heap.size, v, hN.lt, World.alloc_heap_new W _, hv.alloc _, fun e => by have := (hrow.lt _ e.symm).2; omega, rfl⟩
    case body =>
      rintro l pre x a' W hl ⟨r, hr⟩ ⟨⟨v, hv, hrow, _⟩, hN, hB⟩ ⟨Bx, v', hBx, hT, hv', hne, rfl⟩ hlt
      obtain rfl : v = v' := by
        have := (show W.heap[B]? = _ from hv).symm.trans hv'
        simpa using this
      obtain ⟨a1, a2⟩ := HBD.out x
      have c0 := hT.c0
      have c1 := hT.c1
      have c2 := hT.c2
      have f0 := hT.frozen 0
      have hT1 := hT.set (1000 - (at_ L x.1).t)
      have hg1 := grownBy_setCell' W Bx (.int .i64 (1000 - (at_ L x.1).t))
      have hv1 := hv.kept hg1 (by simp; omega)
      have hN1 := hN.kept hg1 (by simp; omega)
      have hrow1 := hrow.kept hg1 (.inr (Ne.symm hne))
      have hc := hv.cell
      have hx : (pre ++ [x]).map (fun i => tuF (at_ L i.1)) = pre.map (fun i => tuF (at_ L i.1)) ++ [⟨1000 - (at_ L x.1).t, (at_ L x.1).lo, (at_ L x.1).hi⟩] := by simp [tuF]
      have hk1 : KeepsOthers W (W.setCell ⟨Bx, 0, none⟩ (.int .i64 (1000 - (at_ L x.1).t))) := KeepsOthers.setCell _ _ _
      have hb1' : Below w.heap.size W (W.setCell ⟨Bx, 0, none⟩ (.int .i64 (1000 - (at_ L x.1).t))) := (Below.refl w.heap.size W).setCell (p := ⟨Bx, 0, none⟩) (by simp; omega) _
      have HX := Lib.hid hx
      have hpl : pre.length + 1 ≤ 1000 := by omega
      clear hx
      gi_wp2_with (gi_at_builtin; refine wpListIn_append_own _ rfl _ _ 22 rfl w.heap.size 54 i0 (.agg #[.int .i64 0, .int .i64 0, .int .i64 0]) 3 24 Try.underlying22 hi hz0 hz1 hz2 rfl (by decide) _ _ _ rfl (hrow1.alloc _) ⟨W.heap.size, 0, none⟩ 1 1 [.int .i64 (1000 - (at_ L x.1).t), .int .i64 (at_ L x.1).lo, .int .i64 (at_ L x.1).hi] rfl rfl (by have := cells3_new (W.setCell ⟨Bx, 0, none⟩ (.int .i64 (1000 - (at_ L x.1).t))) (.int .i64 (1000 - (at_ L x.1).t)) (.int .i64 (at_ L x.1).lo) (.int .i64 (at_ L x.1).hi) 54; simpa using this) (one3 _ _ _) (by unfold maxLen; omega) (by omega) (by have := hB.size; simp; omega) ?_; intro v' w2 hown' hgrow _; obtain ⟨g', cap', rfl⟩ := ownsRow_succ hown'; obtain ⟨hv2, hv3, hr3, hk3, hb3⟩ := hv1.appended (by decide) hrow1 (Nat.le_trans hB.size hb1'.size) (by omega) hown' hgrow; have hc2 := hv2.cell; have hf2 := hv2.frozen)
      have hN2 := (hN1.alloc (.cells #[.int .i64 (1000 - (at_ L x.1).t), .int .i64 (at_ L x.1).lo, .int .i64 (at_ L x.1).hi] 54)).kept hgrow (hN.not_row (by decide) hrow)
      have hN3 := hN2.kept (grownBy_setCell' w2 B (.slice (some ⟨g', 0, none⟩) (pre.length + 1) cap')) (by simp)
      refine ⟨(hk1.trans hk3).from _, ⟨hb1'.trans hb3, (show _ = _ from hN3).trans (show _ = _ from hN).symm⟩, ⟨_, hv3, ?_, trivial⟩, hN3, hB.trans (hb1'.trans hb3)⟩
      rw [HX.out, rdCells_snoc, List.length_append]
      exact hr3
    case done =>
      rintro D ys W hD rfl ⟨⟨v, hv, hrow, _⟩, hN, hB⟩ hK
      have hc := hv.cell
      gi_wp2
      refine ⟨by simp, .inl ⟨_, _, rfl, run_takeDeferred hK, ?_⟩⟩
      rw [upto_length, HTL.out] at hrow
      exact ⟨_, results_tmp2 rfl _ _ _, v, rfl, by rw [turn_length]; exact ownsRow_putObj hrow _ hK rfl, hB.trans (belowK_b (w := w) (Nat.le_refl _) W D _ _ (by omega) hK rfl rfl)⟩
    case stop =>
      rintro D c pre W _ _ h _
      exact h.elim
  · have hv0 : (vErr L != 0) = true := by simpa using h0
    have q2 : tuR L = [] := by unfold tuR; rw [if_neg h0]
    rw [q2]
    clear q2
    clear h0
    go_enter Try.func40, Try.ntmps40
    go_wp2_with fail
    refine (validate_c _ _ _ _ _ h).mono ?_
    rintro e w1 ⟨rfl, hb1⟩
    go_wp2_with fail
    go_ret2
    exact ⟨_, rfl, World.ownsRow_nil _ _ _ _, hb1⟩


end Go.Proofs.Ytgbdcemlnklmoaa
