/-
  A region that draws its order: its first operations only read (calls that make memory among them), and what is left stands in a row, each operation waiting for the one before it: one walk of the first part in the order of the text, at every world of the class, then the row.
  It stands on the library's own notions of such a region (Derived.StillTail: sinkB, chainB, seqB, lexTailB), with its class of worlds (Derived.Deep.Quiet) in the place of the one world.
-/
import Derived.StillTail
import Derived.Deep.Quiet
import Derived.Test.YtplindidegmlkaaB
namespace Go.Proofs.Ytplindidegmlkaa
open Go.RowKit Go.Sort

section
variable {P : Program} {ops : Array Oper} {md : Region.Mode} {C : World → Prop}

/-- f operations of the head are still to come, in whatever order; then L. -/
def anyHead (P : Program) (md : Region.Mode) (ops : Array Oper) (C : World → Prop) (n : Nat) (L : Array Bool → Act → Prop) : Nat → Array Bool → Act → Prop
  | 0, listed, a => L listed a
  | f + 1, listed, a => Region.ready md ops listed ≠ [] ∧ ∀ i ∈ Region.ready md ops listed, i < n ∧ qOp P ops C i (anyHead P md ops C n L f (listed.setIfInBounds i true)) a

theorem any_of_head {n g : Nat} {L : Array Bool → Act → Prop} {Q : Exit → Act → World → Prop} (hL : ∀ listed a w, C w → L listed a → wpAny P md ops Q g listed a w) :
    ∀ (f : Nat) (listed : Array Bool) (a : Act) (w : World), C w → anyHead P md ops C n L f listed a → wpAny P md ops Q (f + g) listed a w
  | 0, listed, a, w, hw, h => by rw [Nat.zero_add]; exact hL _ _ _ hw h
  | f + 1, listed, a, w, hw, h => by
    rw [show f + 1 + g = (f + g) + 1 by omega]
    exact ⟨fun h0 => absurd h0 h.1, fun i hi => wpOp_of_qOp hw (fun a' w' hw' h' => any_of_head hL f _ a' w' hw' h') (h.2 i hi).2⟩

/-- An operation of the head that may come up now may be taken first. -/
theorem head_first {n i : Nat} {o : Oper} {v : Value} {L : Array Bool → Act → Prop} (hi : ops[i]? = some o) (hsel : ∀ (j : Nat) (o : Oper) cs b, ops[j]? = some o → o.op ≠ .select cs b)
    (hs : Region.sinkB md ops n = true) (hc : Region.chainB md ops n = true) (hn : n < ops.size) (hin : i < n) (hdone : ∀ listed a, L listed a → ∀ j ∈ Region.ready md ops listed, n ≤ j) :
    ∀ (f : Nat) (listed : Array Bool) (a : Act), HeadInv md ops n listed →
      (∀ j p, ops[j]? = some p → j ≠ i → listed.getD j true = false → (∀ e ∈ p.after, Region.binds md e = true → e.on ≠ i) → o.apart ops p = true) →
      i ∈ Region.ready md ops listed → YieldsIn P ops C o v a → anyHead P md ops C n L f (listed.setIfInBounds i true) (a.put o.dst v) → anyHead P md ops C n L (f + 1) listed a := by
  intro f
  induction f with
  | zero =>
    intro listed a inv _ hr hy H
    refine ⟨fun h => (by rw [h] at hr; cases hr), fun j hj => ?_⟩
    have hjn : j < n := Nat.lt_of_not_le fun h => tail_waits hs hc hn inv _ i rfl hin (mem_ready.1 hr).1 j h hj
    refine ⟨hjn, ?_⟩
    by_cases hji : j = i
    · subst hji; exact hy.qOp hi H
    · exact absurd (hdone _ _ H j (ready_mono hj hji)) (by omega)
  | succ f ih =>
    intro listed a inv hfree hr hy H
    refine ⟨fun h => (by rw [h] at hr; cases hr), fun j hj => ?_⟩
    have hjn : j < n := Nat.lt_of_not_le fun h => tail_waits hs hc hn inv _ i rfl hin (mem_ready.1 hr).1 j h hj
    refine ⟨hjn, ?_⟩
    by_cases hji : j = i
    · subst hji; exact hy.qOp hi H
    · obtain ⟨hjun, p, hp, hall⟩ := mem_ready.1 hj
      have hnot : ∀ e ∈ p.after, Region.binds md e = true → e.on ≠ i := fun e he hb heq => by
        have h1 := hall e he hb
        rw [heq, getD_both (mem_ready.1 hr).1] at h1
        cases h1
      have h2 := qOp_put hp (hfree j p hp hji hjun hnot) (fun cs b => hsel i o cs b hi) (fun cs b => hsel j p cs b hp) hy ((H.2 j (ready_mono hj hji)).2)
      refine qOp_mono (fun a' h3 => ih (listed.setIfInBounds j true) a' (inv.set hj hjn) (fun k q hk hki hun hno => hfree k q hk hki ?_ hno) (ready_mono hr (Ne.symm hji)) h3.1 ?_) h2
      · by_cases hjk : j = k
        · subst hjk; exact hjun
        · rw [getD_set_ne true hjk] at hun; exact hun
      · rw [Array.setIfInBounds_comm _ _ hji]
        exact h3.2

theorem head_lex {n g : Nat} {R : Act → Prop} (hsel : Region.noSelect ops = true) (hs : Region.sinkB md ops n = true) (hc : Region.chainB md ops n = true) (hn : n < ops.size) :
    ∀ (l : List Oper) (k : Nat) (listed : Array Bool) (a : Act), (∀ j, j < l.length → l[j]? = ops[k + j]?) → k + l.length = n → HeadInv md ops n listed →
    Region.lexHead md ops g l.length k listed = true → wpQuiet P ops C R l a → anyHead P md ops C n (fun listed' a' => Region.seqB md ops g n listed' = true ∧ R a') l.length listed a
  | [], k, listed, a, _, hk, _, hB, h => by
    obtain rfl : k = n := by simpa using hk
    exact ⟨by simpa [Region.lexHead] using hB, h⟩
  | o :: l, k, listed, a, hl, hk, inv, hB, h => by
    have h0 : ops[k]? = some o := by simpa using (hl 0 (by simp)).symm
    simp only [List.length_cons, Region.lexHead, Bool.and_eq_true] at hB
    obtain ⟨⟨hr, hf⟩, hB'⟩ := hB
    have hkn : k < n := by simp only [List.length_cons] at hk; omega
    have hr' : k ∈ Region.ready md ops listed := by simpa using hr
    have hq : qOp P ops C k (wpQuiet P ops C R l) a := by unfold qOp; simp only [h0]; exact h
    obtain ⟨v, hy, hK⟩ := yieldsIn_of_qOp h0 hq
    refine head_first h0 (Region.noSelect_spec hsel) hs hc hn hkn (fun listed' a' hL => seqB_ready hL.1) l.length listed a inv (Region.free_spec h0 hf) hr' hy ?_
    refine head_lex hsel hs hc hn l (k + 1) _ _ (fun j hj => ?_) (by simp only [List.length_cons] at hk; omega) (inv.set hr' hkn) hB' hK
    have := hl (j + 1) (by simp; omega)
    simpa [Nat.add_assoc, Nat.add_comm 1 j] using this
end

/-- The region: n operations that only read, then a row. -/
theorem wp_region_T {P : Program} {id : Nat} {Q : Exit → Act → World → Prop} {a : Act} {w : World} {l : List Oper} (n : Nat) (hm : P.follows .mixedOrders = true) (hB : Region.lexTailB .any l.toArray n = true)
    (h : wpQuiet P l.toArray (fun w' => ∃ p : Regrown, w' = grow (redrawn w p.d) p.os) (fun a' => ∀ w', Below w.heap.size w w' → wpList P l.toArray Q (l.drop n) a' w') (l.take n) a) : (Code.region id l.toArray true).wp P Q a w := by
  simp only [Region.lexTailB, Bool.and_eq_true, decide_eq_true_eq] at hB
  obtain ⟨⟨⟨⟨hsel, hn⟩, hs⟩, hc⟩, hlex⟩ := hB
  have hn' : n < l.length := by simpa using hn
  have htl : (l.take n).length = n := by simp; omega
  have hdl : (l.drop n).length = l.toArray.size - n := by simp
  have inv0 : HeadInv .any l.toArray n (Array.replicate l.toArray.size false) :=
    ⟨by simp, fun j oj _ hl => (by rw [getD_replicate_false] at hl; cases hl), fun t _ ht => getD_in (by simpa using ht) (getD_replicate_false _ _)⟩
  have H := head_lex (md := .any) (g := l.toArray.size - n) hsel hs hc hn (l.take n) 0 _ a (fun j hj => by
    have hj' : j < n := by rw [htl] at hj; exact hj
    simp [hj']) (by simpa using htl) inv0 (by rw [htl]; exact hlex) h
  refine wp_region_any hm ?_
  have key := any_of_head (Q := Q) (g := l.toArray.size - n) (fun listed a' w' hw hL => by
    have hb : Below w.heap.size w w' := by
      obtain ⟨p, rfl⟩ := hw
      exact below_regrown w p.d p.os
    have := wpAny_of_seq (md := .any) (Q' := Q) (l.drop n) n listed a' w' (fun j => by simp [List.getElem?_drop]) (by rw [hdl]; exact hL.1) (hL.2 w' hb)
    rwa [hdl] at this) _ _ _ { w with drawn := w.drawn + 1 } ⟨⟨w.drawn + 1, #[]⟩, by rw [grow_empty]; rfl⟩ H
  rw [htl, show n + (l.toArray.size - n) = l.toArray.size by omega] at key
  exact key

section
variable {ops : Array Oper} {md : Region.Mode}

/-- Each operation of the head but the first is waited for. -/
def sink1 (md : Region.Mode) (ops : Array Oper) (n : Nat) : Bool :=
  (List.range n).all fun i => decide (i = 0) || (List.range (n + 1)).any fun j => decide (i < j) && Region.waitsFor md ops j i

/-- While an operation of the head other than the first has not come up none of the tail may. -/
theorem tail_waits1 {n : Nat} {listed : Array Bool} (hs : sink1 md ops n = true) (hc : Region.chainB md ops n = true) (hn : n < ops.size) (inv : HeadInv md ops n listed) :
    ∀ (d i : Nat), n - i = d → i < n → i ≠ 0 → listed.getD i true = false → ∀ t, n ≤ t → t ∉ Region.ready md ops listed := by
  intro d
  induction d using Nat.strongRecOn with
  | _ d ih =>
    intro i hd hi h0 hun t ht hr
    obtain ⟨_, p, hp, hall⟩ := mem_ready.1 hr
    have htl : t < ops.size := (Array.getElem?_eq_some_iff.1 hp).1
    by_cases htn : t = n
    · subst htn
      have h1 := List.all_eq_true.1 hs i (List.mem_range.2 hi)
      simp only [Bool.or_eq_true, decide_eq_true_eq] at h1
      rcases h1 with h1 | h1
      · exact h0 h1
      obtain ⟨j, hj, hj2⟩ := List.any_eq_true.1 h1
      simp only [Bool.and_eq_true, decide_eq_true_eq] at hj2
      obtain ⟨q, hq, e, he, hb, hon⟩ := Region.waitsFor_spec hj2.2
      have hjle : j ≤ t := by have := List.mem_range.1 hj; omega
      by_cases hjt : j = t
      · subst hjt
        have hqp : q = p := Option.some.inj (hq.symm.trans hp)
        subst hqp
        have h2 := hall e he hb
        rw [hon, getD_both hun] at h2
        cases h2
      · cases hl : listed.getD j false with
        | true =>
          have h2 := inv.closed j q hq hl e he hb
          rw [hon, getD_both hun] at h2
          cases h2
        | false =>
          have hjs : j < listed.size := by rw [inv.size]; omega
          exact ih (t - j) (by omega) j rfl (by omega) (by omega) (getD_in hjs hl) t (Nat.le_refl _) hr
    · have h1 := List.all_eq_true.1 hc t (List.mem_range.2 htl)
      simp only [Bool.or_eq_true, decide_eq_true_eq] at h1
      rcases h1 with h1 | h1
      · omega
      · obtain ⟨q, hq, e, he, hb, hon⟩ := Region.waitsFor_spec h1
        have hqp : q = p := Option.some.inj (hq.symm.trans hp)
        subst hqp
        have h2 := hall e he hb
        rw [hon, getD_both (inv.tail (t - 1) (by omega) (by omega))] at h2
        cases h2

variable {P : Program} {C : World → Prop}

theorem head_first1 {n i : Nat} {o : Oper} {v : Value} {L : Array Bool → Act → Prop} (hi : ops[i]? = some o) (hsel : ∀ (j : Nat) (o : Oper) cs b, ops[j]? = some o → o.op ≠ .select cs b)
    (hs : sink1 md ops n = true) (hc : Region.chainB md ops n = true) (hn : n < ops.size) (hin : i < n) (hi0 : i ≠ 0) (hdone : ∀ listed a, L listed a → ∀ j ∈ Region.ready md ops listed, n ≤ j) :
    ∀ (f : Nat) (listed : Array Bool) (a : Act), HeadInv md ops n listed →
      (∀ j p, ops[j]? = some p → j ≠ i → listed.getD j true = false → (∀ e ∈ p.after, Region.binds md e = true → e.on ≠ i) → o.apart ops p = true) →
      i ∈ Region.ready md ops listed → YieldsIn P ops C o v a → anyHead P md ops C n L f (listed.setIfInBounds i true) (a.put o.dst v) → anyHead P md ops C n L (f + 1) listed a := by
  intro f
  induction f with
  | zero =>
    intro listed a inv _ hr hy H
    refine ⟨fun h => (by rw [h] at hr; cases hr), fun j hj => ?_⟩
    have hjn : j < n := Nat.lt_of_not_le fun h => tail_waits1 hs hc hn inv _ i rfl hin hi0 (mem_ready.1 hr).1 j h hj
    refine ⟨hjn, ?_⟩
    by_cases hji : j = i
    · subst hji; exact hy.qOp hi H
    · exact absurd (hdone _ _ H j (ready_mono hj hji)) (by omega)
  | succ f ih =>
    intro listed a inv hfree hr hy H
    refine ⟨fun h => (by rw [h] at hr; cases hr), fun j hj => ?_⟩
    have hjn : j < n := Nat.lt_of_not_le fun h => tail_waits1 hs hc hn inv _ i rfl hin hi0 (mem_ready.1 hr).1 j h hj
    refine ⟨hjn, ?_⟩
    by_cases hji : j = i
    · subst hji; exact hy.qOp hi H
    · obtain ⟨hjun, p, hp, hall⟩ := mem_ready.1 hj
      have hnot : ∀ e ∈ p.after, Region.binds md e = true → e.on ≠ i := fun e he hb heq => by
        have h1 := hall e he hb
        rw [heq, getD_both (mem_ready.1 hr).1] at h1
        cases h1
      have h2 := qOp_put hp (hfree j p hp hji hjun hnot) (fun cs b => hsel i o cs b hi) (fun cs b => hsel j p cs b hp) hy ((H.2 j (ready_mono hj hji)).2)
      refine qOp_mono (fun a' h3 => ih (listed.setIfInBounds j true) a' (inv.set hj hjn) (fun k q hk hki hun hno => hfree k q hk hki ?_ hno) (ready_mono hr (Ne.symm hji)) h3.1 ?_) h2
      · by_cases hjk : j = k
        · subst hjk; exact hjun
        · rw [getD_set_ne true hjk] at hun; exact hun
      · rw [Array.setIfInBounds_comm _ _ hji]
        exact h3.2

theorem head_lex1 {n g : Nat} {R : Act → Prop} (hsel : Region.noSelect ops = true) (hs : sink1 md ops n = true) (hc : Region.chainB md ops n = true) (hn : n < ops.size) :
    ∀ (l : List Oper) (k : Nat) (listed : Array Bool) (a : Act), k ≠ 0 → (∀ j, j < l.length → l[j]? = ops[k + j]?) → k + l.length = n → HeadInv md ops n listed →
    Region.lexHead md ops g l.length k listed = true → wpQuiet P ops C R l a → anyHead P md ops C n (fun listed' a' => Region.seqB md ops g n listed' = true ∧ R a') l.length listed a
  | [], k, listed, a, _, _, hk, _, hB, h => by
    obtain rfl : k = n := by simpa using hk
    exact ⟨by simpa [Region.lexHead] using hB, h⟩
  | o :: l, k, listed, a, hk0, hl, hk, inv, hB, h => by
    have h0 : ops[k]? = some o := by simpa using (hl 0 (by simp)).symm
    simp only [List.length_cons, Region.lexHead, Bool.and_eq_true] at hB
    obtain ⟨⟨hr, hf⟩, hB'⟩ := hB
    have hkn : k < n := by simp only [List.length_cons] at hk; omega
    have hr' : k ∈ Region.ready md ops listed := by simpa using hr
    have hq : qOp P ops C k (wpQuiet P ops C R l) a := by unfold qOp; simp only [h0]; exact h
    obtain ⟨v, hy, hK⟩ := yieldsIn_of_qOp h0 hq
    refine head_first1 h0 (Region.noSelect_spec hsel) hs hc hn hkn hk0 (fun listed' a' hL => seqB_ready hL.1) l.length listed a inv (Region.free_spec h0 hf) hr' hy ?_
    refine head_lex1 hsel hs hc hn l (k + 1) _ _ (by omega) (fun j hj => ?_) (by simp only [List.length_cons] at hk; omega) (inv.set hr' hkn) hB' hK
    have := hl (j + 1) (by simp; omega)
    simpa [Nat.add_assoc, Nat.add_comm 1 j] using this

/-- The first operation may be taken first, whatever comes; the others of the head in the order of the text; then the row. -/
def tailB1 (md : Region.Mode) (ops : Array Oper) (n : Nat) : Bool :=
  Region.noSelect ops && decide (n < ops.size) && decide (0 < n) && sink1 md ops n && Region.chainB md ops n &&
  (Region.ready md ops (Array.replicate ops.size false)).contains 0 && Region.free md ops (Array.replicate ops.size false) 0 &&
  Region.lexHead md ops (ops.size - n) (n - 1) 1 ((Array.replicate ops.size false).setIfInBounds 0 true)
end

/-- The region: a move, n - 1 operations that only read, then a row. -/
theorem wp_region_T1 {P : Program} {id : Nat} {Q : Exit → Act → World → Prop} {a : Act} {w : World} {o : Oper} {l : List Oper} (n : Nat) (x : Operand) (d : Tmp) (v : Value) (h1 : o.op = .move x) (h2 : o.guard = none) (h3 : o.dst = some d) (h4 : a.eval x = v)
    (hm : P.follows .mixedOrders = true) (hB : tailB1 .any (o :: l).toArray n = true) (hQ : ∀ c a w v, Q (.panic c) (a.put (some d) v) w → Q (.panic c) a w)
    (h : wpQuiet P (o :: l).toArray (fun w' => ∃ p : Regrown, w' = grow (redrawn w p.d) p.os) (fun a' => ∀ w', Below w.heap.size w w' → wpList P (o :: l).toArray Q (l.drop (n - 1)) a' w') (l.take (n - 1)) (a.put (some d) v)) :
    (Code.region id (o :: l).toArray true).wp P Q a w := by
  simp only [tailB1, Bool.and_eq_true, decide_eq_true_eq] at hB
  obtain ⟨⟨⟨⟨⟨⟨⟨hsel, hn⟩, hn0⟩, hs⟩, hc⟩, hr0⟩, hf0⟩, hlex⟩ := hB
  have hn' : n < l.length + 1 := by simpa using hn
  have htl : (l.take (n - 1)).length = n - 1 := by simp; omega
  have hdl : (l.drop (n - 1)).length = (o :: l).toArray.size - n := by simp; omega
  have inv0 : HeadInv .any (o :: l).toArray n (Array.replicate (o :: l).toArray.size false) :=
    ⟨by simp, fun j oj _ hl => (by rw [getD_replicate_false] at hl; cases hl), fun t _ ht => getD_in (by simpa using ht) (getD_replicate_false _ _)⟩
  have hr0' : 0 ∈ Region.ready .any (o :: l).toArray (Array.replicate (o :: l).toArray.size false) := by simpa using hr0
  have H := head_lex1 (md := .any) (g := (o :: l).toArray.size - n) hsel hs hc hn (l.take (n - 1)) 1 _ (a.put (some d) v) (by omega) (fun j hj => by
    have hj' : j < n - 1 := by rw [htl] at hj; exact hj
    have e : (1 + j) = j + 1 := by omega
    simp [hj', e]) (by rw [htl]; omega) (inv0.set hr0' hn0) (by rw [htl]; exact hlex) h
  refine wp_region_any hm ?_
  have key := any_of_head (Q := Q) (g := (o :: l).toArray.size - n) (fun listed a' w' hw hL => by
    have hb : Below w.heap.size w w' := by
      obtain ⟨p, rfl⟩ := hw
      exact below_regrown w p.d p.os
    have := wpAny_of_seq (md := .any) (Q' := Q) (l.drop (n - 1)) n listed a' w' (fun j => by
      have e : n + j = (n - 1 + j) + 1 := by omega
      simp [List.getElem?_drop, e]) (by rw [hdl]; exact hL.1) (hL.2 w' hb)
    rwa [hdl] at this) _ _ _ { w with drawn := w.drawn + 1 } ⟨⟨w.drawn + 1, #[]⟩, by rw [grow_empty]; rfl⟩ H
  rw [htl] at key
  have hsz : (o :: l).toArray.size = (n - 1 + ((o :: l).toArray.size - n)) + 1 := by simp; omega
  have hy : Yields P (o :: l).toArray o v a := .inl ⟨by simp [Region.wanted, h2], fun w => by rw [BigFrame.run_move x h1, h4]⟩
  rw [show wpAny P .any (o :: l).toArray Q (o :: l).toArray.size = wpAny P .any (o :: l).toArray Q ((n - 1 + ((o :: l).toArray.size - n)) + 1) by rw [← hsz]]
  exact wpAny_take (i := 0) (oi := o) (v := v) rfl hsel hf0 hr0 (fun c a w hp => hQ c a w v (by rw [h3] at hp; exact hp)) hy (by rw [h3]; exact key)
end Go.Proofs.Ytplindidegmlkaa
