/-
  Plain facts on jobs in time: the greatest lateness by urgency is what the fullest stretch asks; no order of work has a smaller one.
-/
import Derived.Test.YtbmbogaejmgloaaMath
namespace Go.Proofs.Ytbmbogaejmgloaa

/-- When job k is done by a table: the last of its units among the first T. -/
def enF (f : Nat → Int) : Nat → Nat → Int
  | 0, _ => 0
  | t + 1, k => if f t = (k : Int) then ((t + 1 : Nat) : Int) else enF f t k

/-- The number of a choice: -1 for none. -/
def oI (o : Option Nat) : Int := match o with | none => -1 | some k => (k : Int)

theorem oI_some {o : Option Nat} {k : Nat} : oI o = (k : Int) ↔ o = some k := by
  cases o with
  | none => simp [oI]
  | some j => simp [oI]; omega

def pickN (pk : (Nat → Int) → Nat → Option Nat) (L : List Jb) (t : Nat) : Int := oI (pk (rest pk L t) t)
/-- The table by a rule. -/
def tbl (pk : (Nat → Int) → Nat → Option Nat) (L : List Jb) : List Int := (List.range (lenT pk L)).map (pickN pk L)
/-- When job k is done by a rule, by time T. -/
def en (pk : (Nat → Int) → Nat → Option Nat) (L : List Jb) (T k : Nat) : Int := enF (pickN pk L) T k

theorem enF_bd (f : Nat → Int) (k : Nat) : ∀ T : Nat, 0 ≤ enF f T k ∧ enF f T k ≤ T
  | 0 => by simp [enF]
  | t + 1 => by
    have := enF_bd f k t
    rw [enF]
    split <;> omega

theorem enF_congr {f g : Nat → Int} (k : Nat) : ∀ T : Nat, (∀ t, t < T → f t = g t) → enF f T k = enF g T k
  | 0, _ => rfl
  | t + 1, h => by rw [enF, enF, h t (by omega), enF_congr k t (fun i hi => h i (by omega))]

/-- What is left of a job by time T was left already when it was last worked on. -/
theorem rest_en {pk : (Nat → Int) → Nat → Option Nat} {L : List Jb} (k : Nat) : ∀ T : Nat, rest pk L (en pk L T k).toNat k = rest pk L T k
  | 0 => by simp [en, enF]
  | t + 1 => by
    have ih := rest_en (pk := pk) (L := L) k t
    unfold en at ih ⊢
    rw [enF]
    by_cases h : pickN pk L t = (k : Int)
    · rw [if_pos h]; simp
    · rw [if_neg h, ih]
      have : ¬ pk (rest pk L t) t = some k := fun e => h (oI_some.2 e)
      simp [rest, this]

/-- The last unit of a job was the job's own. -/
theorem pick_en {pk : (Nat → Int) → Nat → Option Nat} {L : List Jb} (k : Nat) : ∀ T : Nat, 0 < en pk L T k → pk (rest pk L ((en pk L T k).toNat - 1)) ((en pk L T k).toNat - 1) = some k
  | 0, h => by simp [en, enF] at h
  | t + 1, h => by
    have ih := pick_en (pk := pk) (L := L) k t
    unfold en at ih h ⊢
    rw [enF] at h ⊢
    by_cases hp : pickN pk L t = (k : Int)
    · rw [if_pos hp]
      have e : ((t + 1 : Nat) : Int).toNat - 1 = t := by omega
      rw [e]
      exact oI_some.1 hp
    · rw [if_neg hp] at h ⊢
      exact ih h

theorem en_pos {pk : (Nat → Int) → Nat → Option Nat} {L : List Jb} {k T : Nat} (h0 : 0 < nd L k) (h : rest pk L T k = 0) : 0 < en pk L T k := by
  have h1 := rest_en (pk := pk) (L := L) k T
  have h2 := (enF_bd (pickN pk L) k T).1
  by_cases h3 : enF (pickN pk L) T k = 0
  · unfold en at h1
    rw [h3] at h1
    simp only [Int.toNat_zero] at h1
    rw [show rest pk L 0 = nd L from rfl] at h1
    omega
  · unfold en; omega

theorem rest_zero {pk : (Nat → Int) → Nat → Option Nat} {L : List Jb} (hv : Valid L) (hr : Rule L pk) {k : Nat} (hk : k < L.length) : rest pk L (lenT pk L) k = 0 := by
  have h1 := (lenT_facts hv hr).2.1
  have h2 := sumP_ge (p := allB) (f := rest pk L (lenT pk L)) hk rfl (fun j hj _ => hr.work.nonneg hv _ j hj)
  have h3 := hr.work.nonneg hv (lenT pk L) k hk
  unfold openAt at h1
  omega

/-- From some unit on, q held all the time until E. -/
theorem find_a (q : Nat → Bool) : ∀ E : Nat, ∃ a, a ≤ E ∧ (∀ t, a ≤ t → t < E → q t = true) ∧ (a = 0 ∨ q (a - 1) = false)
  | 0 => ⟨0, Nat.le_refl _, fun t _ h => by omega, .inl rfl⟩
  | E + 1 => by
    obtain ⟨a, h1, h2, h3⟩ := find_a q E
    by_cases hq : q E = true
    · refine ⟨a, by omega, fun t ht ht' => ?_, h3⟩
      rcases Nat.lt_or_ge t E with h | h
      · exact h2 t ht h
      · obtain rfl : t = E := by omega
        exact hq
    · exact ⟨E + 1, Nat.le_refl _, fun t h h' => by omega, .inr (by simpa using hq)⟩

/-- By urgency, a job that is done at E has a stretch that is full until E. -/
theorem edf_full {L : List Jb} (hv : Valid L) {k : Nat} {E : Nat} (hE : 0 < E) (hp : edf L (rest (edf L) L (E - 1)) (E - 1) = some k) :
    ∃ a : Int, 0 < dem L a (at_ L k).e ∧ (E : Int) ≤ a + dem L a (at_ L k).e := by
  have hr := edf_rule hv
  obtain ⟨a, ha, hb, hc⟩ := find_a (fun t => match edf L (rest (edf L) L t) t with | none => false | some j => decide ((at_ L j).e ≤ (at_ L k).e)) E
  have haE : a < E := by
    rcases hc with hc | hc
    · omega
    · rcases Nat.lt_or_ge a E with h | h
      · exact h
      · obtain rfl : a = E := by omega
        simp only [hp] at hc
        simp at hc
  -- whoever is left at a and is as urgent came not before a
  have hfrom : ∀ m, m < L.length → 0 < rest (edf L) L a m → (at_ L m).e ≤ (at_ L k).e → (a : Int) ≤ (at_ L m).s := by
    intro m hm hrm hem
    have hbd := hv.bd hm
    rcases hc with hc | hc
    · omega
    · by_cases ha0 : a = 0
      · omega
      have hrm' : 0 < rest (edf L) L (a - 1) m := by
        have := hr.work.down (k := m) (a - 1) 1
        rw [show a - 1 + 1 = a by omega] at this
        omega
      cases hq : edf L (rest (edf L) L (a - 1)) (a - 1) with
      | none => have := hr.busy _ _ hq m hm hrm'; omega
      | some j =>
        rw [hq] at hc
        simp at hc
        have hbest := (best_is hv (r := rest (edf L) L (a - 1)) (t := a - 1) L.length (Nat.le_refl _)).first j hq m (Nat.zero_le _) hm
        by_cases hs : (at_ L m).s ≤ ((a - 1 : Nat) : Int)
        · have := hbest (can_true.2 ⟨hs, hrm'⟩); omega
        · omega
  -- each unit from a on takes one from the stretch
  have hcount : ∀ d, a + d ≤ E → sumP (inS L a (at_ L k).e) (rest (edf L) L (a + d)) L.length = sumP (inS L a (at_ L k).e) (rest (edf L) L a) L.length - d := by
    intro d
    induction d with
    | zero => intro _; simp
    | succ d ih =>
      intro hd
      have ih := ih (by omega)
      have hq := hb (a + d) (by omega) (by omega)
      cases hj : edf L (rest (edf L) L (a + d)) (a + d) with
      | none => simp only [hj] at hq; cases hq
      | some j =>
        simp only [hj] at hq
        simp at hq
        obtain ⟨f1, f2, f3⟩ := hr.fit _ _ _ hj
        have hdn := hr.work.down (k := j) a d
        have hja := hfrom j f1 (by omega) hq
        have ht := sumP_take (p := inS L a (at_ L k).e) (f := rest (edf L) L (a + d)) (g := rest (edf L) L (a + d + 1)) (j := j) (by simp [rest, hj])
          (fun i hi => by have : ¬ j = i := fun e => hi e.symm
                          simp [rest, hj, this]) (n := L.length)
        rw [if_pos ⟨f1, inS_true.2 ⟨hja, hq⟩⟩] at ht
        rw [show a + (d + 1) = a + d + 1 by omega, ht, ih]
        omega
  have h1 := hcount (E - a) (by omega)
  rw [show a + (E - a) = E by omega] at h1
  have h2 : 0 ≤ sumP (inS L a (at_ L k).e) (rest (edf L) L E) L.length := sumP_nonneg fun m hm _ => hr.work.nonneg hv E m hm
  have h3 : sumP (inS L a (at_ L k).e) (rest (edf L) L a) L.length ≤ dem L a (at_ L k).e := by
    refine sumP_mono (fun _ _ h => h) (fun m hm _ => ?_) (fun m hm => by have := nd_pos hv hm; omega)
    have := hr.work.down (k := m) 0 a
    rw [Nat.zero_add, hr.work.init] at this
    exact this
  exact ⟨a, by omega, by omega⟩

/-- The greatest of the first n numbers; 0 if there are none. -/
def mxT (f : Nat → Int) : Nat → Int
  | 0 => 0
  | n + 1 => if n = 0 ∨ mxT f n < f n then f n else mxT f n

theorem mxT_ge {f : Nat → Int} : ∀ {n k : Nat}, k < n → f k ≤ mxT f n
  | 0, k, h => by omega
  | n + 1, k, h => by
    rw [mxT]
    rcases Nat.lt_or_ge k n with hk | hk
    · have := mxT_ge (f := f) hk
      split
      · rename_i h'; rcases h' with h' | h' <;> omega
      · omega
    · obtain rfl : k = n := by omega
      split
      · omega
      · rename_i h'; omega

theorem mxT_mem {f : Nat → Int} : ∀ {n : Nat}, 0 < n → ∃ k, k < n ∧ mxT f n = f k
  | 0, h => by omega
  | n + 1, _ => by
    rw [mxT]
    split
    · exact ⟨n, by omega, rfl⟩
    · rename_i h
      obtain ⟨k, h1, h2⟩ := mxT_mem (f := f) (n := n) (by omega)
      exact ⟨k, by omega, h2⟩

theorem mxT_congr {f g : Nat → Int} : ∀ {n : Nat}, (∀ k, k < n → f k = g k) → mxT f n = mxT g n
  | 0, _ => rfl
  | n + 1, h => by rw [mxT, mxT, mxT_congr (fun k hk => h k (by omega)), h n (by omega)]

def laF (L : List Jb) (k : Nat) : Int := en (edf L) L (lenT (edf L) L) k - (at_ L k).e
/-- The greatest lateness by urgency. -/
def lateJ (L : List Jb) : Int := mxT (laF L) L.length

/-- Whoever has done each job by v after its bound has v at least the greatest lateness. -/
theorem Work.late {L : List Jb} (hv : Valid L) {R : Nat → Nat → Int} (h : Work L R) {v : Int} (c : Nat → Nat) (hc : ∀ k, k < L.length → R (c k) k = 0 ∧ (c k : Int) - (at_ L k).e ≤ v) {a b : Int} (hd : 0 < dem L a b) : a + dem L a b - b ≤ v := by
  obtain ⟨k0, hk0, h1, h2⟩ := dem_job hd
  have hnn : 0 ≤ v + b := by have := (hc k0 hk0).2; omega
  have := h.need (a := a) (b := b) (m := (v + b).toNat) hd (fun k hk ha hb => by
    obtain ⟨e1, e2⟩ := hc k hk
    have hle : c k ≤ (v + b).toNat := by omega
    have := h.down (k := k) (c k) ((v + b).toNat - c k)
    rw [show c k + ((v + b).toNat - c k) = (v + b).toNat by omega, e1] at this
    have := h.nonneg hv (v + b).toNat k hk
    omega)
  omega

theorem late_is {L : List Jb} (hv : Valid L) (hn : 0 < L.length) : IsLate L (lateJ L) := by
  have hr := edf_rule hv
  have hub : ∀ a b, 0 < dem L a b → a + dem L a b - b ≤ lateJ L := by
    intro a b hd
    refine hr.work.late hv (fun k => (en (edf L) L (lenT (edf L) L) k).toNat) (fun k hk => ⟨?_, ?_⟩) hd
    · rw [rest_en]; exact rest_zero hv hr hk
    · have h1 := mxT_ge (f := laF L) hk
      have h2 := (enF_bd (pickN (edf L) L) k (lenT (edf L) L)).1
      show ((enF (pickN (edf L) L) (lenT (edf L) L) k).toNat : Int) - _ ≤ _
      rw [Int.toNat_of_nonneg h2]
      exact h1
  refine ⟨?_, hub⟩
  obtain ⟨k, hk, he⟩ := mxT_mem (f := laF L) hn
  have h0 := rest_zero hv hr hk
  have hp := en_pos (nd_pos hv hk) h0
  have hpk := pick_en k _ hp
  obtain ⟨a, h1, h2⟩ := edf_full hv (E := (en (edf L) L (lenT (edf L) L) k).toNat) (by omega) hpk
  refine ⟨a, (at_ L k).e, h1, ?_⟩
  have h3 := hub a (at_ L k).e h1
  have h4 : lateJ L = en (edf L) L (lenT (edf L) L) k - (at_ L k).e := he
  omega

theorem lateJ_nil {L : List Jb} (h : L.length = 0) : lateJ L = 0 := by unfold lateJ; rw [h]; rfl

theorem lateJ_eq {L : List Jb} (hv : Valid L) (hn : 0 < L.length) {v : Int} (h : IsLate L v) : lateJ L = v := (late_is hv hn).uniq h

theorem lateJ_bd {L : List Jb} (hv : Valid L) : -60 ≤ lateJ L ∧ lateJ L ≤ 540 := by
  by_cases hn : 0 < L.length
  · obtain ⟨k, hk, he⟩ := mxT_mem (f := laF L) hn
    have h1 := enF_bd (pickN (edf L) L) k (lenT (edf L) L)
    have h2 := (lenT_facts hv (edf_rule hv)).1
    have h3 := hv.bd hk
    have h4 : lateJ L = enF (pickN (edf L) L) (lenT (edf L) L) k - (at_ L k).e := he
    omega
  · rw [lateJ_nil (by omega)]; omega

/-- A stretch is crowded. -/
def crB (L : List Jb) (a b : Int) : Bool := decide (b - a < dem L a b)

theorem late_crowd {L : List Jb} (hv : Valid L) : 0 < lateJ L ↔ ∃ a b : Int, 0 ≤ a ∧ a < b ∧ b ≤ 60 ∧ b - a < dem L a b := by
  by_cases hn : 0 < L.length
  · obtain ⟨h1, h2⟩ := late_is hv hn
    constructor
    · intro h
      obtain ⟨a, b, h3, h4⟩ := h1
      -- a stretch within 0 .. 60 holds as much
      obtain ⟨k, hk, h5, h6⟩ := dem_job h3
      have hk' := hv.bd hk
      have e : dem L (max a 0) (min b 60) = dem L a b := sumP_congr fun j hj => ⟨by
        have := hv.bd hj
        rw [Bool.eq_iff_iff, inS_true, inS_true]; omega, rfl⟩
      exact ⟨max a 0, min b 60, by omega, by omega, by omega, by omega⟩
    · rintro ⟨a, b, h3, h4, h5, h6⟩
      have := h2 a b (by omega); omega
  · constructor
    · intro h; rw [lateJ_nil (by omega)] at h; omega
    · rintro ⟨a, b, h3, h4, h5, h6⟩
      obtain ⟨k, hk, _⟩ := dem_job (show 0 < dem L a b by omega)
      omega

/-! ### Tables -/

/-- How often k stands among the first t. -/
def cnt (f : Nat → Int) : Nat → Nat → Int
  | 0, _ => 0
  | t + 1, k => cnt f t k + (if f t = (k : Int) then 1 else 0)

theorem cnt_bd (f : Nat → Int) (k : Nat) : ∀ t : Nat, 0 ≤ cnt f t k ∧ cnt f t k ≤ t
  | 0 => by simp [cnt]
  | t + 1 => by have := cnt_bd f k t; rw [cnt]; split <;> omega

theorem cnt_mono (f : Nat → Int) (k t : Nat) : ∀ d, cnt f t k ≤ cnt f (t + d) k
  | 0 => Int.le_refl _
  | d + 1 => by have := cnt_mono f k t d; rw [← Nat.add_assoc, cnt]; split <;> omega

def badN (L : List Jb) (xs : List Int) (i : Nat) : Bool := !inB (gi xs i) (-1) ((L.length : Int) - 1)
/-- A unit that stands in the table where its job cannot be done. -/
def badT (L : List Jb) (xs : List Int) (t : Nat) : Bool := decide (0 ≤ gi xs t) && (decide ((t : Int) < (at_ L (gi xs t).toNat).s) || decide ((at_ L (gi xs t).toNat).e ≤ t))
def badD (L : List Jb) (xs : List Int) (k : Nat) : Bool := decide (cnt (gi xs) xs.length k ≠ nd L k)

/-- The error number of a table. -/
def ckErr (L : List Jb) (xs : List Int) : Int :=
  if vErr L ≠ 0 then vErr L
  else if 60 < xs.length then 3
  else if (scanJ (badN L xs) xs.length 0).isSome then 1
  else if (scanJ (badT L xs) xs.length 0).isSome then 8
  else if (scanJ (badD L xs) L.length 0).isSome then 7 else 0

theorem ckErr_zero {L : List Jb} {xs : List Int} : ckErr L xs = 0 ↔ Valid L ∧ xs.length ≤ 60 ∧ (∀ t, t < xs.length → badN L xs t = false) ∧ (∀ t, t < xs.length → badT L xs t = false) ∧ (∀ k, k < L.length → badD L xs k = false) := by
  rw [← vErr_zero, ← scan_none, ← scan_none, ← scan_none]
  unfold ckErr
  by_cases h1 : vErr L = 0
  · by_cases h2 : 60 < xs.length
    · simp [h1, h2]; omega
    · cases h3 : (scanJ (badN L xs) xs.length 0).isSome <;> cases h4 : (scanJ (badT L xs) xs.length 0).isSome <;> cases h5 : (scanJ (badD L xs) L.length 0).isSome <;> simp [h1, h2] <;> omega
  · simp [h1]

/-- What a table leaves of the jobs. -/
def tabR (L : List Jb) (xs : List Int) (t k : Nat) : Int := if k < L.length then nd L k - cnt (gi xs) (min t xs.length) k else nd L k

theorem tabR_in {L : List Jb} {xs : List Int} {t k : Nat} (hk : k < L.length) : tabR L xs t k = nd L k - cnt (gi xs) (min t xs.length) k := if_pos hk

theorem cnt_yes {f : Nat → Int} {t k : Nat} (h : f t = (k : Int)) : cnt f (t + 1) k = cnt f t k + 1 := by rw [cnt, if_pos h]
theorem cnt_no {f : Nat → Int} {t k : Nat} (h : ¬ f t = (k : Int)) : cnt f (t + 1) k = cnt f t k := by rw [cnt, if_neg h, Int.add_zero]

/-- Whatever table keeps the jobs: no job is late by urgency either. -/
theorem keeps_late {L : List Jb} {xs : List Int} (h : ckErr L xs = 0) : lateJ L ≤ 0 := by
  obtain ⟨hv, h60, hN, hT, hD⟩ := ckErr_zero.1 h
  have hn' : ∀ t, t < xs.length → 0 ≤ gi xs t → (gi xs t).toNat < L.length ∧ (at_ L (gi xs t).toNat).s ≤ t ∧ (t : Int) < (at_ L (gi xs t).toNat).e := by
    intro t ht h0
    have h1 := hN t ht
    have h2 := hT t ht
    simp [badN, inB] at h1
    simp [badT, h0] at h2
    omega
  have hd' : ∀ k, k < L.length → cnt (gi xs) xs.length k = nd L k := by
    intro k hk
    have := hD k hk
    simpa [badD] using this
  by_cases hn : 0 < L.length
  · have hW : Work L (tabR L xs) := by
      refine ⟨?_, fun t => ?_⟩
      · funext k
        unfold tabR
        rw [Nat.zero_min]; simp [cnt]
      · by_cases ht : t < xs.length
        · have e1 : min t xs.length = t := by omega
          have e2 : min (t + 1) xs.length = t + 1 := by omega
          by_cases h0 : 0 ≤ gi xs t
          · right
            obtain ⟨a1, a2, a3⟩ := hn' t ht h0
            have ek : gi xs t = ((gi xs t).toNat : Int) := by omega
            refine ⟨(gi xs t).toNat, a1, ?_, a2, ?_, fun j hj => ?_⟩
            · have h1 := cnt_mono (gi xs) (gi xs t).toNat (t + 1) (xs.length - (t + 1))
              rw [show t + 1 + (xs.length - (t + 1)) = xs.length by omega, hd' _ a1, cnt_yes ek] at h1
              rw [tabR_in a1, e1]; omega
            · rw [tabR_in a1, tabR_in a1, e1, e2, cnt_yes ek]; omega
            · unfold tabR
              have hne : ¬ gi xs t = (j : Int) := by omega
              rw [e1, e2, cnt_no hne]
          · left
            funext j
            unfold tabR
            have hne : ¬ gi xs t = (j : Int) := by omega
            rw [e1, e2, cnt_no hne]
        · left
          funext j
          unfold tabR
          rw [show min (t + 1) xs.length = min t xs.length by omega]
    have hend : ∀ k, k < L.length → ∀ m : Nat, (at_ L k).e ≤ m → cnt (gi xs) (min m xs.length) k = nd L k := by
      intro k hk m hm
      rw [← hd' k hk]
      have : ∀ d, min m xs.length + d ≤ xs.length → cnt (gi xs) (min m xs.length + d) k = cnt (gi xs) (min m xs.length) k := by
        intro d
        induction d with
        | zero => intro _; rfl
        | succ d ih =>
          intro hd
          have hne : ¬ gi xs (min m xs.length + d) = (k : Int) := by
            intro e
            obtain ⟨a1, a2, a3⟩ := hn' (min m xs.length + d) (by omega) (by omega)
            have : (gi xs (min m xs.length + d)).toNat = k := by omega
            rw [this] at a3
            omega
          rw [← Nat.add_assoc, cnt_no hne, ih (by omega)]
      have := this (xs.length - min m xs.length) (by omega)
      rw [show min m xs.length + (xs.length - min m xs.length) = xs.length by omega] at this
      exact this.symm
    obtain ⟨a, b, h3, h4⟩ := (late_is hv hn).1
    have := hW.late hv (v := 0) (fun k => (at_ L k).e.toNat) (fun k hk => by
      have hb := hv.bd hk
      refine ⟨?_, by omega⟩
      rw [tabR_in hk, hend k hk _ (by omega)]; omega) h3
    omega
  · rw [lateJ_nil (by omega)]; omega

theorem cnt_rest {pk : (Nat → Int) → Nat → Option Nat} {L : List Jb} (k : Nat) : ∀ t : Nat, cnt (pickN pk L) t k = nd L k - rest pk L t k
  | 0 => by simp [cnt, rest]
  | t + 1 => by
    have ih := cnt_rest (pk := pk) (L := L) k t
    rw [cnt, ih]
    by_cases h : pk (rest pk L t) t = some k
    · have hp : pickN pk L t = (k : Int) := oI_some.2 h
      rw [if_pos hp]; simp [rest, h]; omega
    · have hp : ¬ pickN pk L t = (k : Int) := fun e => h (oI_some.1 e)
      rw [if_neg hp]; simp [rest, h]

theorem gi_tbl {pk : (Nat → Int) → Nat → Option Nat} {L : List Jb} {t : Nat} (h : t < lenT pk L) : gi (tbl pk L) t = pickN pk L t := by
  unfold gi tbl
  simp [List.getD_eq_getElem?_getD, h]
theorem tbl_length (pk : (Nat → Int) → Nat → Option Nat) (L : List Jb) : (tbl pk L).length = lenT pk L := by simp [tbl]

theorem cnt_congr {f g : Nat → Int} (k : Nat) : ∀ T : Nat, (∀ t, t < T → f t = g t) → cnt f T k = cnt g T k
  | 0, _ => rfl
  | t + 1, h => by rw [cnt, cnt, h t (by omega), cnt_congr k t (fun i hi => h i (by omega))]

theorem pickN_bd {L : List Jb} (hv : Valid L) (t : Nat) : -1 ≤ pickN (edf L) L t ∧ pickN (edf L) L t < L.length := by
  unfold pickN
  cases h : edf L (rest (edf L) L t) t with
  | none => simp [oI]; omega
  | some k => have := ((edf_rule hv).fit _ _ _ h).1; simp [oI]; omega

/-- An end is behind each unit of the job. -/
theorem en_last {f : Nat → Int} {k : Nat} : ∀ {T t : Nat}, t < T → f t = (k : Int) → (t : Int) + 1 ≤ enF f T k
  | 0, t, h, _ => by omega
  | T + 1, t, h, e => by
    rw [enF]
    split
    · omega
    · rename_i hne
      rcases Nat.lt_or_ge t T with h' | h'
      · exact en_last h' e
      · obtain rfl : t = T := by omega
        exact absurd e hne

/-- If no job is late by urgency, the table by urgency keeps the jobs. -/
theorem late_keeps {L : List Jb} (hv : Valid L) (h : lateJ L ≤ 0) : ckErr L (tbl (edf L) L) = 0 := by
  have hr := edf_rule hv
  obtain ⟨t1, t2, t3⟩ := lenT_facts hv hr
  have hen : ∀ k, k < L.length → enF (pickN (edf L) L) (lenT (edf L) L) k ≤ (at_ L k).e := by
    intro k hk
    have h1 : laF L k ≤ lateJ L := mxT_ge hk
    have h2 : laF L k = enF (pickN (edf L) L) (lenT (edf L) L) k - (at_ L k).e := rfl
    omega
  have h60 : lenT (edf L) L ≤ 60 := by
    by_cases h0 : lenT (edf L) L = 0
    · omega
    have ho := t3 (lenT (edf L) L - 1) (by omega)
    cases hp : edf L (rest (edf L) L (lenT (edf L) L - 1)) (lenT (edf L) L - 1) with
    | none =>
      have := open_none hp
      rw [show lenT (edf L) L - 1 + 1 = lenT (edf L) L by omega] at this
      omega
    | some k =>
      have hk := (hr.fit _ _ _ hp).1
      have h1 := en_last (f := pickN (edf L) L) (k := k) (T := lenT (edf L) L) (t := lenT (edf L) L - 1) (by omega) (oI_some.2 hp)
      have h2 := hen k hk
      have h3 := hv.bd hk
      omega
  rw [ckErr_zero, tbl_length]
  refine ⟨hv, h60, fun t ht => ?_, fun t ht => ?_, fun k hk => ?_⟩
  · unfold badN
    rw [gi_tbl ht]
    have := pickN_bd hv t
    have : inB (pickN (edf L) L t) (-1) ((L.length : Int) - 1) = true := inB_true.2 (by omega)
    rw [this]; rfl
  · unfold badT
    rw [gi_tbl ht]
    cases hp : edf L (rest (edf L) L t) t with
    | none => simp [pickN, hp, oI]
    | some k =>
      obtain ⟨f1, f2, f3⟩ := hr.fit _ _ _ hp
      have h1 := en_last (f := pickN (edf L) L) (k := k) ht (oI_some.2 hp)
      have h2 := hen k f1
      simp [pickN, hp, oI]
      omega
  · unfold badD
    rw [tbl_length, cnt_congr k _ (fun t ht => gi_tbl ht), cnt_rest, rest_zero hv hr hk]
    simp

end Go.Proofs.Ytbmbogaejmgloaa
