/- A law for a region that draws its order: loads that a condition on the world gives; then operations in a row, behind the first of which the condition still holds; then operations that wait for all. No program in sight. Format: where a pattern's parts begin, and a pattern's meaning from its end on. No program in sight. -/
import Derived.OrdersHeld
import Derived.StillTail
import Derived.Deep.RegionHeld
import Derived.Test.YtfhdfhlabkeipaaGreatDoorF4
namespace Go.Proofs.YtfhdfhlabkeipaaGreatDoor
open Go
set_option linter.unusedVariables false

section
variable {P : Program} {ops : Array Oper} {Q : Exit → Act → World → Prop} {md : Region.Mode} {S : World → Prop}

/-- Whatever order is picked, S holds behind each operation ahead of number n. -/
def wpK (P : Program) (md : Region.Mode) (ops : Array Oper) (Q : Exit → Act → World → Prop) (S : World → Prop) (n : Nat) : Nat → Array Bool → Act → World → Prop
  | 0, listed, a, w => Region.ready md ops listed = [] ∧ Q .normal a w
  | f + 1, listed, a, w =>
    (Region.ready md ops listed = [] → Q .normal a w) ∧
    ∀ i ∈ Region.ready md ops listed, wpOp P ops Q i (fun a' w' => (i < n → S w') ∧ wpK P md ops Q S n f (listed.setIfInBounds i true) a' w') a w
theorem wpAny_of_K {n : Nat} : ∀ (f : Nat) (listed : Array Bool) (a : Act) (w : World), wpK P md ops Q S n f listed a w → wpAny P md ops Q f listed a w
  | 0, _, _, _, h => h
  | f + 1, _, _, _, h => ⟨h.1, fun i hi => wpOp_mono (fun a' w' h' => wpAny_of_K f _ a' w' h'.2) (h.2 i hi)⟩
theorem wpK_first {n i : Nat} {oi : Oper} {v : Value} (hi : ops[i]? = some oi) (hsel : ∀ (j : Nat) (o : Oper) cs b, ops[j]? = some o → o.op ≠ .select cs b)
    (hQ : ∀ c a w, Q (.panic c) (a.put oi.dst v) w → Q (.panic c) a w) (hs : Region.sinkB md ops n = true) (hc : Region.chainB md ops n = true) (hn : n < ops.size) (hin : i < n) :
    ∀ (f : Nat) (listed : Array Bool) (a : Act) (w : World), HeadInv md ops n listed →
      (∀ j oj, ops[j]? = some oj → j ≠ i → listed.getD j true = false → (∀ e ∈ oj.after, Region.binds md e = true → e.on ≠ i) → oi.apart ops oj = true) →
      i ∈ Region.ready md ops listed → YieldsIf P ops S oi v a → S w →
      wpK P md ops Q S n f (listed.setIfInBounds i true) (a.put oi.dst v) w → wpK P md ops Q S n (f + 1) listed a w := by
  intro f
  induction f with
  | zero =>
    intro listed a w _ _ hr hy hS H
    refine ⟨fun h => (by rw [h] at hr; cases hr), fun j hj => ?_⟩
    by_cases hji : j = i
    · subst hji; exact hy.wpOp hi hS ⟨fun _ => hS, H⟩
    · have := ready_mono hj hji
      rw [H.1] at this
      cases this
  | succ f ih =>
    intro listed a w inv hfree hr hy hS H
    refine ⟨fun h => (by rw [h] at hr; cases hr), fun j hj => ?_⟩
    by_cases hji : j = i
    · subst hji; exact hy.wpOp hi hS ⟨fun _ => hS, H⟩
    have hjn : j < n := by
      rcases Nat.lt_or_ge j n with h | h
      · exact h
      · exact absurd hj (tail_waits hs hc hn inv (n - i) i rfl hin (mem_ready.1 hr).1 j h)
    have h1 := H.2 j (ready_mono hj hji)
    obtain ⟨hjun, oj, hoj, hall⟩ := mem_ready.1 hj
    have hnot : ∀ e ∈ oj.after, Region.binds md e = true → e.on ≠ i := fun e he hb heq => by
      have h2 := hall e he hb
      rw [heq, getD_both (mem_ready.1 hr).1] at h2
      cases h2
    have h2 := wpOp_putIf hoj (hfree j oj hoj hji hjun hnot) (fun cs b => hsel i oi cs b hi) (fun cs b => hsel j oj cs b hoj) hQ hy h1
    refine wpOp_mono (fun a' w' h3 => ⟨h3.2.1, ih (listed.setIfInBounds j true) a' w' (inv.set hj hjn) (fun k ok hk hki hun hno => ?_) (ready_mono hr (Ne.symm hji)) h3.1 (h3.2.1 hjn) ?_⟩) h2
    · refine hfree k ok hk hki ?_ hno
      by_cases hjk : j = k
      · subst hjk; exact hjun
      · rw [getD_set_ne true hjk] at hun; exact hun
    · rw [Array.setIfInBounds_comm _ _ hji]
      exact h3.2.2

/-- The loads at the head, in the order of the text: each yields in every world that meets S. -/
def wpHeld (P : Program) (ops : Array Oper) (S : World → Prop) (R : Act → Prop) : List Oper → Act → Prop
  | [], a => R a
  | o :: rest, a => ∃ v, YieldsIf P ops S o v a ∧ wpHeld P ops S R rest (a.put o.dst v)
theorem wpHeld_nil {R : Act → Prop} {a : Act} (h : R a) : wpHeld P ops S R [] a := h
theorem wpHeld_cons {R : Act → Prop} {a : Act} {o : Oper} {rest : List Oper} {v : Value} (hw : Region.wanted o (yielded ops a.tmps) = true)
    (hy : ∀ w, S w → (execOp a.eval o).run P w = .ok (.value v) w) (h : wpHeld P ops S R rest (a.put o.dst v)) : wpHeld P ops S R (o :: rest) a := ⟨v, .inl ⟨hw, hy⟩, h⟩
/-- The row behind them: S is shown behind each of the first k. -/
def wpRow (P : Program) (ops : Array Oper) (Q : Exit → Act → World → Prop) (S : World → Prop) : Nat → List Oper → Act → World → Prop
  | 0, l, a, w => wpList P ops Q l a w
  | _ + 1, [], a, w => Q .normal a w
  | k + 1, o :: l, a, w => ∀ K' : Act → World → Prop, Shut (∀ a w, S w → wpRow P ops Q S k l a w → K' a w) → if Region.wanted o (yielded ops a.tmps) = true then Oper.wp P o a w K' Q else K' (a.put o.dst undef) w
theorem wpRow_zero {l : List Oper} {a : Act} {w : World} (h : wpList P ops Q l a w) : wpRow P ops Q S 0 l a w := by unfold wpRow; exact h
theorem wpRow_succ {k : Nat} {o : Oper} {l : List Oper} {a : Act} {w : World} (h : ∀ K' : Act → World → Prop, Shut (∀ a w, S w → wpRow P ops Q S k l a w → K' a w) → if Region.wanted o (yielded ops a.tmps) = true then Oper.wp P o a w K' Q else K' (a.put o.dst undef) w) : wpRow P ops Q S (k + 1) (o :: l) a w := by unfold wpRow; exact h
theorem wpK_row {n : Nat} : ∀ (l : List Oper) (k pos : Nat) (listed : Array Bool) (a : Act) (w : World), (∀ j, l[j]? = ops[pos + j]?) → (pos + k = n ∨ (k = 0 ∧ n ≤ pos)) →
    Region.seqB md ops l.length pos listed = true → wpRow P ops Q S k l a w → wpK P md ops Q S n l.length listed a w
  | [], k, _, _, a, w, _, _, hB, h => by
    refine ⟨by simpa [Region.seqB] using hB, ?_⟩
    cases k with
    | zero => unfold wpRow at h; exact h
    | succ k => unfold wpRow at h; exact h
  | o :: l, k, pos, listed, a, w, hl, hk, hB, h => by
    have h0 : ops[pos]? = some o := by simpa using (hl 0).symm
    simp only [List.length_cons, Region.seqB, Bool.and_eq_true, decide_eq_true_eq] at hB
    have hl' : ∀ j, l[j]? = ops[pos + 1 + j]? := fun j => by have := hl (j + 1); simpa [Nat.add_assoc, Nat.add_comm 1 j] using this
    refine ⟨fun h1 => (by rw [hB.1] at h1; cases h1), fun i hi => ?_⟩
    rw [hB.1] at hi
    have hik : i = pos := by simpa using hi
    subst hik
    cases k with
    | zero =>
      unfold wpRow at h
      have hw : wpOp P ops Q i (wpList P ops Q l) a w := by unfold wpOp; simp only [h0]; exact h
      exact wpOp_mono (fun a' w' h' => ⟨fun hlt => absurd hlt (by omega), wpK_row l 0 (i + 1) _ a' w' hl' (.inr ⟨rfl, by omega⟩) hB.2 (wpRow_zero h')⟩) hw
    | succ k =>
      unfold wpRow at h
      exact wpOp_step h0 (fun K' hK => h K' (fun a' w' hS hL => hK a' w' ⟨fun _ => hS, wpK_row l k (i + 1) _ a' w' hl' (by omega) hB.2 hL⟩))
theorem wpK_lex {m n g : Nat} (hsel : Region.noSelect ops = true) (hs : Region.sinkB md ops n = true) (hc : Region.chainB md ops n = true) (hn : n < ops.size) (hmn : m ≤ n)
    (hQ : ∀ c a d v w, Q (.panic c) (Act.put a d v) w → Q (.panic c) a w) (t : List Oper) (ht : ∀ j, t[j]? = ops[m + j]?) (htl : t.length = g) :
    ∀ (l : List Oper) (pos : Nat) (listed : Array Bool) (a : Act) (w : World), (∀ j, j < l.length → l[j]? = ops[pos + j]?) → pos + l.length = m → HeadInv md ops n listed →
    Region.lexHead md ops g l.length pos listed = true → S w → wpHeld P ops S (fun a' => wpRow P ops Q S (n - m) t a' w) l a → wpK P md ops Q S n (l.length + g) listed a w
  | [], pos, listed, a, w, _, hk, _, hB, _, h => by
    have : pos = m := by simpa using hk
    subst this
    subst htl
    rw [List.length_nil, Nat.zero_add]
    exact wpK_row t (n - pos) pos listed a w ht (.inl (by omega)) (by simpa [Region.lexHead] using hB) h
  | o :: l, pos, listed, a, w, hl, hk, inv, hB, hS, h => by
    have h0 : ops[pos]? = some o := by simpa using (hl 0 (by simp)).symm
    simp only [List.length_cons, Region.lexHead, Bool.and_eq_true] at hB
    obtain ⟨⟨hr, hf⟩, hB'⟩ := hB
    simp only [List.length_cons] at hk
    have hkn : pos < n := by omega
    have hr' : pos ∈ Region.ready md ops listed := by simpa using hr
    obtain ⟨v, hy, hK⟩ := h
    have := wpK_lex hsel hs hc hn hmn hQ t ht htl l (pos + 1) _ _ w (fun j hj => by have := hl (j + 1) (by simp; omega); simpa [Nat.add_assoc, Nat.add_comm 1 j] using this) (by omega) (inv.set hr' hkn) hB' hS hK
    have h2 := wpK_first h0 (Region.noSelect_spec hsel) (fun c a w => hQ c a o.dst v w) hs hc hn hkn (l.length + g) listed a w inv (Region.free_spec h0 hf) hr' hy hS this
    rw [List.length_cons, show l.length + 1 + g = l.length + g + 1 by omega]
    exact h2
/-- What the kernel is asked of such a region. -/
def rowB (md : Region.Mode) (ops : Array Oper) (m n : Nat) : Bool :=
  Region.noSelect ops && decide (n < ops.size) && decide (m ≤ n) && Region.sinkB md ops n && Region.chainB md ops n && Region.lexHead md ops (ops.size - m) m 0 (Array.replicate ops.size false)
theorem wp_region_row {id : Nat} {a : Act} {w : World} {l : List Oper} (m n : Nat) (hm : P.follows .mixedOrders = true) (hB : rowB .any l.toArray m n = true)
    (hQ : ∀ c a d v w, Q (.panic c) (Act.put a d v) w → Q (.panic c) a w) (hS : S w.drew)
    (h : wpHeld P l.toArray S (fun a' => wpRow P l.toArray Q S (n - m) (l.drop m) a' w.drew) (l.take m) a) : (Code.region id l.toArray true).wp P Q a w := by
  simp only [rowB, Bool.and_eq_true, decide_eq_true_eq] at hB
  obtain ⟨⟨⟨⟨⟨hsel, hn⟩, hmn⟩, hs⟩, hc⟩, hlex⟩ := hB
  have hn' : n < l.length := by simpa using hn
  have htl : (l.take m).length = m := by simp; omega
  have hdl : (l.drop m).length = l.toArray.size - m := by simp
  have inv0 : HeadInv .any l.toArray n (Array.replicate l.toArray.size false) :=
    ⟨by simp, fun j oj _ hl => (by rw [getD_replicate_false] at hl; cases hl), fun t _ ht => getD_in (by simpa using ht) (getD_replicate_false _ _)⟩
  refine wp_region_any hm ?_
  have H := wpK_lex (md := .any) (g := l.toArray.size - m) hsel hs hc hn hmn hQ (l.drop m) (fun j => by simp [List.getElem?_drop]) hdl (l.take m) 0 _ a w.drew (fun j hj => by
    have hj' : j < m := by rw [htl] at hj; exact hj
    simp [hj']) (by rw [htl]; omega) inv0 (by rw [htl]; exact hlex) hS h
  have := wpAny_of_K _ _ _ _ H
  rw [htl, show m + (l.toArray.size - m) = l.toArray.size by have : l.toArray.size = l.length := by simp
                                                             omega] at this
  exact this
end
end Go.Proofs.YtfhdfhlabkeipaaGreatDoor
namespace Go.Proofs.YtfhdfhlabkeipaaGreatDoor
set_option linter.unusedSimpArgs false
set_option linter.unusedVariables false

theorem xIn_suf (c : UInt8) : ∀ (f : Nat) (first : Bool) (s : B) (is : Bool) (x : Bool × B), classIn c f first s is = some x → ∃ k, x.2 = s.drop k
  | 0, _, _, _, _, h => by simp [classIn] at h
  | f + 1, first, s, is, x, h => by
    cases s with
    | nil => simp [classIn] at h
    | cons a r =>
      rw [classIn] at h
      try dsimp only at h
      split at h
      · injection h with h
        subst h
        exact ⟨1, rfl⟩
      · split at h
        · obtain ⟨k, hk⟩ := xIn_suf c f _ _ _ _ h
          exact ⟨k + 3, by rw [hk, ← List.drop_one, ← List.drop_one, List.drop_drop, List.drop_drop]; rw [show k + 3 = (1 + (1 + k)) + 1 by omega]; rfl⟩
        · obtain ⟨k, hk⟩ := xIn_suf c f _ _ _ _ h
          exact ⟨k + 1, hk⟩
theorem xL_suf {s : B} {c : UInt8} {x : Bool × B} (h : classL s c = some x) : ∃ k, x.2 = s.drop k := by
  unfold classL at h
  try dsimp only at h
  rw [Option.map_eq_some_iff] at h
  obtain ⟨y, hy, rfl⟩ := h
  obtain ⟨k, hk⟩ := xIn_suf c _ _ _ _ _ hy
  dsimp only
  rw [hk]
  have key : ∀ b : Bool, ∃ k', (if b = true then s.tail else s).drop k = s.drop k' := fun b => by
    cases b with
    | false => exact ⟨k, rfl⟩
    | true => exact ⟨1 + k, by rw [if_pos rfl, ← List.drop_one, List.drop_drop]⟩
  exact key _
theorem xP_suf (p : B) (c : UInt8) : ∃ k, (partL p c).2 = p.drop k := by
  cases p with
  | nil => exact ⟨0, rfl⟩
  | cons a r =>
    unfold partL
    try dsimp only
    split
    · exact ⟨1, rfl⟩
    · split
      · cases hc : classL r c with
        | none => exact ⟨1, rfl⟩
        | some x =>
          obtain ⟨k, hk⟩ := xL_suf hc
          exact ⟨k + 1, hk⟩
      · split
        · cases r with
          | nil => exact ⟨1, rfl⟩
          | cons b r' => exact ⟨2, rfl⟩
        · exact ⟨1, rfl⟩
/-- Where the part behind the one at i begins. -/
def nxt (P : B) (i : Nat) : Nat := P.length - (partL (P.drop i) 0).2.length
theorem nxt_drop {P : B} {i : Nat} (c : UInt8) (hi : i < P.length) : (partL (P.drop i) c).2 = P.drop (nxt P i) ∧ i < nxt P i ∧ nxt P i ≤ P.length := by
  have h0 : (partL (P.drop i) c).2 = (partL (P.drop i) 0).2 := partL_rest _ _ _
  obtain ⟨k, hk⟩ := xP_suf (P.drop i) 0
  have hl := partL_len (p := P.drop i) 0 (by intro h; have := congrArg List.length h; rw [List.length_drop] at this; simp at this; omega)
  unfold nxt
  rw [h0]
  rw [hk, List.drop_drop] at hl ⊢
  simp only [List.length_drop] at hl ⊢
  refine ⟨?_, by omega, by omega⟩
  by_cases h : i + k ≤ P.length
  · rw [show P.length - (P.length - (i + k)) = i + k by omega]
  · rw [List.drop_eq_nil_of_le (by omega), List.drop_eq_nil_of_le (by omega)]
/-- Where the parts begin, from i on. -/
def begF (P : B) : Nat → Nat → List Nat
  | 0, _ => []
  | f + 1, i => if i < P.length then i :: begF P f (nxt P i) else []
theorem begF_fuel (P : B) : ∀ (f g i : Nat), P.length ≤ f + i → P.length ≤ g + i → begF P f i = begF P g i
  | 0, 0, _, _, _ => rfl
  | 0, g + 1, i, h, _ => by unfold begF; rw [if_neg (by omega)]
  | f + 1, 0, i, _, h => by unfold begF; rw [if_neg (by omega)]
  | f + 1, g + 1, i, h1, h2 => by
    unfold begF
    split
    · rename_i h
      have := nxt_drop 0 h
      rw [begF_fuel P f g (nxt P i) (by omega) (by omega)]
    · rfl
def beg (P : B) (i : Nat) : List Nat := begF P P.length i
theorem beg_end {P : B} {i : Nat} (h : P.length ≤ i) : beg P i = [] := by
  unfold beg
  cases hl : P.length with
  | zero => rfl
  | succ n => unfold begF; rw [if_neg (by omega)]
theorem beg_cons {P : B} {i : Nat} (h : i < P.length) : beg P i = i :: beg P (nxt P i) := by
  unfold beg
  cases hl : P.length with
  | zero => omega
  | succ n =>
    have := nxt_drop 0 h
    conv => lhs; unfold begF
    rw [if_pos (by omega), ← hl, begF_fuel P n P.length (nxt P i) (by omega) (by omega)]
theorem beg_len (P : B) : ∀ (m i : Nat), P.length - i ≤ m → (beg P i).length ≤ P.length - i
  | 0, i, h => by rw [beg_end (by omega)]; simp
  | m + 1, i, h => by
    by_cases hi : i < P.length
    · have := nxt_drop 0 hi
      have := beg_len P m (nxt P i) (by omega)
      rw [beg_cons hi]
      simp only [List.length_cons]
      omega
    · rw [beg_end (by omega)]; simp
/-- Behind the x-th part is the next one, or the pattern's end. -/
theorem beg_at (P : B) : ∀ (m i : Nat), P.length - i ≤ m → ∀ (x b : Nat), (beg P i)[x]? = some b → i ≤ b ∧ b < P.length ∧ nxt P b = ((beg P i)[x + 1]?).getD P.length
  | 0, i, h, x, b, hx => by rw [beg_end (by omega)] at hx; simp at hx
  | m + 1, i, h, x, b, hx => by
    by_cases hi : i < P.length
    · obtain ⟨n1, n2, n3⟩ := nxt_drop 0 hi
      rw [beg_cons hi] at hx ⊢
      rcases x with _ | x
      · simp at hx
        subst hx
        refine ⟨Nat.le_refl _, hi, ?_⟩
        rw [List.getElem?_cons_succ]
        by_cases hj : nxt P i < P.length
        · rw [beg_cons hj]; rfl
        · rw [beg_end (by omega)]
          simp
          omega
      · rw [List.getElem?_cons_succ] at hx
        obtain ⟨h1, h2, h3⟩ := beg_at P m (nxt P i) (by omega) x b hx
        rw [List.getElem?_cons_succ]
        exact ⟨by omega, h2, h3⟩
    · rw [beg_end (by omega)] at hx; simp at hx
/-- The row of a pattern from b on: does it mean what is left of s from j on? -/
def rowM (P s : B) (b : Nat) : List Bool := (List.range (s.length + 1)).map fun j => matchL (P.drop b) (s.drop j)
theorem rowM_at {P s : B} {b j : Nat} (hj : j ≤ s.length) : (rowM P s b)[j]? = some (matchL (P.drop b) (s.drop j)) := by
  unfold rowM
  rw [List.getElem?_map, List.getElem?_range (by omega)]
  rfl
theorem rowM_len (P s : B) (b : Nat) : (rowM P s b).length = s.length + 1 := by simp [rowM]
theorem match_end (P s : B) {b j : Nat} (hb : P.length ≤ b) (hj : j ≤ s.length) : matchL (P.drop b) (s.drop j) = decide (j = s.length) := by
  rw [List.drop_eq_nil_of_le hb, M_nil, Bool.eq_iff_iff, beq_iff_eq, decide_eq_true_eq]
  constructor
  · intro h
    have := congrArg List.length h
    rw [List.length_drop] at this
    simp at this
    omega
  · rintro rfl
    exact List.drop_length
theorem match_one {P s : B} {b j : Nat} {a c : UInt8} (ha : P[b]? = some a) (h42 : a ≠ 42) (hj : s[j]? = some c) :
    matchL (P.drop b) (s.drop j) = (matchL (P.drop (nxt P b)) (s.drop (j + 1)) && (partL (P.drop b) c).1) := by
  have hb := (List.getElem?_eq_some_iff.1 ha).1
  have h := (nxt_drop c hb).1
  rw [drop_at ha] at h ⊢
  rw [drop_at hj, M_one h42, h, Bool.and_comm]
theorem match_one_end {P s : B} {b j : Nat} {a : UInt8} (ha : P[b]? = some a) (h42 : a ≠ 42) (hj : s.length ≤ j) : matchL (P.drop b) (s.drop j) = false := by
  rw [drop_at ha, List.drop_eq_nil_of_le hj, M_one_nil h42]
theorem nxt_star {P : B} {b : Nat} (ha : P[b]? = some 42) : nxt P b = b + 1 := by
  have hb := (List.getElem?_eq_some_iff.1 ha).1
  unfold nxt
  rw [drop_at ha]
  unfold partL
  dsimp only
  rw [if_neg (by decide), if_neg (by decide), if_neg (by decide), List.length_drop]
  omega
theorem match_star {P s : B} {b j : Nat} (ha : P[b]? = some 42) (hj : j < s.length) :
    matchL (P.drop b) (s.drop j) = (matchL (P.drop b) (s.drop (j + 1)) || matchL (P.drop (nxt P b)) (s.drop j)) := by
  rw [nxt_star ha, drop_at ha, M_star]
  obtain ⟨c, hc⟩ : ∃ c, s[j]? = some c := ⟨s[j], List.getElem?_eq_getElem _⟩
  rw [drop_at hc, Bool.or_comm]
theorem match_star_end {P s : B} {b j : Nat} (ha : P[b]? = some 42) (hj : j = s.length) :
    matchL (P.drop b) (s.drop j) = matchL (P.drop (nxt P b)) (s.drop j) := by
  have hd : s.drop j = [] := List.drop_eq_nil_of_le (by omega)
  rw [nxt_star ha, drop_at ha, M_star, hd]
  simp
end Go.Proofs.YtfhdfhlabkeipaaGreatDoor
