/- A law for a region that draws its order: loads that a condition on the world gives; then operations in a row, behind the first of which the condition still holds; then operations that wait for all. No program in sight. -/
import Derived.OrdersHeld
import Derived.StillTail
import Derived.Deep.RegionHeld
namespace Go.Proofs.YtfhdfhlabkeipaaGreatDoor
open Go
set_option linter.unusedVariables false

section
variable {P : Program} {ops : Array Oper} {Q : Exit → Act → World → Prop} {md : Region.Mode} {S : World → Prop}

/-- Whatever order is picked, S holds behind each operation ahead of number n. -/
def wpK (P : Program) (md : Region.Mode) (ops : Array Oper) (Q : Exit → Act → World → Prop) (S : World → Prop) (n : Nat) : Nat → Array Bool → Act → World → Prop
  | 0, listed, a, w => Region.ready md ops listed = [] ∧ Q .normal a w
  | f + 1, listed, a, w =>
    (Region.ready md ops listed = [] → Q .normal a w) ∧
    ∀ i ∈ Region.ready md ops listed, wpOp P ops Q i (fun a' w' => (i < n → S w') ∧ wpK P md ops Q S n f (listed.setIfInBounds i true) a' w') a w
theorem wpAny_of_K {n : Nat} : ∀ (f : Nat) (listed : Array Bool) (a : Act) (w : World), wpK P md ops Q S n f listed a w → wpAny P md ops Q f listed a w
  | 0, _, _, _, h => h
  | f + 1, _, _, _, h => ⟨h.1, fun i hi => wpOp_mono (fun a' w' h' => wpAny_of_K f _ a' w' h'.2) (h.2 i hi)⟩
theorem wpK_first {n i : Nat} {oi : Oper} {v : Value} (hi : ops[i]? = some oi) (hsel : ∀ (j : Nat) (o : Oper) cs b, ops[j]? = some o → o.op ≠ .select cs b)
    (hQ : ∀ c a w, Q (.panic c) (a.put oi.dst v) w → Q (.panic c) a w) (hs : Region.sinkB md ops n = true) (hc : Region.chainB md ops n = true) (hn : n < ops.size) (hin : i < n) :
    ∀ (f : Nat) (listed : Array Bool) (a : Act) (w : World), HeadInv md ops n listed →
      (∀ j oj, ops[j]? = some oj → j ≠ i → listed.getD j true = false → (∀ e ∈ oj.after, Region.binds md e = true → e.on ≠ i) → oi.apart ops oj = true) →
      i ∈ Region.ready md ops listed → YieldsIf P ops S oi v a → S w →
      wpK P md ops Q S n f (listed.setIfInBounds i true) (a.put oi.dst v) w → wpK P md ops Q S n (f + 1) listed a w := by
  intro f
  induction f with
  | zero =>
    intro listed a w _ _ hr hy hS H
    refine ⟨fun h => (by rw [h] at hr; cases hr), fun j hj => ?_⟩
    by_cases hji : j = i
    · subst hji; exact hy.wpOp hi hS ⟨fun _ => hS, H⟩
    · have := ready_mono hj hji
      rw [H.1] at this
      cases this
  | succ f ih =>
    intro listed a w inv hfree hr hy hS H
    refine ⟨fun h => (by rw [h] at hr; cases hr), fun j hj => ?_⟩
    by_cases hji : j = i
    · subst hji; exact hy.wpOp hi hS ⟨fun _ => hS, H⟩
    have hjn : j < n := by
      rcases Nat.lt_or_ge j n with h | h
      · exact h
      · exact absurd hj (tail_waits hs hc hn inv (n - i) i rfl hin (mem_ready.1 hr).1 j h)
    have h1 := H.2 j (ready_mono hj hji)
    obtain ⟨hjun, oj, hoj, hall⟩ := mem_ready.1 hj
    have hnot : ∀ e ∈ oj.after, Region.binds md e = true → e.on ≠ i := fun e he hb heq => by
      have h2 := hall e he hb
      rw [heq, getD_both (mem_ready.1 hr).1] at h2
      cases h2
    have h2 := wpOp_putIf hoj (hfree j oj hoj hji hjun hnot) (fun cs b => hsel i oi cs b hi) (fun cs b => hsel j oj cs b hoj) hQ hy h1
    refine wpOp_mono (fun a' w' h3 => ⟨h3.2.1, ih (listed.setIfInBounds j true) a' w' (inv.set hj hjn) (fun k ok hk hki hun hno => ?_) (ready_mono hr (Ne.symm hji)) h3.1 (h3.2.1 hjn) ?_⟩) h2
    · refine hfree k ok hk hki ?_ hno
      by_cases hjk : j = k
      · subst hjk; exact hjun
      · rw [getD_set_ne true hjk] at hun; exact hun
    · rw [Array.setIfInBounds_comm _ _ hji]
      exact h3.2.2

/-- The loads at the head, in the order of the text: each yields in every world that meets S. -/
def wpHeld (P : Program) (ops : Array Oper) (S : World → Prop) (R : Act → Prop) : List Oper → Act → Prop
  | [], a => R a
  | o :: rest, a => ∃ v, YieldsIf P ops S o v a ∧ wpHeld P ops S R rest (a.put o.dst v)
theorem wpHeld_nil {R : Act → Prop} {a : Act} (h : R a) : wpHeld P ops S R [] a := h
theorem wpHeld_cons {R : Act → Prop} {a : Act} {o : Oper} {rest : List Oper} {v : Value} (hw : Region.wanted o (yielded ops a.tmps) = true)
    (hy : ∀ w, S w → (execOp a.eval o).run P w = .ok (.value v) w) (h : wpHeld P ops S R rest (a.put o.dst v)) : wpHeld P ops S R (o :: rest) a := ⟨v, .inl ⟨hw, hy⟩, h⟩
/-- The row behind them: S is shown behind each of the first k. -/
def wpRow (P : Program) (ops : Array Oper) (Q : Exit → Act → World → Prop) (S : World → Prop) : Nat → List Oper → Act → World → Prop
  | 0, l, a, w => wpList P ops Q l a w
  | _ + 1, [], a, w => Q .normal a w
  | k + 1, o :: l, a, w => ∀ K' : Act → World → Prop, Shut (∀ a w, S w → wpRow P ops Q S k l a w → K' a w) → if Region.wanted o (yielded ops a.tmps) = true then Oper.wp P o a w K' Q else K' (a.put o.dst undef) w
theorem wpRow_zero {l : List Oper} {a : Act} {w : World} (h : wpList P ops Q l a w) : wpRow P ops Q S 0 l a w := by unfold wpRow; exact h
theorem wpRow_succ {k : Nat} {o : Oper} {l : List Oper} {a : Act} {w : World} (h : ∀ K' : Act → World → Prop, Shut (∀ a w, S w → wpRow P ops Q S k l a w → K' a w) → if Region.wanted o (yielded ops a.tmps) = true then Oper.wp P o a w K' Q else K' (a.put o.dst undef) w) : wpRow P ops Q S (k + 1) (o :: l) a w := by unfold wpRow; exact h
theorem wpK_row {n : Nat} : ∀ (l : List Oper) (k pos : Nat) (listed : Array Bool) (a : Act) (w : World), (∀ j, l[j]? = ops[pos + j]?) → (pos + k = n ∨ (k = 0 ∧ n ≤ pos)) →
    Region.seqB md ops l.length pos listed = true → wpRow P ops Q S k l a w → wpK P md ops Q S n l.length listed a w
  | [], k, _, _, a, w, _, _, hB, h => by
    refine ⟨by simpa [Region.seqB] using hB, ?_⟩
    cases k with
    | zero => unfold wpRow at h; exact h
    | succ k => unfold wpRow at h; exact h
  | o :: l, k, pos, listed, a, w, hl, hk, hB, h => by
    have h0 : ops[pos]? = some o := by simpa using (hl 0).symm
    simp only [List.length_cons, Region.seqB, Bool.and_eq_true, decide_eq_true_eq] at hB
    have hl' : ∀ j, l[j]? = ops[pos + 1 + j]? := fun j => by have := hl (j + 1); simpa [Nat.add_assoc, Nat.add_comm 1 j] using this
    refine ⟨fun h1 => (by rw [hB.1] at h1; cases h1), fun i hi => ?_⟩
    rw [hB.1] at hi
    have hik : i = pos := by simpa using hi
    subst hik
    cases k with
    | zero =>
      unfold wpRow at h
      have hw : wpOp P ops Q i (wpList P ops Q l) a w := by unfold wpOp; simp only [h0]; exact h
      exact wpOp_mono (fun a' w' h' => ⟨fun hlt => absurd hlt (by omega), wpK_row l 0 (i + 1) _ a' w' hl' (.inr ⟨rfl, by omega⟩) hB.2 (wpRow_zero h')⟩) hw
    | succ k =>
      unfold wpRow at h
      exact wpOp_step h0 (fun K' hK => h K' (fun a' w' hS hL => hK a' w' ⟨fun _ => hS, wpK_row l k (i + 1) _ a' w' hl' (by omega) hB.2 hL⟩))
theorem wpK_lex {m n g : Nat} (hsel : Region.noSelect ops = true) (hs : Region.sinkB md ops n = true) (hc : Region.chainB md ops n = true) (hn : n < ops.size) (hmn : m ≤ n)
    (hQ : ∀ c a d v w, Q (.panic c) (Act.put a d v) w → Q (.panic c) a w) (t : List Oper) (ht : ∀ j, t[j]? = ops[m + j]?) (htl : t.length = g) :
    ∀ (l : List Oper) (pos : Nat) (listed : Array Bool) (a : Act) (w : World), (∀ j, j < l.length → l[j]? = ops[pos + j]?) → pos + l.length = m → HeadInv md ops n listed →
    Region.lexHead md ops g l.length pos listed = true → S w → wpHeld P ops S (fun a' => wpRow P ops Q S (n - m) t a' w) l a → wpK P md ops Q S n (l.length + g) listed a w
  | [], pos, listed, a, w, _, hk, _, hB, _, h => by
    have : pos = m := by simpa using hk
    subst this
    subst htl
    rw [List.length_nil, Nat.zero_add]
    exact wpK_row t (n - pos) pos listed a w ht (.inl (by omega)) (by simpa [Region.lexHead] using hB) h
  | o :: l, pos, listed, a, w, hl, hk, inv, hB, hS, h => by
    have h0 : ops[pos]? = some o := by simpa using (hl 0 (by simp)).symm
    simp only [List.length_cons, Region.lexHead, Bool.and_eq_true] at hB
    obtain ⟨⟨hr, hf⟩, hB'⟩ := hB
    simp only [List.length_cons] at hk
    have hkn : pos < n := by omega
    have hr' : pos ∈ Region.ready md ops listed := by simpa using hr
    obtain ⟨v, hy, hK⟩ := h
    have := wpK_lex hsel hs hc hn hmn hQ t ht htl l (pos + 1) _ _ w (fun j hj => by have := hl (j + 1) (by simp; omega); simpa [Nat.add_assoc, Nat.add_comm 1 j] using this) (by omega) (inv.set hr' hkn) hB' hS hK
    have h2 := wpK_first h0 (Region.noSelect_spec hsel) (fun c a w => hQ c a o.dst v w) hs hc hn hkn (l.length + g) listed a w inv (Region.free_spec h0 hf) hr' hy hS this
    rw [List.length_cons, show l.length + 1 + g = l.length + g + 1 by omega]
    exact h2
/-- What the kernel is asked of such a region. -/
def rowB (md : Region.Mode) (ops : Array Oper) (m n : Nat) : Bool :=
  Region.noSelect ops && decide (n < ops.size) && decide (m ≤ n) && Region.sinkB md ops n && Region.chainB md ops n && Region.lexHead md ops (ops.size - m) m 0 (Array.replicate ops.size false)
theorem wp_region_row {id : Nat} {a : Act} {w : World} {l : List Oper} (m n : Nat) (hm : P.follows .mixedOrders = true) (hB : rowB .any l.toArray m n = true)
    (hQ : ∀ c a d v w, Q (.panic c) (Act.put a d v) w → Q (.panic c) a w) (hS : S w.drew)
    (h : wpHeld P l.toArray S (fun a' => wpRow P l.toArray Q S (n - m) (l.drop m) a' w.drew) (l.take m) a) : (Code.region id l.toArray true).wp P Q a w := by
  simp only [rowB, Bool.and_eq_true, decide_eq_true_eq] at hB
  obtain ⟨⟨⟨⟨⟨hsel, hn⟩, hmn⟩, hs⟩, hc⟩, hlex⟩ := hB
  have hn' : n < l.length := by simpa using hn
  have htl : (l.take m).length = m := by simp; omega
  have hdl : (l.drop m).length = l.toArray.size - m := by simp
  have inv0 : HeadInv .any l.toArray n (Array.replicate l.toArray.size false) :=
    ⟨by simp, fun j oj _ hl => (by rw [getD_replicate_false] at hl; cases hl), fun t _ ht => getD_in (by simpa using ht) (getD_replicate_false _ _)⟩
  refine wp_region_any hm ?_
  have H := wpK_lex (md := .any) (g := l.toArray.size - m) hsel hs hc hn hmn hQ (l.drop m) (fun j => by simp [List.getElem?_drop]) hdl (l.take m) 0 _ a w.drew (fun j hj => by
    have hj' : j < m := by rw [htl] at hj; exact hj
    simp [hj']) (by rw [htl]; omega) inv0 (by rw [htl]; exact hlex) hS h
  have := wpAny_of_K _ _ _ _ H
  rw [htl, show m + (l.toArray.size - m) = l.toArray.size by have : l.toArray.size = l.length := by simp
                                                             omega] at this
  exact this
end
end Go.Proofs.YtfhdfhlabkeipaaGreatDoor
