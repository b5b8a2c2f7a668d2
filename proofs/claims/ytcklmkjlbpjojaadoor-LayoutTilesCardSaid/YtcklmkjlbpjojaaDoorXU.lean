/- A region that draws its order, in a round of a range over a function: the laws for plain code hold there. No program in sight. -/
import Derived.RangeFuncWrites
import Derived.RangeFuncCalls
import Derived.OrdersIn
import Derived.Test.YtcklmkjlbpjojaaDoorK
namespace Go.Proofs.YtcklmkjlbpjojaaDoor.X
open Go
set_option linter.unusedVariables false

section
variable {P : Program} {ops : Array Oper} {Q : Exit → Act → World → Prop} {md : Region.Mode}
theorem uponIn_of_wide {l n : Nat} {o : Oper} {a : Act} {K : Act → World → Prop} {r : Result Next} (h : o.upon P a K Q r) : o.uponIn (Fence.wide.inRound l) n P a K Q r := by
  cases r with
  | ok x w' =>
    cases x with
    | value v => exact h
    | skip => exact h
    | defer d => exact h
    | enter f args => exact ⟨fun hd => absurd hd (by simp [Fence.wide]), CallsIn.inRound l (callsIn_wide.2 h)⟩
    | row rw args => exact ⟨fun hd => absurd hd (by simp [Fence.wide]), fun c cs _ => by
      obtain ⟨v, w2, r, s⟩ := h c cs
      exact ⟨v, w2, r, stepsIn_wide.2 s⟩⟩
    | _ => exact h.elim
  | halt x w' => cases x <;> exact h
theorem opIn_of_wide {l n : Nat} {o : Oper} {a : Act} {w : World} {K : Act → World → Prop} (hd : ∀ c, o.op ≠ .defer c) (h : o.wp P a w K Q) : o.wpIn (Fence.wide.inRound l) n P a w K Q :=
  ⟨fun _ _ => trivial, by rw [Oper.semAt_eq _ _ _ hd]; exact uponIn_of_wide h⟩
/-- No operation is a defer statement. -/
def noDefer (ops : Array Oper) : Bool := ops.all fun o => match o.op with | .defer _ => false | _ => true
theorem noDefer_spec {ops : Array Oper} (h : noDefer ops = true) {i : Nat} {o : Oper} (hi : ops[i]? = some o) : ∀ c, o.op ≠ .defer c := by
  intro c hc
  unfold noDefer at h
  rw [Array.all_eq_true_iff_forall_mem] at h
  have := h o (Array.mem_of_getElem? hi)
  rw [hc] at this
  cases this
theorem anyIn_of_wide {l n : Nat} (hd : noDefer ops = true) (hL : LetsOut Q → False) : ∀ (f : Nat) (listed : Array Bool) (a : Act) (w : World), wpAny P md ops Q f listed a w → wpAnyIn (Fence.wide.inRound l) n P md ops Q f listed a w
  | 0, _, _, _, h => h
  | f + 1, listed, a, w, h => ⟨h.1, fun i hi => by
    have h2 := wpOp_mono (fun a' w' h' => anyIn_of_wide (l := l) (n := n) hd hL f _ a' w' h') (h.2 i hi)
    unfold wpOp at h2
    unfold wpOpIn
    split at h2
    · rename_i he; rw [he]; exact h2
    · rename_i o ho
      rw [ho]
      dsimp only
      split at h2
      · rename_i hw
        rw [if_pos hw]
        rcases h2 with h2 | h2
        · exact opIn_of_wide (noDefer_spec hd ho) h2
        · exact (hL h2.2).elim
      · rename_i hw
        rw [if_neg hw]
        exact ⟨fun _ _ => trivial, h2⟩⟩
variable {S : World → Prop}
theorem wpIn_region_row {id l n' : Nat} {a : Act} {w : World} {l' : List Oper} (m n : Nat) (hm : P.follows .mixedOrders = true) (hB : rowB .any l'.toArray m n = true) (hd : noDefer l'.toArray = true) (hL : LetsOut Q → False)
    (hQ : ∀ c a d v w, Q (.panic c) (Act.put a d v) w → Q (.panic c) a w) (hS : S w.drew)
    (h : wpHeld P l'.toArray S (fun a' => wpRow P l'.toArray Q S (n - m) (l'.drop m) a' w.drew) (l'.take m) a) : (Code.region id l'.toArray true).wpIn (Fence.wide.inRound l) n' P Q a w := by
  simp only [rowB, Bool.and_eq_true, decide_eq_true_eq] at hB
  obtain ⟨⟨⟨⟨⟨hsel, hn⟩, hmn⟩, hs⟩, hc⟩, hlex⟩ := hB
  have hn' : n < l'.length := by simpa using hn
  have htl : (l'.take m).length = m := by simp; omega
  have hdl : (l'.drop m).length = l'.toArray.size - m := by simp
  have inv0 : HeadInv .any l'.toArray n (Array.replicate l'.toArray.size false) :=
    ⟨by simp, fun j oj _ hl => (by rw [getD_replicate_false] at hl; cases hl), fun t _ ht => getD_in (by simpa using ht) (getD_replicate_false _ _)⟩
  refine wpIn_region_any hm ?_
  refine anyIn_of_wide hd hL _ _ _ _ ?_
  have H := wpK_lex (md := .any) (g := l'.toArray.size - m) hsel hs hc hn hmn hQ (l'.drop m) (fun j => by simp [List.getElem?_drop]) hdl (l'.take m) 0 _ a w.drew (fun j hj => by
    have hj' : j < m := by rw [htl] at hj; exact hj
    simp [hj']) (by rw [htl]; omega) inv0 (by rw [htl]; exact hlex) hS h
  have := wpAny_of_K _ _ _ _ H
  have hsz : m + (l'.toArray.size - m) = l'.toArray.size := by
    have : l'.toArray.size = l'.length := by simp
    omega
  rw [htl, hsz] at this
  exact this
end
end Go.Proofs.YtcklmkjlbpjojaaDoor.X
