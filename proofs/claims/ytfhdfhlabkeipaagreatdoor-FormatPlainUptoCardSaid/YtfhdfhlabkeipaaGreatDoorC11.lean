/- Format: what a call of the expander keeps; appends of bytes. -/
import Derived.Test.YtfhdfhlabkeipaaGreatDoorF5
import Derived.Lib.AppendStr
namespace Go.Proofs.YtfhdfhlabkeipaaGreatDoor
open Go.RowKit
set_option linter.unusedSimpArgs false
set_option linter.unusedVariables false

section
variable {w w' w1 w2 : World}
theorem own_same {base size m : Nat} {e : TypeId} {v : Value} {xs : List Value} (h : w.ownsRow base e size v m xs) (hb : ∀ b, v.ownBlock = some b → w'.heap[b]? = w.heap[b]?) : w'.ownsRow base e size v m xs := by
  refine ⟨h.1, ?_⟩
  rcases h.2 with hn | ⟨g, cap, cur, rfl, hbs, hgg, rest⟩
  · exact .inl hn
  · refine .inr ⟨g, cap, cur, rfl, hbs, ?_, rest⟩
    rw [hb g rfl]; exact hgg
theorem own_ne {b1 b2 s1 s2 n1 n2 : Nat} {e1 e2 : TypeId} {v1 v2 : Value} {x1 x2 : List Value} (h1 : w.ownsRow b1 e1 s1 v1 n1 x1) (h2 : w.ownsRow b2 e2 s2 v2 n2 x2) (hne : e1 ≠ e2) : v1.ownBlock = none ∨ v1.ownBlock ≠ v2.ownBlock := by
  rcases h1.2 with ⟨rfl, _⟩ | ⟨g1, c1, cur1, rfl, _, hg1, _⟩
  · exact .inl rfl
  right
  rcases h2.2 with ⟨rfl, _⟩ | ⟨g2, c2, cur2, rfl, _, hg2, _⟩
  · simp [Value.ownBlock]
  · intro e
    have : g1 = g2 := by simpa [Value.ownBlock] using e
    subst this
    rw [hg1] at hg2
    injection hg2 with hg2
    injection hg2 with _ ht
    exact hne ht
theorem own_lt {base size m : Nat} {e : TypeId} {v : Value} {xs : List Value} (h : w.ownsRow base e size v m xs) {b : Nat} (hb : v.ownBlock = some b) : base ≤ b ∧ b < w.heap.size := by
  rcases h.2 with ⟨rfl, _⟩ | ⟨g, cap, cur, rfl, hbs, hgg, rest⟩
  · cases hb
  · have : g = b := by simpa [Value.ownBlock] using hb
    subst this
    exact ⟨hbs, (Array.getElem?_eq_some_iff.1 hgg).1⟩
/-- All that stood there stands, but for the expander's box and its stack. -/
structure Kp (mb ab : Nat) (w w' : World) : Prop where
  os : w'.os = w.os
  tape : w'.tape = w.tape
  output : w'.output = w.output
  size : w.heap.size ≤ w'.heap.size
  block : ∀ k, k < w.heap.size → k ≠ mb → k ≠ ab → w'.heap[k]? = w.heap[k]?
variable {mb ab ab1 base cap deep steps : Nat} {scs : List (Option Sc)}
theorem Kp.refl : Kp mb ab w w := ⟨rfl, rfl, rfl, Nat.le_refl _, fun _ _ _ _ => rfl⟩
theorem Kp.grow {row : Option Nat} (h : Kp mb ab w w1) (g : w1.grownBy w2 row) (hr : ∀ b, row = some b → w.heap.size ≤ b) : Kp mb ab w w2 :=
  ⟨g.os.trans h.os, g.tape.trans h.tape, g.output.trans h.output, Nat.le_trans h.size g.size, fun k hk h1 h2 => (g.block k (Nat.lt_of_lt_of_le hk h.size) (fun e => by have := hr k e.symm; omega)).trans (h.block k hk h1 h2)⟩
theorem Kp.grow0 (h : Kp mb ab w w1) (g : w1.grownBy w2 none) : Kp mb ab w w2 := h.grow g fun b e => by cases e
theorem Kp.trans (h : Kp mb ab w w1) (g : Kp mb ab1 w1 w2) (ha : ab1 = ab ∨ w.heap.size ≤ ab1) : Kp mb ab w w2 :=
  ⟨g.os.trans h.os, g.tape.trans h.tape, g.output.trans h.output, Nat.le_trans h.size g.size, fun k hk h1 h2 => (g.block k (Nat.lt_of_lt_of_le hk h.size) h1 (by rcases ha with rfl | ha; exact h2; omega)).trans (h.block k hk h1 h2)⟩
theorem Kp.below (h : Kp mb ab w w') {B : Nat} (hB : B ≤ w.heap.size) (h1 : B ≤ mb) (h2 : B ≤ ab) : Below B w w' := ⟨h.os, h.tape, h.output, h.size, fun k hk => h.block k (by omega) (by omega) (by omega)⟩
theorem Kp.own (h : Kp mb ab w w') {b0 size m : Nat} {e : TypeId} {v : Value} {xs : List Value} (ho : w.ownsRow b0 e size v m xs) (h1 : v.ownBlock ≠ some mb) (h2 : v.ownBlock ≠ some ab) : w'.ownsRow b0 e size v m xs :=
  own_same ho fun b hb => h.block b (own_lt ho hb).2 (by rintro rfl; exact h1 hb) (by rintro rfl; exact h2 hb)
theorem Kp.setBox (w : World) (k : Nat) (v : Value) : Kp mb ab w (w.setCell ⟨mb, k, none⟩ v) :=
  ⟨rfl, rfl, rfl, by simp [World.setCell], fun j _ h1 _ => by
    simp only [World.setCell, Array.getElem?_modify]
    rw [if_neg (fun e => h1 e.symm)]⟩
theorem Mk.ab_lo (h : Mk base mb w ab cap scs deep steps) : base ≤ ab ∧ ab < w.heap.size := by
  obtain ⟨cs, h1, _⟩ := h.sc
  exact own_lt h1 rfl
theorem Mk.ne_bytes (h : Mk base mb w ab cap scs deep steps) {b0 m : Nat} {v : Value} {xs : List Value} (ho : w.ownsRow b0 5 1 v m xs) : v.ownBlock ≠ some mb ∧ v.ownBlock ≠ some ab := by
  obtain ⟨cs, h1, _⟩ := h.sc
  refine ⟨fun e => ?_, fun e => ?_⟩
  · rcases ho.2 with ⟨rfl, _⟩ | ⟨g, c1, cur, rfl, _, hg, _⟩
    · cases e
    · have : g = mb := by simpa [Value.ownBlock] using e
      subst this
      rw [h.h] at hg
      injection hg with hg
      injection hg with _ ht
      cases ht
  · rcases own_ne ho h1 (by decide) with h2 | h2
    · rw [h2] at e; cases e
    · exact h2 e
/-- The expander where a row of the caller's own has changed. -/
theorem Mk.row (h : Mk base mb w ab cap scs deep steps) {b0 m : Nat} {v : Value} {xs : List Value} (ho : w.ownsRow b0 5 1 v m xs) (hb : base ≤ b0) (hB : base ≤ w.heap.size) (g : w.grownBy w' v.ownBlock) : Mk base mb w' ab cap scs deep steps := by
  obtain ⟨n1, n2⟩ := h.ne_bytes ho
  obtain ⟨cs, h1, h2⟩ := h.sc
  refine ⟨(g.block mb h.lt (fun e => n1 e.symm)).trans h.h, h.lo, h.dl, h.sl, h.ne, h.tb.below ⟨g.os, g.tape, g.output, g.size, fun k hk => g.block k (by omega) (fun e => by have := (own_lt ho e.symm).1; omega)⟩, cs, own_same h1 fun b hb => ?_, fun j o hj => ?_⟩
  · have : ab = b := by simpa [Value.ownBlock] using hb
    subst this
    exact g.block ab h.ab_lo.2 (fun e => n2 e.symm)
  · obtain ⟨v1, v2, q1, q2, q3, q4, q5⟩ := h2 j o hj
    refine ⟨v1, v2, q1, q2, q3, q4, fun s hs => (q5 s hs).below ⟨g.os, g.tape, g.output, g.size, fun k hk => g.block k (by omega) (fun e => ?_)⟩⟩
    have := (own_lt ho e.symm).1
    omega
end
/-- What a call of the expander ends with. -/
def ResP (base mb : Nat) (scs : List (Option Sc)) (deep ab : Nat) (w : World) (r : Rs) (e : Ending) (w' : World) : Prop :=
  match r with
  | .ok v n => e = .returned (.string (st v)) ∧ Kp mb ab w w' ∧ ∃ ab' cap', Mk base mb w' ab' cap' scs deep n ∧ (ab' = ab ∨ w.heap.size ≤ ab')
  | .bad k => e = Pan k ∧ Kp mb ab w w'
  | .no => True
theorem info5 : (Tryz.prog.info? 5).map (fun i => (i.zero, i.size, i.bytes)) = some (some (.int .u8 0), 1, 1) := by kernel_rfl
section
variable {ops : Array Oper} {rest : List Oper} {o : Oper} {a : Act} {Q : Exit → Act → World → Prop} {w : World}
/-- append of one byte. -/
theorem ap35 (hgd : o.guard = none) (s x : Operand) (ho : o.op = .call { callee := .builtin .append, args := #[s, x], argTypes := #[35, 35] })
    (base : Nat) (v : Value) (n : Nat) (xs : List Value) (hs : a.eval s = v) (hown : w.ownsRow base 5 1 v n xs) (g : Nat) (u : UInt8) (hx : a.eval x = .slice (some ⟨g, 0, none⟩) 1 1) (hg : w.heap[g]? = some (.cells #[.int .u8 (u.toNat : Int)] 5 (0, 0)))
    (hb : n ≤ 100000000) (hbase : base ≤ w.heap.size)
    (h : ∀ A' c' w', w'.ownsRow base 5 1 (.slice A' (n + 1) c') (n + 1) (xs ++ [b8 u]) → w.grownBy w' v.ownBlock → wpList Tryz.prog ops Q rest (a.put o.dst (.slice A' (n + 1) c')) w') : wpList Tryz.prog ops Q (o :: rest) a w := by
  obtain ⟨i0, hi0, hz0, hz1, hz2⟩ := info_parts info5
  exact wpList_append_rd w hgd s x 35 ho base 5 i0 _ 1 1 Tryz.underlying35 hi0 hz0 hz1 hz2 rfl (by omega) v n xs hs hown (some ⟨g, 0, none⟩) 1 1 [b8 u] hx rfl (rd_one hg) (by intro q hq; simp at hq; subst hq; rfl) (by unfold maxLen; omega) (by omega) hbase fun A' c' w' h1 h2 _ => h A' c' w' h1 h2
/-- append of a text. -/
theorem ap35s (hgd : o.guard = none) (s x : Operand) (ho : o.op = .call { callee := .builtin .append, args := #[s, x], argTypes := #[35, 9] })
    (base : Nat) (v : Value) (n : Nat) (xs : List Value) (hs : a.eval s = v) (hown : w.ownsRow base 5 1 v n xs) (t : B) (hx : a.eval x = .string (st t))
    (hb : n ≤ 100000000) (ht : t.length ≤ 100000000) (hbase : base ≤ w.heap.size)
    (h : ∀ A' c' w', w'.ownsRow base 5 1 (.slice A' (n + t.length) c') (n + t.length) (xs ++ bs t) → w.grownBy w' v.ownBlock → wpList Tryz.prog ops Q rest (a.put o.dst (.slice A' (n + t.length) c')) w') : wpList Tryz.prog ops Q (o :: rest) a w := by
  obtain ⟨i0, hi0, hz0, hz1, hz2⟩ := info_parts info5
  refine Lib.wpList_append_own_string w hgd s x 35 9 ho base 5 i0 Tryz.underlying35 Tryz.underlying9 hi0 hz0 hz1 hz2 v n xs hs hown (st t) hx (by rw [st_size]; unfold maxLen; omega) (by rw [st_size]; omega) hbase fun v' w' h1 h2 _ => ?_
  rw [st_size, strCells_eq, sl_st] at h1
  obtain ⟨A', c', rfl, _⟩ := Rd.of_own h1
  exact h A' c' w' h1 h2
end
end Go.Proofs.YtfhdfhlabkeipaaGreatDoor
