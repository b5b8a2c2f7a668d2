/- Layout: a script opened: a slice of calls. -/
import Derived.Test.YtcklmkjlbpjojaaDoorOp
import Derived.Test.YtcklmkjlbpjojaaDoorH2
namespace Go.Proofs.YtcklmkjlbpjojaaDoor
open Go.RowKit Go.ChangeShapes Go.WideShapes Go.Joins Go.Deep
set_option linter.unusedSimpArgs false
set_option linter.unusedVariables false

section
variable {H : Type} {enc : TypeId × Value → H} {w : World} {base : Nat} {spare : Nat → Bool} {held : Bool}
theorem i64_of {z : Int} (h : (Lit.int .i64 z).wf = true) : I64 z := by
  simp [Lit.wf, IntKind.min, IntKind.max, IntKind.signed, IntKind.bits] at h
  unfold I64; omega
theorem ops_in {fuel : Nat} {A : Option Addr} {n c : Nat} {x : DataW H × List MemPlace} (h : DataW.trod enc Tryd.prog w base spare held fuel 22 [.slice A n c] = some x) :
    ∃ l : List OpW, n = l.length ∧ Rd w A (opCells l) ∧ (∀ o ∈ l, o.ok) ∧ n ≤ 9223372036854775807 := by
  rcases open_slice_fields Tryd.underlying22 Tryd.underlying42 (by kernel_rfl) (by kernel_rfl) h with ⟨hcs, rfl⟩ | ⟨a, len, cap, m, D, Pl, hcs, _, hl, hm, hme, rfl, hD⟩
  · simp only [List.cons.injEq, and_true, Value.slice.injEq] at hcs
    obtain ⟨rfl, rfl, rfl⟩ := hcs
    exact ⟨[], rfl, Rd.nil _ _, by simp, by omega⟩
  · simp only [List.cons.injEq, and_true, Value.slice.injEq] at hcs
    obtain ⟨rfl, rfl, rfl⟩ := hcs
    have hnm : n ≤ m := by rw [hme]; split <;> omega
    have hml : maxLen = 9223372036854775807 := rfl
    have key : ∀ i, i < n → ∃ o : OpW, o.ok ∧ ∀ (j : Nat) (u : Value), o.cells[j]? = some u → w.cell? (a.add (i * 8 + j)) = some u := by
      intro i hi
      obtain ⟨ys, k, _, _, _, hf⟩ := hD i (by omega)
      obtain ⟨v0, y0, c0, _, t0⟩ := hf 0 _ rfl
      obtain ⟨v1, y1, c1, _, t1⟩ := hf 1 _ rfl
      obtain ⟨v2, y2, c2, _, t2⟩ := hf 2 _ rfl
      obtain ⟨v3, y3, c3, _, t3⟩ := hf 3 _ rfl
      obtain ⟨v4, y4, c4, _, t4⟩ := hf 4 _ rfl
      obtain ⟨v5, y5, c5, _, t5⟩ := hf 5 _ rfl
      obtain ⟨v6, y6, c6, _, t6⟩ := hf 6 _ rfl
      obtain ⟨v7, y7, c7, _, t7⟩ := hf 7 _ rfl
      obtain ⟨z0, rfl, _⟩ := int_form Tryd.underlying3 t0
      obtain ⟨z1, rfl, w1⟩ := int_form Tryd.underlying3 t1
      obtain ⟨z2, rfl, _⟩ := int_form Tryd.underlying3 t2
      obtain ⟨z3, rfl, w3⟩ := int_form Tryd.underlying3 t3
      obtain ⟨z4, rfl, _⟩ := int_form Tryd.underlying5 t4
      obtain ⟨z5, e5, _⟩ := DataW.trod_bool Tryd.underlying4 t5
      obtain ⟨z6, e6, _⟩ := DataW.trod_bool Tryd.underlying4 t6
      obtain ⟨z7, e7, _⟩ := DataW.trod_string Tryd.underlying9 t7
      simp only [List.cons.injEq, and_true] at e5 e6 e7
      subst e5; subst e6; subst e7
      refine ⟨⟨z0, z1, z2, z3, z4, z5, z6, z7⟩, ⟨i64_of w1, i64_of w3⟩, fun j u hu => ?_⟩
      have hj : j < 8 := (List.getElem?_eq_some_iff.1 hu).1
      have : j = 0 ∨ j = 1 ∨ j = 2 ∨ j = 3 ∨ j = 4 ∨ j = 5 ∨ j = 6 ∨ j = 7 := by omega
      rcases this with rfl | rfl | rfl | rfl | rfl | rfl | rfl | rfl <;> (simp only [OpW.cells] at hu; cases hu; assumption)
    have key2 : ∀ k, k ≤ n → ∃ l : List OpW, l.length = k ∧ (∀ o ∈ l, o.ok) ∧ ∀ (i : Nat) (u : Value), (opCells l)[i]? = some u → w.cell? (a.add i) = some u := by
      intro k
      induction k with
      | zero => intro _; exact ⟨[], rfl, by simp, fun i u hu => by simp [opCells] at hu⟩
      | succ k ih =>
        intro hk
        obtain ⟨l, hl', hok, h'⟩ := ih (by omega)
        obtain ⟨o, ho, hh⟩ := key k (by omega)
        have hlen : (opCells l).length = k * 8 := by
          rw [← hl']; clear h' hok hl'
          induction l with
          | nil => rfl
          | cons b l ih => simp only [opCells, List.flatMap_cons, List.length_append] at ih ⊢; rw [ih]; simp [OpW.cells]; omega
        refine ⟨l ++ [o], by simp [hl'], fun b hb => ?_, fun i u hu => ?_⟩
        · rcases List.mem_append.1 hb with h | h
          · exact hok b h
          · simp at h; subst h; exact ho
        · have e : opCells (l ++ [o]) = opCells l ++ o.cells := by simp [opCells]
          rw [e] at hu
          by_cases hi : i < k * 8
          · rw [List.getElem?_append_left (by omega)] at hu
            exact h' i u hu
          · rw [List.getElem?_append_right (by omega), hlen] at hu
            have := hh (i - k * 8) u hu
            rwa [show k * 8 + (i - k * 8) = i by omega] at this
    obtain ⟨l, hll, hok, hc⟩ := key2 n (Nat.le_refl _)
    exact ⟨l, hll.symm, rd_add hc, hok, by omega⟩
end
end Go.Proofs.YtcklmkjlbpjojaaDoor
