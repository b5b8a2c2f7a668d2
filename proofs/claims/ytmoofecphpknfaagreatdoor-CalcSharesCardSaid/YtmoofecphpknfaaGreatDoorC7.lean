/- Calc: div, prescale, uscale, fixedWidthFloat at the examples. -/
import Derived.Test.YtmoofecphpknfaaGreatDoorC6
import Derived.Deep.Quiet
import Derived.BigQuiet
import Derived.Deep.DeepCutAuto
import Derived.Deep.CutBlock
namespace Go.Proofs.YtmoofecphpknfaaGreatDoor
open Go.RowKit
set_option linter.unusedSimpArgs false
set_option linter.unusedVariables false

theorem Wd.grown {w w' : World} (h : Wd w) (g : w.grownBy w' none) : Wd w' := by
  obtain ⟨B, o, c, h1, h2⟩ := h.p10
  exact ⟨g.cell h.opt (by simp), g.cell h.mb (by simp), B, o, c, g.cell h1 (by simp), g.cell h2 (by simp)⟩
theorem Wd2.grown {w w' : World} (h : Wd2 w) (g : w.grownBy w' none) : Wd2 w' :=
  ⟨h.d.grown g, g.cell h.p1 (by simp), g.cell h.p2 (by simp), g.cell h.p3 (by simp), g.cell h.t2h (by simp), g.cell h.t2l (by simp), g.cell h.t3h (by simp), g.cell h.t3l (by simp)⟩
theorem g_set {w w' : World} {p : Nat} (h : w.grownBy w' none) {a : Addr} (ha : a.block = p) (hp : w.heap.size ≤ p) (v : Value) : w.grownBy (w'.setCell a v) none :=
  ⟨h.os, h.tape, h.output, by simpa [World.setCell] using h.size, fun k hk hne => by
    rw [Below.heap_setCell _ _ _ _ (by rw [ha]; omega)]
    exact h.block k hk hne⟩
set_option maxRecDepth 100000 in
theorem div_500 (w : World) : Calls Tryz.prog 139 #[.int .u64 500, .int .u64 10] w fun e w' => e = .returned (.int .u64 50) ∧ w.grownBy w' none := by
  have q0 : bits .and .u64 500 1 = 0 := by decide
  have q1 : bits .or .u64 50 0 = 50 := by decide
  go_enter Tryz.func139, Tryz.ntmps139
  go_upto_region 2 with fail
  go_quiet ((go_at_call 160; exact (bool2r_false _).mono fun e w' h => ⟨h.1, _, h.2⟩))
  go_wp2_with fail
  go_ret
  exact ⟨rfl, ⟨rfl, rfl, rfl, Nat.le_refl _, fun k _ _ => rfl⟩⟩
/-- A scaler in a block. -/
def SC (w : World) (b : Nat) (hi lo s : Int) : Prop := w.heap[b]? = some (.cells #[.int .u64 hi, .int .u64 lo, .int .i64 s] 173 (0, 0))
theorem SC.cells {w : World} {b : Nat} {hi lo s : Int} (h : SC w b hi lo s) : w.cell? ⟨b, 0, none⟩ = some (.int .u64 hi) ∧ w.cell? ⟨b, 1, none⟩ = some (.int .u64 lo) ∧ w.cell? ⟨b, 2, none⟩ = some (.int .i64 s) ∧ ∀ j, w.frozen? ⟨b, j, none⟩ = false := by
  unfold SC at h
  refine ⟨?_, ?_, ?_, fun j => ?_⟩
  all_goals first | (unfold World.cell?; rw [h]; rfl) | (unfold World.frozen?; rw [h]; simp)
theorem set_row {w w' : World} {b j : Nat} {v : Value} (g : w.grownBy w' (some b)) : w.grownBy (w'.setCell ⟨b, j, none⟩ v) (some b) :=
  ⟨g.os, g.tape, g.output, by simpa [World.setCell] using g.size, fun k hk hne => by
    have hkb : k ≠ b := fun e => hne (by rw [e])
    rw [Below.heap_setCell _ _ _ _ (by show k ≠ b; exact hkb)]
    exact g.block k hk hne⟩
theorem heap_set {w : World} {g j : Nat} {c : Array Value} {e : TypeId} {f : Nat × Nat} (h : w.heap[g]? = some (.cells c e f)) (v : Value) : (w.setCell ⟨g, j, none⟩ v).heap[g]? = some (.cells (c.setIfInBounds j v) e f) := by
  simp [World.setCell, Array.getElem?_modify, h]
set_option maxRecDepth 100000 in
theorem pre_scale2 (b : Nat) (w : World) (hW : Wd2 w) (hb : 11 ≤ b) (hS : SC w b 0 0 0) : Calls Tryz.prog 130 #[.pointer (some ⟨b, 0, none⟩), .int .i64 (-62), .int .i64 2, .int .i64 6] w fun e w' => (∃ v, e = .returned v) ∧ SC w' b 14411518807585587200 0 53 ∧ w.grownBy w' (some b) := by
  have t1 := hW.t2h
  have t2 := hW.t2l
  obtain ⟨x0, x1, x2, x3⟩ := hS.cells
  have f0 := x3 0; have f1 := x3 1; have f2 := x3 2
  have hne : ¬ 10 = b := by omega
  have hne2 : ¬ b = 10 := by omega
  have S1 := heap_set (j := 0) hS (.int .u64 14411518807585587200)
  have S2 := heap_set (j := 1) S1 (.int .u64 0)
  have S3 := heap_set (j := 2) S2 (.int .i64 53)
  replace S1 := Lib.hid S1; replace S2 := Lib.hid S2; replace S3 := Lib.hid S3; replace hS := Lib.hid hS; replace hW := Lib.hid hW
  clear x3
  go_enter Tryz.func130, Tryz.ntmps130
  go_wp2_with fail
  go_end0
  exact ⟨⟨_, rfl⟩, S3.out, set_row (set_row (set_row (World.grownBy.refl w (some b))))⟩
set_option maxRecDepth 100000 in
theorem pre_scale3 (b : Nat) (w : World) (hW : Wd2 w) (hb : 11 ≤ b) (hS : SC w b 0 0 0) : Calls Tryz.prog 130 #[.pointer (some ⟨b, 0, none⟩), .int .i64 (-66), .int .i64 3, .int .i64 9] w fun e w' => (∃ v, e = .returned v) ∧ SC w' b 18014398509481984000 0 54 ∧ w.grownBy w' (some b) := by
  have t1 := hW.t3h
  have t2 := hW.t3l
  obtain ⟨x0, x1, x2, x3⟩ := hS.cells
  have f0 := x3 0; have f1 := x3 1; have f2 := x3 2
  have hne : ¬ 10 = b := by omega
  have hne2 : ¬ b = 10 := by omega
  have S1 := heap_set (j := 0) hS (.int .u64 18014398509481984000)
  have S2 := heap_set (j := 1) S1 (.int .u64 0)
  have S3 := heap_set (j := 2) S2 (.int .i64 54)
  replace S1 := Lib.hid S1; replace S2 := Lib.hid S2; replace S3 := Lib.hid S3; replace hS := Lib.hid hS; replace hW := Lib.hid hW
  clear x3
  go_enter Tryz.func130, Tryz.ntmps130
  go_wp2_with fail
  go_end0
  exact ⟨⟨_, rfl⟩, S3.out, set_row (set_row (set_row (World.grownBy.refl w (some b))))⟩
set_option maxHeartbeats 1000000 in
set_option maxRecDepth 100000 in
theorem uscale_1 (b : Nat) (w : World) (hS : SC w b 14411518807585587200 0 53) : Calls Tryz.prog 132 #[.int .u64 16140901064495857664, .pointer (some ⟨b, 0, none⟩)] w fun e w' => e = .returned (.int .u64 1400) ∧ w.grownBy w' none := by
  obtain ⟨x0, x1, x2, _⟩ := hS.cells
  have q0 : bits .and .i64 53 63 = 53 := by decide
  have q1 : bits .or .u64 1400 0 = 1400 := by decide
  replace hS := Lib.hid hS
  go_enter Tryz.func132, Tryz.ntmps132
  go_wp2_with fail
  refine (mul_1h _).mono ?_
  rintro e w1 ⟨rfl, rfl⟩
  go_wp2_with fail
  refine (mul_1l _).mono ?_
  rintro e w1 ⟨rfl, rfl⟩
  go_wp2_with fail
  refine (bool2_false _).mono ?_
  rintro e w1 ⟨rfl, rfl⟩
  go_upto_region 7 with fail
  go_quiet ((go_at_call 122; exact (bool2_false _).mono fun e w' h => ⟨h.1, _, h.2⟩))
  go_wp2_with fail
  go_ret
  exact ⟨rfl, ⟨rfl, rfl, rfl, Nat.le_refl _, fun k _ _ => rfl⟩⟩
set_option maxHeartbeats 1000000 in
set_option maxRecDepth 100000 in
theorem uscale_2 (b : Nat) (w : World) (hS : SC w b 18014398509481984000 0 54) : Calls Tryz.prog 132 #[.int .u64 9223372036854775808, .pointer (some ⟨b, 0, none⟩)] w fun e w' => e = .returned (.int .u64 500) ∧ w.grownBy w' none := by
  obtain ⟨x0, x1, x2, _⟩ := hS.cells
  have q0 : bits .and .i64 54 63 = 54 := by decide
  have q1 : bits .or .u64 500 0 = 500 := by decide
  replace hS := Lib.hid hS
  go_enter Tryz.func132, Tryz.ntmps132
  go_wp2_with fail
  refine (mul_2h _).mono ?_
  rintro e w1 ⟨rfl, rfl⟩
  go_wp2_with fail
  refine (mul_2l _).mono ?_
  rintro e w1 ⟨rfl, rfl⟩
  go_wp2_with fail
  refine (bool2_false _).mono ?_
  rintro e w1 ⟨rfl, rfl⟩
  go_upto_region 7 with fail
  go_quiet ((go_at_call 122; exact (bool2_false _).mono fun e w' h => ⟨h.1, _, h.2⟩))
  go_wp2_with fail
  go_ret
  exact ⟨rfl, ⟨rfl, rfl, rfl, Nat.le_refl _, fun k _ _ => rfl⟩⟩
end Go.Proofs.YtmoofecphpknfaaGreatDoor
