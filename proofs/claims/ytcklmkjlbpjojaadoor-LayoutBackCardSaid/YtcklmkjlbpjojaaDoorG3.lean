/- Layout: least of a leaf; grow. -/
import Derived.Test.YtcklmkjlbpjojaaDoorE2
import Derived.Test.YtcklmkjlbpjojaaDoorF0
import Derived.Deep.DeepCutAuto
import Derived.Deep.CutBlock
namespace Go.Proofs.YtcklmkjlbpjojaaDoor
open Go.RowKit
set_option linter.unusedSimpArgs false
set_option linter.unusedVariables false

set_option maxHeartbeats 4000000 in
set_option maxRecDepth 100000 in
theorem least_leaf (up : Option Nat) (n : Nd) (way : Int) (w : World) (h : At w up n []) : Calls Tryd.prog 41 #[ptr n.g, .int .i64 way] w fun e w' => e = .returned (.int .i64 1) ∧ w' = w := by
  have c6 := h.c6
  have c5 := h.c5
  replace c6 : w.cell? ⟨n.g, 6, none⟩ = some (.slice (adr n.A) 0 n.c) := c6
  obtain ⟨AA, hAA⟩ : ∃ AA, AA = adr n.A := ⟨_, rfl⟩
  rw [← hAA] at c6
  replace hAA := Lib.hid hAA; replace h := Lib.hid h
  unfold ptr
  go_enter Tryd.func41, Tryd.ntmps41
  go_wp2_with fail
  go_loopw [5, 6, 21] (fun sv mv iv wr => sv = .int .i64 (-1) ∧ mv = .int .i64 1 ∧ iv = .int .i64 0 ∧ wr = w) (fun _ _ iv _ => 0)
  case atStart => exact ⟨rfl, rfl, rfl, rfl⟩
  case round =>
    obtain ⟨rfl, rfl, rfl, rfl⟩ := hrel
    go_wp2_with fail
    all_goals
      go_ret
      exact ⟨rfl, rfl⟩

/-- A node's size, more of it. -/
def Nd.add (n : Nd) (way z : Int) : Nd := if way = 0 then { n with a := wr64 (n.a + z) } else { n with b := wr64 (n.b + z) }
set_option maxHeartbeats 4000000 in
set_option maxRecDepth 100000 in
theorem grow_leaf (up : Option Nat) (n : Nd) (way z : Int) (w : World) (h : At w up n []) (hw : way = 0 ∨ way = 1) (hA : n.A ≠ some n.g) (hz : -9223372036854775808 < z ∧ z ≤ 9223372036854775807) : Calls Tryd.prog 37 #[ptr n.g, .int .i64 way, .int .i64 z] w fun e w' => e = .returned (.tuple #[]) ∧ At w' up (n.add way z) [] ∧ Off [n.g] w w' := by
  have c6 := h.c6
  replace c6 : w.cell? ⟨n.g, 6, none⟩ = some (.slice (adr n.A) 0 n.c) := c6
  have c3 := h.c3; have c4 := h.c4
  have f3 := h.free 3; have f4 := h.free 4
  obtain ⟨AA, hAA⟩ : ∃ AA, AA = adr n.A := ⟨_, rfl⟩
  rw [← hAA] at c6
  have hend0 : ∀ w', w' = (w.setCell ⟨n.g, 3, none⟩ (.int .i64 (wr64 (n.a + z)))) → At w' up (n.add 0 z) [] ∧ Off [n.g] w w' := by
    rintro w' rfl
    have o : Off [n.g] w (w.setCell ⟨n.g, 3, none⟩ (.int .i64 (wr64 (n.a + z)))) := Off.set w ⟨n.g, 3, none⟩ _
    refine ⟨h.upd rfl rfl rfl rfl o ?_ hA, o⟩
    have := heap_set (j := 3) h.h (.int .i64 (wr64 (n.a + z)))
    exact this
  have hend1 : ∀ w', w' = (w.setCell ⟨n.g, 4, none⟩ (.int .i64 (wr64 (n.b + z)))) → At w' up (n.add 1 z) [] ∧ Off [n.g] w w' := by
    rintro w' rfl
    have o : Off [n.g] w (w.setCell ⟨n.g, 4, none⟩ (.int .i64 (wr64 (n.b + z)))) := Off.set w ⟨n.g, 4, none⟩ _
    refine ⟨h.upd rfl rfl rfl rfl o ?_ hA, o⟩
    have := heap_set (j := 4) h.h (.int .i64 (wr64 (n.b + z)))
    exact this
  replace hAA := Lib.hid hAA; replace h := Lib.hid h; replace hend0 := Lib.hid hend0; replace hend1 := Lib.hid hend1; replace hA := Lib.hid hA
  unfold ptr
  rcases hw with rfl | rfl
  · go_enter Tryd.func37, Tryd.ntmps37
    go_upto_region 0 with fail
    go_still_tail 11, (by kernel_rfl)
    change wpList _ _ _ _ _ w.drew
    go_wp2_with fail
    obtain ⟨W, hW⟩ : ∃ W, W = (w.setCell ⟨n.g, 3, none⟩ (.int .i64 (wr64 (n.a + z)))).drew := ⟨_, rfl⟩
    go_loopw [6] (fun iv wr => iv = .int .i64 (-1) ∧ wr = W) (fun iv _ => 0)
    case atStart => exact ⟨rfl, hW.symm⟩
    case round =>
      obtain ⟨rfl, rfl⟩ := hrel
      go_wp2_with fail
      go_end0
      obtain ⟨h1, h2⟩ := hend0.out _ rfl
      exact ⟨rfl, h1.same (fun _ _ => rfl), ⟨h2.os, h2.tape, h2.output, h2.size, h2.block⟩⟩
  · go_enter Tryd.func37, Tryd.ntmps37
    go_upto_region 0 with fail
    go_still_tail 11, (by kernel_rfl)
    change wpList _ _ _ _ _ w.drew
    go_wp2_with fail
    obtain ⟨W, hW⟩ : ∃ W, W = (w.setCell ⟨n.g, 4, none⟩ (.int .i64 (wr64 (n.b + z)))).drew := ⟨_, rfl⟩
    go_loopw [6] (fun iv wr => iv = .int .i64 (-1) ∧ wr = W) (fun iv _ => 0)
    case atStart => exact ⟨rfl, hW.symm⟩
    case round =>
      obtain ⟨rfl, rfl⟩ := hrel
      go_wp2_with fail
      go_end0
      obtain ⟨h1, h2⟩ := hend1.out _ rfl
      exact ⟨rfl, h1.same (fun _ _ => rfl), ⟨h2.os, h2.tape, h2.output, h2.size, h2.block⟩⟩
end Go.Proofs.YtcklmkjlbpjojaaDoor
