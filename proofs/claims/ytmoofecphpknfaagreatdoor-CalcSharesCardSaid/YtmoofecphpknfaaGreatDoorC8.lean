/- Calc: fixedWidthFloat at the examples. -/
import Derived.Test.YtmoofecphpknfaaGreatDoorC7
namespace Go.Proofs.YtmoofecphpknfaaGreatDoor
open Go.RowKit
set_option linter.unusedSimpArgs false
set_option linter.unusedVariables false

theorem g_rows {w0 w1 w2 : World} {r : Option Nat} (h : w0.grownBy w1 none) (hr : ∀ g, r = some g → w0.heap.size ≤ g) (h2 : w1.grownBy w2 r) : w0.grownBy w2 none :=
  ⟨h2.os.trans h.os, h2.tape.trans h.tape, h2.output.trans h.output, Nat.le_trans h.size h2.size, fun k hk _ => (h2.block k (Nat.lt_of_lt_of_le hk h.size) (by intro e; have := hr k e.symm; omega)).trans (h.block k hk (by simp))⟩
theorem Wd2.big {w : World} (h : Wd2 w) : 11 ≤ w.heap.size := by
  have := World.block_lt_of_cell? w _ h.t2h
  exact this
theorem SC.new (w : World) : SC (w.alloc (.cells #[.int .u64 0, .int .u64 0, .int .i64 0] 173)) w.heap.size 0 0 0 := by
  unfold SC
  show (w.heap.push _)[w.heap.size]? = _
  simp
set_option maxHeartbeats 1000000 in
set_option maxRecDepth 100000 in
theorem fixed_1 (w : World) (hW : Wd2 w) : Calls Tryz.prog 103 #[.int .u64 16140901064495857664, .int .i64 (-62), .int .i64 3, .int .i64 2, .int .u8 102] w fun e w' => e = .returned (.tuple #[.int .u64 350, .int .i64 (-2)]) ∧ w.grownBy w' none := by
  have hb := hW.big
  have S0 := SC.new w
  have g0 : w.grownBy (w.alloc (.cells #[.int .u64 0, .int .u64 0, .int .i64 0] 173)) none := World.grownBy_alloc _ _ _
  obtain ⟨W0, hW0⟩ : ∃ W, W = w.alloc (.cells #[.int .u64 0, .int .u64 0, .int .i64 0] 173) := ⟨_, rfl⟩
  obtain ⟨b, hbe⟩ : ∃ n, n = w.heap.size := ⟨_, rfl⟩
  rw [← hW0, ← hbe] at S0
  rw [← hW0] at g0
  have CP := pre_scale2 b W0 (hW.grown g0) (by omega) S0
  replace hW := Lib.hid hW; replace S0 := Lib.hid S0; replace g0 := Lib.hid g0; replace hW0 := Lib.hid hW0; replace hbe := Lib.hid hbe; replace CP := Lib.hid CP
  go_enter Tryz.func103, Tryz.ntmps103
  go_wp2_with fail
  refine (log10_1 _).mono ?_
  rintro e w1 ⟨rfl, rfl⟩
  go_wp2_with fail
  rw [← hW0.out, ← hbe.out]
  refine (log2_2 _).mono ?_
  rintro e w2 ⟨rfl, hw2⟩
  subst hw2
  go_wp2_with fail
  refine CP.out.mono ?_
  rintro e w3 ⟨⟨v, rfl⟩, S3, g3⟩
  have g3' := g_rows g0.out (fun g h => by injection h with h; have := hbe.out; omega) g3
  have CU := uscale_1 b w3 S3
  replace CU := Lib.hid CU; replace g3' := Lib.hid g3'
  clear g3 S3 CP
  go_wp2_with fail
  refine CU.out.mono ?_
  rintro e w4 ⟨rfl, g4⟩
  have G3 := g3'.out.trans g4
  have p3 := (hW.out.grown G3).p3
  replace G3 := Lib.hid G3
  clear g4 CU
  go_wp2_with fail
  refine (unmin_is _).mono ?_
  rintro e w5 ⟨rfl, hw5⟩
  subst hw5
  go_wp2_with fail
  refine wp_loop_in (loopWp_round ?_)
  go_wp2_with fail
  have G4 := G3
  refine (round_1400 _).mono ?_
  rintro e w6 ⟨rfl, hw6⟩
  subst hw6
  go_wp2_with fail
  go_ret2
  exact ⟨rfl, G4.out⟩
set_option maxHeartbeats 1000000 in
set_option maxRecDepth 100000 in
theorem fixed_2 (w : World) (hW : Wd2 w) : Calls Tryz.prog 103 #[.int .u64 9223372036854775808, .int .i64 (-66), .int .i64 3, .int .i64 2, .int .u8 102] w fun e w' => e = .returned (.tuple #[.int .u64 12, .int .i64 (-2)]) ∧ w.grownBy w' none := by
  have hb := hW.big
  have S0 := SC.new w
  have g0 : w.grownBy (w.alloc (.cells #[.int .u64 0, .int .u64 0, .int .i64 0] 173)) none := World.grownBy_alloc _ _ _
  obtain ⟨W0, hW0⟩ : ∃ W, W = w.alloc (.cells #[.int .u64 0, .int .u64 0, .int .i64 0] 173) := ⟨_, rfl⟩
  obtain ⟨b, hbe⟩ : ∃ n, n = w.heap.size := ⟨_, rfl⟩
  rw [← hW0, ← hbe] at S0
  rw [← hW0] at g0
  have CP := pre_scale3 b W0 (hW.grown g0) (by omega) S0
  replace hW := Lib.hid hW; replace S0 := Lib.hid S0; replace g0 := Lib.hid g0; replace hW0 := Lib.hid hW0; replace hbe := Lib.hid hbe; replace CP := Lib.hid CP
  go_enter Tryz.func103, Tryz.ntmps103
  go_wp2_with fail
  refine (log10_m3 _).mono ?_
  rintro e w1 ⟨rfl, rfl⟩
  go_wp2_with fail
  rw [← hW0.out, ← hbe.out]
  refine (log2_3 _).mono ?_
  rintro e w2 ⟨rfl, hw2⟩
  subst hw2
  go_wp2_with fail
  refine CP.out.mono ?_
  rintro e w3 ⟨⟨v, rfl⟩, S3, g3⟩
  have g3' := g_rows g0.out (fun g h => by injection h with h; have := hbe.out; omega) g3
  have CU := uscale_2 b w3 S3
  replace CU := Lib.hid CU; replace g3' := Lib.hid g3'
  clear g3 S3 CP
  go_wp2_with fail
  refine CU.out.mono ?_
  rintro e w4 ⟨rfl, g4⟩
  have G3 := g3'.out.trans g4
  have p3 := (hW.out.grown G3).p3
  replace G3 := Lib.hid G3
  clear g4 CU
  go_wp2_with fail
  refine (unmin_is _).mono ?_
  rintro e w5 ⟨rfl, hw5⟩
  subst hw5
  go_wp2_with fail
  refine wp_loop_in (loopWp_round ?_)
  go_wp2_with fail
  refine (div_500 _).mono ?_
  rintro e w4 ⟨rfl, g4⟩
  have G4 := Lib.hid (G3.out.trans g4)
  clear g4
  go_wp2_with fail
  refine loopWp_round ?_
  go_wp2_with fail
  refine (round_50 _).mono ?_
  rintro e w6 ⟨rfl, hw6⟩
  subst hw6
  go_wp2_with fail
  go_ret2
  exact ⟨rfl, G4.out⟩
end Go.Proofs.YtmoofecphpknfaaGreatDoor
