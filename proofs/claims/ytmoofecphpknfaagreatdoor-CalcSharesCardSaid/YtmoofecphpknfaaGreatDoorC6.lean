/- Calc: the arithmetic beneath FormatFloat at the examples. Printed by tools/mkCalcC6.py. -/
import Derived.Test.YtmoofecphpknfaaGreatDoorC5
namespace Go.Proofs.YtmoofecphpknfaaGreatDoor
open Go.RowKit
set_option linter.unusedSimpArgs false
set_option linter.unusedVariables false

set_option maxHeartbeats 1000000 in
set_option maxRecDepth 100000 in
theorem len_a (w : World) : Calls Tryz.prog 98 #[.int .u64 7881299347898368] w fun e w' => e = .returned (.int .i64 53) ∧ w' = w := by
  have hres : Tryz.f98.results = #[.tmp 2] := by kernel_rfl
  replace hres := Lib.hid hres
  go_enter Tryz.func98, Tryz.ntmps98
  go_wp2_with fail
  refine bodyPost_ret (v := .int .i64 53) ?_ rfl ⟨rfl, rfl⟩
  simp only [results, hres.out]
  simp
  unfold wrap64
  kernel_rfl
set_option maxHeartbeats 1000000 in
set_option maxRecDepth 100000 in
theorem len_b (w : World) : Calls Tryz.prog 98 #[.int .u64 4503599627370496] w fun e w' => e = .returned (.int .i64 53) ∧ w' = w := by
  have hres : Tryz.f98.results = #[.tmp 2] := by kernel_rfl
  replace hres := Lib.hid hres
  go_enter Tryz.func98, Tryz.ntmps98
  go_wp2_with fail
  refine bodyPost_ret (v := .int .i64 53) ?_ rfl ⟨rfl, rfl⟩
  simp only [results, hres.out]
  simp
  unfold wrap64
  kernel_rfl
set_option maxHeartbeats 1000000 in
set_option maxRecDepth 100000 in
theorem len_c (w : World) : Calls Tryz.prog 98 #[.int .u64 350] w fun e w' => e = .returned (.int .i64 9) ∧ w' = w := by
  have hres : Tryz.f98.results = #[.tmp 2] := by kernel_rfl
  replace hres := Lib.hid hres
  go_enter Tryz.func98, Tryz.ntmps98
  go_wp2_with fail
  refine bodyPost_ret (v := .int .i64 9) ?_ rfl ⟨rfl, rfl⟩
  simp only [results, hres.out]
  simp
  unfold wrap64
  kernel_rfl
set_option maxHeartbeats 1000000 in
set_option maxRecDepth 100000 in
theorem len_d (w : World) : Calls Tryz.prog 98 #[.int .u64 12] w fun e w' => e = .returned (.int .i64 4) ∧ w' = w := by
  have hres : Tryz.f98.results = #[.tmp 2] := by kernel_rfl
  replace hres := Lib.hid hres
  go_enter Tryz.func98, Tryz.ntmps98
  go_wp2_with fail
  refine bodyPost_ret (v := .int .i64 4) ?_ rfl ⟨rfl, rfl⟩
  simp only [results, hres.out]
  simp
  unfold wrap64
  kernel_rfl
set_option maxHeartbeats 1000000 in
set_option maxRecDepth 100000 in
theorem log10_2 (w : World) : Calls Tryz.prog 102 #[.int .i64 2] w fun e w' => e = .returned (.int .i64 0) ∧ w' = w := by
  have hres : Tryz.f102.results = #[.tmp 2] := by kernel_rfl
  replace hres := Lib.hid hres
  go_enter Tryz.func102, Tryz.ntmps102
  go_wp2_with fail
  refine bodyPost_ret (v := .int .i64 0) ?_ rfl ⟨rfl, rfl⟩
  simp only [results, hres.out]
  simp
set_option maxHeartbeats 1000000 in
set_option maxRecDepth 100000 in
theorem log10_3 (w : World) : Calls Tryz.prog 102 #[.int .i64 3] w fun e w' => e = .returned (.int .i64 0) ∧ w' = w := by
  have hres : Tryz.f102.results = #[.tmp 2] := by kernel_rfl
  replace hres := Lib.hid hres
  go_enter Tryz.func102, Tryz.ntmps102
  go_wp2_with fail
  refine bodyPost_ret (v := .int .i64 0) ?_ rfl ⟨rfl, rfl⟩
  simp only [results, hres.out]
  simp
set_option maxHeartbeats 1000000 in
set_option maxRecDepth 100000 in
theorem log10_1 (w : World) : Calls Tryz.prog 102 #[.int .i64 1] w fun e w' => e = .returned (.int .i64 0) ∧ w' = w := by
  have hres : Tryz.f102.results = #[.tmp 2] := by kernel_rfl
  replace hres := Lib.hid hres
  go_enter Tryz.func102, Tryz.ntmps102
  go_wp2_with fail
  refine bodyPost_ret (v := .int .i64 0) ?_ rfl ⟨rfl, rfl⟩
  simp only [results, hres.out]
  simp
set_option maxHeartbeats 1000000 in
set_option maxRecDepth 100000 in
theorem log10_m3 (w : World) : Calls Tryz.prog 102 #[.int .i64 (-3)] w fun e w' => e = .returned (.int .i64 (-1)) ∧ w' = w := by
  have hres : Tryz.f102.results = #[.tmp 2] := by kernel_rfl
  replace hres := Lib.hid hres
  go_enter Tryz.func102, Tryz.ntmps102
  go_wp2_with fail
  refine bodyPost_ret (v := .int .i64 (-1)) ?_ rfl ⟨rfl, rfl⟩
  simp only [results, hres.out]
  simp
set_option maxHeartbeats 1000000 in
set_option maxRecDepth 100000 in
theorem log10_9 (w : World) : Calls Tryz.prog 102 #[.int .i64 9] w fun e w' => e = .returned (.int .i64 2) ∧ w' = w := by
  have hres : Tryz.f102.results = #[.tmp 2] := by kernel_rfl
  replace hres := Lib.hid hres
  go_enter Tryz.func102, Tryz.ntmps102
  go_wp2_with fail
  refine bodyPost_ret (v := .int .i64 2) ?_ rfl ⟨rfl, rfl⟩
  simp only [results, hres.out]
  simp
set_option maxHeartbeats 1000000 in
set_option maxRecDepth 100000 in
theorem log10_4 (w : World) : Calls Tryz.prog 102 #[.int .i64 4] w fun e w' => e = .returned (.int .i64 1) ∧ w' = w := by
  have hres : Tryz.f102.results = #[.tmp 2] := by kernel_rfl
  replace hres := Lib.hid hres
  go_enter Tryz.func102, Tryz.ntmps102
  go_wp2_with fail
  refine bodyPost_ret (v := .int .i64 1) ?_ rfl ⟨rfl, rfl⟩
  simp only [results, hres.out]
  simp
set_option maxHeartbeats 1000000 in
set_option maxRecDepth 100000 in
theorem log2_2 (w : World) : Calls Tryz.prog 131 #[.int .i64 2] w fun e w' => e = .returned (.int .i64 6) ∧ w' = w := by
  have hres : Tryz.f131.results = #[.tmp 2] := by kernel_rfl
  replace hres := Lib.hid hres
  go_enter Tryz.func131, Tryz.ntmps131
  go_wp2_with fail
  refine bodyPost_ret (v := .int .i64 6) ?_ rfl ⟨rfl, rfl⟩
  simp only [results, hres.out]
  simp
set_option maxHeartbeats 1000000 in
set_option maxRecDepth 100000 in
theorem log2_3 (w : World) : Calls Tryz.prog 131 #[.int .i64 3] w fun e w' => e = .returned (.int .i64 9) ∧ w' = w := by
  have hres : Tryz.f131.results = #[.tmp 2] := by kernel_rfl
  replace hres := Lib.hid hres
  go_enter Tryz.func131, Tryz.ntmps131
  go_wp2_with fail
  refine bodyPost_ret (v := .int .i64 9) ?_ rfl ⟨rfl, rfl⟩
  simp only [results, hres.out]
  simp
set_option maxHeartbeats 1000000 in
set_option maxRecDepth 100000 in
theorem mul_1h (w : World) : Calls Tryz.prog 159 #[.int .u64 16140901064495857664, .int .u64 14411518807585587200] w fun e w' => e = .returned (.tuple #[.int .u64 12610078956637388800, .int .u64 0]) ∧ w' = w := by
  have hres : Tryz.f159.results = #[.tmp 4, .tmp 5] := by kernel_rfl
  have a0 : bits .and .u64 16140901064495857664 4294967295 = 0 := by decide
  have a1 : bits .and .u64 14411518807585587200 4294967295 = 0 := by decide
  have a2 : bits .and .u64 0 4294967295 = 0 := by decide
  replace hres := Lib.hid hres
  go_enter Tryz.func159, Tryz.ntmps159
  go_wp2_with fail
  refine bodyPost_ret (v := .tuple #[.int .u64 12610078956637388800, .int .u64 0]) ?_ rfl ⟨rfl, rfl⟩
  simp only [results, hres.out]
  simp
  decide
set_option maxHeartbeats 1000000 in
set_option maxRecDepth 100000 in
theorem mul_1l (w : World) : Calls Tryz.prog 159 #[.int .u64 16140901064495857664, .int .u64 0] w fun e w' => e = .returned (.tuple #[.int .u64 0, .int .u64 0]) ∧ w' = w := by
  have hres : Tryz.f159.results = #[.tmp 4, .tmp 5] := by kernel_rfl
  have a0 : bits .and .u64 16140901064495857664 4294967295 = 0 := by decide
  have a1 : bits .and .u64 0 4294967295 = 0 := by decide
  have a2 : bits .and .u64 0 4294967295 = 0 := by decide
  replace hres := Lib.hid hres
  go_enter Tryz.func159, Tryz.ntmps159
  go_wp2_with fail
  refine bodyPost_ret (v := .tuple #[.int .u64 0, .int .u64 0]) ?_ rfl ⟨rfl, rfl⟩
  simp only [results, hres.out]
  simp
set_option maxHeartbeats 1000000 in
set_option maxRecDepth 100000 in
theorem mul_2h (w : World) : Calls Tryz.prog 159 #[.int .u64 9223372036854775808, .int .u64 18014398509481984000] w fun e w' => e = .returned (.tuple #[.int .u64 9007199254740992000, .int .u64 0]) ∧ w' = w := by
  have hres : Tryz.f159.results = #[.tmp 4, .tmp 5] := by kernel_rfl
  have a0 : bits .and .u64 9223372036854775808 4294967295 = 0 := by decide
  have a1 : bits .and .u64 18014398509481984000 4294967295 = 0 := by decide
  have a2 : bits .and .u64 0 4294967295 = 0 := by decide
  replace hres := Lib.hid hres
  go_enter Tryz.func159, Tryz.ntmps159
  go_wp2_with fail
  refine bodyPost_ret (v := .tuple #[.int .u64 9007199254740992000, .int .u64 0]) ?_ rfl ⟨rfl, rfl⟩
  simp only [results, hres.out]
  simp
  decide
set_option maxHeartbeats 1000000 in
set_option maxRecDepth 100000 in
theorem mul_2l (w : World) : Calls Tryz.prog 159 #[.int .u64 9223372036854775808, .int .u64 0] w fun e w' => e = .returned (.tuple #[.int .u64 0, .int .u64 0]) ∧ w' = w := by
  have hres : Tryz.f159.results = #[.tmp 4, .tmp 5] := by kernel_rfl
  have a0 : bits .and .u64 9223372036854775808 4294967295 = 0 := by decide
  have a1 : bits .and .u64 0 4294967295 = 0 := by decide
  have a2 : bits .and .u64 0 4294967295 = 0 := by decide
  replace hres := Lib.hid hres
  go_enter Tryz.func159, Tryz.ntmps159
  go_wp2_with fail
  refine bodyPost_ret (v := .tuple #[.int .u64 0, .int .u64 0]) ?_ rfl ⟨rfl, rfl⟩
  simp only [results, hres.out]
  simp
set_option maxHeartbeats 1000000 in
set_option maxRecDepth 100000 in
theorem bool2i_true (w : World) : Calls Tryz.prog 137 #[.bool true] w fun e w' => e = .returned (.int .i64 1) ∧ w' = w := by
  have hres : Tryz.f137.results = #[.tmp 2] := by kernel_rfl
  replace hres := Lib.hid hres
  go_enter Tryz.func137, Tryz.ntmps137
  go_wp2_with fail
  refine bodyPost_ret (v := .int .i64 1) ?_ rfl ⟨rfl, rfl⟩
  simp only [results, hres.out]
  simp
set_option maxHeartbeats 1000000 in
set_option maxRecDepth 100000 in
theorem bool2r_false (w : World) : Calls Tryz.prog 160 #[.bool false] w fun e w' => e = .returned (.int .u64 0) ∧ w' = w := by
  have hres : Tryz.f160.results = #[.tmp 2] := by kernel_rfl
  replace hres := Lib.hid hres
  go_enter Tryz.func160, Tryz.ntmps160
  go_wp2_with fail
  refine bodyPost_ret (v := .int .u64 0) ?_ rfl ⟨rfl, rfl⟩
  simp only [results, hres.out]
  simp
set_option maxHeartbeats 1000000 in
set_option maxRecDepth 100000 in
theorem unmin_is (w : World) : Calls Tryz.prog 138 #[.int .u64 1000] w fun e w' => e = .returned (.int .u64 3998) ∧ w' = w := by
  have hres : Tryz.f138.results = #[.tmp 2] := by kernel_rfl
  replace hres := Lib.hid hres
  go_enter Tryz.func138, Tryz.ntmps138
  go_wp2_with fail
  refine bodyPost_ret (v := .int .u64 3998) ?_ rfl ⟨rfl, rfl⟩
  simp only [results, hres.out]
  simp
set_option maxHeartbeats 1000000 in
set_option maxRecDepth 100000 in
theorem round_1400 (w : World) : Calls Tryz.prog 136 #[.int .u64 1400] w fun e w' => e = .returned (.int .u64 350) ∧ w' = w := by
  have hres : Tryz.f136.results = #[.tmp 2] := by kernel_rfl
  have a0 : bits .and .u64 350 1 = 0 := by decide
  replace hres := Lib.hid hres
  go_enter Tryz.func136, Tryz.ntmps136
  go_wp2_with fail
  refine bodyPost_ret (v := .int .u64 350) ?_ rfl ⟨rfl, rfl⟩
  simp only [results, hres.out]
  simp
set_option maxHeartbeats 1000000 in
set_option maxRecDepth 100000 in
theorem round_50 (w : World) : Calls Tryz.prog 136 #[.int .u64 50] w fun e w' => e = .returned (.int .u64 12) ∧ w' = w := by
  have hres : Tryz.f136.results = #[.tmp 2] := by kernel_rfl
  have a0 : bits .and .u64 12 1 = 0 := by decide
  replace hres := Lib.hid hres
  go_enter Tryz.func136, Tryz.ntmps136
  go_wp2_with fail
  refine bodyPost_ret (v := .int .u64 12) ?_ rfl ⟨rfl, rfl⟩
  simp only [results, hres.out]
  simp
/-- What FormatFloat reads of variables besides. -/
structure Wd2 (w : World) : Prop where
  d : Wd w
  p1 : w.cell? ⟨6, 1, none⟩ = some (.int .u64 10)
  p2 : w.cell? ⟨6, 2, none⟩ = some (.int .u64 100)
  p3 : w.cell? ⟨6, 3, none⟩ = some (.int .u64 1000)
  t2h : w.cell? ⟨10, 700, none⟩ = some (.int .u64 14411518807585587200)
  t2l : w.cell? ⟨10, 701, none⟩ = some (.int .u64 0)
  t3h : w.cell? ⟨10, 702, none⟩ = some (.int .u64 18014398509481984000)
  t3l : w.cell? ⟨10, 703, none⟩ = some (.int .u64 0)
set_option maxHeartbeats 1000000 in
set_option maxRecDepth 100000 in
theorem numd_350 (w : World) (hW : Wd2 w) : Calls Tryz.prog 101 #[.int .u64 350] w fun e w' => e = .returned (.int .i64 3) ∧ w' = w := by
  have hres : Tryz.f101.results = #[.tmp 2] := by kernel_rfl
  have p2 := hW.p2
  replace hres := Lib.hid hres
  go_enter Tryz.func101, Tryz.ntmps101
  go_wp2_with fail
  refine (len_c _).mono ?_
  rintro e w1 ⟨rfl, rfl⟩
  go_wp2_with fail
  refine (log10_9 _).mono ?_
  rintro e w1 ⟨rfl, rfl⟩
  go_wp2_with fail
  refine (bool2i_true _).mono ?_
  rintro e w1 ⟨rfl, rfl⟩
  go_wp2_with fail
  refine bodyPost_ret (v := .int .i64 3) ?_ rfl ⟨rfl, rfl⟩
  simp only [results, hres.out]
  simp
set_option maxHeartbeats 1000000 in
set_option maxRecDepth 100000 in
theorem numd_12 (w : World) (hW : Wd2 w) : Calls Tryz.prog 101 #[.int .u64 12] w fun e w' => e = .returned (.int .i64 2) ∧ w' = w := by
  have hres : Tryz.f101.results = #[.tmp 2] := by kernel_rfl
  have p1 := hW.p1
  replace hres := Lib.hid hres
  go_enter Tryz.func101, Tryz.ntmps101
  go_wp2_with fail
  refine (len_d _).mono ?_
  rintro e w1 ⟨rfl, rfl⟩
  go_wp2_with fail
  refine (log10_4 _).mono ?_
  rintro e w1 ⟨rfl, rfl⟩
  go_wp2_with fail
  refine (bool2i_true _).mono ?_
  rintro e w1 ⟨rfl, rfl⟩
  go_wp2_with fail
  refine bodyPost_ret (v := .int .i64 2) ?_ rfl ⟨rfl, rfl⟩
  simp only [results, hres.out]
  simp
@[go_sem] theorem neg_run (b : Nat) (W : World) : (Op.unary .neg (.float .f64 b)).run Tryz.prog W = .ok (.float .f64 (Op.negFloat .f64 b)) W := rfl
set_option maxHeartbeats 1000000 in
set_option maxRecDepth 100000 in
theorem inf_p3p5 (w : World) : Calls Tryz.prog 41 #[.float .f64 4615063718147915776, .int .i64 1] w fun e w' => e = .returned (.bool false) ∧ w' = w := by
  have hres : Tryz.f41.results = #[.tmp 4] := by kernel_rfl
  have o1 : FloatKind.f64.format.order 4615063718147915776 9218868437227405311 = some .lt := by decide
  replace hres := Lib.hid hres
  go_enter Tryz.func41, Tryz.ntmps41
  go_wp2_with fail
  refine bodyPost_ret (v := .bool false) ?_ rfl ⟨rfl, rfl⟩
  simp only [results, hres.out]
  simp
set_option maxHeartbeats 1000000 in
set_option maxRecDepth 100000 in
theorem inf_m3p5 (w : World) : Calls Tryz.prog 41 #[.float .f64 4615063718147915776, .int .i64 (-1)] w fun e w' => e = .returned (.bool false) ∧ w' = w := by
  have hres : Tryz.f41.results = #[.tmp 4] := by kernel_rfl
  have o0 : Op.negFloat .f64 4615063718147915776 = 13838435755002691584 := by decide
  have o1 : FloatKind.f64.format.order 13838435755002691584 9218868437227405311 = some .lt := by decide
  replace hres := Lib.hid hres
  go_enter Tryz.func41, Tryz.ntmps41
  go_wp2_with fail
  refine bodyPost_ret (v := .bool false) ?_ rfl ⟨rfl, rfl⟩
  simp only [results, hres.out]
  simp
set_option maxHeartbeats 1000000 in
set_option maxRecDepth 100000 in
theorem inf_p0p125 (w : World) : Calls Tryz.prog 41 #[.float .f64 4593671619917905920, .int .i64 1] w fun e w' => e = .returned (.bool false) ∧ w' = w := by
  have hres : Tryz.f41.results = #[.tmp 4] := by kernel_rfl
  have o1 : FloatKind.f64.format.order 4593671619917905920 9218868437227405311 = some .lt := by decide
  replace hres := Lib.hid hres
  go_enter Tryz.func41, Tryz.ntmps41
  go_wp2_with fail
  refine bodyPost_ret (v := .bool false) ?_ rfl ⟨rfl, rfl⟩
  simp only [results, hres.out]
  simp
set_option maxHeartbeats 1000000 in
set_option maxRecDepth 100000 in
theorem inf_m0p125 (w : World) : Calls Tryz.prog 41 #[.float .f64 4593671619917905920, .int .i64 (-1)] w fun e w' => e = .returned (.bool false) ∧ w' = w := by
  have hres : Tryz.f41.results = #[.tmp 4] := by kernel_rfl
  have o0 : Op.negFloat .f64 4593671619917905920 = 13817043656772681728 := by decide
  have o1 : FloatKind.f64.format.order 13817043656772681728 9218868437227405311 = some .lt := by decide
  replace hres := Lib.hid hres
  go_enter Tryz.func41, Tryz.ntmps41
  go_wp2_with fail
  refine bodyPost_ret (v := .bool false) ?_ rfl ⟨rfl, rfl⟩
  simp only [results, hres.out]
  simp
end Go.Proofs.YtmoofecphpknfaaGreatDoor
