/- Calc: Whole, Share, comparisons and operations at the examples. Printed by tools/mkCalcC5.py. -/
import Derived.Test.YtmoofecphpknfaaGreatDoorC4
namespace Go.Proofs.YtmoofecphpknfaaGreatDoor
open Go.RowKit
set_option linter.unusedSimpArgs false
set_option linter.unusedVariables false

theorem nn_3p5 (w : World) : Calls Tryz.prog 40 #[.float .f64 4615063718147915776] w fun e w' => e = .returned (.bool false) ∧ w' = w := by
  have h := isNaN_any 4615063718147915776 w
  rw [show (ordO (ky 4615063718147915776) (ky 4615063718147915776) != some .eq) = false by decide] at h
  exact h
theorem nn_7p0 (w : World) : Calls Tryz.prog 40 #[.float .f64 4619567317775286272] w fun e w' => e = .returned (.bool false) ∧ w' = w := by
  have h := isNaN_any 4619567317775286272 w
  rw [show (ordO (ky 4619567317775286272) (ky 4619567317775286272) != some .eq) = false by decide] at h
  exact h
theorem nn_2p0 (w : World) : Calls Tryz.prog 40 #[.float .f64 4611686018427387904] w fun e w' => e = .returned (.bool false) ∧ w' = w := by
  have h := isNaN_any 4611686018427387904 w
  rw [show (ordO (ky 4611686018427387904) (ky 4611686018427387904) != some .eq) = false by decide] at h
  exact h
theorem nn_3p0 (w : World) : Calls Tryz.prog 40 #[.float .f64 4613937818241073152] w fun e w' => e = .returned (.bool false) ∧ w' = w := by
  have h := isNaN_any 4613937818241073152 w
  rw [show (ordO (ky 4613937818241073152) (ky 4613937818241073152) != some .eq) = false by decide] at h
  exact h
theorem nn_0p125 (w : World) : Calls Tryz.prog 40 #[.float .f64 4593671619917905920] w fun e w' => e = .returned (.bool false) ∧ w' = w := by
  have h := isNaN_any 4593671619917905920 w
  rw [show (ordO (ky 4593671619917905920) (ky 4593671619917905920) != some .eq) = false by decide] at h
  exact h
theorem nn_41p0 (w : World) : Calls Tryz.prog 40 #[.float .f64 4630967054332067840] w fun e w' => e = .returned (.bool false) ∧ w' = w := by
  have h := isNaN_any 4630967054332067840 w
  rw [show (ordO (ky 4630967054332067840) (ky 4630967054332067840) != some .eq) = false by decide] at h
  exact h
set_option maxHeartbeats 1000000 in
set_option maxRecDepth 100000 in
theorem round_2p5 (w : World) : Calls Tryz.prog 50 #[.float .f64 4612811918334230528] w fun e w' => e = .returned (.float .f64 4613937818241073152) ∧ w' = w := by
  have hres : Tryz.f50.results = #[.tmp 2] := by kernel_rfl
  have q0 : bits .and .u64 1024 2047 = 1024 := by decide
  have q1 : bits .andNot .u64 4613937818241073152 2251799813685247 = 4613937818241073152 := by decide
  replace hres := Lib.hid hres
  go_enter Tryz.func50, Tryz.ntmps50
  go_wp2_with fail
  refine bodyPost_ret (v := .float .f64 4613937818241073152) ?_ rfl ⟨rfl, rfl⟩
  simp only [results, hres.out]
  simp
set_option maxHeartbeats 1000000 in
set_option maxRecDepth 100000 in
theorem round_7p0 (w : World) : Calls Tryz.prog 50 #[.float .f64 4619567317775286272] w fun e w' => e = .returned (.float .f64 4619567317775286272) ∧ w' = w := by
  have hres : Tryz.f50.results = #[.tmp 2] := by kernel_rfl
  have q0 : bits .and .u64 1025 2047 = 1025 := by decide
  have q1 : bits .andNot .u64 4620130267728707584 1125899906842623 = 4619567317775286272 := by decide
  replace hres := Lib.hid hres
  go_enter Tryz.func50, Tryz.ntmps50
  go_wp2_with fail
  refine bodyPost_ret (v := .float .f64 4619567317775286272) ?_ rfl ⟨rfl, rfl⟩
  simp only [results, hres.out]
  simp
set_option maxHeartbeats 1000000 in
set_option maxRecDepth 100000 in
theorem round_2p0 (w : World) : Calls Tryz.prog 50 #[.float .f64 4611686018427387904] w fun e w' => e = .returned (.float .f64 4611686018427387904) ∧ w' = w := by
  have hres : Tryz.f50.results = #[.tmp 2] := by kernel_rfl
  have q0 : bits .and .u64 1024 2047 = 1024 := by decide
  have q1 : bits .andNot .u64 4612811918334230528 2251799813685247 = 4611686018427387904 := by decide
  replace hres := Lib.hid hres
  go_enter Tryz.func50, Tryz.ntmps50
  go_wp2_with fail
  refine bodyPost_ret (v := .float .f64 4611686018427387904) ?_ rfl ⟨rfl, rfl⟩
  simp only [results, hres.out]
  simp
set_option maxHeartbeats 1000000 in
set_option maxRecDepth 100000 in
theorem round_40p5 (w : World) : Calls Tryz.prog 50 #[.float .f64 4630896685587890176] w fun e w' => e = .returned (.float .f64 4630967054332067840) ∧ w' = w := by
  have hres : Tryz.f50.results = #[.tmp 2] := by kernel_rfl
  have q0 : bits .and .u64 1028 2047 = 1028 := by decide
  have q1 : bits .andNot .u64 4630967054332067840 140737488355327 = 4630967054332067840 := by decide
  replace hres := Lib.hid hres
  go_enter Tryz.func50, Tryz.ntmps50
  go_wp2_with fail
  refine bodyPost_ret (v := .float .f64 4630967054332067840) ?_ rfl ⟨rfl, rfl⟩
  simp only [results, hres.out]
  simp
set_option maxHeartbeats 1000000 in
set_option maxRecDepth 100000 in
theorem whole_3p0 (w : World) : Calls Tryz.prog 49 #[.float .f64 4613937818241073152] w fun e w' => e = .returned (.int .i64 3) ∧ w' = w := by
  have hres : Tryz.f49.results = #[.tmp 2] := by kernel_rfl
  have o1 : FloatKind.f64.format.order 4613937818241073152 4890909195324358656 = some .lt := by decide
  have o2 : FloatKind.f64.format.order 4613937818241073152 14114281232179134464 = some .gt := by decide
  have q1 := fun W => run_convert_float_int (P := Tryz.prog) W 23 3 .f64 .i64 4613937818241073152 3 (by rw [Tryz.underlying23]; rfl) Tryz.underlying3 (by decide)
  replace hres := Lib.hid hres
  go_enter Tryz.func49, Tryz.ntmps49
  go_wp2_with fail
  refine (nn_3p0 _).mono ?_
  rintro e w1 ⟨rfl, rfl⟩
  go_wp2_with fail
  refine bodyPost_ret (v := .int .i64 3) ?_ rfl ⟨rfl, rfl⟩
  simp only [results, hres.out]
  simp
set_option maxHeartbeats 1000000 in
set_option maxRecDepth 100000 in
theorem whole_7p0 (w : World) : Calls Tryz.prog 49 #[.float .f64 4619567317775286272] w fun e w' => e = .returned (.int .i64 7) ∧ w' = w := by
  have hres : Tryz.f49.results = #[.tmp 2] := by kernel_rfl
  have o1 : FloatKind.f64.format.order 4619567317775286272 4890909195324358656 = some .lt := by decide
  have o2 : FloatKind.f64.format.order 4619567317775286272 14114281232179134464 = some .gt := by decide
  have q1 := fun W => run_convert_float_int (P := Tryz.prog) W 23 3 .f64 .i64 4619567317775286272 7 (by rw [Tryz.underlying23]; rfl) Tryz.underlying3 (by decide)
  replace hres := Lib.hid hres
  go_enter Tryz.func49, Tryz.ntmps49
  go_wp2_with fail
  refine (nn_7p0 _).mono ?_
  rintro e w1 ⟨rfl, rfl⟩
  go_wp2_with fail
  refine bodyPost_ret (v := .int .i64 7) ?_ rfl ⟨rfl, rfl⟩
  simp only [results, hres.out]
  simp
set_option maxHeartbeats 1000000 in
set_option maxRecDepth 100000 in
theorem whole_2p0 (w : World) : Calls Tryz.prog 49 #[.float .f64 4611686018427387904] w fun e w' => e = .returned (.int .i64 2) ∧ w' = w := by
  have hres : Tryz.f49.results = #[.tmp 2] := by kernel_rfl
  have o1 : FloatKind.f64.format.order 4611686018427387904 4890909195324358656 = some .lt := by decide
  have o2 : FloatKind.f64.format.order 4611686018427387904 14114281232179134464 = some .gt := by decide
  have q1 := fun W => run_convert_float_int (P := Tryz.prog) W 23 3 .f64 .i64 4611686018427387904 2 (by rw [Tryz.underlying23]; rfl) Tryz.underlying3 (by decide)
  replace hres := Lib.hid hres
  go_enter Tryz.func49, Tryz.ntmps49
  go_wp2_with fail
  refine (nn_2p0 _).mono ?_
  rintro e w1 ⟨rfl, rfl⟩
  go_wp2_with fail
  refine bodyPost_ret (v := .int .i64 2) ?_ rfl ⟨rfl, rfl⟩
  simp only [results, hres.out]
  simp
set_option maxHeartbeats 1000000 in
set_option maxRecDepth 100000 in
theorem whole_41p0 (w : World) : Calls Tryz.prog 49 #[.float .f64 4630967054332067840] w fun e w' => e = .returned (.int .i64 41) ∧ w' = w := by
  have hres : Tryz.f49.results = #[.tmp 2] := by kernel_rfl
  have o1 : FloatKind.f64.format.order 4630967054332067840 4890909195324358656 = some .lt := by decide
  have o2 : FloatKind.f64.format.order 4630967054332067840 14114281232179134464 = some .gt := by decide
  have q1 := fun W => run_convert_float_int (P := Tryz.prog) W 23 3 .f64 .i64 4630967054332067840 41 (by rw [Tryz.underlying23]; rfl) Tryz.underlying3 (by decide)
  replace hres := Lib.hid hres
  go_enter Tryz.func49, Tryz.ntmps49
  go_wp2_with fail
  refine (nn_41p0 _).mono ?_
  rintro e w1 ⟨rfl, rfl⟩
  go_wp2_with fail
  refine bodyPost_ret (v := .int .i64 41) ?_ rfl ⟨rfl, rfl⟩
  simp only [results, hres.out]
  simp
set_option maxHeartbeats 1000000 in
set_option maxRecDepth 100000 in
theorem whole_3p5 (w : World) : Calls Tryz.prog 49 #[.float .f64 4615063718147915776] w fun e w' => e = .returned (.int .i64 3) ∧ w' = w := by
  have hres : Tryz.f49.results = #[.tmp 2] := by kernel_rfl
  have o1 : FloatKind.f64.format.order 4615063718147915776 4890909195324358656 = some .lt := by decide
  have o2 : FloatKind.f64.format.order 4615063718147915776 14114281232179134464 = some .gt := by decide
  have q1 := fun W => run_convert_float_int (P := Tryz.prog) W 23 3 .f64 .i64 4615063718147915776 3 (by rw [Tryz.underlying23]; rfl) Tryz.underlying3 (by decide)
  replace hres := Lib.hid hres
  go_enter Tryz.func49, Tryz.ntmps49
  go_wp2_with fail
  refine (nn_3p5 _).mono ?_
  rintro e w1 ⟨rfl, rfl⟩
  go_wp2_with fail
  refine bodyPost_ret (v := .int .i64 3) ?_ rfl ⟨rfl, rfl⟩
  simp only [results, hres.out]
  simp
set_option maxHeartbeats 1000000 in
set_option maxRecDepth 100000 in
theorem Whole_2p5 (w : World) : Calls Tryz.prog 17 #[.float .f64 4612811918334230528] w fun e w' => e = .returned (.int .i64 3) ∧ w' = w := by
  have hres : Tryz.f17.results = #[.tmp 2] := by kernel_rfl
  replace hres := Lib.hid hres
  go_enter Tryz.func17, Tryz.ntmps17
  go_wp2_with fail
  refine (round_2p5 _).mono ?_
  rintro e w1 ⟨rfl, rfl⟩
  go_wp2_with fail
  refine (whole_3p0 _).mono ?_
  rintro e w1 ⟨rfl, rfl⟩
  go_wp2_with fail
  refine bodyPost_ret (v := .int .i64 3) ?_ rfl ⟨rfl, rfl⟩
  simp only [results, hres.out]
  simp
set_option maxHeartbeats 1000000 in
set_option maxRecDepth 100000 in
theorem Whole_7p0 (w : World) : Calls Tryz.prog 17 #[.float .f64 4619567317775286272] w fun e w' => e = .returned (.int .i64 7) ∧ w' = w := by
  have hres : Tryz.f17.results = #[.tmp 2] := by kernel_rfl
  replace hres := Lib.hid hres
  go_enter Tryz.func17, Tryz.ntmps17
  go_wp2_with fail
  refine (round_7p0 _).mono ?_
  rintro e w1 ⟨rfl, rfl⟩
  go_wp2_with fail
  refine (whole_7p0 _).mono ?_
  rintro e w1 ⟨rfl, rfl⟩
  go_wp2_with fail
  refine bodyPost_ret (v := .int .i64 7) ?_ rfl ⟨rfl, rfl⟩
  simp only [results, hres.out]
  simp
set_option maxHeartbeats 1000000 in
set_option maxRecDepth 100000 in
theorem Whole_2p0 (w : World) : Calls Tryz.prog 17 #[.float .f64 4611686018427387904] w fun e w' => e = .returned (.int .i64 2) ∧ w' = w := by
  have hres : Tryz.f17.results = #[.tmp 2] := by kernel_rfl
  replace hres := Lib.hid hres
  go_enter Tryz.func17, Tryz.ntmps17
  go_wp2_with fail
  refine (round_2p0 _).mono ?_
  rintro e w1 ⟨rfl, rfl⟩
  go_wp2_with fail
  refine (whole_2p0 _).mono ?_
  rintro e w1 ⟨rfl, rfl⟩
  go_wp2_with fail
  refine bodyPost_ret (v := .int .i64 2) ?_ rfl ⟨rfl, rfl⟩
  simp only [results, hres.out]
  simp
set_option maxHeartbeats 1000000 in
set_option maxRecDepth 100000 in
theorem Whole_40p5 (w : World) : Calls Tryz.prog 17 #[.float .f64 4630896685587890176] w fun e w' => e = .returned (.int .i64 41) ∧ w' = w := by
  have hres : Tryz.f17.results = #[.tmp 2] := by kernel_rfl
  replace hres := Lib.hid hres
  go_enter Tryz.func17, Tryz.ntmps17
  go_wp2_with fail
  refine (round_40p5 _).mono ?_
  rintro e w1 ⟨rfl, rfl⟩
  go_wp2_with fail
  refine (whole_41p0 _).mono ?_
  rintro e w1 ⟨rfl, rfl⟩
  go_wp2_with fail
  refine bodyPost_ret (v := .int .i64 41) ?_ rfl ⟨rfl, rfl⟩
  simp only [results, hres.out]
  simp
set_option maxHeartbeats 1000000 in
set_option maxRecDepth 100000 in
theorem share_is (w : World) : Calls Tryz.prog 19 #[.int .i64 81, .float .f64 4632233691727265792] w fun e w' => e = .returned (.int .i64 41) ∧ w' = w := by
  have hres : Tryz.f19.results = #[.tmp 4] := by kernel_rfl
  have q1 : floatOfInt .f64 81 = 4635400285215260672 := by decide
  have q2 := fun W => run_float_arith (P := Tryz.prog) W .mul 23 .f64 4635400285215260672 4632233691727265792 4661124459258707968 (by decide)
  have q3 := fun W => run_float_arith (P := Tryz.prog) W .quo 23 .f64 4661124459258707968 4636737291354636288 4630896685587890176 (by decide)
  replace hres := Lib.hid hres
  go_enter Tryz.func19, Tryz.ntmps19
  go_wp2_with fail
  refine (Whole_40p5 _).mono ?_
  rintro e w1 ⟨rfl, rfl⟩
  go_wp2_with fail
  refine bodyPost_ret (v := .int .i64 41) ?_ rfl ⟨rfl, rfl⟩
  simp only [results, hres.out]
  simp
set_option maxHeartbeats 1000000 in
set_option maxRecDepth 100000 in
theorem cmp_div (w : World) : Calls Tryz.prog 53 #[.string ⟨#[47]⟩, .float .f64 0, .float .f64 0] w fun e w' => e = .returned (.tuple #[.bool false, .bool false]) ∧ w' = w := by
  have hres : Tryz.f53.results = #[.tmp 6, .tmp 7] := by kernel_rfl
  replace hres := Lib.hid hres
  go_enter Tryz.func53, Tryz.ntmps53
  go_wp2_with fail
  refine bodyPost_ret (v := .tuple #[.bool false, .bool false]) ?_ rfl ⟨rfl, rfl⟩
  simp only [results, hres.out]
  simp
set_option maxHeartbeats 1000000 in
set_option maxRecDepth 100000 in
theorem cmp_lss (w : World) : Calls Tryz.prog 53 #[.string ⟨#[60]⟩, .float .f64 0, .float .f64 0] w fun e w' => e = .returned (.tuple #[.bool false, .bool true]) ∧ w' = w := by
  have hres : Tryz.f53.results = #[.tmp 6, .tmp 7] := by kernel_rfl
  have o1 : FloatKind.f64.format.order 0 0 = some .eq := by decide
  replace hres := Lib.hid hres
  go_enter Tryz.func53, Tryz.ntmps53
  go_wp2_with fail
  refine bodyPost_ret (v := .tuple #[.bool false, .bool true]) ?_ rfl ⟨rfl, rfl⟩
  simp only [results, hres.out]
  simp
set_option maxHeartbeats 1000000 in
set_option maxRecDepth 100000 in
theorem cmp_nan (w : World) : Calls Tryz.prog 53 #[.string ⟨#[60]⟩, .float .f64 9221120237041090561, .float .f64 4607182418800017408] w fun e w' => e = .returned (.tuple #[.bool false, .bool true]) ∧ w' = w := by
  have hres : Tryz.f53.results = #[.tmp 6, .tmp 7] := by kernel_rfl
  have o1 : FloatKind.f64.format.order 9221120237041090561 4607182418800017408 = none := by decide
  replace hres := Lib.hid hres
  go_enter Tryz.func53, Tryz.ntmps53
  go_wp2_with fail
  refine bodyPost_ret (v := .tuple #[.bool false, .bool true]) ?_ rfl ⟨rfl, rfl⟩
  simp only [results, hres.out]
  simp
set_option maxHeartbeats 1000000 in
set_option maxRecDepth 100000 in
theorem rec_one (w : World) : Calls Tryz.prog 54 #[.string ⟨#[47]⟩, .float .f64 4607182418800017408, .float .f64 4607182418800017408] w fun e w' => e = .returned (.tuple #[.float .f64 4607182418800017408, .bool true]) ∧ w' = w := by
  have hres : Tryz.f54.results = #[.tmp 6, .tmp 7] := by kernel_rfl
  have q2 := fun W => run_float_arith (P := Tryz.prog) W .quo 23 .f64 4607182418800017408 4607182418800017408 4607182418800017408 (by decide)
  replace hres := Lib.hid hres
  go_enter Tryz.func54, Tryz.ntmps54
  go_wp2_with fail
  refine bodyPost_ret (v := .tuple #[.float .f64 4607182418800017408, .bool true]) ?_ rfl ⟨rfl, rfl⟩
  simp only [results, hres.out]
  simp
set_option maxHeartbeats 1000000 in
set_option maxRecDepth 100000 in
theorem rec_lss (w : World) : Calls Tryz.prog 54 #[.string ⟨#[60]⟩, .float .f64 4607182418800017408, .float .f64 4607182418800017408] w fun e w' => e = .returned (.tuple #[.float .f64 0, .bool false]) ∧ w' = w := by
  have hres : Tryz.f54.results = #[.tmp 6, .tmp 7] := by kernel_rfl
  replace hres := Lib.hid hres
  go_enter Tryz.func54, Tryz.ntmps54
  go_wp2_with fail
  refine bodyPost_ret (v := .tuple #[.float .f64 0, .bool false]) ?_ rfl ⟨rfl, rfl⟩
  simp only [results, hres.out]
  simp
set_option maxHeartbeats 1000000 in
set_option maxRecDepth 100000 in
theorem rec_72 (w : World) : Calls Tryz.prog 54 #[.string ⟨#[47]⟩, .float .f64 4619567317775286272, .float .f64 4611686018427387904] w fun e w' => e = .returned (.tuple #[.float .f64 4615063718147915776, .bool true]) ∧ w' = w := by
  have hres : Tryz.f54.results = #[.tmp 6, .tmp 7] := by kernel_rfl
  have q2 := fun W => run_float_arith (P := Tryz.prog) W .quo 23 .f64 4619567317775286272 4611686018427387904 4615063718147915776 (by decide)
  replace hres := Lib.hid hres
  go_enter Tryz.func54, Tryz.ntmps54
  go_wp2_with fail
  refine bodyPost_ret (v := .tuple #[.float .f64 4615063718147915776, .bool true]) ?_ rfl ⟨rfl, rfl⟩
  simp only [results, hres.out]
  simp
end Go.Proofs.YtmoofecphpknfaaGreatDoor
