/- Format: the bits of floats; Parse at "7", "2". Turned from Calc by tools/mkFK.py. -/
import Derived.Test.YtfhdfhlabkeipaaGreatDoorBase
import Derived.Test.YtfhdfhlabkeipaaGreatDoorV1
import Derived.Test.YtfhdfhlabkeipaaGreatDoorProg
import Derived.Outline
import Derived.WalkMore
import Derived.StillTailTactics
import Derived.Laws.Externs
import Derived.Laws.FloatArith
namespace Go.Proofs.YtfhdfhlabkeipaaGreatDoor.K
open Go.RowKit
set_option linter.unusedSimpArgs false
set_option linter.unusedVariables false

@[go_sem] theorem bits_run (b : Nat) (W : World) : (callFunc 141 #[.float .f64 b]).run Tryz.prog W = .ok (.value (.int .u64 b)) W := by
  rw [run_callFunc_extern Tryz.func141 (by kernel_rfl) (by kernel_rfl) (by kernel_rfl) (e := Extern.MathFloatBits.float64bits) (by kernel_rfl)]
  rfl
@[go_sem] theorem frombits_run (n : Int) (W : World) : (callFunc 136 #[.int .u64 n]).run Tryz.prog W = .ok (.value (.float .f64 n.toNat)) W := by
  rw [run_callFunc_extern Tryz.func136 (by kernel_rfl) (by kernel_rfl) (by kernel_rfl) (e := Extern.MathFloatBits.float64frombits) (by kernel_rfl)]
  rfl
@[go_sem] theorem frombits2_run (n : Int) (W : World) : (callFunc 201 #[.int .u64 n]).run Tryz.prog W = .ok (.value (.float .f64 n.toNat)) W := by
  rw [run_callFunc_extern Tryz.func201 (by kernel_rfl) (by kernel_rfl) (by kernel_rfl) (e := Extern.MathFloatBits.float64frombits) (by kernel_rfl)]
  rfl
theorem bool2_false (w : World) : Calls Tryz.prog 200 #[.bool false] w fun e w' => e = .returned (.int .u64 0) ∧ w' = w := by
  go_enter Tryz.func200, Tryz.ntmps200
  go_wp2_with fail
  go_ret
  exact ⟨rfl, rfl⟩
set_option maxHeartbeats 1000000 in
set_option maxRecDepth 100000 in
theorem spec_7 (w : World) : Calls Tryz.prog 191 #[.string ⟨#[55]⟩] w fun e w' => e = .returned (.tuple #[.float .f64 0, .int .i64 0, .bool false]) ∧ w' = w := by
  have hres : Tryz.f191.results = #[.tmp 2, .tmp 3, .tmp 4] := by kernel_rfl
  have x0 : ((⟨#[55]⟩ : ByteArray)[0]'(by decide)).toNat = 55 := rfl
  replace hres := Lib.hid hres
  go_enter Tryz.func191, Tryz.ntmps191
  go_wp2_with fail
  refine bodyPost_ret (v := .tuple #[.float .f64 0, .int .i64 0, .bool false]) ?_ rfl ⟨rfl, rfl⟩
  simp only [results, hres.out]
  simp
set_option maxHeartbeats 1000000 in
set_option maxRecDepth 100000 in
theorem read_7 (w : World) : Calls Tryz.prog 192 #[.string ⟨#[55]⟩] w fun e w' => e = .returned (.tuple #[.int .u64 7, .int .i64 0, .bool false, .bool false, .bool false, .int .i64 1, .bool true]) ∧ w' = w := by
  have hres : Tryz.f192.results = #[.tmp 2, .tmp 3, .tmp 4, .tmp 5, .tmp 6, .tmp 7, .tmp 8] := by kernel_rfl
  have x0 : ((⟨#[55]⟩ : ByteArray)[0]'(by decide)).toNat = 55 := rfl
  replace hres := Lib.hid hres
  go_enter Tryz.func192, Tryz.ntmps192
  go_wp2_with fail
  go_step3
  go_wp2_with fail
  go_step3
  go_wp2_with fail
  refine wp_loop_in (loopWp_round ?_)
  go_wp2_with fail
  refine loopWp_round ?_
  go_wp2_with fail
  rw [Exit.noGoto_ret]
  refine bodyPost_ret (v := .tuple #[.int .u64 7, .int .i64 0, .bool false, .bool false, .bool false, .int .i64 1, .bool true]) ?_ rfl ⟨rfl, rfl⟩
  simp only [results, hres.out]
  simp
set_option maxHeartbeats 1000000 in
set_option maxRecDepth 100000 in
theorem exact_7 (w : World) (hW : Wd w) : Calls Tryz.prog 202 #[.int .u64 7, .int .i64 0, .bool false] w fun e w' => e = .returned (.tuple #[.float .f64 4619567317775286272, .bool true]) ∧ w' = w := by
  have hres : Tryz.f202.results = #[.tmp 6, .tmp 7] := by kernel_rfl
  have k1 := hW.opt
  have k2 := hW.mb
  obtain ⟨B, o, c, k3, k4⟩ := hW.p10
  have q3 : floatOfInt .f64 7 = 4619567317775286272 := by decide
  replace hres := Lib.hid hres
  go_enter Tryz.func202, Tryz.ntmps202
  go_wp2_with fail
  refine bodyPost_ret (v := .tuple #[.float .f64 4619567317775286272, .bool true]) ?_ rfl ⟨rfl, rfl⟩
  simp only [results, hres.out]
  simp
set_option maxHeartbeats 1000000 in
set_option maxRecDepth 100000 in
theorem atof_7 (w : World) (hW : Wd w) : Calls Tryz.prog 172 #[.string ⟨#[55]⟩] w fun e w' => e = .returned (.tuple #[.float .f64 4619567317775286272, .int .i64 1, .nilIface]) ∧ w' = w := by
  have hres : Tryz.f172.results = #[.tmp 2, .tmp 3, .tmp 4] := by kernel_rfl
  have k1 := hW.opt
  have k2 := hW.mb
  obtain ⟨B, o, c, k3, k4⟩ := hW.p10
  replace hres := Lib.hid hres
  go_enter Tryz.func172, Tryz.ntmps172
  go_wp2_with fail
  refine (spec_7 _).mono ?_
  rintro e w1 ⟨rfl, rfl⟩
  go_wp2_with fail
  refine (read_7 _).mono ?_
  rintro e w1 ⟨rfl, rfl⟩
  go_wp2_with fail
  refine (bool2_false _).mono ?_
  rintro e w1 ⟨rfl, rfl⟩
  go_wp2_with fail
  refine (exact_7 _ hW).mono ?_
  rintro e w1 ⟨rfl, rfl⟩
  go_wp2_with fail
  refine bodyPost_ret (v := .tuple #[.float .f64 4619567317775286272, .int .i64 1, .nilIface]) ?_ rfl ⟨rfl, rfl⟩
  simp only [results, hres.out]
  simp
set_option maxHeartbeats 1000000 in
set_option maxRecDepth 100000 in
theorem pre_7 (w : World) (hW : Wd w) : Calls Tryz.prog 157 #[.string ⟨#[55]⟩, .int .i64 64] w fun e w' => e = .returned (.tuple #[.float .f64 4619567317775286272, .int .i64 1, .nilIface]) ∧ w' = w := by
  have hres : Tryz.f157.results = #[.tmp 4, .tmp 5, .tmp 6] := by kernel_rfl
  replace hres := Lib.hid hres
  go_enter Tryz.func157, Tryz.ntmps157
  go_wp2_with fail
  refine (atof_7 _ hW).mono ?_
  rintro e w1 ⟨rfl, rfl⟩
  go_wp2_with fail
  refine bodyPost_ret (v := .tuple #[.float .f64 4619567317775286272, .int .i64 1, .nilIface]) ?_ rfl ⟨rfl, rfl⟩
  simp only [results, hres.out]
  simp
set_option maxHeartbeats 1000000 in
set_option maxRecDepth 100000 in
theorem pfi_7 (w : World) (hW : Wd w) : Calls Tryz.prog 138 #[.string ⟨#[55]⟩, .int .i64 64] w fun e w' => e = .returned (.tuple #[.float .f64 4619567317775286272, .nilIface]) ∧ w' = w := by
  have hres : Tryz.f138.results = #[.tmp 4, .tmp 5] := by kernel_rfl
  replace hres := Lib.hid hres
  go_enter Tryz.func138, Tryz.ntmps138
  go_wp2_with fail
  refine (pre_7 _ hW).mono ?_
  rintro e w1 ⟨rfl, rfl⟩
  go_wp2_with fail
  refine bodyPost_ret (v := .tuple #[.float .f64 4619567317775286272, .nilIface]) ?_ rfl ⟨rfl, rfl⟩
  simp only [results, hres.out]
  simp
set_option maxHeartbeats 1000000 in
set_option maxRecDepth 100000 in
theorem pf_7 (w : World) (hW : Wd w) : Calls Tryz.prog 112 #[.string ⟨#[55]⟩, .int .i64 64] w fun e w' => e = .returned (.tuple #[.float .f64 4619567317775286272, .nilIface]) ∧ w' = w := by
  have hres : Tryz.f112.results = #[.tmp 4, .tmp 5] := by kernel_rfl
  replace hres := Lib.hid hres
  go_enter Tryz.func112, Tryz.ntmps112
  go_wp2_with fail
  refine (pfi_7 _ hW).mono ?_
  rintro e w1 ⟨rfl, rfl⟩
  go_wp2_with fail
  refine bodyPost_ret (v := .tuple #[.float .f64 4619567317775286272, .nilIface]) ?_ rfl ⟨rfl, rfl⟩
  simp only [results, hres.out]
  simp
set_option maxHeartbeats 1000000 in
set_option maxRecDepth 100000 in
theorem dig_7 (w : World) : Calls Tryz.prog 137 #[.string ⟨#[55]⟩, .int .i64 0] w fun e w' => e = .returned (.int .i64 1) ∧ w' = w := by
  have hres : Tryz.f137.results = #[.tmp 4] := by kernel_rfl
  have x0 : ((⟨#[55]⟩ : ByteArray)[0]'(by decide)).toNat = 55 := rfl
  replace hres := Lib.hid hres
  go_enter Tryz.func137, Tryz.ntmps137
  go_wp2_with fail
  refine wp_loop_in (loopWp_round ?_)
  go_wp2_with fail
  refine loopWp_round ?_
  go_wp2_with fail
  refine bodyPost_ret (v := .int .i64 1) ?_ rfl ⟨rfl, rfl⟩
  simp only [results, hres.out]
  simp
set_option maxHeartbeats 1000000 in
set_option maxRecDepth 100000 in
theorem plain_7 (w : World) : Calls Tryz.prog 111 #[.string ⟨#[55]⟩] w fun e w' => e = .returned (.bool true) ∧ w' = w := by
  have hres : Tryz.f111.results = #[.tmp 2] := by kernel_rfl
  have x0 : ((⟨#[55]⟩ : ByteArray)[0]'(by decide)).toNat = 55 := rfl
  replace hres := Lib.hid hres
  go_enter Tryz.func111, Tryz.ntmps111
  go_wp2_with fail
  refine (dig_7 _).mono ?_
  rintro e w1 ⟨rfl, rfl⟩
  go_wp2_with fail
  refine bodyPost_ret (v := .bool true) ?_ rfl ⟨rfl, rfl⟩
  simp only [results, hres.out]
  simp
set_option maxHeartbeats 1000000 in
set_option maxRecDepth 100000 in
theorem spec_2 (w : World) : Calls Tryz.prog 191 #[.string ⟨#[50]⟩] w fun e w' => e = .returned (.tuple #[.float .f64 0, .int .i64 0, .bool false]) ∧ w' = w := by
  have hres : Tryz.f191.results = #[.tmp 2, .tmp 3, .tmp 4] := by kernel_rfl
  have x0 : ((⟨#[50]⟩ : ByteArray)[0]'(by decide)).toNat = 50 := rfl
  replace hres := Lib.hid hres
  go_enter Tryz.func191, Tryz.ntmps191
  go_wp2_with fail
  refine bodyPost_ret (v := .tuple #[.float .f64 0, .int .i64 0, .bool false]) ?_ rfl ⟨rfl, rfl⟩
  simp only [results, hres.out]
  simp
set_option maxHeartbeats 1000000 in
set_option maxRecDepth 100000 in
theorem read_2 (w : World) : Calls Tryz.prog 192 #[.string ⟨#[50]⟩] w fun e w' => e = .returned (.tuple #[.int .u64 2, .int .i64 0, .bool false, .bool false, .bool false, .int .i64 1, .bool true]) ∧ w' = w := by
  have hres : Tryz.f192.results = #[.tmp 2, .tmp 3, .tmp 4, .tmp 5, .tmp 6, .tmp 7, .tmp 8] := by kernel_rfl
  have x0 : ((⟨#[50]⟩ : ByteArray)[0]'(by decide)).toNat = 50 := rfl
  replace hres := Lib.hid hres
  go_enter Tryz.func192, Tryz.ntmps192
  go_wp2_with fail
  go_step3
  go_wp2_with fail
  go_step3
  go_wp2_with fail
  refine wp_loop_in (loopWp_round ?_)
  go_wp2_with fail
  refine loopWp_round ?_
  go_wp2_with fail
  rw [Exit.noGoto_ret]
  refine bodyPost_ret (v := .tuple #[.int .u64 2, .int .i64 0, .bool false, .bool false, .bool false, .int .i64 1, .bool true]) ?_ rfl ⟨rfl, rfl⟩
  simp only [results, hres.out]
  simp
set_option maxHeartbeats 1000000 in
set_option maxRecDepth 100000 in
theorem exact_2 (w : World) (hW : Wd w) : Calls Tryz.prog 202 #[.int .u64 2, .int .i64 0, .bool false] w fun e w' => e = .returned (.tuple #[.float .f64 4611686018427387904, .bool true]) ∧ w' = w := by
  have hres : Tryz.f202.results = #[.tmp 6, .tmp 7] := by kernel_rfl
  have k1 := hW.opt
  have k2 := hW.mb
  obtain ⟨B, o, c, k3, k4⟩ := hW.p10
  have q3 : floatOfInt .f64 2 = 4611686018427387904 := by decide
  replace hres := Lib.hid hres
  go_enter Tryz.func202, Tryz.ntmps202
  go_wp2_with fail
  refine bodyPost_ret (v := .tuple #[.float .f64 4611686018427387904, .bool true]) ?_ rfl ⟨rfl, rfl⟩
  simp only [results, hres.out]
  simp
set_option maxHeartbeats 1000000 in
set_option maxRecDepth 100000 in
theorem atof_2 (w : World) (hW : Wd w) : Calls Tryz.prog 172 #[.string ⟨#[50]⟩] w fun e w' => e = .returned (.tuple #[.float .f64 4611686018427387904, .int .i64 1, .nilIface]) ∧ w' = w := by
  have hres : Tryz.f172.results = #[.tmp 2, .tmp 3, .tmp 4] := by kernel_rfl
  have k1 := hW.opt
  have k2 := hW.mb
  obtain ⟨B, o, c, k3, k4⟩ := hW.p10
  replace hres := Lib.hid hres
  go_enter Tryz.func172, Tryz.ntmps172
  go_wp2_with fail
  refine (spec_2 _).mono ?_
  rintro e w1 ⟨rfl, rfl⟩
  go_wp2_with fail
  refine (read_2 _).mono ?_
  rintro e w1 ⟨rfl, rfl⟩
  go_wp2_with fail
  refine (bool2_false _).mono ?_
  rintro e w1 ⟨rfl, rfl⟩
  go_wp2_with fail
  refine (exact_2 _ hW).mono ?_
  rintro e w1 ⟨rfl, rfl⟩
  go_wp2_with fail
  refine bodyPost_ret (v := .tuple #[.float .f64 4611686018427387904, .int .i64 1, .nilIface]) ?_ rfl ⟨rfl, rfl⟩
  simp only [results, hres.out]
  simp
set_option maxHeartbeats 1000000 in
set_option maxRecDepth 100000 in
theorem pre_2 (w : World) (hW : Wd w) : Calls Tryz.prog 157 #[.string ⟨#[50]⟩, .int .i64 64] w fun e w' => e = .returned (.tuple #[.float .f64 4611686018427387904, .int .i64 1, .nilIface]) ∧ w' = w := by
  have hres : Tryz.f157.results = #[.tmp 4, .tmp 5, .tmp 6] := by kernel_rfl
  replace hres := Lib.hid hres
  go_enter Tryz.func157, Tryz.ntmps157
  go_wp2_with fail
  refine (atof_2 _ hW).mono ?_
  rintro e w1 ⟨rfl, rfl⟩
  go_wp2_with fail
  refine bodyPost_ret (v := .tuple #[.float .f64 4611686018427387904, .int .i64 1, .nilIface]) ?_ rfl ⟨rfl, rfl⟩
  simp only [results, hres.out]
  simp
set_option maxHeartbeats 1000000 in
set_option maxRecDepth 100000 in
theorem pfi_2 (w : World) (hW : Wd w) : Calls Tryz.prog 138 #[.string ⟨#[50]⟩, .int .i64 64] w fun e w' => e = .returned (.tuple #[.float .f64 4611686018427387904, .nilIface]) ∧ w' = w := by
  have hres : Tryz.f138.results = #[.tmp 4, .tmp 5] := by kernel_rfl
  replace hres := Lib.hid hres
  go_enter Tryz.func138, Tryz.ntmps138
  go_wp2_with fail
  refine (pre_2 _ hW).mono ?_
  rintro e w1 ⟨rfl, rfl⟩
  go_wp2_with fail
  refine bodyPost_ret (v := .tuple #[.float .f64 4611686018427387904, .nilIface]) ?_ rfl ⟨rfl, rfl⟩
  simp only [results, hres.out]
  simp
set_option maxHeartbeats 1000000 in
set_option maxRecDepth 100000 in
theorem pf_2 (w : World) (hW : Wd w) : Calls Tryz.prog 112 #[.string ⟨#[50]⟩, .int .i64 64] w fun e w' => e = .returned (.tuple #[.float .f64 4611686018427387904, .nilIface]) ∧ w' = w := by
  have hres : Tryz.f112.results = #[.tmp 4, .tmp 5] := by kernel_rfl
  replace hres := Lib.hid hres
  go_enter Tryz.func112, Tryz.ntmps112
  go_wp2_with fail
  refine (pfi_2 _ hW).mono ?_
  rintro e w1 ⟨rfl, rfl⟩
  go_wp2_with fail
  refine bodyPost_ret (v := .tuple #[.float .f64 4611686018427387904, .nilIface]) ?_ rfl ⟨rfl, rfl⟩
  simp only [results, hres.out]
  simp
set_option maxHeartbeats 1000000 in
set_option maxRecDepth 100000 in
theorem dig_2 (w : World) : Calls Tryz.prog 137 #[.string ⟨#[50]⟩, .int .i64 0] w fun e w' => e = .returned (.int .i64 1) ∧ w' = w := by
  have hres : Tryz.f137.results = #[.tmp 4] := by kernel_rfl
  have x0 : ((⟨#[50]⟩ : ByteArray)[0]'(by decide)).toNat = 50 := rfl
  replace hres := Lib.hid hres
  go_enter Tryz.func137, Tryz.ntmps137
  go_wp2_with fail
  refine wp_loop_in (loopWp_round ?_)
  go_wp2_with fail
  refine loopWp_round ?_
  go_wp2_with fail
  refine bodyPost_ret (v := .int .i64 1) ?_ rfl ⟨rfl, rfl⟩
  simp only [results, hres.out]
  simp
set_option maxHeartbeats 1000000 in
set_option maxRecDepth 100000 in
theorem plain_2 (w : World) : Calls Tryz.prog 111 #[.string ⟨#[50]⟩] w fun e w' => e = .returned (.bool true) ∧ w' = w := by
  have hres : Tryz.f111.results = #[.tmp 2] := by kernel_rfl
  have x0 : ((⟨#[50]⟩ : ByteArray)[0]'(by decide)).toNat = 50 := rfl
  replace hres := Lib.hid hres
  go_enter Tryz.func111, Tryz.ntmps111
  go_wp2_with fail
  refine (dig_2 _).mono ?_
  rintro e w1 ⟨rfl, rfl⟩
  go_wp2_with fail
  refine bodyPost_ret (v := .bool true) ?_ rfl ⟨rfl, rfl⟩
  simp only [results, hres.out]
  simp
set_option maxHeartbeats 1000000 in
set_option maxRecDepth 100000 in
theorem copy_7 (w : World) : Calls Tryz.prog 114 #[.float .f64 4619567317775286272, .float .f64 4607182418800017408] w fun e w' => e = .returned (.float .f64 4619567317775286272) ∧ w' = w := by
  have hres : Tryz.f114.results = #[.tmp 4] := by kernel_rfl
  have q1 : bits .andNot .u64 4619567317775286272 9223372036854775808 = 4619567317775286272 := by decide
  have q2 : bits .and .u64 4607182418800017408 9223372036854775808 = 0 := by decide
  have q3 : bits .or .u64 4619567317775286272 0 = 4619567317775286272 := by decide
  replace hres := Lib.hid hres
  go_enter Tryz.func114, Tryz.ntmps114
  go_wp2_with fail
  refine bodyPost_ret (v := .float .f64 4619567317775286272) ?_ rfl ⟨rfl, rfl⟩
  simp only [results, hres.out]
  simp
set_option maxHeartbeats 1000000 in
set_option maxRecDepth 100000 in
theorem copy_2 (w : World) : Calls Tryz.prog 114 #[.float .f64 4611686018427387904, .float .f64 4607182418800017408] w fun e w' => e = .returned (.float .f64 4611686018427387904) ∧ w' = w := by
  have hres : Tryz.f114.results = #[.tmp 4] := by kernel_rfl
  have q1 : bits .andNot .u64 4611686018427387904 9223372036854775808 = 4611686018427387904 := by decide
  have q2 : bits .and .u64 4607182418800017408 9223372036854775808 = 0 := by decide
  have q3 : bits .or .u64 4611686018427387904 0 = 4611686018427387904 := by decide
  replace hres := Lib.hid hres
  go_enter Tryz.func114, Tryz.ntmps114
  go_wp2_with fail
  refine bodyPost_ret (v := .float .f64 4611686018427387904) ?_ rfl ⟨rfl, rfl⟩
  simp only [results, hres.out]
  simp
set_option maxHeartbeats 1000000 in
set_option maxRecDepth 100000 in
theorem parse_7 (w : World) (hW : Wd w) : Calls Tryz.prog 86 #[.string ⟨#[55]⟩] w fun e w' => e = .returned (.tuple #[.float .f64 4619567317775286272, .int .i64 0]) ∧ w' = w := by
  have hres : Tryz.f86.results = #[.tmp 2, .tmp 3] := by kernel_rfl
  have x0 : ((⟨#[55]⟩ : ByteArray)[0]'(by decide)).toNat = 55 := rfl
  replace hres := Lib.hid hres
  go_enter Tryz.func86, Tryz.ntmps86
  go_wp2_with fail
  refine (plain_7 _).mono ?_
  rintro e w1 ⟨rfl, rfl⟩
  go_wp2_with fail
  refine (pf_7 _ hW).mono ?_
  rintro e w1 ⟨rfl, rfl⟩
  go_wp2_with fail
  refine (copy_7 _).mono ?_
  rintro e w1 ⟨rfl, rfl⟩
  go_wp2_with fail
  refine bodyPost_ret (v := .tuple #[.float .f64 4619567317775286272, .int .i64 0]) ?_ rfl ⟨rfl, rfl⟩
  simp only [results, hres.out]
  simp
set_option maxHeartbeats 1000000 in
set_option maxRecDepth 100000 in
theorem parse_2 (w : World) (hW : Wd w) : Calls Tryz.prog 86 #[.string ⟨#[50]⟩] w fun e w' => e = .returned (.tuple #[.float .f64 4611686018427387904, .int .i64 0]) ∧ w' = w := by
  have hres : Tryz.f86.results = #[.tmp 2, .tmp 3] := by kernel_rfl
  have x0 : ((⟨#[50]⟩ : ByteArray)[0]'(by decide)).toNat = 50 := rfl
  replace hres := Lib.hid hres
  go_enter Tryz.func86, Tryz.ntmps86
  go_wp2_with fail
  refine (plain_2 _).mono ?_
  rintro e w1 ⟨rfl, rfl⟩
  go_wp2_with fail
  refine (pf_2 _ hW).mono ?_
  rintro e w1 ⟨rfl, rfl⟩
  go_wp2_with fail
  refine (copy_2 _).mono ?_
  rintro e w1 ⟨rfl, rfl⟩
  go_wp2_with fail
  refine bodyPost_ret (v := .tuple #[.float .f64 4611686018427387904, .int .i64 0]) ?_ rfl ⟨rfl, rfl⟩
  simp only [results, hres.out]
  simp
end Go.Proofs.YtfhdfhlabkeipaaGreatDoor.K
