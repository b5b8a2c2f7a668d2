/- Calc: Parse at the examples' texts. Printed by tools/mkCalcC3.py. -/
import Derived.Test.YtmoofecphpknfaaGreatDoorC2
import Derived.WalkMore
namespace Go.Proofs.YtmoofecphpknfaaGreatDoor
open Go.RowKit
set_option linter.unusedSimpArgs false
set_option linter.unusedVariables false

/-- What the examples read of variables. -/
structure Wd (w : World) : Prop where
  opt : w.cell? ⟨3, 0, none⟩ = some (.bool true)
  mb : w.cell? ⟨5, 0, none⟩ = some (.int .u64 52)
  p10 : ∃ B o c, w.cell? ⟨9, 0, none⟩ = some (.slice (some ⟨B, o, none⟩) 23 c) ∧ w.cell? ⟨B, o + 1, none⟩ = some (.float .f64 4621819117588971520)
@[go_sem] theorem frombits2_run (n : Int) (W : World) : (callFunc 123 #[.int .u64 n]).run Tryz.prog W = .ok (.value (.float .f64 n.toNat)) W := by
  rw [run_callFunc_extern Tryz.func123 (by kernel_rfl) (by kernel_rfl) (by kernel_rfl) (e := Extern.MathFloatBits.float64frombits) (by kernel_rfl)]
  rfl
theorem bool2_false (w : World) : Calls Tryz.prog 122 #[.bool false] w fun e w' => e = .returned (.int .u64 0) ∧ w' = w := by
  go_enter Tryz.func122, Tryz.ntmps122
  go_wp2_with fail
  go_ret
  exact ⟨rfl, rfl⟩
set_option maxHeartbeats 1000000 in
set_option maxRecDepth 100000 in
theorem spec_15 (w : World) : Calls Tryz.prog 113 #[.string ⟨#[49, 46, 53]⟩] w fun e w' => e = .returned (.tuple #[.float .f64 0, .int .i64 0, .bool false]) ∧ w' = w := by
  have hres : Tryz.f113.results = #[.tmp 2, .tmp 3, .tmp 4] := by kernel_rfl
  have x0 : ((⟨#[49, 46, 53]⟩ : ByteArray)[0]'(by decide)).toNat = 49 := rfl
  have x1 : ((⟨#[49, 46, 53]⟩ : ByteArray)[1]'(by decide)).toNat = 46 := rfl
  have x2 : ((⟨#[49, 46, 53]⟩ : ByteArray)[2]'(by decide)).toNat = 53 := rfl
  replace hres := Lib.hid hres
  go_enter Tryz.func113, Tryz.ntmps113
  go_wp2_with fail
  refine bodyPost_ret (v := .tuple #[.float .f64 0, .int .i64 0, .bool false]) ?_ rfl ⟨rfl, rfl⟩
  simp only [results, hres.out]
  simp
set_option maxHeartbeats 1000000 in
set_option maxRecDepth 100000 in
theorem read_15 (w : World) : Calls Tryz.prog 114 #[.string ⟨#[49, 46, 53]⟩] w fun e w' => e = .returned (.tuple #[.int .u64 15, .int .i64 (-1), .bool false, .bool false, .bool false, .int .i64 3, .bool true]) ∧ w' = w := by
  have hres : Tryz.f114.results = #[.tmp 2, .tmp 3, .tmp 4, .tmp 5, .tmp 6, .tmp 7, .tmp 8] := by kernel_rfl
  have x0 : ((⟨#[49, 46, 53]⟩ : ByteArray)[0]'(by decide)).toNat = 49 := rfl
  have x1 : ((⟨#[49, 46, 53]⟩ : ByteArray)[1]'(by decide)).toNat = 46 := rfl
  have x2 : ((⟨#[49, 46, 53]⟩ : ByteArray)[2]'(by decide)).toNat = 53 := rfl
  replace hres := Lib.hid hres
  go_enter Tryz.func114, Tryz.ntmps114
  go_wp2_with fail
  go_step3
  go_wp2_with fail
  go_step3
  go_wp2_with fail
  refine wp_loop_in (loopWp_round ?_)
  go_wp2_with fail
  refine loopWp_round ?_
  go_wp2_with fail
  refine loopWp_round ?_
  go_wp2_with fail
  refine loopWp_round ?_
  go_wp2_with fail
  rw [Exit.noGoto_ret]
  refine bodyPost_ret (v := .tuple #[.int .u64 15, .int .i64 (-1), .bool false, .bool false, .bool false, .int .i64 3, .bool true]) ?_ rfl ⟨rfl, rfl⟩
  simp only [results, hres.out]
  simp
set_option maxHeartbeats 1000000 in
set_option maxRecDepth 100000 in
theorem exact_15 (w : World) (hW : Wd w) : Calls Tryz.prog 124 #[.int .u64 15, .int .i64 (-1), .bool false] w fun e w' => e = .returned (.tuple #[.float .f64 4609434218613702656, .bool true]) ∧ w' = w := by
  have hres : Tryz.f124.results = #[.tmp 6, .tmp 7] := by kernel_rfl
  have k1 := hW.opt
  have k2 := hW.mb
  obtain ⟨B, o, c, k3, k4⟩ := hW.p10
  have q1 : (Ieee.double.div 4624633867356078080 4621819117588971520) = some 4609434218613702656 := by decide
  have q2 := fun W => run_float_arith (P := Tryz.prog) W .quo 23 .f64 4624633867356078080 4621819117588971520 4609434218613702656 q1
  have q3 : floatOfInt .f64 15 = 4624633867356078080 := by decide
  replace hres := Lib.hid hres
  go_enter Tryz.func124, Tryz.ntmps124
  go_wp2_with fail
  refine bodyPost_ret (v := .tuple #[.float .f64 4609434218613702656, .bool true]) ?_ rfl ⟨rfl, rfl⟩
  simp only [results, hres.out]
  simp
set_option maxHeartbeats 1000000 in
set_option maxRecDepth 100000 in
theorem atof_15 (w : World) (hW : Wd w) : Calls Tryz.prog 90 #[.string ⟨#[49, 46, 53]⟩] w fun e w' => e = .returned (.tuple #[.float .f64 4609434218613702656, .int .i64 3, .nilIface]) ∧ w' = w := by
  have hres : Tryz.f90.results = #[.tmp 2, .tmp 3, .tmp 4] := by kernel_rfl
  have k1 := hW.opt
  have k2 := hW.mb
  obtain ⟨B, o, c, k3, k4⟩ := hW.p10
  replace hres := Lib.hid hres
  go_enter Tryz.func90, Tryz.ntmps90
  go_wp2_with fail
  refine (spec_15 _).mono ?_
  rintro e w1 ⟨rfl, rfl⟩
  go_wp2_with fail
  refine (read_15 _).mono ?_
  rintro e w1 ⟨rfl, rfl⟩
  go_wp2_with fail
  refine (bool2_false _).mono ?_
  rintro e w1 ⟨rfl, rfl⟩
  go_wp2_with fail
  refine (exact_15 _ hW).mono ?_
  rintro e w1 ⟨rfl, rfl⟩
  go_wp2_with fail
  refine bodyPost_ret (v := .tuple #[.float .f64 4609434218613702656, .int .i64 3, .nilIface]) ?_ rfl ⟨rfl, rfl⟩
  simp only [results, hres.out]
  simp
set_option maxHeartbeats 1000000 in
set_option maxRecDepth 100000 in
theorem pre_15 (w : World) (hW : Wd w) : Calls Tryz.prog 78 #[.string ⟨#[49, 46, 53]⟩, .int .i64 64] w fun e w' => e = .returned (.tuple #[.float .f64 4609434218613702656, .int .i64 3, .nilIface]) ∧ w' = w := by
  have hres : Tryz.f78.results = #[.tmp 4, .tmp 5, .tmp 6] := by kernel_rfl
  replace hres := Lib.hid hres
  go_enter Tryz.func78, Tryz.ntmps78
  go_wp2_with fail
  refine (atof_15 _ hW).mono ?_
  rintro e w1 ⟨rfl, rfl⟩
  go_wp2_with fail
  refine bodyPost_ret (v := .tuple #[.float .f64 4609434218613702656, .int .i64 3, .nilIface]) ?_ rfl ⟨rfl, rfl⟩
  simp only [results, hres.out]
  simp
set_option maxHeartbeats 1000000 in
set_option maxRecDepth 100000 in
theorem pfi_15 (w : World) (hW : Wd w) : Calls Tryz.prog 62 #[.string ⟨#[49, 46, 53]⟩, .int .i64 64] w fun e w' => e = .returned (.tuple #[.float .f64 4609434218613702656, .nilIface]) ∧ w' = w := by
  have hres : Tryz.f62.results = #[.tmp 4, .tmp 5] := by kernel_rfl
  replace hres := Lib.hid hres
  go_enter Tryz.func62, Tryz.ntmps62
  go_wp2_with fail
  refine (pre_15 _ hW).mono ?_
  rintro e w1 ⟨rfl, rfl⟩
  go_wp2_with fail
  refine bodyPost_ret (v := .tuple #[.float .f64 4609434218613702656, .nilIface]) ?_ rfl ⟨rfl, rfl⟩
  simp only [results, hres.out]
  simp
set_option maxHeartbeats 1000000 in
set_option maxRecDepth 100000 in
theorem pf_15 (w : World) (hW : Wd w) : Calls Tryz.prog 28 #[.string ⟨#[49, 46, 53]⟩, .int .i64 64] w fun e w' => e = .returned (.tuple #[.float .f64 4609434218613702656, .nilIface]) ∧ w' = w := by
  have hres : Tryz.f28.results = #[.tmp 4, .tmp 5] := by kernel_rfl
  replace hres := Lib.hid hres
  go_enter Tryz.func28, Tryz.ntmps28
  go_wp2_with fail
  refine (pfi_15 _ hW).mono ?_
  rintro e w1 ⟨rfl, rfl⟩
  go_wp2_with fail
  refine bodyPost_ret (v := .tuple #[.float .f64 4609434218613702656, .nilIface]) ?_ rfl ⟨rfl, rfl⟩
  simp only [results, hres.out]
  simp
set_option maxHeartbeats 1000000 in
set_option maxRecDepth 100000 in
theorem dig_15 (w : World) : Calls Tryz.prog 61 #[.string ⟨#[49, 46, 53]⟩, .int .i64 0] w fun e w' => e = .returned (.int .i64 1) ∧ w' = w := by
  have hres : Tryz.f61.results = #[.tmp 4] := by kernel_rfl
  have x0 : ((⟨#[49, 46, 53]⟩ : ByteArray)[0]'(by decide)).toNat = 49 := rfl
  have x1 : ((⟨#[49, 46, 53]⟩ : ByteArray)[1]'(by decide)).toNat = 46 := rfl
  have x2 : ((⟨#[49, 46, 53]⟩ : ByteArray)[2]'(by decide)).toNat = 53 := rfl
  replace hres := Lib.hid hres
  go_enter Tryz.func61, Tryz.ntmps61
  go_wp2_with fail
  refine wp_loop_in (loopWp_round ?_)
  go_wp2_with fail
  refine loopWp_round ?_
  go_wp2_with fail
  refine bodyPost_ret (v := .int .i64 1) ?_ rfl ⟨rfl, rfl⟩
  simp only [results, hres.out]
  simp
set_option maxHeartbeats 1000000 in
set_option maxRecDepth 100000 in
theorem dig2_15 (w : World) : Calls Tryz.prog 61 #[.string ⟨#[49, 46, 53]⟩, .int .i64 2] w fun e w' => e = .returned (.int .i64 3) ∧ w' = w := by
  have hres : Tryz.f61.results = #[.tmp 4] := by kernel_rfl
  have x0 : ((⟨#[49, 46, 53]⟩ : ByteArray)[0]'(by decide)).toNat = 49 := rfl
  have x1 : ((⟨#[49, 46, 53]⟩ : ByteArray)[1]'(by decide)).toNat = 46 := rfl
  have x2 : ((⟨#[49, 46, 53]⟩ : ByteArray)[2]'(by decide)).toNat = 53 := rfl
  replace hres := Lib.hid hres
  go_enter Tryz.func61, Tryz.ntmps61
  go_wp2_with fail
  refine wp_loop_in (loopWp_round ?_)
  go_wp2_with fail
  refine loopWp_round ?_
  go_wp2_with fail
  refine bodyPost_ret (v := .int .i64 3) ?_ rfl ⟨rfl, rfl⟩
  simp only [results, hres.out]
  simp
set_option maxHeartbeats 1000000 in
set_option maxRecDepth 100000 in
theorem plain_15 (w : World) : Calls Tryz.prog 27 #[.string ⟨#[49, 46, 53]⟩] w fun e w' => e = .returned (.bool true) ∧ w' = w := by
  have hres : Tryz.f27.results = #[.tmp 2] := by kernel_rfl
  have x0 : ((⟨#[49, 46, 53]⟩ : ByteArray)[0]'(by decide)).toNat = 49 := rfl
  have x1 : ((⟨#[49, 46, 53]⟩ : ByteArray)[1]'(by decide)).toNat = 46 := rfl
  have x2 : ((⟨#[49, 46, 53]⟩ : ByteArray)[2]'(by decide)).toNat = 53 := rfl
  replace hres := Lib.hid hres
  go_enter Tryz.func27, Tryz.ntmps27
  go_wp2_with fail
  refine (dig_15 _).mono ?_
  rintro e w1 ⟨rfl, rfl⟩
  go_wp2_with fail
  refine (dig2_15 _).mono ?_
  rintro e w1 ⟨rfl, rfl⟩
  go_wp2_with fail
  refine bodyPost_ret (v := .bool true) ?_ rfl ⟨rfl, rfl⟩
  simp only [results, hres.out]
  simp
set_option maxHeartbeats 1000000 in
set_option maxRecDepth 100000 in
theorem spec_0 (w : World) : Calls Tryz.prog 113 #[.string ⟨#[48]⟩] w fun e w' => e = .returned (.tuple #[.float .f64 0, .int .i64 0, .bool false]) ∧ w' = w := by
  have hres : Tryz.f113.results = #[.tmp 2, .tmp 3, .tmp 4] := by kernel_rfl
  have x0 : ((⟨#[48]⟩ : ByteArray)[0]'(by decide)).toNat = 48 := rfl
  replace hres := Lib.hid hres
  go_enter Tryz.func113, Tryz.ntmps113
  go_wp2_with fail
  refine bodyPost_ret (v := .tuple #[.float .f64 0, .int .i64 0, .bool false]) ?_ rfl ⟨rfl, rfl⟩
  simp only [results, hres.out]
  simp
set_option maxHeartbeats 1000000 in
set_option maxRecDepth 100000 in
theorem read_0 (w : World) : Calls Tryz.prog 114 #[.string ⟨#[48]⟩] w fun e w' => e = .returned (.tuple #[.int .u64 0, .int .i64 0, .bool false, .bool false, .bool false, .int .i64 1, .bool true]) ∧ w' = w := by
  have hres : Tryz.f114.results = #[.tmp 2, .tmp 3, .tmp 4, .tmp 5, .tmp 6, .tmp 7, .tmp 8] := by kernel_rfl
  have x0 : ((⟨#[48]⟩ : ByteArray)[0]'(by decide)).toNat = 48 := rfl
  replace hres := Lib.hid hres
  go_enter Tryz.func114, Tryz.ntmps114
  go_wp2_with fail
  go_step3
  go_wp2_with fail
  go_step3
  go_wp2_with fail
  refine wp_loop_in (loopWp_round ?_)
  go_wp2_with fail
  refine loopWp_round ?_
  go_wp2_with fail
  rw [Exit.noGoto_ret]
  refine bodyPost_ret (v := .tuple #[.int .u64 0, .int .i64 0, .bool false, .bool false, .bool false, .int .i64 1, .bool true]) ?_ rfl ⟨rfl, rfl⟩
  simp only [results, hres.out]
  simp
set_option maxHeartbeats 1000000 in
set_option maxRecDepth 100000 in
theorem atof_0 (w : World) (hW : Wd w) : Calls Tryz.prog 90 #[.string ⟨#[48]⟩] w fun e w' => e = .returned (.tuple #[.float .f64 0, .int .i64 1, .nilIface]) ∧ w' = w := by
  have hres : Tryz.f90.results = #[.tmp 2, .tmp 3, .tmp 4] := by kernel_rfl
  have k1 := hW.opt
  have k2 := hW.mb
  obtain ⟨B, o, c, k3, k4⟩ := hW.p10
  have q0 : bits .or .u64 0 0 = 0 := by decide
  replace hres := Lib.hid hres
  go_enter Tryz.func90, Tryz.ntmps90
  go_wp2_with fail
  refine (spec_0 _).mono ?_
  rintro e w1 ⟨rfl, rfl⟩
  go_wp2_with fail
  refine (read_0 _).mono ?_
  rintro e w1 ⟨rfl, rfl⟩
  go_wp2_with fail
  refine (bool2_false _).mono ?_
  rintro e w1 ⟨rfl, rfl⟩
  go_wp2_with fail
  refine bodyPost_ret (v := .tuple #[.float .f64 0, .int .i64 1, .nilIface]) ?_ rfl ⟨rfl, rfl⟩
  simp only [results, hres.out]
  simp
set_option maxHeartbeats 1000000 in
set_option maxRecDepth 100000 in
theorem pre_0 (w : World) (hW : Wd w) : Calls Tryz.prog 78 #[.string ⟨#[48]⟩, .int .i64 64] w fun e w' => e = .returned (.tuple #[.float .f64 0, .int .i64 1, .nilIface]) ∧ w' = w := by
  have hres : Tryz.f78.results = #[.tmp 4, .tmp 5, .tmp 6] := by kernel_rfl
  replace hres := Lib.hid hres
  go_enter Tryz.func78, Tryz.ntmps78
  go_wp2_with fail
  refine (atof_0 _ hW).mono ?_
  rintro e w1 ⟨rfl, rfl⟩
  go_wp2_with fail
  refine bodyPost_ret (v := .tuple #[.float .f64 0, .int .i64 1, .nilIface]) ?_ rfl ⟨rfl, rfl⟩
  simp only [results, hres.out]
  simp
set_option maxHeartbeats 1000000 in
set_option maxRecDepth 100000 in
theorem pfi_0 (w : World) (hW : Wd w) : Calls Tryz.prog 62 #[.string ⟨#[48]⟩, .int .i64 64] w fun e w' => e = .returned (.tuple #[.float .f64 0, .nilIface]) ∧ w' = w := by
  have hres : Tryz.f62.results = #[.tmp 4, .tmp 5] := by kernel_rfl
  replace hres := Lib.hid hres
  go_enter Tryz.func62, Tryz.ntmps62
  go_wp2_with fail
  refine (pre_0 _ hW).mono ?_
  rintro e w1 ⟨rfl, rfl⟩
  go_wp2_with fail
  refine bodyPost_ret (v := .tuple #[.float .f64 0, .nilIface]) ?_ rfl ⟨rfl, rfl⟩
  simp only [results, hres.out]
  simp
set_option maxHeartbeats 1000000 in
set_option maxRecDepth 100000 in
theorem pf_0 (w : World) (hW : Wd w) : Calls Tryz.prog 28 #[.string ⟨#[48]⟩, .int .i64 64] w fun e w' => e = .returned (.tuple #[.float .f64 0, .nilIface]) ∧ w' = w := by
  have hres : Tryz.f28.results = #[.tmp 4, .tmp 5] := by kernel_rfl
  replace hres := Lib.hid hres
  go_enter Tryz.func28, Tryz.ntmps28
  go_wp2_with fail
  refine (pfi_0 _ hW).mono ?_
  rintro e w1 ⟨rfl, rfl⟩
  go_wp2_with fail
  refine bodyPost_ret (v := .tuple #[.float .f64 0, .nilIface]) ?_ rfl ⟨rfl, rfl⟩
  simp only [results, hres.out]
  simp
set_option maxHeartbeats 1000000 in
set_option maxRecDepth 100000 in
theorem dig_0 (w : World) : Calls Tryz.prog 61 #[.string ⟨#[48]⟩, .int .i64 0] w fun e w' => e = .returned (.int .i64 1) ∧ w' = w := by
  have hres : Tryz.f61.results = #[.tmp 4] := by kernel_rfl
  have x0 : ((⟨#[48]⟩ : ByteArray)[0]'(by decide)).toNat = 48 := rfl
  replace hres := Lib.hid hres
  go_enter Tryz.func61, Tryz.ntmps61
  go_wp2_with fail
  refine wp_loop_in (loopWp_round ?_)
  go_wp2_with fail
  refine loopWp_round ?_
  go_wp2_with fail
  refine bodyPost_ret (v := .int .i64 1) ?_ rfl ⟨rfl, rfl⟩
  simp only [results, hres.out]
  simp
set_option maxHeartbeats 1000000 in
set_option maxRecDepth 100000 in
theorem plain_0 (w : World) : Calls Tryz.prog 27 #[.string ⟨#[48]⟩] w fun e w' => e = .returned (.bool true) ∧ w' = w := by
  have hres : Tryz.f27.results = #[.tmp 2] := by kernel_rfl
  have x0 : ((⟨#[48]⟩ : ByteArray)[0]'(by decide)).toNat = 48 := rfl
  replace hres := Lib.hid hres
  go_enter Tryz.func27, Tryz.ntmps27
  go_wp2_with fail
  refine (dig_0 _).mono ?_
  rintro e w1 ⟨rfl, rfl⟩
  go_wp2_with fail
  refine bodyPost_ret (v := .bool true) ?_ rfl ⟨rfl, rfl⟩
  simp only [results, hres.out]
  simp
set_option maxHeartbeats 1000000 in
set_option maxRecDepth 100000 in
theorem spec_7 (w : World) : Calls Tryz.prog 113 #[.string ⟨#[55]⟩] w fun e w' => e = .returned (.tuple #[.float .f64 0, .int .i64 0, .bool false]) ∧ w' = w := by
  have hres : Tryz.f113.results = #[.tmp 2, .tmp 3, .tmp 4] := by kernel_rfl
  have x0 : ((⟨#[55]⟩ : ByteArray)[0]'(by decide)).toNat = 55 := rfl
  replace hres := Lib.hid hres
  go_enter Tryz.func113, Tryz.ntmps113
  go_wp2_with fail
  refine bodyPost_ret (v := .tuple #[.float .f64 0, .int .i64 0, .bool false]) ?_ rfl ⟨rfl, rfl⟩
  simp only [results, hres.out]
  simp
set_option maxHeartbeats 1000000 in
set_option maxRecDepth 100000 in
theorem read_7 (w : World) : Calls Tryz.prog 114 #[.string ⟨#[55]⟩] w fun e w' => e = .returned (.tuple #[.int .u64 7, .int .i64 0, .bool false, .bool false, .bool false, .int .i64 1, .bool true]) ∧ w' = w := by
  have hres : Tryz.f114.results = #[.tmp 2, .tmp 3, .tmp 4, .tmp 5, .tmp 6, .tmp 7, .tmp 8] := by kernel_rfl
  have x0 : ((⟨#[55]⟩ : ByteArray)[0]'(by decide)).toNat = 55 := rfl
  replace hres := Lib.hid hres
  go_enter Tryz.func114, Tryz.ntmps114
  go_wp2_with fail
  go_step3
  go_wp2_with fail
  go_step3
  go_wp2_with fail
  refine wp_loop_in (loopWp_round ?_)
  go_wp2_with fail
  refine loopWp_round ?_
  go_wp2_with fail
  rw [Exit.noGoto_ret]
  refine bodyPost_ret (v := .tuple #[.int .u64 7, .int .i64 0, .bool false, .bool false, .bool false, .int .i64 1, .bool true]) ?_ rfl ⟨rfl, rfl⟩
  simp only [results, hres.out]
  simp
set_option maxHeartbeats 1000000 in
set_option maxRecDepth 100000 in
theorem exact_7 (w : World) (hW : Wd w) : Calls Tryz.prog 124 #[.int .u64 7, .int .i64 0, .bool false] w fun e w' => e = .returned (.tuple #[.float .f64 4619567317775286272, .bool true]) ∧ w' = w := by
  have hres : Tryz.f124.results = #[.tmp 6, .tmp 7] := by kernel_rfl
  have k1 := hW.opt
  have k2 := hW.mb
  obtain ⟨B, o, c, k3, k4⟩ := hW.p10
  have q3 : floatOfInt .f64 7 = 4619567317775286272 := by decide
  replace hres := Lib.hid hres
  go_enter Tryz.func124, Tryz.ntmps124
  go_wp2_with fail
  refine bodyPost_ret (v := .tuple #[.float .f64 4619567317775286272, .bool true]) ?_ rfl ⟨rfl, rfl⟩
  simp only [results, hres.out]
  simp
set_option maxHeartbeats 1000000 in
set_option maxRecDepth 100000 in
theorem atof_7 (w : World) (hW : Wd w) : Calls Tryz.prog 90 #[.string ⟨#[55]⟩] w fun e w' => e = .returned (.tuple #[.float .f64 4619567317775286272, .int .i64 1, .nilIface]) ∧ w' = w := by
  have hres : Tryz.f90.results = #[.tmp 2, .tmp 3, .tmp 4] := by kernel_rfl
  have k1 := hW.opt
  have k2 := hW.mb
  obtain ⟨B, o, c, k3, k4⟩ := hW.p10
  replace hres := Lib.hid hres
  go_enter Tryz.func90, Tryz.ntmps90
  go_wp2_with fail
  refine (spec_7 _).mono ?_
  rintro e w1 ⟨rfl, rfl⟩
  go_wp2_with fail
  refine (read_7 _).mono ?_
  rintro e w1 ⟨rfl, rfl⟩
  go_wp2_with fail
  refine (bool2_false _).mono ?_
  rintro e w1 ⟨rfl, rfl⟩
  go_wp2_with fail
  refine (exact_7 _ hW).mono ?_
  rintro e w1 ⟨rfl, rfl⟩
  go_wp2_with fail
  refine bodyPost_ret (v := .tuple #[.float .f64 4619567317775286272, .int .i64 1, .nilIface]) ?_ rfl ⟨rfl, rfl⟩
  simp only [results, hres.out]
  simp
set_option maxHeartbeats 1000000 in
set_option maxRecDepth 100000 in
theorem pre_7 (w : World) (hW : Wd w) : Calls Tryz.prog 78 #[.string ⟨#[55]⟩, .int .i64 64] w fun e w' => e = .returned (.tuple #[.float .f64 4619567317775286272, .int .i64 1, .nilIface]) ∧ w' = w := by
  have hres : Tryz.f78.results = #[.tmp 4, .tmp 5, .tmp 6] := by kernel_rfl
  replace hres := Lib.hid hres
  go_enter Tryz.func78, Tryz.ntmps78
  go_wp2_with fail
  refine (atof_7 _ hW).mono ?_
  rintro e w1 ⟨rfl, rfl⟩
  go_wp2_with fail
  refine bodyPost_ret (v := .tuple #[.float .f64 4619567317775286272, .int .i64 1, .nilIface]) ?_ rfl ⟨rfl, rfl⟩
  simp only [results, hres.out]
  simp
set_option maxHeartbeats 1000000 in
set_option maxRecDepth 100000 in
theorem pfi_7 (w : World) (hW : Wd w) : Calls Tryz.prog 62 #[.string ⟨#[55]⟩, .int .i64 64] w fun e w' => e = .returned (.tuple #[.float .f64 4619567317775286272, .nilIface]) ∧ w' = w := by
  have hres : Tryz.f62.results = #[.tmp 4, .tmp 5] := by kernel_rfl
  replace hres := Lib.hid hres
  go_enter Tryz.func62, Tryz.ntmps62
  go_wp2_with fail
  refine (pre_7 _ hW).mono ?_
  rintro e w1 ⟨rfl, rfl⟩
  go_wp2_with fail
  refine bodyPost_ret (v := .tuple #[.float .f64 4619567317775286272, .nilIface]) ?_ rfl ⟨rfl, rfl⟩
  simp only [results, hres.out]
  simp
set_option maxHeartbeats 1000000 in
set_option maxRecDepth 100000 in
theorem pf_7 (w : World) (hW : Wd w) : Calls Tryz.prog 28 #[.string ⟨#[55]⟩, .int .i64 64] w fun e w' => e = .returned (.tuple #[.float .f64 4619567317775286272, .nilIface]) ∧ w' = w := by
  have hres : Tryz.f28.results = #[.tmp 4, .tmp 5] := by kernel_rfl
  replace hres := Lib.hid hres
  go_enter Tryz.func28, Tryz.ntmps28
  go_wp2_with fail
  refine (pfi_7 _ hW).mono ?_
  rintro e w1 ⟨rfl, rfl⟩
  go_wp2_with fail
  refine bodyPost_ret (v := .tuple #[.float .f64 4619567317775286272, .nilIface]) ?_ rfl ⟨rfl, rfl⟩
  simp only [results, hres.out]
  simp
set_option maxHeartbeats 1000000 in
set_option maxRecDepth 100000 in
theorem dig_7 (w : World) : Calls Tryz.prog 61 #[.string ⟨#[55]⟩, .int .i64 0] w fun e w' => e = .returned (.int .i64 1) ∧ w' = w := by
  have hres : Tryz.f61.results = #[.tmp 4] := by kernel_rfl
  have x0 : ((⟨#[55]⟩ : ByteArray)[0]'(by decide)).toNat = 55 := rfl
  replace hres := Lib.hid hres
  go_enter Tryz.func61, Tryz.ntmps61
  go_wp2_with fail
  refine wp_loop_in (loopWp_round ?_)
  go_wp2_with fail
  refine loopWp_round ?_
  go_wp2_with fail
  refine bodyPost_ret (v := .int .i64 1) ?_ rfl ⟨rfl, rfl⟩
  simp only [results, hres.out]
  simp
set_option maxHeartbeats 1000000 in
set_option maxRecDepth 100000 in
theorem plain_7 (w : World) : Calls Tryz.prog 27 #[.string ⟨#[55]⟩] w fun e w' => e = .returned (.bool true) ∧ w' = w := by
  have hres : Tryz.f27.results = #[.tmp 2] := by kernel_rfl
  have x0 : ((⟨#[55]⟩ : ByteArray)[0]'(by decide)).toNat = 55 := rfl
  replace hres := Lib.hid hres
  go_enter Tryz.func27, Tryz.ntmps27
  go_wp2_with fail
  refine (dig_7 _).mono ?_
  rintro e w1 ⟨rfl, rfl⟩
  go_wp2_with fail
  refine bodyPost_ret (v := .bool true) ?_ rfl ⟨rfl, rfl⟩
  simp only [results, hres.out]
  simp
set_option maxHeartbeats 1000000 in
set_option maxRecDepth 100000 in
theorem spec_2 (w : World) : Calls Tryz.prog 113 #[.string ⟨#[50]⟩] w fun e w' => e = .returned (.tuple #[.float .f64 0, .int .i64 0, .bool false]) ∧ w' = w := by
  have hres : Tryz.f113.results = #[.tmp 2, .tmp 3, .tmp 4] := by kernel_rfl
  have x0 : ((⟨#[50]⟩ : ByteArray)[0]'(by decide)).toNat = 50 := rfl
  replace hres := Lib.hid hres
  go_enter Tryz.func113, Tryz.ntmps113
  go_wp2_with fail
  refine bodyPost_ret (v := .tuple #[.float .f64 0, .int .i64 0, .bool false]) ?_ rfl ⟨rfl, rfl⟩
  simp only [results, hres.out]
  simp
set_option maxHeartbeats 1000000 in
set_option maxRecDepth 100000 in
theorem read_2 (w : World) : Calls Tryz.prog 114 #[.string ⟨#[50]⟩] w fun e w' => e = .returned (.tuple #[.int .u64 2, .int .i64 0, .bool false, .bool false, .bool false, .int .i64 1, .bool true]) ∧ w' = w := by
  have hres : Tryz.f114.results = #[.tmp 2, .tmp 3, .tmp 4, .tmp 5, .tmp 6, .tmp 7, .tmp 8] := by kernel_rfl
  have x0 : ((⟨#[50]⟩ : ByteArray)[0]'(by decide)).toNat = 50 := rfl
  replace hres := Lib.hid hres
  go_enter Tryz.func114, Tryz.ntmps114
  go_wp2_with fail
  go_step3
  go_wp2_with fail
  go_step3
  go_wp2_with fail
  refine wp_loop_in (loopWp_round ?_)
  go_wp2_with fail
  refine loopWp_round ?_
  go_wp2_with fail
  rw [Exit.noGoto_ret]
  refine bodyPost_ret (v := .tuple #[.int .u64 2, .int .i64 0, .bool false, .bool false, .bool false, .int .i64 1, .bool true]) ?_ rfl ⟨rfl, rfl⟩
  simp only [results, hres.out]
  simp
set_option maxHeartbeats 1000000 in
set_option maxRecDepth 100000 in
theorem exact_2 (w : World) (hW : Wd w) : Calls Tryz.prog 124 #[.int .u64 2, .int .i64 0, .bool false] w fun e w' => e = .returned (.tuple #[.float .f64 4611686018427387904, .bool true]) ∧ w' = w := by
  have hres : Tryz.f124.results = #[.tmp 6, .tmp 7] := by kernel_rfl
  have k1 := hW.opt
  have k2 := hW.mb
  obtain ⟨B, o, c, k3, k4⟩ := hW.p10
  have q3 : floatOfInt .f64 2 = 4611686018427387904 := by decide
  replace hres := Lib.hid hres
  go_enter Tryz.func124, Tryz.ntmps124
  go_wp2_with fail
  refine bodyPost_ret (v := .tuple #[.float .f64 4611686018427387904, .bool true]) ?_ rfl ⟨rfl, rfl⟩
  simp only [results, hres.out]
  simp
set_option maxHeartbeats 1000000 in
set_option maxRecDepth 100000 in
theorem atof_2 (w : World) (hW : Wd w) : Calls Tryz.prog 90 #[.string ⟨#[50]⟩] w fun e w' => e = .returned (.tuple #[.float .f64 4611686018427387904, .int .i64 1, .nilIface]) ∧ w' = w := by
  have hres : Tryz.f90.results = #[.tmp 2, .tmp 3, .tmp 4] := by kernel_rfl
  have k1 := hW.opt
  have k2 := hW.mb
  obtain ⟨B, o, c, k3, k4⟩ := hW.p10
  replace hres := Lib.hid hres
  go_enter Tryz.func90, Tryz.ntmps90
  go_wp2_with fail
  refine (spec_2 _).mono ?_
  rintro e w1 ⟨rfl, rfl⟩
  go_wp2_with fail
  refine (read_2 _).mono ?_
  rintro e w1 ⟨rfl, rfl⟩
  go_wp2_with fail
  refine (bool2_false _).mono ?_
  rintro e w1 ⟨rfl, rfl⟩
  go_wp2_with fail
  refine (exact_2 _ hW).mono ?_
  rintro e w1 ⟨rfl, rfl⟩
  go_wp2_with fail
  refine bodyPost_ret (v := .tuple #[.float .f64 4611686018427387904, .int .i64 1, .nilIface]) ?_ rfl ⟨rfl, rfl⟩
  simp only [results, hres.out]
  simp
set_option maxHeartbeats 1000000 in
set_option maxRecDepth 100000 in
theorem pre_2 (w : World) (hW : Wd w) : Calls Tryz.prog 78 #[.string ⟨#[50]⟩, .int .i64 64] w fun e w' => e = .returned (.tuple #[.float .f64 4611686018427387904, .int .i64 1, .nilIface]) ∧ w' = w := by
  have hres : Tryz.f78.results = #[.tmp 4, .tmp 5, .tmp 6] := by kernel_rfl
  replace hres := Lib.hid hres
  go_enter Tryz.func78, Tryz.ntmps78
  go_wp2_with fail
  refine (atof_2 _ hW).mono ?_
  rintro e w1 ⟨rfl, rfl⟩
  go_wp2_with fail
  refine bodyPost_ret (v := .tuple #[.float .f64 4611686018427387904, .int .i64 1, .nilIface]) ?_ rfl ⟨rfl, rfl⟩
  simp only [results, hres.out]
  simp
set_option maxHeartbeats 1000000 in
set_option maxRecDepth 100000 in
theorem pfi_2 (w : World) (hW : Wd w) : Calls Tryz.prog 62 #[.string ⟨#[50]⟩, .int .i64 64] w fun e w' => e = .returned (.tuple #[.float .f64 4611686018427387904, .nilIface]) ∧ w' = w := by
  have hres : Tryz.f62.results = #[.tmp 4, .tmp 5] := by kernel_rfl
  replace hres := Lib.hid hres
  go_enter Tryz.func62, Tryz.ntmps62
  go_wp2_with fail
  refine (pre_2 _ hW).mono ?_
  rintro e w1 ⟨rfl, rfl⟩
  go_wp2_with fail
  refine bodyPost_ret (v := .tuple #[.float .f64 4611686018427387904, .nilIface]) ?_ rfl ⟨rfl, rfl⟩
  simp only [results, hres.out]
  simp
set_option maxHeartbeats 1000000 in
set_option maxRecDepth 100000 in
theorem pf_2 (w : World) (hW : Wd w) : Calls Tryz.prog 28 #[.string ⟨#[50]⟩, .int .i64 64] w fun e w' => e = .returned (.tuple #[.float .f64 4611686018427387904, .nilIface]) ∧ w' = w := by
  have hres : Tryz.f28.results = #[.tmp 4, .tmp 5] := by kernel_rfl
  replace hres := Lib.hid hres
  go_enter Tryz.func28, Tryz.ntmps28
  go_wp2_with fail
  refine (pfi_2 _ hW).mono ?_
  rintro e w1 ⟨rfl, rfl⟩
  go_wp2_with fail
  refine bodyPost_ret (v := .tuple #[.float .f64 4611686018427387904, .nilIface]) ?_ rfl ⟨rfl, rfl⟩
  simp only [results, hres.out]
  simp
set_option maxHeartbeats 1000000 in
set_option maxRecDepth 100000 in
theorem dig_2 (w : World) : Calls Tryz.prog 61 #[.string ⟨#[50]⟩, .int .i64 0] w fun e w' => e = .returned (.int .i64 1) ∧ w' = w := by
  have hres : Tryz.f61.results = #[.tmp 4] := by kernel_rfl
  have x0 : ((⟨#[50]⟩ : ByteArray)[0]'(by decide)).toNat = 50 := rfl
  replace hres := Lib.hid hres
  go_enter Tryz.func61, Tryz.ntmps61
  go_wp2_with fail
  refine wp_loop_in (loopWp_round ?_)
  go_wp2_with fail
  refine loopWp_round ?_
  go_wp2_with fail
  refine bodyPost_ret (v := .int .i64 1) ?_ rfl ⟨rfl, rfl⟩
  simp only [results, hres.out]
  simp
set_option maxHeartbeats 1000000 in
set_option maxRecDepth 100000 in
theorem plain_2 (w : World) : Calls Tryz.prog 27 #[.string ⟨#[50]⟩] w fun e w' => e = .returned (.bool true) ∧ w' = w := by
  have hres : Tryz.f27.results = #[.tmp 2] := by kernel_rfl
  have x0 : ((⟨#[50]⟩ : ByteArray)[0]'(by decide)).toNat = 50 := rfl
  replace hres := Lib.hid hres
  go_enter Tryz.func27, Tryz.ntmps27
  go_wp2_with fail
  refine (dig_2 _).mono ?_
  rintro e w1 ⟨rfl, rfl⟩
  go_wp2_with fail
  refine bodyPost_ret (v := .bool true) ?_ rfl ⟨rfl, rfl⟩
  simp only [results, hres.out]
  simp
set_option maxHeartbeats 1000000 in
set_option maxRecDepth 100000 in
theorem spec_1 (w : World) : Calls Tryz.prog 113 #[.string ⟨#[49]⟩] w fun e w' => e = .returned (.tuple #[.float .f64 0, .int .i64 0, .bool false]) ∧ w' = w := by
  have hres : Tryz.f113.results = #[.tmp 2, .tmp 3, .tmp 4] := by kernel_rfl
  have x0 : ((⟨#[49]⟩ : ByteArray)[0]'(by decide)).toNat = 49 := rfl
  replace hres := Lib.hid hres
  go_enter Tryz.func113, Tryz.ntmps113
  go_wp2_with fail
  refine bodyPost_ret (v := .tuple #[.float .f64 0, .int .i64 0, .bool false]) ?_ rfl ⟨rfl, rfl⟩
  simp only [results, hres.out]
  simp
set_option maxHeartbeats 1000000 in
set_option maxRecDepth 100000 in
theorem read_1 (w : World) : Calls Tryz.prog 114 #[.string ⟨#[49]⟩] w fun e w' => e = .returned (.tuple #[.int .u64 1, .int .i64 0, .bool false, .bool false, .bool false, .int .i64 1, .bool true]) ∧ w' = w := by
  have hres : Tryz.f114.results = #[.tmp 2, .tmp 3, .tmp 4, .tmp 5, .tmp 6, .tmp 7, .tmp 8] := by kernel_rfl
  have x0 : ((⟨#[49]⟩ : ByteArray)[0]'(by decide)).toNat = 49 := rfl
  replace hres := Lib.hid hres
  go_enter Tryz.func114, Tryz.ntmps114
  go_wp2_with fail
  go_step3
  go_wp2_with fail
  go_step3
  go_wp2_with fail
  refine wp_loop_in (loopWp_round ?_)
  go_wp2_with fail
  refine loopWp_round ?_
  go_wp2_with fail
  rw [Exit.noGoto_ret]
  refine bodyPost_ret (v := .tuple #[.int .u64 1, .int .i64 0, .bool false, .bool false, .bool false, .int .i64 1, .bool true]) ?_ rfl ⟨rfl, rfl⟩
  simp only [results, hres.out]
  simp
set_option maxHeartbeats 1000000 in
set_option maxRecDepth 100000 in
theorem exact_1 (w : World) (hW : Wd w) : Calls Tryz.prog 124 #[.int .u64 1, .int .i64 0, .bool false] w fun e w' => e = .returned (.tuple #[.float .f64 4607182418800017408, .bool true]) ∧ w' = w := by
  have hres : Tryz.f124.results = #[.tmp 6, .tmp 7] := by kernel_rfl
  have k1 := hW.opt
  have k2 := hW.mb
  obtain ⟨B, o, c, k3, k4⟩ := hW.p10
  have q3 : floatOfInt .f64 1 = 4607182418800017408 := by decide
  replace hres := Lib.hid hres
  go_enter Tryz.func124, Tryz.ntmps124
  go_wp2_with fail
  refine bodyPost_ret (v := .tuple #[.float .f64 4607182418800017408, .bool true]) ?_ rfl ⟨rfl, rfl⟩
  simp only [results, hres.out]
  simp
set_option maxHeartbeats 1000000 in
set_option maxRecDepth 100000 in
theorem atof_1 (w : World) (hW : Wd w) : Calls Tryz.prog 90 #[.string ⟨#[49]⟩] w fun e w' => e = .returned (.tuple #[.float .f64 4607182418800017408, .int .i64 1, .nilIface]) ∧ w' = w := by
  have hres : Tryz.f90.results = #[.tmp 2, .tmp 3, .tmp 4] := by kernel_rfl
  have k1 := hW.opt
  have k2 := hW.mb
  obtain ⟨B, o, c, k3, k4⟩ := hW.p10
  replace hres := Lib.hid hres
  go_enter Tryz.func90, Tryz.ntmps90
  go_wp2_with fail
  refine (spec_1 _).mono ?_
  rintro e w1 ⟨rfl, rfl⟩
  go_wp2_with fail
  refine (read_1 _).mono ?_
  rintro e w1 ⟨rfl, rfl⟩
  go_wp2_with fail
  refine (bool2_false _).mono ?_
  rintro e w1 ⟨rfl, rfl⟩
  go_wp2_with fail
  refine (exact_1 _ hW).mono ?_
  rintro e w1 ⟨rfl, rfl⟩
  go_wp2_with fail
  refine bodyPost_ret (v := .tuple #[.float .f64 4607182418800017408, .int .i64 1, .nilIface]) ?_ rfl ⟨rfl, rfl⟩
  simp only [results, hres.out]
  simp
set_option maxHeartbeats 1000000 in
set_option maxRecDepth 100000 in
theorem pre_1 (w : World) (hW : Wd w) : Calls Tryz.prog 78 #[.string ⟨#[49]⟩, .int .i64 64] w fun e w' => e = .returned (.tuple #[.float .f64 4607182418800017408, .int .i64 1, .nilIface]) ∧ w' = w := by
  have hres : Tryz.f78.results = #[.tmp 4, .tmp 5, .tmp 6] := by kernel_rfl
  replace hres := Lib.hid hres
  go_enter Tryz.func78, Tryz.ntmps78
  go_wp2_with fail
  refine (atof_1 _ hW).mono ?_
  rintro e w1 ⟨rfl, rfl⟩
  go_wp2_with fail
  refine bodyPost_ret (v := .tuple #[.float .f64 4607182418800017408, .int .i64 1, .nilIface]) ?_ rfl ⟨rfl, rfl⟩
  simp only [results, hres.out]
  simp
set_option maxHeartbeats 1000000 in
set_option maxRecDepth 100000 in
theorem pfi_1 (w : World) (hW : Wd w) : Calls Tryz.prog 62 #[.string ⟨#[49]⟩, .int .i64 64] w fun e w' => e = .returned (.tuple #[.float .f64 4607182418800017408, .nilIface]) ∧ w' = w := by
  have hres : Tryz.f62.results = #[.tmp 4, .tmp 5] := by kernel_rfl
  replace hres := Lib.hid hres
  go_enter Tryz.func62, Tryz.ntmps62
  go_wp2_with fail
  refine (pre_1 _ hW).mono ?_
  rintro e w1 ⟨rfl, rfl⟩
  go_wp2_with fail
  refine bodyPost_ret (v := .tuple #[.float .f64 4607182418800017408, .nilIface]) ?_ rfl ⟨rfl, rfl⟩
  simp only [results, hres.out]
  simp
set_option maxHeartbeats 1000000 in
set_option maxRecDepth 100000 in
theorem pf_1 (w : World) (hW : Wd w) : Calls Tryz.prog 28 #[.string ⟨#[49]⟩, .int .i64 64] w fun e w' => e = .returned (.tuple #[.float .f64 4607182418800017408, .nilIface]) ∧ w' = w := by
  have hres : Tryz.f28.results = #[.tmp 4, .tmp 5] := by kernel_rfl
  replace hres := Lib.hid hres
  go_enter Tryz.func28, Tryz.ntmps28
  go_wp2_with fail
  refine (pfi_1 _ hW).mono ?_
  rintro e w1 ⟨rfl, rfl⟩
  go_wp2_with fail
  refine bodyPost_ret (v := .tuple #[.float .f64 4607182418800017408, .nilIface]) ?_ rfl ⟨rfl, rfl⟩
  simp only [results, hres.out]
  simp
set_option maxHeartbeats 1000000 in
set_option maxRecDepth 100000 in
theorem dig_1 (w : World) : Calls Tryz.prog 61 #[.string ⟨#[49]⟩, .int .i64 0] w fun e w' => e = .returned (.int .i64 1) ∧ w' = w := by
  have hres : Tryz.f61.results = #[.tmp 4] := by kernel_rfl
  have x0 : ((⟨#[49]⟩ : ByteArray)[0]'(by decide)).toNat = 49 := rfl
  replace hres := Lib.hid hres
  go_enter Tryz.func61, Tryz.ntmps61
  go_wp2_with fail
  refine wp_loop_in (loopWp_round ?_)
  go_wp2_with fail
  refine loopWp_round ?_
  go_wp2_with fail
  refine bodyPost_ret (v := .int .i64 1) ?_ rfl ⟨rfl, rfl⟩
  simp only [results, hres.out]
  simp
set_option maxHeartbeats 1000000 in
set_option maxRecDepth 100000 in
theorem plain_1 (w : World) : Calls Tryz.prog 27 #[.string ⟨#[49]⟩] w fun e w' => e = .returned (.bool true) ∧ w' = w := by
  have hres : Tryz.f27.results = #[.tmp 2] := by kernel_rfl
  have x0 : ((⟨#[49]⟩ : ByteArray)[0]'(by decide)).toNat = 49 := rfl
  replace hres := Lib.hid hres
  go_enter Tryz.func27, Tryz.ntmps27
  go_wp2_with fail
  refine (dig_1 _).mono ?_
  rintro e w1 ⟨rfl, rfl⟩
  go_wp2_with fail
  refine bodyPost_ret (v := .bool true) ?_ rfl ⟨rfl, rfl⟩
  simp only [results, hres.out]
  simp
end Go.Proofs.YtmoofecphpknfaaGreatDoor
