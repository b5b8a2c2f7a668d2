/- Calc: Parse at the examples' texts. Printed by tools/mkCalcC3.py. -/
import Derived.Test.YtmoofecphpknfaaGreatDoorC3
namespace Go.Proofs.YtmoofecphpknfaaGreatDoor
open Go.RowKit
set_option linter.unusedSimpArgs false
set_option linter.unusedVariables false

set_option maxHeartbeats 1000000 in
set_option maxRecDepth 100000 in
theorem copy_15 (w : World) : Calls Tryz.prog 30 #[.float .f64 4609434218613702656, .float .f64 4607182418800017408] w fun e w' => e = .returned (.float .f64 4609434218613702656) ∧ w' = w := by
  have hres : Tryz.f30.results = #[.tmp 4] := by kernel_rfl
  have q1 : bits .andNot .u64 4609434218613702656 9223372036854775808 = 4609434218613702656 := by decide
  have q2 : bits .and .u64 4607182418800017408 9223372036854775808 = 0 := by decide
  have q3 : bits .or .u64 4609434218613702656 0 = 4609434218613702656 := by decide
  replace hres := Lib.hid hres
  go_enter Tryz.func30, Tryz.ntmps30
  go_wp2_with fail
  refine bodyPost_ret (v := .float .f64 4609434218613702656) ?_ rfl ⟨rfl, rfl⟩
  simp only [results, hres.out]
  simp
set_option maxHeartbeats 1000000 in
set_option maxRecDepth 100000 in
theorem copy_0 (w : World) : Calls Tryz.prog 30 #[.float .f64 0, .float .f64 13830554455654793216] w fun e w' => e = .returned (.float .f64 9223372036854775808) ∧ w' = w := by
  have hres : Tryz.f30.results = #[.tmp 4] := by kernel_rfl
  have q1 : bits .andNot .u64 0 9223372036854775808 = 0 := by decide
  have q2 : bits .and .u64 13830554455654793216 9223372036854775808 = 9223372036854775808 := by decide
  have q3 : bits .or .u64 0 9223372036854775808 = 9223372036854775808 := by decide
  replace hres := Lib.hid hres
  go_enter Tryz.func30, Tryz.ntmps30
  go_wp2_with fail
  refine bodyPost_ret (v := .float .f64 9223372036854775808) ?_ rfl ⟨rfl, rfl⟩
  simp only [results, hres.out]
  simp
set_option maxHeartbeats 1000000 in
set_option maxRecDepth 100000 in
theorem copy_7 (w : World) : Calls Tryz.prog 30 #[.float .f64 4619567317775286272, .float .f64 4607182418800017408] w fun e w' => e = .returned (.float .f64 4619567317775286272) ∧ w' = w := by
  have hres : Tryz.f30.results = #[.tmp 4] := by kernel_rfl
  have q1 : bits .andNot .u64 4619567317775286272 9223372036854775808 = 4619567317775286272 := by decide
  have q2 : bits .and .u64 4607182418800017408 9223372036854775808 = 0 := by decide
  have q3 : bits .or .u64 4619567317775286272 0 = 4619567317775286272 := by decide
  replace hres := Lib.hid hres
  go_enter Tryz.func30, Tryz.ntmps30
  go_wp2_with fail
  refine bodyPost_ret (v := .float .f64 4619567317775286272) ?_ rfl ⟨rfl, rfl⟩
  simp only [results, hres.out]
  simp
set_option maxHeartbeats 1000000 in
set_option maxRecDepth 100000 in
theorem copy_2 (w : World) : Calls Tryz.prog 30 #[.float .f64 4611686018427387904, .float .f64 4607182418800017408] w fun e w' => e = .returned (.float .f64 4611686018427387904) ∧ w' = w := by
  have hres : Tryz.f30.results = #[.tmp 4] := by kernel_rfl
  have q1 : bits .andNot .u64 4611686018427387904 9223372036854775808 = 4611686018427387904 := by decide
  have q2 : bits .and .u64 4607182418800017408 9223372036854775808 = 0 := by decide
  have q3 : bits .or .u64 4611686018427387904 0 = 4611686018427387904 := by decide
  replace hres := Lib.hid hres
  go_enter Tryz.func30, Tryz.ntmps30
  go_wp2_with fail
  refine bodyPost_ret (v := .float .f64 4611686018427387904) ?_ rfl ⟨rfl, rfl⟩
  simp only [results, hres.out]
  simp
set_option maxHeartbeats 1000000 in
set_option maxRecDepth 100000 in
theorem copy_1 (w : World) : Calls Tryz.prog 30 #[.float .f64 4607182418800017408, .float .f64 4607182418800017408] w fun e w' => e = .returned (.float .f64 4607182418800017408) ∧ w' = w := by
  have hres : Tryz.f30.results = #[.tmp 4] := by kernel_rfl
  have q1 : bits .andNot .u64 4607182418800017408 9223372036854775808 = 4607182418800017408 := by decide
  have q2 : bits .and .u64 4607182418800017408 9223372036854775808 = 0 := by decide
  have q3 : bits .or .u64 4607182418800017408 0 = 4607182418800017408 := by decide
  replace hres := Lib.hid hres
  go_enter Tryz.func30, Tryz.ntmps30
  go_wp2_with fail
  refine bodyPost_ret (v := .float .f64 4607182418800017408) ?_ rfl ⟨rfl, rfl⟩
  simp only [results, hres.out]
  simp
set_option maxHeartbeats 1000000 in
set_option maxRecDepth 100000 in
theorem nan_is (w : World) : Calls Tryz.prog 26 #[] w fun e w' => e = .returned (.float .f64 9221120237041090561) ∧ w' = w := by
  have hres : Tryz.f26.results = #[.tmp 0] := by kernel_rfl
  replace hres := Lib.hid hres
  go_enter Tryz.func26, Tryz.ntmps26
  go_wp2_with fail
  refine bodyPost_ret (v := .float .f64 9221120237041090561) ?_ rfl ⟨rfl, rfl⟩
  simp only [results, hres.out]
  simp
set_option maxHeartbeats 1000000 in
set_option maxRecDepth 100000 in
theorem parse_15 (w : World) (hW : Wd w) : Calls Tryz.prog 12 #[.string ⟨#[49, 46, 53]⟩] w fun e w' => e = .returned (.tuple #[.float .f64 4609434218613702656, .int .i64 0]) ∧ w' = w := by
  have hres : Tryz.f12.results = #[.tmp 2, .tmp 3] := by kernel_rfl
  have x0 : ((⟨#[49, 46, 53]⟩ : ByteArray)[0]'(by decide)).toNat = 49 := rfl
  have x1 : ((⟨#[49, 46, 53]⟩ : ByteArray)[1]'(by decide)).toNat = 46 := rfl
  have x2 : ((⟨#[49, 46, 53]⟩ : ByteArray)[2]'(by decide)).toNat = 53 := rfl
  replace hres := Lib.hid hres
  go_enter Tryz.func12, Tryz.ntmps12
  go_wp2_with fail
  refine (plain_15 _).mono ?_
  rintro e w1 ⟨rfl, rfl⟩
  go_wp2_with fail
  refine (pf_15 _ hW).mono ?_
  rintro e w1 ⟨rfl, rfl⟩
  go_wp2_with fail
  refine (copy_15 _).mono ?_
  rintro e w1 ⟨rfl, rfl⟩
  go_wp2_with fail
  refine bodyPost_ret (v := .tuple #[.float .f64 4609434218613702656, .int .i64 0]) ?_ rfl ⟨rfl, rfl⟩
  simp only [results, hres.out]
  simp
set_option maxHeartbeats 1000000 in
set_option maxRecDepth 100000 in
theorem parse_7 (w : World) (hW : Wd w) : Calls Tryz.prog 12 #[.string ⟨#[55]⟩] w fun e w' => e = .returned (.tuple #[.float .f64 4619567317775286272, .int .i64 0]) ∧ w' = w := by
  have hres : Tryz.f12.results = #[.tmp 2, .tmp 3] := by kernel_rfl
  have x0 : ((⟨#[55]⟩ : ByteArray)[0]'(by decide)).toNat = 55 := rfl
  replace hres := Lib.hid hres
  go_enter Tryz.func12, Tryz.ntmps12
  go_wp2_with fail
  refine (plain_7 _).mono ?_
  rintro e w1 ⟨rfl, rfl⟩
  go_wp2_with fail
  refine (pf_7 _ hW).mono ?_
  rintro e w1 ⟨rfl, rfl⟩
  go_wp2_with fail
  refine (copy_7 _).mono ?_
  rintro e w1 ⟨rfl, rfl⟩
  go_wp2_with fail
  refine bodyPost_ret (v := .tuple #[.float .f64 4619567317775286272, .int .i64 0]) ?_ rfl ⟨rfl, rfl⟩
  simp only [results, hres.out]
  simp
set_option maxHeartbeats 1000000 in
set_option maxRecDepth 100000 in
theorem parse_2 (w : World) (hW : Wd w) : Calls Tryz.prog 12 #[.string ⟨#[50]⟩] w fun e w' => e = .returned (.tuple #[.float .f64 4611686018427387904, .int .i64 0]) ∧ w' = w := by
  have hres : Tryz.f12.results = #[.tmp 2, .tmp 3] := by kernel_rfl
  have x0 : ((⟨#[50]⟩ : ByteArray)[0]'(by decide)).toNat = 50 := rfl
  replace hres := Lib.hid hres
  go_enter Tryz.func12, Tryz.ntmps12
  go_wp2_with fail
  refine (plain_2 _).mono ?_
  rintro e w1 ⟨rfl, rfl⟩
  go_wp2_with fail
  refine (pf_2 _ hW).mono ?_
  rintro e w1 ⟨rfl, rfl⟩
  go_wp2_with fail
  refine (copy_2 _).mono ?_
  rintro e w1 ⟨rfl, rfl⟩
  go_wp2_with fail
  refine bodyPost_ret (v := .tuple #[.float .f64 4611686018427387904, .int .i64 0]) ?_ rfl ⟨rfl, rfl⟩
  simp only [results, hres.out]
  simp
set_option maxHeartbeats 1000000 in
set_option maxRecDepth 100000 in
theorem parse_1 (w : World) (hW : Wd w) : Calls Tryz.prog 12 #[.string ⟨#[49]⟩] w fun e w' => e = .returned (.tuple #[.float .f64 4607182418800017408, .int .i64 0]) ∧ w' = w := by
  have hres : Tryz.f12.results = #[.tmp 2, .tmp 3] := by kernel_rfl
  have x0 : ((⟨#[49]⟩ : ByteArray)[0]'(by decide)).toNat = 49 := rfl
  replace hres := Lib.hid hres
  go_enter Tryz.func12, Tryz.ntmps12
  go_wp2_with fail
  refine (plain_1 _).mono ?_
  rintro e w1 ⟨rfl, rfl⟩
  go_wp2_with fail
  refine (pf_1 _ hW).mono ?_
  rintro e w1 ⟨rfl, rfl⟩
  go_wp2_with fail
  refine (copy_1 _).mono ?_
  rintro e w1 ⟨rfl, rfl⟩
  go_wp2_with fail
  refine bodyPost_ret (v := .tuple #[.float .f64 4607182418800017408, .int .i64 0]) ?_ rfl ⟨rfl, rfl⟩
  simp only [results, hres.out]
  simp
set_option maxHeartbeats 1000000 in
set_option maxRecDepth 100000 in
theorem parse_m0 (w : World) (hW : Wd w) : Calls Tryz.prog 12 #[.string ⟨#[45, 48]⟩] w fun e w' => e = .returned (.tuple #[.float .f64 9223372036854775808, .int .i64 0]) ∧ w' = w := by
  have hres : Tryz.f12.results = #[.tmp 2, .tmp 3] := by kernel_rfl
  have x0 : ((⟨#[45, 48]⟩ : ByteArray)[0]'(by decide)).toNat = 45 := rfl
  have x1 : ((⟨#[45, 48]⟩ : ByteArray)[1]'(by decide)).toNat = 48 := rfl
  have hX : (⟨#[45, 48]⟩ : ByteArray).extract 1 2 = ⟨#[48]⟩ := by decide
  replace hres := Lib.hid hres
  go_enter Tryz.func12, Tryz.ntmps12
  go_wp2_with fail
  refine (plain_0 _).mono ?_
  rintro e w1 ⟨rfl, rfl⟩
  go_wp2_with fail
  refine (pf_0 _ hW).mono ?_
  rintro e w1 ⟨rfl, rfl⟩
  go_wp2_with fail
  refine (copy_0 _).mono ?_
  rintro e w1 ⟨rfl, rfl⟩
  go_wp2_with fail
  refine bodyPost_ret (v := .tuple #[.float .f64 9223372036854775808, .int .i64 0]) ?_ rfl ⟨rfl, rfl⟩
  simp only [results, hres.out]
  simp
set_option maxHeartbeats 1000000 in
set_option maxRecDepth 100000 in
theorem parse_nan (w : World) (hW : Wd w) : Calls Tryz.prog 12 #[.string ⟨#[110, 97, 110]⟩] w fun e w' => e = .returned (.tuple #[.float .f64 9221120237041090561, .int .i64 0]) ∧ w' = w := by
  have hres : Tryz.f12.results = #[.tmp 2, .tmp 3] := by kernel_rfl
  have x0 : ((⟨#[110, 97, 110]⟩ : ByteArray)[0]'(by decide)).toNat = 110 := rfl
  have x1 : ((⟨#[110, 97, 110]⟩ : ByteArray)[1]'(by decide)).toNat = 97 := rfl
  have x2 : ((⟨#[110, 97, 110]⟩ : ByteArray)[2]'(by decide)).toNat = 110 := rfl
  replace hres := Lib.hid hres
  go_enter Tryz.func12, Tryz.ntmps12
  go_wp2_with fail
  refine (nan_is _).mono ?_
  rintro e w1 ⟨rfl, rfl⟩
  go_wp2_with fail
  refine bodyPost_ret (v := .tuple #[.float .f64 9221120237041090561, .int .i64 0]) ?_ rfl ⟨rfl, rfl⟩
  simp only [results, hres.out]
  simp
end Go.Proofs.YtmoofecphpknfaaGreatDoor
