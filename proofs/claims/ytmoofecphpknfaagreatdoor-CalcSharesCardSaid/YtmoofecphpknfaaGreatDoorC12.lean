/- Calc: FormatFloat, Print at the examples. -/
import Derived.Test.YtmoofecphpknfaaGreatDoorC11
import Derived.Test.YtmoofecphpknfaaGreatDoorC5
namespace Go.Proofs.YtmoofecphpknfaaGreatDoor
open Go.RowKit
set_option linter.unusedSimpArgs false
set_option linter.unusedVariables false

@[go_sem] theorem mx24 : (max 6 24 : Int) = 24 := by decide
@[go_sem] theorem mx220 : (min 2 20 : Int) = 2 := by decide
set_option maxHeartbeats 1000000 in
set_option maxRecDepth 100000 in
theorem format_35 (w : World) (hW : Wd2 w) : Calls Tryz.prog 73 #[.float .f64 4615063718147915776, .int .u8 102, .int .i64 2, .int .i64 64] w fun e' w' => e' = .returned (.string ⟨#[51, 46, 53, 48]⟩) ∧ w.grownBy w' none := by
  obtain ⟨i0, hi0, hz0, hz1, hz2⟩ := info_parts info5
  replace hW := Lib.hid hW
  go_enter Tryz.func73, Tryz.ntmps73
  go_wp2_with (at_make; refine wpList_make_own w rfl _ _ 90 rfl w.heap.size 5 i0 _ 1 Tryz.underlying90 hi0 hz0 hz1 .i64 .i64 24 24 rfl rfl rfl (by rw [hz2]; omega) (by unfold maxLen; omega) (Nat.le_refl _) ?_; intro w1 o1 g1; have CF := Lib.hid (ftoa_35 w.heap.size 24 _ w1 (hW.out.grown g1) o1 g1.size); replace o1 := Lib.hid o1)
  refine CF.out.mono ?_
  rintro e w2 ⟨A, c, rfl, o2, b2⟩
  obtain ⟨A', c', hA, R2, _, _, _⟩ := Rd.of_own o2
  injection hA with hA _ hc
  subst hA; subst hc
  have hcv := conv_str (P := Tryz.prog) w2 90 9 5 Tryz.underlying90 Tryz.underlying5 Tryz.underlying9 A 4 c [51, 46, 53, 48] rfl R2
  have G2 := below_g ((g_below g1).trans b2)
  replace G2 := Lib.hid G2
  clear g1 b2 o2 R2
  go_wp2_with fail
  go_ret
  exact ⟨rfl, G2.out⟩
set_option maxHeartbeats 1000000 in
theorem formatF_35 (w : World) (hW : Wd2 w) : Calls Tryz.prog 42 #[.float .f64 4615063718147915776, .int .u8 102, .int .i64 2, .int .i64 64] w fun e' w' => e' = .returned (.string ⟨#[51, 46, 53, 48]⟩) ∧ w.grownBy w' none := by
  have CF := Lib.hid (format_35 w hW)
  clear hW
  go_enter Tryz.func42, Tryz.ntmps42
  go_wp2_with fail
  refine CF.out.mono ?_
  rintro e w2 ⟨rfl, g2⟩
  replace g2 := Lib.hid g2
  go_wp2_with fail
  go_ret
  exact ⟨rfl, g2.out⟩
set_option maxHeartbeats 1000000 in
theorem print_35 (w : World) (hW : Wd2 w) : Calls Tryz.prog 15 #[.float .f64 4615063718147915776, .int .i64 2] w fun e' w' => e' = .returned (.string ⟨#[51, 46, 53, 48]⟩) ∧ w.grownBy w' none := by
  have CF := Lib.hid (formatF_35 w hW)
  clear hW
  go_enter Tryz.func15, Tryz.ntmps15
  go_wp2_with fail
  refine (nn_3p5 _).mono ?_
  rintro e w1 ⟨rfl, h1⟩
  subst h1
  go_wp2_with fail
  refine (inf_p3p5 _).mono ?_
  rintro e w1 ⟨rfl, h1⟩
  subst h1
  go_wp2_with fail
  refine (inf_m3p5 _).mono ?_
  rintro e w1 ⟨rfl, h1⟩
  subst h1
  go_wp2_with fail
  refine CF.out.mono ?_
  rintro e w2 ⟨rfl, g2⟩
  replace g2 := Lib.hid g2
  go_wp2_with fail
  go_ret
  exact ⟨rfl, g2.out⟩
set_option maxHeartbeats 1000000 in
set_option maxRecDepth 100000 in
theorem format_0125 (w : World) (hW : Wd2 w) : Calls Tryz.prog 73 #[.float .f64 4593671619917905920, .int .u8 102, .int .i64 2, .int .i64 64] w fun e' w' => e' = .returned (.string ⟨#[48, 46, 49, 50]⟩) ∧ w.grownBy w' none := by
  obtain ⟨i0, hi0, hz0, hz1, hz2⟩ := info_parts info5
  replace hW := Lib.hid hW
  go_enter Tryz.func73, Tryz.ntmps73
  go_wp2_with (at_make; refine wpList_make_own w rfl _ _ 90 rfl w.heap.size 5 i0 _ 1 Tryz.underlying90 hi0 hz0 hz1 .i64 .i64 24 24 rfl rfl rfl (by rw [hz2]; omega) (by unfold maxLen; omega) (Nat.le_refl _) ?_; intro w1 o1 g1; have CF := Lib.hid (ftoa_0125 w.heap.size 24 _ w1 (hW.out.grown g1) o1 g1.size); replace o1 := Lib.hid o1)
  refine CF.out.mono ?_
  rintro e w2 ⟨A, c, rfl, o2, b2⟩
  obtain ⟨A', c', hA, R2, _, _, _⟩ := Rd.of_own o2
  injection hA with hA _ hc
  subst hA; subst hc
  have hcv := conv_str (P := Tryz.prog) w2 90 9 5 Tryz.underlying90 Tryz.underlying5 Tryz.underlying9 A 4 c [48, 46, 49, 50] rfl R2
  have G2 := below_g ((g_below g1).trans b2)
  replace G2 := Lib.hid G2
  clear g1 b2 o2 R2
  go_wp2_with fail
  go_ret
  exact ⟨rfl, G2.out⟩
set_option maxHeartbeats 1000000 in
theorem formatF_0125 (w : World) (hW : Wd2 w) : Calls Tryz.prog 42 #[.float .f64 4593671619917905920, .int .u8 102, .int .i64 2, .int .i64 64] w fun e' w' => e' = .returned (.string ⟨#[48, 46, 49, 50]⟩) ∧ w.grownBy w' none := by
  have CF := Lib.hid (format_0125 w hW)
  clear hW
  go_enter Tryz.func42, Tryz.ntmps42
  go_wp2_with fail
  refine CF.out.mono ?_
  rintro e w2 ⟨rfl, g2⟩
  replace g2 := Lib.hid g2
  go_wp2_with fail
  go_ret
  exact ⟨rfl, g2.out⟩
set_option maxHeartbeats 1000000 in
theorem print_0125 (w : World) (hW : Wd2 w) : Calls Tryz.prog 15 #[.float .f64 4593671619917905920, .int .i64 2] w fun e' w' => e' = .returned (.string ⟨#[48, 46, 49, 50]⟩) ∧ w.grownBy w' none := by
  have CF := Lib.hid (formatF_0125 w hW)
  clear hW
  go_enter Tryz.func15, Tryz.ntmps15
  go_wp2_with fail
  refine (nn_0p125 _).mono ?_
  rintro e w1 ⟨rfl, h1⟩
  subst h1
  go_wp2_with fail
  refine (inf_p0p125 _).mono ?_
  rintro e w1 ⟨rfl, h1⟩
  subst h1
  go_wp2_with fail
  refine (inf_m0p125 _).mono ?_
  rintro e w1 ⟨rfl, h1⟩
  subst h1
  go_wp2_with fail
  refine CF.out.mono ?_
  rintro e w2 ⟨rfl, g2⟩
  replace g2 := Lib.hid g2
  go_wp2_with fail
  go_ret
  exact ⟨rfl, g2.out⟩
end Go.Proofs.YtmoofecphpknfaaGreatDoor
