/- Calc: Reckon at the examples; shown. -/
import Derived.Test.YtmoofecphpknfaaGreatDoorC12
namespace Go.Proofs.YtmoofecphpknfaaGreatDoor
open Go.RowKit
set_option linter.unusedSimpArgs false
set_option linter.unusedVariables false

set_option maxHeartbeats 2000000 in
set_option maxRecDepth 100000 in
theorem reckon_a (w : World) (hW : Wd2 w) : Calls Tryz.prog 23 #[.string ⟨#[47]⟩, .string ⟨#[55]⟩, .string ⟨#[50]⟩, .bool true, .int .i64 2] w fun e' w' => e' = .returned (.tuple #[.string ⟨#[51, 46, 53, 48]⟩, .int .i64 0]) ∧ w.grownBy w' none := by
  replace hW := Lib.hid hW
  go_enter Tryz.func23, Tryz.ntmps23
  go_wp2_with fail
  refine (cmp_div _).mono ?_
  rintro e w1 ⟨rfl, h1⟩
  subst h1
  go_wp2_with fail
  refine (rec_one _).mono ?_
  rintro e w2 ⟨rfl, h2⟩
  subst h2
  go_wp2_with fail
  refine (parse_7 _ hW.out.d).mono ?_
  rintro e w3 ⟨rfl, h3⟩
  subst h3
  go_wp2_with fail
  refine (parse_2 _ hW.out.d).mono ?_
  rintro e w4 ⟨rfl, h4⟩
  subst h4
  go_wp2_with fail
  refine (rec_72 _).mono ?_
  rintro e w5 ⟨rfl, h5⟩
  subst h5
  go_wp2_with fail
  refine (print_35 _ hW.out).mono ?_
  rintro e w6 ⟨rfl, g6⟩
  replace g6 := Lib.hid g6
  go_wp2_with fail
  go_ret2
  exact ⟨rfl, g6.out⟩
set_option maxHeartbeats 2000000 in
set_option maxRecDepth 100000 in
theorem reckon_b (w : World) (hW : Wd2 w) : Calls Tryz.prog 23 #[.string ⟨#[47]⟩, .string ⟨#[55]⟩, .string ⟨#[50]⟩, .bool false, .int .i64 0] w fun e' w' => e' = .returned (.tuple #[.string ⟨#[51]⟩, .int .i64 0]) ∧ w.grownBy w' none := by
  replace hW := Lib.hid hW
  go_enter Tryz.func23, Tryz.ntmps23
  go_wp2_with fail
  refine (cmp_div _).mono ?_
  rintro e w1 ⟨rfl, h1⟩
  subst h1
  go_wp2_with fail
  refine (rec_one _).mono ?_
  rintro e w2 ⟨rfl, h2⟩
  subst h2
  go_wp2_with fail
  refine (parse_7 _ hW.out.d).mono ?_
  rintro e w3 ⟨rfl, h3⟩
  subst h3
  go_wp2_with fail
  refine (parse_2 _ hW.out.d).mono ?_
  rintro e w4 ⟨rfl, h4⟩
  subst h4
  go_wp2_with fail
  refine (Whole_7p0 _).mono ?_
  rintro e w5 ⟨rfl, h5⟩
  subst h5
  go_wp2_with fail
  refine (Whole_2p0 _).mono ?_
  rintro e w6 ⟨rfl, h6⟩
  subst h6
  go_wp2_with fail
  refine (rec_72 _).mono ?_
  rintro e w7 ⟨rfl, h7⟩
  subst h7
  go_wp2_with fail
  refine (whole_3p5 _).mono ?_
  rintro e w8 ⟨rfl, h8⟩
  subst h8
  go_wp2_with fail
  refine (Tryz.strconv_Itoa_small 3 (by decide) _).mono ?_
  rintro e w9 ⟨rfl, h9⟩
  subst h9
  rw [show (⟨(Lib.decDigits 3).toArray⟩ : ByteArray) = ⟨#[51]⟩ from by kernel_rfl]
  go_wp2_with fail
  go_ret2
  exact ⟨rfl, World.grownBy.refl _ none⟩
set_option maxHeartbeats 2000000 in
set_option maxRecDepth 100000 in
theorem reckon_c (w : World) (hW : Wd2 w) : Calls Tryz.prog 23 #[.string ⟨#[60]⟩, .string ⟨#[110, 97, 110]⟩, .string ⟨#[49]⟩, .bool true, .int .i64 0] w fun e' w' => e' = .returned (.tuple #[.string ⟨#[48]⟩, .int .i64 0]) ∧ w.grownBy w' none := by
  replace hW := Lib.hid hW
  go_enter Tryz.func23, Tryz.ntmps23
  go_wp2_with fail
  refine (cmp_lss _).mono ?_
  rintro e w1 ⟨rfl, h1⟩
  subst h1
  go_wp2_with fail
  refine (rec_lss _).mono ?_
  rintro e w2 ⟨rfl, h2⟩
  subst h2
  go_wp2_with fail
  refine (parse_nan _ hW.out.d).mono ?_
  rintro e w3 ⟨rfl, h3⟩
  subst h3
  go_wp2_with fail
  refine (parse_1 _ hW.out.d).mono ?_
  rintro e w4 ⟨rfl, h4⟩
  subst h4
  go_wp2_with fail
  refine (cmp_nan _).mono ?_
  rintro e w5 ⟨rfl, h5⟩
  subst h5
  go_wp2_with fail
  go_ret2
  exact ⟨rfl, World.grownBy.refl _ none⟩
theorem same_mz : sameB 9223372036854775808 0 = false := by kernel_rfl
theorem less_mz : lessB 9223372036854775808 0 = true := by kernel_rfl
set_option maxHeartbeats 2000000 in
set_option maxRecDepth 100000 in
theorem shown_any (w : World) (hW : Wd2 w) : Calls Tryz.prog 11 #[] w fun e' w' => e' = .returned (.bool true) ∧ w.grownBy w' none := by
  replace hW := Lib.hid hW
  go_enter Tryz.func11, Tryz.ntmps11
  go_wp2_with fail
  refine (parse_15 _ hW.out.d).mono ?_
  rintro e w1 ⟨rfl, h1⟩
  subst h1
  go_wp2_with fail
  refine (parse_m0 _ hW.out.d).mono ?_
  rintro e w2 ⟨rfl, h2⟩
  subst h2
  go_wp2_with fail
  refine (reckon_a _ hW.out).mono ?_
  rintro e w3 ⟨rfl, g3⟩
  replace g3 := Lib.hid g3
  go_wp2_with fail
  refine (reckon_b _ (hW.out.grown g3.out)).mono ?_
  rintro e w4 ⟨rfl, g4⟩
  replace g4 := Lib.hid g4
  go_wp2_with fail
  refine (reckon_c _ (hW.out.grown (g3.out.trans g4.out))).mono ?_
  rintro e w5 ⟨rfl, g5⟩
  replace g5 := Lib.hid g5
  go_wp2_with fail
  refine (same_any _ _ _).mono ?_
  rintro e w6 ⟨rfl, h6⟩
  subst h6
  rw [same_mz]
  go_wp2_with fail
  refine (print_0125 _ (hW.out.grown ((g3.out.trans g4.out).trans g5.out))).mono ?_
  rintro e w7 ⟨rfl, g7⟩
  replace g7 := Lib.hid g7
  go_wp2_with fail
  refine (Whole_2p5 _).mono ?_
  rintro e w8 ⟨rfl, h8⟩
  subst h8
  go_wp2_with fail
  refine (share_is _).mono ?_
  rintro e w9 ⟨rfl, h9⟩
  subst h9
  go_wp2_with fail
  refine (less_any _ _ _).mono ?_
  rintro e w10 ⟨rfl, h10⟩
  subst h10
  rw [less_mz]
  go_wp2_with fail
  go_ret
  exact ⟨rfl, (((g3.out.trans g4.out).trans g5.out).trans g7.out)⟩
end Go.Proofs.YtmoofecphpknfaaGreatDoor
