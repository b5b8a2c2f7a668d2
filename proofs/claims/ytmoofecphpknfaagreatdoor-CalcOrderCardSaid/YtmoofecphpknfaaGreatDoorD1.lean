/- Calc: the walk of CalcOrder. -/
import Derived.Test.YtmoofecphpknfaaGreatDoorC13
namespace Go.Proofs.YtmoofecphpknfaaGreatDoor
open Go.RowKit
set_option linter.unusedSimpArgs false
set_option linter.unusedVariables false

set_option maxHeartbeats 2000000 in
set_option maxRecDepth 100000 in
theorem calcOrder_any (a b c : Nat) (w : World) (hW : Wd2 w) : Calls Tryz.prog 8 #[.float .f64 a, .float .f64 b, .float .f64 c] w fun e' w' => e' = .returned (.bool true) ∧ w.grownBy w' none := by
  have CS := Lib.hid (shown_any w hW)
  have F1 := less_not_both a b
  have F2 := same_less a b
  have F3 := less_trans a b c
  have F4 := lt_less a b
  have LA := fun w => less_any a b w
  have LB := fun w => less_any b a w
  have LC := fun w => less_any b c w
  have LD := fun w => less_any a c w
  have SA := fun w => same_any a b w
  rw [← fkey, ← fkey, ← fkey] at F4
  obtain ⟨oab, h1⟩ : ∃ x, x = FloatKind.f64.format.order a b := ⟨_, rfl⟩
  obtain ⟨oaa, h2⟩ : ∃ x, x = FloatKind.f64.format.order a a := ⟨_, rfl⟩
  obtain ⟨obb, h3⟩ : ∃ x, x = FloatKind.f64.format.order b b := ⟨_, rfl⟩
  obtain ⟨lt, hlt⟩ : ∃ x, x = (FloatKind.f64.format.order a b == some .lt) := ⟨_, rfl⟩
  obtain ⟨eq, heq⟩ : ∃ x, x = (FloatKind.f64.format.order a b == some .eq) := ⟨_, rfl⟩
  obtain ⟨ea, hea⟩ : ∃ x, x = (FloatKind.f64.format.order a a == some .eq) := ⟨_, rfl⟩
  obtain ⟨eb, heb⟩ : ∃ x, x = (FloatKind.f64.format.order b b == some .eq) := ⟨_, rfl⟩
  have hne : (FloatKind.f64.format.order a b != some .eq) = !eq := by rw [heq]; rfl
  rw [← hlt, hne, ← hea, ← heb] at F4
  replace hlt := hlt.symm; replace heq := heq.symm; replace hea := hea.symm; replace heb := heb.symm
  obtain ⟨ab, hab⟩ : ∃ x, x = lessB a b := ⟨_, rfl⟩
  obtain ⟨ba, hba⟩ : ∃ x, x = lessB b a := ⟨_, rfl⟩
  obtain ⟨bc, hbc⟩ : ∃ x, x = lessB b c := ⟨_, rfl⟩
  obtain ⟨ac, hac⟩ : ∃ x, x = lessB a c := ⟨_, rfl⟩
  obtain ⟨sm, hsm⟩ : ∃ x, x = sameB a b := ⟨_, rfl⟩
  rw [← hab] at F1 F2 F3 F4 LA; rw [← hba] at F1 F2 LB; rw [← hbc] at F3 LC; rw [← hac] at F3 LD; rw [← hsm] at F2 SA
  clear hab hba hbc hac hsm h1 h2 h3 hne
  replace LA := Lib.hid LA; replace LB := Lib.hid LB; replace LC := Lib.hid LC; replace LD := Lib.hid LD; replace SA := Lib.hid SA
  replace F1 := Lib.hid F1; replace F2 := Lib.hid F2; replace F3 := Lib.hid F3; replace F4 := Lib.hid F4
  go_enter Tryz.func8, Tryz.ntmps8
  go_wp2_with fail
  refine CS.out.mono ?_
  rintro e w1 ⟨rfl, g1⟩
  replace g1 := Lib.hid g1
  go_wp2_with fail
  refine (LA.out _).mono ?_
  rintro e w2 ⟨rfl, h2⟩
  subst h2
  go_wp2_with fail
  refine (LB.out _).mono ?_
  rintro e w2 ⟨rfl, h2⟩
  subst h2
  go_wp2_with fail
  refine (LC.out _).mono ?_
  rintro e w2 ⟨rfl, h2⟩
  subst h2
  go_wp2_with fail
  refine (LD.out _).mono ?_
  rintro e w2 ⟨rfl, h2⟩
  subst h2
  go_wp2_with fail
  refine (SA.out _).mono ?_
  rintro e w2 ⟨rfl, h2⟩
  subst h2
  cases ab with
  | true =>
    obtain rfl : ba = false := by simpa using F1.out
    obtain rfl : sm = false := by simpa using F2.out
    cases bc with
    | true =>
      obtain rfl : ac = true := F3.out rfl rfl
      have F5 := F4.out
      cases eq <;> cases ea <;> cases eb <;> simp only [Bool.true_and, Bool.not_true, Bool.not_false, Bool.and_true, Bool.and_false, Bool.false_and] at F5 <;> subst F5 <;> (go_wp2_with fail) <;> first | (go_ret; exact ⟨rfl, g1.out⟩) | (go_ret; refine ⟨?_, g1.out⟩; simp [*]; done) | (exfalso; revert heq; simp [*]; done)
    | false =>
      have F5 := F4.out
      cases eq <;> cases ea <;> cases eb <;> simp only [Bool.true_and, Bool.not_true, Bool.not_false, Bool.and_true, Bool.and_false, Bool.false_and] at F5 <;> subst F5 <;> (go_wp2_with fail) <;> first | (go_ret; exact ⟨rfl, g1.out⟩) | (go_ret; refine ⟨?_, g1.out⟩; simp [*]; done) | (exfalso; revert heq; simp [*]; done)
  | false =>
    have F5 := F4.out
    simp only [Bool.false_and] at F5
    subst F5
    have F6 := F2.out
    simp only [Bool.not_false, Bool.true_and] at F6
    subst F6
    cases ba <;> (go_wp2_with fail) <;> first | (go_ret; exact ⟨rfl, g1.out⟩) | (go_ret; refine ⟨?_, g1.out⟩; simp [*]; done) | (exfalso; revert heq; simp [*]; done)
end Go.Proofs.YtmoofecphpknfaaGreatDoor
