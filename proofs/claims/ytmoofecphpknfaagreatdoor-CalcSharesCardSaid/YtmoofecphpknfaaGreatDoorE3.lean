/- Calc: Share, the program's and the reference's. -/
import Derived.Test.YtmoofecphpknfaaGreatDoorE2
import Derived.Test.YtmoofecphpknfaaGreatDoorSh
namespace Go.Proofs.YtmoofecphpknfaaGreatDoor
open Go.RowKit
set_option linter.unusedSimpArgs false
set_option linter.unusedVariables false

theorem read_nan (x : Nat) (h : INF < rg x) : ∃ s t, Ieee.double.read x = .nan s t := by
  refine ⟨negB x, rg x - INF, ?_⟩
  unfold Ieee.Format.read
  rw [sw_eq, bin_eq, inf_eq]
  have hr : x % 2 ^ 63 = rg x := rfl
  have hn : (x / 2 ^ 63 % 2 == 1) = negB x := rfl
  rw [hr, hn]
  dsimp only
  have hI : INF = 2047 * 2 ^ 52 := rfl
  rw [if_neg (by omega), if_neg (by omega), if_neg (by omega)]
theorem mul_nan (x y : Nat) (h : INF < rg y) : floatBits .mul .f64 x y = none := by
  obtain ⟨s, t, e⟩ := read_nan y h
  show ((Ieee.double.read x).product (Ieee.double.read y)).map Ieee.double.write = none
  rw [e]
  cases Ieee.double.read x <;> rfl
theorem div_nan (x y : Nat) (h : INF < rg x) : floatBits .quo .f64 x y = none := by
  obtain ⟨s, t, e⟩ := read_nan x h
  show ((Ieee.double.read x).quotient _ (Ieee.double.read y)).map Ieee.double.write = none
  rw [e]
  cases Ieee.double.read y <;> rfl
theorem grown_drawn (w : World) (n : Nat) : w.grownBy { w with drawn := n } none := ⟨rfl, rfl, rfl, Nat.le_refl _, fun _ _ _ => rfl⟩
theorem nan_word (t u : Nat) (h : u < 2 ^ 52 - 1) : INF < rg (t % 2 * 2 ^ 63 + 0x7ff0000000000000 + 1 + u) := by
  have hI : INF = 2047 * 2 ^ 52 := rfl
  unfold rg
  rcases (by omega : t % 2 = 0 ∨ t % 2 = 1) with e | e <;> rw [e] <;> omega
theorem nan_64 (t u : Nat) (h : u < 2 ^ 52 - 1) : t % 2 * 2 ^ 63 + 0x7ff0000000000000 + 1 + u < 2 ^ 64 := by
  rcases (by omega : t % 2 = 0 ∨ t % 2 = 1) with e | e <;> rw [e] <;> omega
/-- An operation without an answer: a NaN, which one the tape says. -/
theorem nan_mul (x y : Nat) (h : floatBits .mul .f64 x y = none) (w : World) : ∃ b w', INF < rg b ∧ b < 2 ^ 64 ∧ w.grownBy w' none ∧ (binOp .mul 23 (.float .f64 x) (.float .f64 y)).run Tryz.prog w = .ok (.float .f64 b) w' := by
  refine ⟨(Question.nanBits .f64 x y).cut (w.tape w.drawn (.nanBits .f64 x y)), { w with drawn := w.drawn + 1 }, ?_, ?_, grown_drawn w _, ?_⟩
  · exact nan_word _ _ (Nat.mod_lt _ (by decide))
  · exact nan_64 _ _ (Nat.mod_lt _ (by decide))
  · unfold floatBits at h
    dsimp only at h
    simp [binOp, Op.floatArith, h]
    intro hf
    cases hf
theorem nan_div (x y : Nat) (h : floatBits .quo .f64 x y = none) (w : World) : ∃ b w', INF < rg b ∧ b < 2 ^ 64 ∧ w.grownBy w' none ∧ (binOp .quo 23 (.float .f64 x) (.float .f64 y)).run Tryz.prog w = .ok (.float .f64 b) w' := by
  refine ⟨(Question.nanBits .f64 x y).cut (w.tape w.drawn (.nanBits .f64 x y)), { w with drawn := w.drawn + 1 }, ?_, ?_, grown_drawn w _, ?_⟩
  · exact nan_word _ _ (Nat.mod_lt _ (by decide))
  · exact nan_64 _ _ (Nat.mod_lt _ (by decide))
  · unfold floatBits at h
    dsimp only at h
    simp [binOp, Op.floatArith, h]
    intro hf
    cases hf
/-- What Share answers. -/
def sh (size : Int) (p : Nat) : Int := if size < 1 then 0 else if INF < rg p then 0 else shp size (floatOfInt .f64 size) p
theorem qw_64 (s p : Nat) : qw s p < 2 ^ 64 := by
  have h := inf63 (f2_le (f1 (rg s) (rg p)))
  unfold qw Ieee.Format.word
  rw [sw_eq]
  split <;> omega
theorem sh_way (n : Int) (p : Nat) (h1 : 1 ≤ n) (h2 : n < 2 ^ 63) (hp : Num p) : ∃ s m, floatOfInt .f64 n = s ∧ floatBits .mul .f64 s p = some m ∧ floatBits .quo .f64 m 4636737291354636288 = some (qw s p) ∧ max 0 (min n (wh (qw s p))) = sh n p := by
  obtain ⟨s, e, f, b, ng, _⟩ := size_float n h1 h2
  obtain ⟨m, hm, hd⟩ := share_steps s p f b ng hp
  refine ⟨s, m, e, hm, hd, ?_⟩
  unfold sh
  rw [if_neg (by omega), if_neg (Nat.not_lt.2 hp), share_val n s p h1 h2]
  have e' : floatOfInt .f64 n = s := e
  rw [e']
set_option maxRecDepth 100000 in
set_option maxHeartbeats 1000000 in
theorem share_any (n : Int) (p : Nat) (hn1 : -9223372036854775808 ≤ n) (hn2 : n ≤ 9223372036854775807) (w : World) : Calls Tryz.prog 19 #[.int .i64 n, .float .f64 p] w fun e w' => e = .returned (.int .i64 (sh n p)) ∧ w.grownBy w' none := by
  obtain ⟨R, hR⟩ : ∃ R, R = sh n p := ⟨_, rfl⟩
  rw [← hR]
  by_cases c : n < 1
  · have hR2 : R = 0 := by rw [hR]; unfold sh; rw [if_pos c]
    clear hR
    replace hR2 := Lib.hid hR2
    go_enter Tryz.func19, Tryz.ntmps19
    go_wp2_with fail
    go_ret
    exact ⟨by rw [hR2.out]; rfl, World.grownBy.refl _ _⟩
  by_cases hp : INF < rg p
  · have hR2 : R = 0 := by rw [hR]; unfold sh; rw [if_neg c, if_pos hp]
    clear hR
    obtain ⟨s, hs⟩ : ∃ s, floatOfInt .f64 n = s := ⟨_, rfl⟩
    obtain ⟨b1, w1, n1, l1, g1, q1⟩ := nan_mul s p (mul_nan s p hp) w
    obtain ⟨b2, w2, n2, l2, g2, q2⟩ := nan_div b1 4636737291354636288 (div_nan b1 _ n1) w1
    have CA := Whole_any b2 l2 w2
    rw [wh_nan b2 n2] at CA
    clear n1 n2 l1 l2 hp
    replace CA := Lib.hid CA
    replace hR2 := Lib.hid hR2
    replace g1 := Lib.hid g1
    replace g2 := Lib.hid g2
    have hc : 1 ≤ n := by omega
    clear c
    go_enter Tryz.func19, Tryz.ntmps19
    go_wp2_with fail
    refine CA.out.mono ?_
    rintro e w3 ⟨rfl, h3⟩
    subst h3
    go_wp2_with fail
    go_ret
    exact ⟨by rw [hR2.out]; rfl, g1.out.trans g2.out⟩
  · obtain ⟨s, m, hs, q1', q2', hv⟩ := sh_way n p (by omega) (by omega) (Nat.not_lt.1 hp)
    have q1 := fun W => run_float_arith (P := Tryz.prog) W .mul 23 .f64 s p m q1'
    have q2 := fun W => run_float_arith (P := Tryz.prog) W .quo 23 .f64 m 4636737291354636288 (qw s p) q2'
    have CA := fun w => Whole_any (qw s p) (qw_64 s p) w
    rw [← hR] at hv
    clear hR q1' q2' hp
    generalize wh (qw s p) = Z at *
    generalize qw s p = q at *
    replace CA := Lib.hid CA
    replace hv := Lib.hid hv
    have hc : 1 ≤ n := by omega
    clear c
    go_enter Tryz.func19, Tryz.ntmps19
    go_wp2_with fail
    refine (CA.out _).mono ?_
    rintro e w3 ⟨rfl, rfl⟩
    have fin3 : ∀ X : Int, X = max 0 (min n Z) → Ending.returned (Value.int .i64 X) = .returned (.int .i64 R) := by
      intro X hX
      rw [hX, hv.out]
    replace fin3 := Lib.hid fin3
    have hb : n < Z ∨ ¬ n < Z := by omega
    rcases (by omega : Z ≤ 0 ∨ (0 < Z ∧ Z < n) ∨ n ≤ Z) with k | ⟨k, k2⟩ | k
    · have k2 : Z < n := by omega
      have k3 : (if Z < n then Z else n) ≤ 0 := by rw [if_pos k2]; exact k
      go_wp2_with fail
      go_ret
      exact ⟨fin3.out _ (by omega), World.grownBy.refl _ _⟩
    · have k3 : 0 < (if Z < n then Z else n) := by rw [if_pos k2]; exact k
      go_wp2_with fail
      go_ret
      exact ⟨fin3.out _ (by omega), World.grownBy.refl _ _⟩
    · have k3 : 0 < (if Z < n then Z else n) := by rw [if_neg (by omega)]; omega
      go_wp2_with fail
      go_ret
      exact ⟨fin3.out _ (by omega), World.grownBy.refl _ _⟩
end Go.Proofs.YtmoofecphpknfaaGreatDoor
