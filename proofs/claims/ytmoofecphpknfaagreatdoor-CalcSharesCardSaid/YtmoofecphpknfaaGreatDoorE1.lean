/- Calc: Round, whole, Whole in general; the reference's Whole, rank, Less. -/
import Derived.Test.YtmoofecphpknfaaGreatDoorC2
import Derived.Test.YtmoofecphpknfaaGreatDoorE0
namespace Go.Proofs.YtmoofecphpknfaaGreatDoor
open Go.RowKit
set_option linter.unusedSimpArgs false
set_option linter.unusedVariables false

/-- Round's word. -/
def rndW (b : Nat) : Nat := Ieee.double.word (negB b) (rndR (rg b))
set_option maxRecDepth 100000 in
theorem round_any (b : Nat) (hb : b < 2 ^ 64) (w : World) : Calls Tryz.prog 50 #[.float .f64 b] w fun e w' => e = .returned (.float .f64 (rndW b)) ∧ w' = w := by
  have q0 := and_exp b hb
  have r1 := rnd_low b hb
  have r2 := rnd_one b hb
  have r3 := fun c => rnd_mid b c hb
  have r4 := rnd_high b hb
  obtain ⟨R, hR⟩ : ∃ R, R = rndW b := ⟨_, rfl⟩
  have hR' : Ieee.double.word (negB b) (rndR (rg b)) = R := hR.symm
  rw [hR'] at r1 r2 r3 r4
  rw [← hR]
  generalize rg b / 2 ^ 52 = E at q0 r1 r2 r3 r4
  clear hR hR'
  replace r1 := Lib.hid r1; replace r2 := Lib.hid r2; replace r3 := Lib.hid r3; replace r4 := Lib.hid r4
  go_enter Tryz.func50, Tryz.ntmps50
  rcases (by omega : E < 1022 ∨ E = 1022 ∨ (1023 ≤ E ∧ E ≤ 1074) ∨ 1075 ≤ E) with c | c | c | c
  · go_wp2_with fail
    go_ret
    exact ⟨by rw [r1.out c]; rfl, rfl⟩
  · have r2' := r2.out c
    clear r2
    replace r2' := Lib.hid r2'
    subst c
    go_wp2_with fail
    go_ret
    exact ⟨by rw [r2'.out]; rfl, rfl⟩
  · obtain ⟨d, rfl⟩ : ∃ d, E = 1023 + d := ⟨E - 1023, by omega⟩
    go_wp2_with fail
    go_ret
    exact ⟨by rw [r3.out d rfl (by omega)]; rfl, rfl⟩
  · go_wp2_with fail
    go_ret
    exact ⟨by rw [← r4.out c]; rfl, rfl⟩
theorem sval_c63 : sval 4890909195324358656 = 2 ^ 63 * 2 ^ ex := by decide +kernel
theorem sval_n63 : sval 14114281232179134464 = -(2 ^ 63 * 2 ^ ex) := by decide +kernel
theorem sval_half : sval 4602678819172646912 = 2 ^ (ex - 1) := by decide +kernel
theorem sval_nhalf : sval 13826050856027422720 = -2 ^ (ex - 1) := by decide +kernel
theorem num_of (x : Nat) (h : x % 2 ^ 63 ≤ 2047 * 2 ^ 52) : Num x := h
/-- How a float stands to another. -/
theorem ordN (x y : Nat) (hx : Num x) (hy : Num y) : FloatKind.f64.format.order x y = some (if sval x < sval y then .lt else if sval x = sval y then .eq else .gt) := ord_sval x y hx hy
theorem nan_num (x : Nat) : (ordO (ky x) (ky x) != some .eq) = decide (INF < rg x) := by
  by_cases h : INF < rg x
  · rw [decide_eq_true h, ky_nan x (Nat.not_le.2 h)]; rfl
  · rw [decide_eq_false h, ← ord_key, ord_sval x x (Nat.not_lt.1 h) (Nat.not_lt.1 h), if_neg (Int.lt_irrefl _), if_pos rfl]; rfl
theorem fti_cut (y : Nat) (h : Num y) (hr : InR y) : floatToIntVal .f64 y .i64 = some (cutI y) := by
  have h1 := toInt_fin y (inr_fin y h hr)
  have h2 := cut_range y hr
  unfold floatToIntVal
  rw [show FloatKind.f64.decode y = Ieee.double.read y from rfl, h1]
  dsimp only
  rw [if_pos]
  · rfl
  · have e1 : IntKind.i64.min = -9223372036854775808 := rfl
    have e2 : IntKind.i64.max = 9223372036854775807 := rfl
    rw [e1, e2]
    unfold cutI at h2
    omega
/-- A float without a fraction: the three ways. -/
theorem way3 (x : Nat) (h : Num x) : (2 ^ 63 * 2 ^ ex ≤ sval x ∧ ∃ o, FloatKind.f64.format.order x 4890909195324358656 = some o ∧ (o = .gt ∨ o = .eq)) ∨
    (sval x ≤ -(2 ^ 63 * 2 ^ ex) ∧ FloatKind.f64.format.order x 4890909195324358656 = some .lt ∧ ∃ o, FloatKind.f64.format.order x 14114281232179134464 = some o ∧ (o = .lt ∨ o = .eq)) ∨
    (InR x ∧ FloatKind.f64.format.order x 4890909195324358656 = some .lt ∧ FloatKind.f64.format.order x 14114281232179134464 = some .gt) := by
  have h1 := ordN x 4890909195324358656 h (num_of _ (by decide))
  have h2 := ordN x 14114281232179134464 h (num_of _ (by decide))
  rw [sval_c63] at h1
  rw [sval_n63] at h2
  have hp : (0 : Int) < 2 ^ 63 * 2 ^ ex := Int.mul_pos (by decide) (two_pos ex)
  unfold InR
  generalize (2 : Int) ^ 63 * 2 ^ ex = B at *
  rcases (by omega : B ≤ sval x ∨ sval x ≤ -B ∨ (-B < sval x ∧ sval x < B)) with c | c | c
  · left
    refine ⟨c, _, h1, ?_⟩
    rw [if_neg (by omega)]
    split
    · exact .inr rfl
    · exact .inl rfl
  · right; left
    refine ⟨c, by rw [h1, if_pos (by omega)], _, h2, ?_⟩
    split
    · exact .inl rfl
    · rw [if_pos (by omega)]; exact .inr rfl
  · right; right
    exact ⟨c, by rw [h1, if_pos (by omega)], by rw [h2, if_neg (by omega), if_neg (by omega)]⟩
theorem pw_nan (y : Nat) (h : INF < rg y) : pw y = 0 := by unfold pw; rw [if_pos h]
theorem pw_big (y : Nat) (h : Num y) (c : 2 ^ 63 * 2 ^ ex ≤ sval y) : pw y = 9223372036854775807 := by
  unfold pw; rw [if_neg (Nat.not_lt.2 h), if_pos c]; rfl
theorem pw_low (y : Nat) (h : Num y) (c : sval y ≤ -(2 ^ 63 * 2 ^ ex)) : pw y = -9223372036854775808 := by
  have hp : (0 : Int) < 2 ^ 63 * 2 ^ ex := Int.mul_pos (by decide) (two_pos ex)
  unfold pw
  generalize (2 : Int) ^ 63 * 2 ^ ex = B at *
  rw [if_neg (Nat.not_lt.2 h), if_neg (by omega), if_pos c]; rfl
theorem pw_in (y : Nat) (h : Num y) (c : InR y) : pw y = cutI y := by
  unfold InR at c
  unfold pw cutI
  generalize (2 : Int) ^ 63 * 2 ^ ex = B at *
  rw [if_neg (Nat.not_lt.2 h), if_neg (by omega), if_neg (by omega)]
set_option maxRecDepth 100000 in
theorem whole_any (y : Nat) (w : World) : Calls Tryz.prog 49 #[.float .f64 y] w fun e w' => e = .returned (.int .i64 (pw y)) ∧ w' = w := by
  have CA := isNaN_any y w
  rw [nan_num] at CA
  obtain ⟨R, hR⟩ : ∃ R, R = pw y := ⟨_, rfl⟩
  rw [← hR]
  by_cases hn : INF < rg y
  · rw [pw_nan y hn] at hR
    rw [decide_eq_true hn] at CA
    clear hn
    replace CA := Lib.hid CA
    go_enter Tryz.func49, Tryz.ntmps49
    go_wp2_with fail
    refine CA.out.mono ?_
    rintro e w1 ⟨rfl, rfl⟩
    go_wp2_with fail
    go_ret
    exact ⟨by rw [hR]; rfl, rfl⟩
  · rw [decide_eq_false hn] at CA
    have hN : Num y := Nat.not_lt.1 hn
    clear hn
    replace CA := Lib.hid CA
    rcases way3 y hN with ⟨c, o, h1, h2⟩ | ⟨c, h1, o, h2, h3⟩ | ⟨c, h1, h2⟩
    · rw [pw_big y hN c] at hR
      clear c hN
      replace hR := Lib.hid hR
      go_enter Tryz.func49, Tryz.ntmps49
      go_wp2_with fail
      refine CA.out.mono ?_
      rintro e w1 ⟨rfl, rfl⟩
      rcases h2 with rfl | rfl
      · go_wp2_with fail
        go_ret
        exact ⟨by rw [hR.out]; rfl, rfl⟩
      · go_wp2_with fail
        go_ret
        exact ⟨by rw [hR.out]; rfl, rfl⟩
    · rw [pw_low y hN c] at hR
      clear c hN
      replace hR := Lib.hid hR
      go_enter Tryz.func49, Tryz.ntmps49
      go_wp2_with fail
      refine CA.out.mono ?_
      rintro e w1 ⟨rfl, rfl⟩
      rcases h3 with rfl | rfl
      · go_wp2_with fail
        go_ret
        exact ⟨by rw [hR.out]; rfl, rfl⟩
      · go_wp2_with fail
        go_ret
        exact ⟨by rw [hR.out]; rfl, rfl⟩
    · rw [pw_in y hN c] at hR
      have q1 := fun W => run_convert_float_int (P := Tryz.prog) W 23 3 .f64 .i64 y (cutI y) (by rw [Tryz.underlying23]; rfl) Tryz.underlying3 (fti_cut y hN c)
      rw [← hR] at q1
      clear c hN hR
      go_enter Tryz.func49, Tryz.ntmps49
      go_wp2_with fail
      refine CA.out.mono ?_
      rintro e w1 ⟨rfl, rfl⟩
      go_wp2_with fail
      go_ret
      exact ⟨rfl, rfl⟩
theorem rndW_pw (b : Nat) : pw (rndW b) = wh b := pw_rnd b
set_option maxRecDepth 100000 in
theorem Whole_any (b : Nat) (hb : b < 2 ^ 64) (w : World) : Calls Tryz.prog 17 #[.float .f64 b] w fun e w' => e = .returned (.int .i64 (wh b)) ∧ w' = w := by
  have C1 := Lib.hid (round_any b hb w)
  have C2 := Lib.hid (whole_any (rndW b) w)
  rw [rndW_pw] at C2
  go_enter Tryz.func17, Tryz.ntmps17
  go_wp2_with fail
  refine C1.out.mono ?_
  rintro e w1 ⟨rfl, rfl⟩
  go_wp2_with fail
  refine C2.out.mono ?_
  rintro e w1 ⟨rfl, rfl⟩
  go_wp2_with fail
  go_ret
  exact ⟨rfl, rfl⟩
end Go.Proofs.YtmoofecphpknfaaGreatDoor
