/- Calc: the walks of CalcWholes and CalcShares. -/
import Derived.Test.YtmoofecphpknfaaGreatDoorE4
import Derived.Test.YtmoofecphpknfaaGreatDoorC13
namespace Go.Proofs.YtmoofecphpknfaaGreatDoor
open Go.RowKit
set_option linter.unusedSimpArgs false
set_option linter.unusedVariables false

set_option maxHeartbeats 2000000 in
set_option maxRecDepth 100000 in
theorem calcWholes_any (f g : Nat) (n : Int) (hf : f < 2 ^ 64) (hn1 : -9223372036854775808 ≤ n) (hn2 : n ≤ 9223372036854775807) (w : World) (hW : Wd2 w) : Calls Tryz.prog 5 #[.float .f64 f, .float .f64 g, .int .i64 n] w fun e' w' => e' = .returned (.bool true) ∧ w.grownBy w' none := by
  have CS := Lib.hid (shown_any w hW)
  have C1 := Lib.hid (Whole_any f hf)
  have C2 := Lib.hid (refWhole_any f)
  have C3 := Lib.hid (share_any n f hn1 hn2)
  have C4 := Lib.hid (refShare_any n f hn1 hn2)
  have C5 := Lib.hid (less_any f g)
  have C6 := Lib.hid (refLess_any f g)
  generalize wh f = W at *
  generalize sh n f = S at *
  generalize lessB f g = L at *
  go_enter Tryz.func5, Tryz.ntmps5
  go_wp2_with fail
  refine CS.out.mono ?_
  rintro e w1 ⟨rfl, g1⟩
  replace g1 := Lib.hid g1
  go_wp2_with fail
  refine (C1.out _).mono ?_
  rintro e w2 ⟨rfl, h2⟩
  subst h2
  go_wp2_with fail
  refine (C2.out _).mono ?_
  rintro e w3 ⟨rfl, h3⟩
  subst h3
  go_wp2_with fail
  refine (C3.out _).mono ?_
  rintro e w4 ⟨rfl, g2⟩
  replace g2 := Lib.hid g2
  go_wp2_with fail
  refine (C4.out _).mono ?_
  rintro e w5 ⟨rfl, h5⟩
  subst h5
  go_wp2_with fail
  refine (C5.out _).mono ?_
  rintro e w6 ⟨rfl, h6⟩
  subst h6
  go_wp2_with fail
  refine (C6.out _).mono ?_
  rintro e w7 ⟨rfl, h7⟩
  subst h7
  cases L <;> (go_wp2_with fail) <;> (go_ret; exact ⟨rfl, g1.out.trans g2.out⟩)
theorem sh_range (n : Int) (p : Nat) (h1 : 1 ≤ n) : 0 ≤ sh n p ∧ sh n p ≤ n := by
  unfold sh
  rw [if_neg (by omega)]
  split
  · omega
  · exact shp_range n _ p h1
theorem sh_mono (n : Int) (p q : Nat) (h1 : 1 ≤ n) (hp : Num p) (hq : Num q) (h : sval p ≤ sval q) : sh n p ≤ sh n q := by
  unfold sh
  rw [if_neg (by omega), if_neg (Nat.not_lt.2 hp), if_neg (by omega), if_neg (Nat.not_lt.2 hq)]
  exact shp_mono n _ p q h1 hp hq h
theorem sh_none (n : Int) (p : Nat) (h : n < 1) : sh n p = 0 := by unfold sh; rw [if_pos h]
theorem sh_hundred (n : Int) (h1 : 1 ≤ n) (h2 : n < 2 ^ 40) : sh n 4636737291354636288 = n := by
  obtain ⟨s, e, _, _, _, hr⟩ := size_float n h1 (by omega)
  unfold sh
  rw [if_neg (by omega), if_neg (by decide)]
  have e' : floatOfInt .f64 n = s := e
  rw [e', shp_all n s h1 h2 hr]
theorem sh_zero (n : Int) (h1 : 1 ≤ n) : sh n 0 = 0 := by
  unfold sh
  rw [if_neg (by omega), if_neg (by decide), shp_none n _ h1]
theorem leq_sval (p q : Nat) (h : FloatKind.f64.format.order p q = some .lt ∨ FloatKind.f64.format.order p q = some .eq) : Num p ∧ Num q ∧ sval p ≤ sval q := by
  by_cases hp : Num p
  · by_cases hq : Num q
    · refine ⟨hp, hq, ?_⟩
      have h1 := ordN p q hp hq
      rcases Int.lt_trichotomy (sval p) (sval q) with c | c | c
      · omega
      · omega
      · rw [if_neg (by omega), if_neg (by omega)] at h1
        rw [h1] at h
        rcases h with h | h <;> cases h
    · have h1 : FloatKind.f64.format.order p q = none := ord_nan p q (.inr hq)
      rw [h1] at h
      rcases h with h | h <;> cases h
  · have h1 : FloatKind.f64.format.order p q = none := ord_nan p q (.inl hp)
    rw [h1] at h
    rcases h with h | h <;> cases h
theorem tmod_range (n : Int) : -(2 ^ 40) < Int.tmod n 1099511627776 ∧ Int.tmod n 1099511627776 < 2 ^ 40 := by
  have h1 := Int.tmod_lt_of_pos n (show (0 : Int) < 1099511627776 by decide)
  have h2 := Int.tmod_lt_of_pos (-n) (show (0 : Int) < 1099511627776 by decide)
  rw [Int.neg_tmod] at h2
  constructor <;> omega
set_option maxHeartbeats 2000000 in
set_option maxRecDepth 100000 in
theorem calcShares_any (n : Int) (p q : Nat) (w : World) (hW : Wd2 w) : Calls Tryz.prog 10 #[.int .i64 n, .float .f64 p, .float .f64 q] w fun e' w' => e' = .returned (.bool true) ∧ w.grownBy w' none := by
  have CS := Lib.hid (shown_any w hW)
  have hr := tmod_range n
  go_enter Tryz.func10, Tryz.ntmps10
  go_wp2_with fail
  refine CS.out.mono ?_
  rintro e w1 ⟨rfl, g1⟩
  replace g1 := Lib.hid g1
  go_wp2_with fail
  generalize n.tmod 1099511627776 = N at *
  have C1 := Lib.hid (share_any N p (by omega) (by omega))
  have C2 := Lib.hid (share_any N q (by omega) (by omega))
  have C3 := Lib.hid (share_any N 4636737291354636288 (by omega) (by omega))
  have C4 := Lib.hid (share_any N 0 (by omega) (by omega))
  refine (C1.out _).mono ?_
  rintro e w2 ⟨rfl, g2⟩
  have G2 := Lib.hid (g1.out.trans g2)
  clear g1 g2 CS
  by_cases hs : N < 1
  · rw [sh_none N p hs]
    rw [sh_none N q hs] at C2
    go_wp2_with fail
    refine (C2.out _).mono ?_
    rintro e w3 ⟨rfl, g3⟩
    have G3 := Lib.hid (G2.out.trans g3)
    clear g3 G2
    go_wp2_with fail
    go_ret
    exact ⟨rfl, G3.out⟩
  · have h1 : 1 ≤ N := by omega
    have ra := sh_range N p h1
    have mo := Lib.hid (fun h => let l := leq_sval p q h; sh_mono N p q h1 l.1 l.2.1 l.2.2)
    rw [sh_hundred N h1 hr.2] at C3
    rw [sh_zero N h1] at C4
    clear hs hr
    generalize sh N p = A at *
    generalize sh N q = B at *
    obtain ⟨o, ho⟩ : ∃ o, FloatKind.f64.format.order p q = o := ⟨_, rfl⟩
    rw [ho] at mo
    go_wp2_with fail
    refine (C2.out _).mono ?_
    rintro e w3 ⟨rfl, g3⟩
    have G3 := Lib.hid (G2.out.trans g3)
    clear g3 G2
    rcases o with _ | _ | _ | _
    · clear mo
      go_wp2_with fail
      refine (C3.out _).mono ?_
      rintro e w4 ⟨rfl, g4⟩
      have G4 := Lib.hid (G3.out.trans g4)
      clear g4 G3
      go_wp2_with fail
      refine (C4.out _).mono ?_
      rintro e w5 ⟨rfl, g5⟩
      have G5 := Lib.hid (G4.out.trans g5)
      clear g5 G4
      go_wp2_with fail
      go_ret
      exact ⟨rfl, G5.out⟩
    · have hAB : A ≤ B := mo.out (.inl rfl)
      clear mo
      go_wp2_with fail
      refine (C3.out _).mono ?_
      rintro e w4 ⟨rfl, g4⟩
      have G4 := Lib.hid (G3.out.trans g4)
      clear g4 G3
      go_wp2_with fail
      refine (C4.out _).mono ?_
      rintro e w5 ⟨rfl, g5⟩
      have G5 := Lib.hid (G4.out.trans g5)
      clear g5 G4
      go_wp2_with fail
      go_ret
      exact ⟨rfl, G5.out⟩
    · have hAB : A ≤ B := mo.out (.inr rfl)
      clear mo
      go_wp2_with fail
      refine (C3.out _).mono ?_
      rintro e w4 ⟨rfl, g4⟩
      have G4 := Lib.hid (G3.out.trans g4)
      clear g4 G3
      go_wp2_with fail
      refine (C4.out _).mono ?_
      rintro e w5 ⟨rfl, g5⟩
      have G5 := Lib.hid (G4.out.trans g5)
      clear g5 G4
      go_wp2_with fail
      go_ret
      exact ⟨rfl, G5.out⟩
    · clear mo
      go_wp2_with fail
      refine (C3.out _).mono ?_
      rintro e w4 ⟨rfl, g4⟩
      have G4 := Lib.hid (G3.out.trans g4)
      clear g4 G3
      go_wp2_with fail
      refine (C4.out _).mono ?_
      rintro e w5 ⟨rfl, g5⟩
      have G5 := Lib.hid (G4.out.trans g5)
      clear g5 G4
      go_wp2_with fail
      go_ret
      exact ⟨rfl, G5.out⟩
end Go.Proofs.YtmoofecphpknfaaGreatDoor
