/- Calc: floats and their bits; Less, Same. -/
import Derived.Test.YtmoofecphpknfaaGreatDoorC1
import Derived.Test.YtmoofecphpknfaaGreatDoorLess
import Derived.Laws.Externs
import Derived.Laws.FloatArith
namespace Go.Proofs.YtmoofecphpknfaaGreatDoor
open Go.RowKit
set_option linter.unusedSimpArgs false
set_option linter.unusedVariables false

@[go_sem] theorem bits_run (b : Nat) (W : World) : (callFunc 66 #[.float .f64 b]).run Tryz.prog W = .ok (.value (.int .u64 b)) W := by
  rw [run_callFunc_extern Tryz.func66 (by kernel_rfl) (by kernel_rfl) (by kernel_rfl) (e := Extern.MathFloatBits.float64bits) (by kernel_rfl)]
  rfl
@[go_sem] theorem frombits_run (n : Int) (W : World) : (callFunc 60 #[.int .u64 n]).run Tryz.prog W = .ok (.value (.float .f64 n.toNat)) W := by
  rw [run_callFunc_extern Tryz.func60 (by kernel_rfl) (by kernel_rfl) (by kernel_rfl) (e := Extern.MathFloatBits.float64frombits) (by kernel_rfl)]
  rfl
theorem wrap_neg (b : Nat) : decide (wrap64 (b : Int) < 0) = negB b := by
  unfold wrap64 negB
  rw [show (2 : Nat) ^ 63 = 9223372036854775808 by decide, Bool.eq_iff_iff, decide_eq_true_eq, beq_iff_eq]
  omega
theorem signbit_any (b : Nat) (w : World) : Calls Tryz.prog 51 #[.float .f64 b] w fun e w' => e = .returned (.bool (negB b)) ∧ w' = w := by
  have hw := wrap_neg b
  go_enter Tryz.func51, Tryz.ntmps51
  go_wp2_with fail
  go_ret
  exact ⟨by rw [← hw]; rfl, rfl⟩
theorem fkey (a b : Nat) : FloatKind.f64.format.order a b = ordO (ky a) (ky b) := ord_key a b
theorem isNaN_any (b : Nat) (w : World) : Calls Tryz.prog 40 #[.float .f64 b] w fun e w' => e = .returned (.bool (ordO (ky b) (ky b) != some .eq)) ∧ w' = w := by
  have h := fkey b b
  go_enter Tryz.func40, Tryz.ntmps40
  go_wp2_with fail
  go_ret
  exact ⟨by rw [← h]; rfl, rfl⟩
set_option maxRecDepth 100000 in
theorem less_any (a b : Nat) (w : World) : Calls Tryz.prog 21 #[.float .f64 a, .float .f64 b] w fun e w' => e = .returned (.bool (lessB a b)) ∧ w' = w := by
  have CA := isNaN_any a w
  have CB := isNaN_any b w
  have SA := signbit_any a w
  have SB := signbit_any b w
  obtain ⟨L, hL⟩ : ∃ x, x = lessB a b := ⟨_, rfl⟩
  rw [← hL]
  unfold lessB at hL
  obtain ⟨na, hna⟩ : ∃ x, x = (ordO (ky a) (ky a) != some .eq) := ⟨_, rfl⟩
  obtain ⟨nb, hnb⟩ : ∃ x, x = (ordO (ky b) (ky b) != some .eq) := ⟨_, rfl⟩
  obtain ⟨ee, hee⟩ : ∃ x, x = (ordO (ky a) (ky b) == some .eq) := ⟨_, rfl⟩
  obtain ⟨ll, hll⟩ : ∃ x, x = (ordO (ky a) (ky b) == some .lt) := ⟨_, rfl⟩
  obtain ⟨sa, hsa⟩ : ∃ x, x = negB a := ⟨_, rfl⟩
  obtain ⟨sb, hsb⟩ : ∃ x, x = negB b := ⟨_, rfl⟩
  rw [← hna] at CA hL; rw [← hnb] at CB hL; rw [← hee, ← hll, ← hsa, ← hsb] at hL; rw [← hsa] at SA; rw [← hsb] at SB
  rw [← fkey] at hee hll
  have q1 := hee.symm
  have q2 := hll.symm
  clear hee hll hna hnb hsa hsb
  replace CA := Lib.hid CA; replace CB := Lib.hid CB; replace SA := Lib.hid SA; replace SB := Lib.hid SB; replace hL := Lib.hid hL
  go_enter Tryz.func21, Tryz.ntmps21
  go_wp2_with fail
  refine CA.out.mono ?_
  rintro e w1 ⟨rfl, rfl⟩
  cases na with
  | true =>
    go_wp2_with fail
    go_ret
    exact ⟨by rw [hL.out]; rfl, rfl⟩
  | false =>
  go_wp2_with fail
  refine CB.out.mono ?_
  rintro e w1 ⟨rfl, rfl⟩
  cases nb with
  | true =>
    go_wp2_with fail
    go_ret
    exact ⟨by rw [hL.out]; rfl, rfl⟩
  | false =>
  cases ee with
  | false =>
    go_wp2_with fail
    go_ret
    exact ⟨by rw [hL.out]; rfl, rfl⟩
  | true =>
  go_wp2_with fail
  refine SA.out.mono ?_
  rintro e w1 ⟨rfl, rfl⟩
  cases sa with
  | false =>
    go_wp2_with fail
    go_ret
    exact ⟨by rw [hL.out]; rfl, rfl⟩
  | true =>
  go_wp2_with fail
  refine SB.out.mono ?_
  rintro e w1 ⟨rfl, rfl⟩
  go_wp2_with fail
  go_ret
  exact ⟨by rw [hL.out]; cases sb <;> rfl, rfl⟩
set_option maxRecDepth 100000 in
theorem below_any (f : Nat) (w : World) : Calls Tryz.prog 39 #[.float .f64 f] w fun e w' => e = .returned (.bool (belowB f)) ∧ w' = w := by
  obtain ⟨L, hL⟩ : ∃ x, x = belowB f := ⟨_, rfl⟩
  rw [← hL]
  unfold belowB at hL
  by_cases h0 : ky f = some (0, 0)
  · obtain ⟨r, hr, ho⟩ := one_by f h0
    have q1 : (FloatKind.f64.format.order f 0 == some .lt) = false := by rw [fkey, h0, key_zero]; rfl
    have q2 : (FloatKind.f64.format.order f 0 == some .eq) = true := by rw [fkey, h0, key_zero]; rfl
    have hd := fun W => run_float_arith (P := Tryz.prog) W .quo 23 .f64 4607182418800017408 f r hr
    have q3 : (FloatKind.f64.format.order r 0 == some .lt) = negB f := ho
    have hL2 : L = negB f := by rw [hL, h0, key_zero]; rfl
    obtain ⟨sf, hsf⟩ : ∃ x, x = negB f := ⟨_, rfl⟩
    rw [← hsf] at q3 hL2
    clear hL hr ho hsf h0
    replace hL2 := Lib.hid hL2
    go_enter Tryz.func39, Tryz.ntmps39
    go_wp2_with fail
    go_ret
    exact ⟨by rw [hL2.out]; first | rfl | simp, rfl⟩
  · obtain ⟨ll, hll⟩ : ∃ x, x = (ordO (ky f) (ky 0) == some .lt) := ⟨_, rfl⟩
    have q2 : (FloatKind.f64.format.order f 0 == some .eq) = false := by
      rw [fkey, key_zero]
      cases hk : ky f with
      | none => rfl
      | some p =>
        rw [oss]
        rcases cmp_cases p (0, 0) with ⟨e, _⟩ | ⟨e, _⟩ | ⟨e, _⟩
        · rw [e]; rfl
        · exact absurd (by rw [hk, cmp_eq.1 e]) h0
        · rw [e]; rfl
    have hL2 : L = ll := by
      rw [hL, ← hll, ← fkey, q2, Bool.false_and, Bool.or_false]
    rw [← fkey] at hll
    have q1 := hll.symm
    clear hL hll h0
    replace hL2 := Lib.hid hL2
    cases ll
    · go_enter Tryz.func39, Tryz.ntmps39
      go_wp2_with fail
      go_ret
      exact ⟨by rw [hL2.out]; rfl, rfl⟩
    · go_enter Tryz.func39, Tryz.ntmps39
      go_wp2_with fail
      go_ret
      exact ⟨by rw [hL2.out]; rfl, rfl⟩
set_option maxRecDepth 100000 in
theorem same_any (a b : Nat) (w : World) : Calls Tryz.prog 14 #[.float .f64 a, .float .f64 b] w fun e w' => e = .returned (.bool (sameB a b)) ∧ w' = w := by
  have CA := below_any a w
  have CB := below_any b w
  obtain ⟨L, hL⟩ : ∃ x, x = sameB a b := ⟨_, rfl⟩
  rw [← hL]
  unfold sameB at hL
  obtain ⟨na, hna⟩ : ∃ x, x = (ordO (ky a) (ky a) != some .eq) := ⟨_, rfl⟩
  obtain ⟨nb, hnb⟩ : ∃ x, x = (ordO (ky b) (ky b) != some .eq) := ⟨_, rfl⟩
  obtain ⟨ee, hee⟩ : ∃ x, x = (ordO (ky a) (ky b) == some .eq) := ⟨_, rfl⟩
  obtain ⟨ba, hba⟩ : ∃ x, x = belowB a := ⟨_, rfl⟩
  obtain ⟨bb, hbb⟩ : ∃ x, x = belowB b := ⟨_, rfl⟩
  rw [← hna, ← hnb, ← hee, ← hba, ← hbb] at hL
  rw [← hba] at CA; rw [← hbb] at CB
  rw [← fkey] at hna hnb hee
  have q1 := hna.symm
  have q2 := hnb.symm
  have q3 := hee.symm
  clear hna hnb hee hba hbb
  replace CA := Lib.hid CA; replace CB := Lib.hid CB; replace hL := Lib.hid hL
  have main : ∀ t : Bool, t = (na && nb) → Calls Tryz.prog 14 #[.float .f64 a, .float .f64 b] w fun e w' => e = .returned (.bool L) ∧ w' = w := by
    intro t ht
    replace ht := Lib.hid ht
    cases na with
    | true =>
      cases nb with
      | true =>
        go_enter Tryz.func14, Tryz.ntmps14
        go_wp2_with fail
        go_ret
        exact ⟨by rw [hL.out]; rfl, rfl⟩
      | false =>
        cases ee with
        | false =>
          go_enter Tryz.func14, Tryz.ntmps14
          go_wp2_with fail
          go_ret
          exact ⟨by rw [hL.out]; rfl, rfl⟩
        | true =>
          go_enter Tryz.func14, Tryz.ntmps14
          go_wp2_with fail
          refine CA.out.mono ?_
          rintro e w1 ⟨rfl, rfl⟩
          go_wp2_with fail
          refine CB.out.mono ?_
          rintro e w1 ⟨rfl, rfl⟩
          go_wp2_with fail
          go_ret
          exact ⟨by rw [hL.out]; cases ba <;> cases bb <;> rfl, rfl⟩
    | false =>
      cases ee with
      | false =>
        go_enter Tryz.func14, Tryz.ntmps14
        go_wp2_with fail
        go_ret
        exact ⟨by rw [hL.out]; rfl, rfl⟩
      | true =>
        go_enter Tryz.func14, Tryz.ntmps14
        go_wp2_with fail
        refine CA.out.mono ?_
        rintro e w1 ⟨rfl, rfl⟩
        go_wp2_with fail
        refine CB.out.mono ?_
        rintro e w1 ⟨rfl, rfl⟩
        go_wp2_with fail
        go_ret
        exact ⟨by rw [hL.out]; cases ba <;> cases bb <;> rfl, rfl⟩
  exact main _ rfl
end Go.Proofs.YtmoofecphpknfaaGreatDoor
