/- Format: strings.CutPrefix at this program. -/
import Derived.Test.YtfhdfhlabkeipaaGreatDoorC15
namespace Go.Proofs.YtfhdfhlabkeipaaGreatDoor
open Go.RowKit
set_option linter.unusedSimpArgs false
set_option linter.unusedVariables false

def hasP (P Q : B) : Bool := decide (P.take Q.length = Q)
set_option maxRecDepth 100000 in
theorem hasPrefix_any (P Q : B) (w : World) (hP : P.length ≤ 1000000) (hQ : Q.length ≤ 1000) :
    Calls Tryz.prog 78 #[.string (st P), .string (st Q)] w fun e w' => e = .returned (.bool (hasP P Q)) ∧ w' = w := by
  have hz1 : (st P).size = P.length := st_size P
  have hz2 : (st Q).size = Q.length := st_size Q
  obtain ⟨lp, hlp⟩ : ∃ l, l = P.length := ⟨_, rfl⟩
  obtain ⟨lq, hlq⟩ : ∃ l, l = Q.length := ⟨_, rfl⟩
  have hex : (st P).extract 0 lq = st (P.take lq) := st_take P lq
  rw [← hlp] at hz1 hP
  rw [← hlq] at hz2 hQ
  by_cases hl : lq ≤ lp
  · have heq : ((st (P.take lq)).toList == (st Q).toList) = hasP P Q := by
      rw [eq_str, Bool.eq_iff_iff, beq_iff_eq]
      unfold hasP
      rw [decide_eq_true_eq, hlq]
    obtain ⟨r, hr⟩ : ∃ r, r = hasP P Q := ⟨_, rfl⟩
    rw [← hr] at heq ⊢
    obtain ⟨SP, hSP⟩ : ∃ S, S = st P := ⟨_, rfl⟩
    obtain ⟨SQ, hSQ⟩ : ∃ S, S = st Q := ⟨_, rfl⟩
    obtain ⟨ST, hST⟩ : ∃ S, S = st (P.take lq) := ⟨_, rfl⟩
    rw [← hSP] at hz1 hex ⊢
    rw [← hSQ] at hz2 heq ⊢
    rw [← hST] at hex heq
    have hli : (lq : Int) ≤ (lp : Int) := by omega
    replace hr := Lib.hid hr; replace hSP := Lib.hid hSP; replace hSQ := Lib.hid hSQ; replace hST := Lib.hid hST; replace hlp := Lib.hid hlp; replace hlq := Lib.hid hlq
    go_enter Tryz.func78, Tryz.ntmps78
    go_wp2_with fail
    go_ret
    exact ⟨by first | rfl | (rw [← heq]; rfl), rfl⟩
  · have hf : hasP P Q = false := by
      unfold hasP
      rw [decide_eq_false_iff_not]
      intro h
      have := congrArg List.length h
      rw [List.length_take] at this
      omega
    rw [hf]
    obtain ⟨SP, hSP⟩ : ∃ S, S = st P := ⟨_, rfl⟩
    obtain ⟨SQ, hSQ⟩ : ∃ S, S = st Q := ⟨_, rfl⟩
    rw [← hSP] at hz1 hex ⊢
    rw [← hSQ] at hz2 ⊢
    have hli : ¬ ((lq : Int) ≤ (lp : Int)) := by omega
    replace hSP := Lib.hid hSP; replace hSQ := Lib.hid hSQ; replace hlp := Lib.hid hlp; replace hlq := Lib.hid hlq; replace hex := Lib.hid hex
    go_enter Tryz.func78, Tryz.ntmps78
    go_wp2_with fail
    go_ret
    exact ⟨rfl, rfl⟩
def cutV (P Q : B) : Value := if hasP P Q = true then .tuple #[.string (st (P.drop Q.length)), .bool true] else .tuple #[.string (st P), .bool false]
set_option maxRecDepth 100000 in
theorem cutPrefix_any (P Q : B) (w : World) (hP : P.length ≤ 1000000) (hQ : Q.length ≤ 1000) :
    Calls Tryz.prog 52 #[.string (st P), .string (st Q)] w fun e w' => e = .returned (cutV P Q) ∧ w' = w := by
  have CH := hasPrefix_any P Q w hP hQ
  have hz1 : (st P).size = P.length := st_size P
  have hz2 : (st Q).size = Q.length := st_size Q
  obtain ⟨lp, hlp⟩ : ∃ l, l = P.length := ⟨_, rfl⟩
  obtain ⟨lq, hlq⟩ : ∃ l, l = Q.length := ⟨_, rfl⟩
  have hex : (st P).extract lq lp = st (P.drop lq) := st_drop P lq lp hlp
  rw [← hlp] at hz1 hP
  rw [← hlq] at hz2 hQ
  have inner : Calls Tryz.prog 65 #[.string (st P), .string (st Q)] w fun e w' => e = .returned (cutV P Q) ∧ w' = w := by
    cases hh : hasP P Q with
    | true =>
      have hl : lq ≤ lp := by
        have : P.take Q.length = Q := by simpa [hasP] using hh
        have := congrArg List.length this
        rw [List.length_take] at this
        omega
      have hli : (lq : Int) ≤ (lp : Int) := by omega
      have hv : cutV P Q = .tuple #[.string (st (P.drop lq)), .bool true] := by unfold cutV; rw [if_pos hh, hlq]
      rw [hv]
      rw [hh] at CH
      obtain ⟨SP, hSP⟩ : ∃ S, S = st P := ⟨_, rfl⟩
      obtain ⟨SQ, hSQ⟩ : ∃ S, S = st Q := ⟨_, rfl⟩
      obtain ⟨ST, hST⟩ : ∃ S, S = st (P.drop lq) := ⟨_, rfl⟩
      rw [← hSP, ← hSQ] at CH
      rw [← hSP] at hz1 hex ⊢
      rw [← hSQ] at hz2 ⊢
      rw [← hST] at hex ⊢
      replace CH := Lib.hid CH; replace hh := Lib.hid hh; replace hv := Lib.hid hv; replace hSP := Lib.hid hSP; replace hSQ := Lib.hid hSQ; replace hST := Lib.hid hST; replace hlp := Lib.hid hlp; replace hlq := Lib.hid hlq
      go_enter Tryz.func65, Tryz.ntmps65
      go_wp2_with fail
      refine CH.out.mono ?_
      rintro e w1 ⟨rfl, rfl⟩
      go_wp2_with fail
      go_ret2
      exact ⟨rfl, rfl⟩
    | false =>
      have hv : cutV P Q = .tuple #[.string (st P), .bool false] := by unfold cutV; rw [if_neg (by rw [hh]; simp)]
      rw [hv]
      rw [hh] at CH
      obtain ⟨SP, hSP⟩ : ∃ S, S = st P := ⟨_, rfl⟩
      obtain ⟨SQ, hSQ⟩ : ∃ S, S = st Q := ⟨_, rfl⟩
      rw [← hSP, ← hSQ] at CH
      rw [← hSP] at hz1 hex ⊢
      rw [← hSQ] at hz2 ⊢
      replace CH := Lib.hid CH; replace hh := Lib.hid hh; replace hv := Lib.hid hv; replace hSP := Lib.hid hSP; replace hSQ := Lib.hid hSQ; replace hex := Lib.hid hex; replace hlp := Lib.hid hlp; replace hlq := Lib.hid hlq
      go_enter Tryz.func65, Tryz.ntmps65
      go_wp2_with fail
      refine CH.out.mono ?_
      rintro e w1 ⟨rfl, rfl⟩
      go_wp2_with fail
      go_ret2
      exact ⟨rfl, rfl⟩
  obtain ⟨x, b, hv⟩ : ∃ x b, cutV P Q = .tuple #[.string x, .bool b] := by
    unfold cutV
    split
    · exact ⟨_, _, rfl⟩
    · exact ⟨_, _, rfl⟩
  rw [hv] at inner ⊢
  replace inner := Lib.hid inner; replace hv := Lib.hid hv; replace CH := Lib.hid CH
  clear hex hz1 hz2
  go_enter Tryz.func52, Tryz.ntmps52
  go_wp2_with fail
  refine inner.out.mono ?_
  rintro e w1 ⟨rfl, rfl⟩
  go_wp2_with fail
  go_ret2
  exact ⟨rfl, rfl⟩
end Go.Proofs.YtfhdfhlabkeipaaGreatDoor
