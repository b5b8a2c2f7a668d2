/- Layout: Split. -/
import Derived.Test.YtcklmkjlbpjojaaDoorC3
import Derived.Test.YtcklmkjlbpjojaaDoorD3
import Derived.Test.YtcklmkjlbpjojaaDoorD5
import Derived.Deep.DeepCutAuto
import Derived.Deep.CutBlock
namespace Go.Proofs.YtcklmkjlbpjojaaDoor
open Go.RowKit
set_option linter.unusedSimpArgs false
set_option linter.unusedVariables false

/-- A split's refusals. -/
def splitErr (t : T) (other size : Int) (l : Option T) (z : T → Int) : Option Int :=
  match l with
  | none => some 8
  | some l =>
    if other < 1 ∨ (t.find other).isSome = true ∨ size < 0 then some 1
    else if 32 ≤ t.leaves.length then some 3
    else if z l < 3 ∨ z l - 2 < size then some 5
    else none
theorem find_mem {t s : T} {p : Int} (h : t.find p = some s) : s ∈ t.leaves ∧ s.n.p = p := by
  unfold T.find at h
  exact ⟨List.mem_of_find?_eq_some h, by simpa using List.find?_some h⟩

set_option maxHeartbeats 4000000 in
set_option maxRecDepth 100000 in
theorem split_no (base tr : Nat) (t : T) (pane other size err : Int) (beside before : Bool) (w : World) (hT : Tr base w tr t) (hl : t.leaves.length ≤ 100000) (hs1 : -9223372036854775808 ≤ size) (hs2 : size ≤ 9223372036854775807)
    (hz : ∀ s ∈ t.leaves, 0 ≤ s.n.a ∧ s.n.a ≤ 1000 ∧ 0 ≤ s.n.b ∧ s.n.b ≤ 1000)
    (he : splitErr t other size (t.find pane) (fun s => if beside then s.n.a else s.n.b) = some err) :
    Calls Tryd.prog 12 #[ptr tr, .int .i64 pane, .int .i64 other, .bool beside, .int .i64 size, .bool before] w fun e w' => e = .returned (.int .i64 err) ∧ w.grownBy w' none := by
  have CL := Lib.hid (leaf_any base tr t pane w hT hl)
  have CW := Lib.hid (fun W => wayOf_any beside W)
  have CH := Lib.hid (fun W (hg : w.grownBy W none) => has_any base tr t other W (hT.grown hg) hl)
  have CA := Lib.hid (fun W (hg : w.grownBy W none) => all_any base tr t W (hT.grown hg) hl)
  cases hf : t.find pane with
  | none =>
    rw [hf] at he CL
    simp only [splitErr, Option.some.injEq] at he
    subst he
    simp only [Option.map_none, uptr] at CL
    replace hT := Lib.hid hT; replace hf := Lib.hid hf; replace hz := Lib.hid hz
    unfold ptr at *
    go_enter Tryd.func12, Tryd.ntmps12
    go_wp2_with fail
    refine CL.out.mono ?_
    rintro e w1 ⟨rfl, G1⟩
    clear CL
    obtain ⟨wy, hwy⟩ : ∃ wy : Int, wy = (if beside = true then 0 else 1) := ⟨_, rfl⟩
    rw [← hwy] at CW
    replace hwy := Lib.hid hwy
    go_wp2_with fail
    refine (CW.out _).mono ?_
    rintro e w2 ⟨rfl, rfl⟩
    clear CW
    go_wp2_with fail
    go_ret
    exact ⟨rfl, G1⟩
  | some l =>
    rw [hf] at he CL
    obtain ⟨hlm, _⟩ := find_mem hf
    obtain ⟨up', hlT, _, _⟩ := mem_leaves t w none hT.p l hlm
    have hlA : At w up' l.n l.ks := by cases l; exact hlT.at_
    obtain ⟨za0, za1, zb0, zb1⟩ := hz l hlm
    simp only [splitErr] at he
    simp only [Option.map_some, uptr] at CL
    obtain ⟨len, hln⟩ : ∃ len, len = t.leaves.length := ⟨_, rfl⟩
    obtain ⟨so, hso⟩ : ∃ so, so = (t.find other).isSome := ⟨_, rfl⟩
    rw [← hln] at he CA
    rw [← hso] at he CH
    have hl2 : len ≤ 100000 := by omega
    cases beside
    · have CW' : Hid (∀ W, Calls Tryd.prog 30 #[.bool false] W fun e w' => e = .returned (.int .i64 1) ∧ W = w') := CW
      have qz := hlA.c4
      rw [show l.n.g = l.g from rfl] at qz
      have hz0 : 0 ≤ l.n.b ∧ l.n.b ≤ 1000 := by omega
      simp only [if_true, Bool.false_eq_true, if_false] at he
      generalize l.n.b = z at *
      clear za0 za1 zb0 zb1 CW
      obtain ⟨z0, z1⟩ := hz0
      replace hT := Lib.hid hT; replace hf := Lib.hid hf; replace hlT := Lib.hid hlT; replace hlA := Lib.hid hlA; replace hz := Lib.hid hz; replace hln := Lib.hid hln; replace hso := Lib.hid hso; replace hlm := Lib.hid hlm
      unfold ptr at *
      by_cases c1 : other < 1
      · rw [if_pos (.inl c1)] at he
        injection he with he
        subst he
        go_enter Tryd.func12, Tryd.ntmps12
        go_wp2_with fail
        refine CL.out.mono ?_
        rintro e w1 ⟨rfl, G1⟩
        go_wp2_with fail
        refine (CW'.out _).mono ?_
        rintro e w2 ⟨rfl, rfl⟩
        go_wp2_with fail
        go_ret
        exact ⟨rfl, G1⟩
      · cases so with
        | true =>
          rw [if_pos (.inr (.inl rfl))] at he
          injection he with he
          subst he
          go_enter Tryd.func12, Tryd.ntmps12
          go_wp2_with fail
          refine CL.out.mono ?_
          rintro e w1 ⟨rfl, G1⟩
          replace G1 := Lib.hid G1
          go_wp2_with fail
          refine (CW'.out _).mono ?_
          rintro e w2 ⟨rfl, rfl⟩
          go_wp2_with fail
          refine (CH.out _ G1.out).mono ?_
          rintro e w2 ⟨rfl, G2⟩
          replace G2 := Lib.hid G2
          go_wp2_with fail
          go_ret
          exact ⟨rfl, G1.out.trans G2.out⟩
        | false =>
          by_cases c2 : size < 0
          · rw [if_pos (.inr (.inr c2))] at he
            injection he with he
            subst he
            go_enter Tryd.func12, Tryd.ntmps12
            go_wp2_with fail
            refine CL.out.mono ?_
            rintro e w1 ⟨rfl, G1⟩
            replace G1 := Lib.hid G1
            go_wp2_with fail
            refine (CW'.out _).mono ?_
            rintro e w2 ⟨rfl, rfl⟩
            go_wp2_with fail
            refine (CH.out _ G1.out).mono ?_
            rintro e w2 ⟨rfl, G2⟩
            replace G2 := Lib.hid G2
            go_wp2_with fail
            go_ret
            exact ⟨rfl, G1.out.trans G2.out⟩
          · rw [if_neg (by simp; omega)] at he
            go_enter Tryd.func12, Tryd.ntmps12
            go_wp2_with fail
            refine CL.out.mono ?_
            rintro e w1 ⟨rfl, G1⟩
            replace G1 := Lib.hid G1
            go_wp2_with fail
            refine (CW'.out _).mono ?_
            rintro e w2 ⟨rfl, rfl⟩
            go_wp2_with fail
            refine (CH.out _ G1.out).mono ?_
            rintro e w3 ⟨rfl, G2⟩
            have G12 := G1.out.trans G2
            replace G2 := Lib.hid G2; replace G12 := Lib.hid G12
            go_wp2_with fail
            refine (CA.out _ G12.out).mono ?_
            rintro e w4 ⟨A4, c4, rfl, O4, G3⟩
            have G13 := G12.out.trans G3
            have qz' := G13.cell qz (by simp)
            replace G3 := Lib.hid G3; replace G13 := Lib.hid G13; replace O4 := Lib.hid O4
            clear CL CW' CH CA qz
            by_cases c3 : 32 ≤ len
            · rw [if_pos c3] at he
              injection he with he
              subst he
              have c3' : (32 : Int) ≤ len := by omega
              go_wp2_with fail
              go_ret
              exact ⟨rfl, G13.out⟩
            · rw [if_neg c3] at he
              have c3' : ¬ (32 : Int) ≤ len := by omega
              have hw : IntKind.i64.wrap (z - 2) = z - 2 := by rw [IntKind.wrap_i64]; omega
              by_cases c4 : z < 3 ∨ z - 2 < size
              · rw [if_pos c4] at he
                injection he with he
                subst he
                by_cases c5 : z < 3
                · go_wp2_with fail
                  go_ret
                  exact ⟨rfl, G13.out⟩
                · have c6 : z - 2 < size := by omega
                  replace c4 := Lib.hid c4
                  go_wp2_with fail
                  go_ret
                  exact ⟨rfl, G13.out⟩
              · rw [if_neg c4] at he
                cases he
    · have CW' : Hid (∀ W, Calls Tryd.prog 30 #[.bool true] W fun e w' => e = .returned (.int .i64 0) ∧ W = w') := CW
      have qz := hlA.c3
      rw [show l.n.g = l.g from rfl] at qz
      have hz0 : 0 ≤ l.n.a ∧ l.n.a ≤ 1000 := by omega
      simp only [if_true, Bool.false_eq_true, if_false] at he
      generalize l.n.a = z at *
      clear za0 za1 zb0 zb1 CW
      obtain ⟨z0, z1⟩ := hz0
      replace hT := Lib.hid hT; replace hf := Lib.hid hf; replace hlT := Lib.hid hlT; replace hlA := Lib.hid hlA; replace hz := Lib.hid hz; replace hln := Lib.hid hln; replace hso := Lib.hid hso; replace hlm := Lib.hid hlm
      unfold ptr at *
      by_cases c1 : other < 1
      · rw [if_pos (.inl c1)] at he
        injection he with he
        subst he
        go_enter Tryd.func12, Tryd.ntmps12
        go_wp2_with fail
        refine CL.out.mono ?_
        rintro e w1 ⟨rfl, G1⟩
        go_wp2_with fail
        refine (CW'.out _).mono ?_
        rintro e w2 ⟨rfl, rfl⟩
        go_wp2_with fail
        go_ret
        exact ⟨rfl, G1⟩
      · cases so with
        | true =>
          rw [if_pos (.inr (.inl rfl))] at he
          injection he with he
          subst he
          go_enter Tryd.func12, Tryd.ntmps12
          go_wp2_with fail
          refine CL.out.mono ?_
          rintro e w1 ⟨rfl, G1⟩
          replace G1 := Lib.hid G1
          go_wp2_with fail
          refine (CW'.out _).mono ?_
          rintro e w2 ⟨rfl, rfl⟩
          go_wp2_with fail
          refine (CH.out _ G1.out).mono ?_
          rintro e w2 ⟨rfl, G2⟩
          replace G2 := Lib.hid G2
          go_wp2_with fail
          go_ret
          exact ⟨rfl, G1.out.trans G2.out⟩
        | false =>
          by_cases c2 : size < 0
          · rw [if_pos (.inr (.inr c2))] at he
            injection he with he
            subst he
            go_enter Tryd.func12, Tryd.ntmps12
            go_wp2_with fail
            refine CL.out.mono ?_
            rintro e w1 ⟨rfl, G1⟩
            replace G1 := Lib.hid G1
            go_wp2_with fail
            refine (CW'.out _).mono ?_
            rintro e w2 ⟨rfl, rfl⟩
            go_wp2_with fail
            refine (CH.out _ G1.out).mono ?_
            rintro e w2 ⟨rfl, G2⟩
            replace G2 := Lib.hid G2
            go_wp2_with fail
            go_ret
            exact ⟨rfl, G1.out.trans G2.out⟩
          · rw [if_neg (by simp; omega)] at he
            go_enter Tryd.func12, Tryd.ntmps12
            go_wp2_with fail
            refine CL.out.mono ?_
            rintro e w1 ⟨rfl, G1⟩
            replace G1 := Lib.hid G1
            go_wp2_with fail
            refine (CW'.out _).mono ?_
            rintro e w2 ⟨rfl, rfl⟩
            go_wp2_with fail
            refine (CH.out _ G1.out).mono ?_
            rintro e w3 ⟨rfl, G2⟩
            have G12 := G1.out.trans G2
            replace G2 := Lib.hid G2; replace G12 := Lib.hid G12
            go_wp2_with fail
            refine (CA.out _ G12.out).mono ?_
            rintro e w4 ⟨A4, c4, rfl, O4, G3⟩
            have G13 := G12.out.trans G3
            have qz' := G13.cell qz (by simp)
            replace G3 := Lib.hid G3; replace G13 := Lib.hid G13; replace O4 := Lib.hid O4
            clear CL CW' CH CA qz
            by_cases c3 : 32 ≤ len
            · rw [if_pos c3] at he
              injection he with he
              subst he
              have c3' : (32 : Int) ≤ len := by omega
              go_wp2_with fail
              go_ret
              exact ⟨rfl, G13.out⟩
            · rw [if_neg c3] at he
              have c3' : ¬ (32 : Int) ≤ len := by omega
              have hw : IntKind.i64.wrap (z - 2) = z - 2 := by rw [IntKind.wrap_i64]; omega
              by_cases c4 : z < 3 ∨ z - 2 < size
              · rw [if_pos c4] at he
                injection he with he
                subst he
                by_cases c5 : z < 3
                · go_wp2_with fail
                  go_ret
                  exact ⟨rfl, G13.out⟩
                · have c6 : z - 2 < size := by omega
                  replace c4 := Lib.hid c4
                  go_wp2_with fail
                  go_ret
                  exact ⟨rfl, G13.out⟩
              · rw [if_neg c4] at he
                cases he
end Go.Proofs.YtcklmkjlbpjojaaDoor
