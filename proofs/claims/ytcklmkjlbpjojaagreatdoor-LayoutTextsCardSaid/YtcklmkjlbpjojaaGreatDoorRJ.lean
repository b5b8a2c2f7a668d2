/- Layout: the reference's number, sign. Printed by tools/mkRJ.py. -/
import Derived.Test.YtcklmkjlbpjojaaGreatDoorRI
import Derived.Test.YtcklmkjlbpjojaaGreatDoorR2
import Derived.OwnWalk
namespace Go.Proofs.YtcklmkjlbpjojaaGreatDoor
open Go.RowKit
set_option linter.unusedSimpArgs false
set_option linter.unusedVariables false

theorem num_long {s : List UInt8} {bad : Bool} (h : 10 ≤ (s.takeWhile dig).length) : numP s bad = (0, [], true) := by
  unfold numP
  rw [if_pos (.inr (.inl (by omega)))]
/-- What number hands back. -/
def numV (s : List UInt8) : Ending := .returned (.tuple #[.int .i64 ((numP s false).1 : Int), .string (st (numP s false).2.1), .bool (!(numP s false).2.2)])
theorem num_outs {s : List UInt8} {len j n : Nat} (hlen : len = s.length) (hj : j ≤ len) (hj10 : j ≤ 10) (hI : n = valD (s.take j) ∧ ∀ c ∈ s.take j, dig c = true) (h2 : j = 10 ∨ len ≤ j ∨ ∃ c, s[j]? = some c ∧ dig c = false) :
    (j = 0 ∧ numP s false = (0, [], true)) ∨ (j = 10 ∧ numP s false = (0, [], true)) ∨ (∃ d, s[0]? = some d ∧ 2 ≤ j ∧ j ≤ 9 ∧ d.toNat = 48 ∧ numP s false = (0, [], true)) ∨ (∃ d, s[0]? = some d ∧ 1 ≤ j ∧ j ≤ 9 ∧ (j = 1 ∨ d.toNat ≠ 48) ∧ numP s false = (n, s.drop j, false)) := by
  by_cases h10 : j = 10
  · right; left
    refine ⟨h10, num_long ?_⟩
    have := tw_ge hI.2 (by omega)
    omega
  have hex := num_exit (bad := false) (by omega) (by omega : j ≤ 9) hI.2 (by rcases h2 with h | h | h; exact absurd h h10; exact .inl (by omega); exact .inr h)
  rcases Nat.eq_zero_or_pos j with h0 | h0
  · left
    exact ⟨h0, by rw [hex, if_pos (.inl h0)]⟩
  obtain ⟨d, hd⟩ : ∃ d, s[0]? = some d := ⟨s[0]'(by omega), List.getElem?_eq_getElem _⟩
  have hhead : s.head? = some d := by rw [List.head?_eq_getElem?]; exact hd
  by_cases hc : 1 < j ∧ d.toNat = 48
  · right; right; left
    refine ⟨d, hd, by omega, by omega, hc.2, ?_⟩
    have : d = 48 := UInt8.toNat_inj.1 hc.2
    rw [hex, if_pos (.inr ⟨hc.1, by rw [hhead, this]⟩)]
  · right; right; right
    refine ⟨d, hd, h0, by omega, by omega, ?_⟩
    rw [hex, if_neg, hI.1]
    rintro (h | h)
    · omega
    · refine hc ⟨h.1, ?_⟩
      have h2 := h.2
      rw [hhead] at h2
      injection h2 with h2
      rw [h2]; rfl
set_option maxHeartbeats 2000000 in
set_option maxRecDepth 100000 in
theorem numberR_any (s : List UInt8) (w : World) (hs : s.length ≤ 5000) :
    Calls Tryz.prog 87 #[.string (st s)] w fun e w' => e = numV s ∧ ∃ k, w' = w.drewN k := by
  obtain ⟨S, hS⟩ : ∃ S, S = st s := ⟨_, rfl⟩
  rw [← hS]
  obtain ⟨len, hlen⟩ : ∃ len, len = s.length := ⟨_, rfl⟩
  have hZ : S.size = len := by rw [hS, st_size, hlen]
  rw [← hlen] at hs
  have hG : ∀ (j : Nat) (c : UInt8), s[j]? = some c → ∀ h, S[j]'h = c := by
    subst hS
    intro j c hc h
    obtain ⟨q1, q2⟩ := List.getElem?_eq_some_iff.1 hc
    exact q2
  have hX : ∀ k, S.extract k len = st (s.drop k) := fun k => by rw [hS]; exact st_drop s k len hlen
  have hbadE : numP s false = (0, [], true) → .returned (.tuple #[.int .i64 0, .string ⟨#[]⟩, .bool false]) = numV s := fun h => by unfold numV; rw [h]; rfl
  have hokE : ∀ n l, numP s false = (n, l, false) → .returned (.tuple #[.int .i64 (n : Int), .string (st l), .bool true]) = numV s := fun n l h => by unfold numV; rw [h]; rfl
  replace hS := Lib.hid hS; replace hlen := Lib.hid hlen; replace hG := Lib.hid hG; replace hbadE := Lib.hid hbadE; replace hokE := Lib.hid hokE; replace hX := Lib.hid hX
  go_enter Tryz.func87, Tryz.ntmps87
  go_wp2_with fail
  go_loopw [5, 6] (fun nv iv wr => ∃ (j n : Nat), j ≤ 10 ∧ j ≤ len ∧ n ≤ 10000000000 ∧ nv = .int .i64 n ∧ iv = .int .i64 j ∧ wr = w ∧ Hid (n = valD (s.take j) ∧ ∀ c ∈ s.take j, dig c = true)) (fun _ iv _ => len - (intOf iv).toNat)
  case atStart => exact ⟨0, 0, by omega, by omega, by omega, rfl, rfl, rfl, Lib.hid ⟨rfl, by simp⟩⟩
  case round =>
    obtain ⟨j, n, hj10, hjl, hn9, rfl, rfl, rfl, hI⟩ := hrel
    by_cases hlt : j < len
    · obtain ⟨c, hc⟩ : ∃ c, s[j]? = some c := ⟨s[j]'(by rw [← hlen.out]; exact hlt), List.getElem?_eq_getElem _⟩
      have hg := hG.out j c hc
      have hc255 : (c.toNat : Int) ≤ 255 := by have := c.toNat_lt; omega
      have hc0 : (0 : Int) ≤ (c.toNat : Int) := by omega
      have hjl2 : (j : Int) < (len : Int) := by omega
      have hwi : IntKind.i64.wrap ((j : Int) + 1) = (j : Int) + 1 := by rw [IntKind.wrap_i64]; omega
      by_cases hd : 48 ≤ c.toNat ∧ c.toNat ≤ 57
      · have hdc : dig c = true := by simp only [dig, Bool.and_eq_true, decide_eq_true_eq]; exact hd
        obtain ⟨hd1, hd2⟩ : (48 : Int) ≤ (c.toNat : Int) ∧ (c.toNat : Int) ≤ 57 := by omega
        by_cases hj9' : j = 10
        · have hout := num_outs hlen.out hjl hj10 hI.out (.inl hj9')
          have hjj : ¬ ((j : Int) < 10) := by omega
          replace hc := Lib.hid hc; replace hd := Lib.hid hd; replace hdc := Lib.hid hdc; replace hj9' := Lib.hid hj9'
          rcases hout with ⟨h0, hb⟩ | ⟨h0, hb⟩ | ⟨d, hd0, h1, h2, h3, hb⟩ | ⟨d, hd0, h1, h2, h3, hb⟩
          · have z1 : ((j : Int) == 0) = true := by rw [h0]; rfl
            replace hb := Lib.hid hb; replace h0 := Lib.hid h0
            go_wp2_with fail
            go_ret3
            exact ⟨hbadE.out hb.out, 0, rfl⟩
          · have z1 : ((j : Int) == 0) = false := beq_eq_false_iff_ne.2 (by omega)
            have z2 : (9 : Int) < (j : Int) := by omega
            replace hb := Lib.hid hb; replace h0 := Lib.hid h0
            go_wp2_with fail
            go_ret3
            exact ⟨hbadE.out hb.out, 0, rfl⟩
          · have z1 : ((j : Int) == 0) = false := beq_eq_false_iff_ne.2 (by omega)
            have z2 : ¬ ((9 : Int) < (j : Int)) := by omega
            have z3 : (1 : Int) < (j : Int) := by omega
            have hgd := hG.out 0 d hd0
            have z4 : ((d.toNat : Int) == 48) = true := by rw [h3]; rfl
            have hlp : 0 < len := by omega
            replace hb := Lib.hid hb; replace hd0 := Lib.hid hd0; replace h3 := Lib.hid h3
            go_wp2_with fail
            go_ret3
            exact ⟨hbadE.out hb.out, 0, rfl⟩
          · have z1 : ((j : Int) == 0) = false := beq_eq_false_iff_ne.2 (by omega)
            have z2 : ¬ ((9 : Int) < (j : Int)) := by omega
            have hgd := hG.out 0 d hd0
            have hlp : 0 < len := by omega
            have hxk := hX.out j
            rcases h3 with h3 | h3
            · have z3 : ¬ ((1 : Int) < (j : Int)) := by omega
              replace hb := Lib.hid hb; replace hd0 := Lib.hid hd0; replace h3 := Lib.hid h3
              go_wp2_with fail
              go_big_quiet ((fail))
              go_wp2_with fail
              go_ret3
              exact ⟨hokE.out n (s.drop j) hb.out, nq, rfl⟩
            · have z4 : ((d.toNat : Int) == 48) = false := beq_eq_false_iff_ne.2 (by omega)
              replace hb := Lib.hid hb; replace hd0 := Lib.hid hd0; replace h3 := Lib.hid h3
              rcases (by omega : j = 1 ∨ 2 ≤ j) with h5 | h5
              · have z3 : ¬ ((1 : Int) < (j : Int)) := by omega
                replace h5 := Lib.hid h5
                go_wp2_with fail
                go_big_quiet ((fail))
                go_wp2_with fail
                go_ret3
                exact ⟨hokE.out n (s.drop j) hb.out, nq, rfl⟩
              · have z3 : (1 : Int) < (j : Int) := by omega
                replace h5 := Lib.hid h5
                go_wp2_with fail
                go_big_quiet ((fail))
                go_wp2_with fail
                go_ret3
                exact ⟨hokE.out n (s.drop j) hb.out, nq, rfl⟩
        · have hw8 : IntKind.u8.wrap ((c.toNat : Int) - 48) = (c.toNat : Int) - 48 := by rw [IntKind.wrap_u8]; omega
          have hw10 : IntKind.i64.wrap (10 * (n : Int)) = 10 * (n : Int) := by rw [IntKind.wrap_i64]; omega
          have hw11 : IntKind.i64.wrap (10 * (n : Int) + ((c.toNat : Int) - 48)) = 10 * (n : Int) + ((c.toNat : Int) - 48) := by rw [IntKind.wrap_i64]; omega
          have hn' : 10 * n + (c.toNat - 48) = valD (s.take (j + 1)) ∧ ∀ x ∈ s.take (j + 1), dig x = true := by
            rw [take_succ' hc]
            refine ⟨by rw [valD_snoc, ← hI.out.1], fun x hx => ?_⟩
            rcases List.mem_append.1 hx with hx | hx
            · exact hI.out.2 x hx
            · simp at hx; subst hx; exact hdc
          have hjj : (j : Int) < 10 := by omega
          have hn10 : n < 1000000000 ∨ j = 10 := by
            left
            have h1 := valD_lt _ hI.out.2
            rw [← hI.out.1, List.length_take, ← hlen.out] at h1
            have h3 := pow9 (n := min j len) (by omega)
            omega
          have hnb : 10 * n + (c.toNat - 48) ≤ 10000000000 := by omega
          replace hn' := Lib.hid hn'; replace hd := Lib.hid hd; replace hc := Lib.hid hc; replace hdc := Lib.hid hdc; replace hj9' := Lib.hid hj9'; replace hn10 := Lib.hid hn10; replace hnb := Lib.hid hnb
          go_wp2_with fail
          refine ⟨⟨j + 1, 10 * n + (c.toNat - 48), by have := hj9'.out; omega, by omega, hnb.out, ?_, by go_num, by first | trivial | rfl, hn'⟩, by simp [intOf]; omega⟩
          congr 1; have := hd.out; omega
      · have hdc : dig c = false := by
          cases h : dig c with
          | false => rfl
          | true => simp only [dig, Bool.and_eq_true, decide_eq_true_eq] at h; exact absurd h hd
        have hout := num_outs hlen.out hjl hj10 hI.out (.inr (.inr ⟨c, hc, hdc⟩))
        replace hdc := Lib.hid hdc; replace hc := Lib.hid hc
        rcases Nat.lt_or_ge c.toNat 48 with hcl | hcl
        · have hd1 : ¬ ((48 : Int) ≤ (c.toNat : Int)) := by omega
          replace hd := Lib.hid hd; replace hcl := Lib.hid hcl
          rcases hout with ⟨h0, hb⟩ | ⟨h0, hb⟩ | ⟨d, hd0, h1, h2, h3, hb⟩ | ⟨d, hd0, h1, h2, h3, hb⟩
          · have z1 : ((j : Int) == 0) = true := by rw [h0]; rfl
            replace hb := Lib.hid hb; replace h0 := Lib.hid h0
            go_wp2_with fail
            go_ret3
            exact ⟨hbadE.out hb.out, 0, rfl⟩
          · have z1 : ((j : Int) == 0) = false := beq_eq_false_iff_ne.2 (by omega)
            have z2 : (9 : Int) < (j : Int) := by omega
            replace hb := Lib.hid hb; replace h0 := Lib.hid h0
            go_wp2_with fail
            go_ret3
            exact ⟨hbadE.out hb.out, 0, rfl⟩
          · have z1 : ((j : Int) == 0) = false := beq_eq_false_iff_ne.2 (by omega)
            have z2 : ¬ ((9 : Int) < (j : Int)) := by omega
            have z3 : (1 : Int) < (j : Int) := by omega
            have hgd := hG.out 0 d hd0
            have z4 : ((d.toNat : Int) == 48) = true := by rw [h3]; rfl
            have hlp : 0 < len := by omega
            replace hb := Lib.hid hb; replace hd0 := Lib.hid hd0; replace h3 := Lib.hid h3
            go_wp2_with fail
            go_ret3
            exact ⟨hbadE.out hb.out, 0, rfl⟩
          · have z1 : ((j : Int) == 0) = false := beq_eq_false_iff_ne.2 (by omega)
            have z2 : ¬ ((9 : Int) < (j : Int)) := by omega
            have hgd := hG.out 0 d hd0
            have hlp : 0 < len := by omega
            have hxk := hX.out j
            rcases h3 with h3 | h3
            · have z3 : ¬ ((1 : Int) < (j : Int)) := by omega
              replace hb := Lib.hid hb; replace hd0 := Lib.hid hd0; replace h3 := Lib.hid h3
              go_wp2_with fail
              go_big_quiet ((fail))
              go_wp2_with fail
              go_ret3
              exact ⟨hokE.out n (s.drop j) hb.out, nq, rfl⟩
            · have z4 : ((d.toNat : Int) == 48) = false := beq_eq_false_iff_ne.2 (by omega)
              replace hb := Lib.hid hb; replace hd0 := Lib.hid hd0; replace h3 := Lib.hid h3
              rcases (by omega : j = 1 ∨ 2 ≤ j) with h5 | h5
              · have z3 : ¬ ((1 : Int) < (j : Int)) := by omega
                replace h5 := Lib.hid h5
                go_wp2_with fail
                go_big_quiet ((fail))
                go_wp2_with fail
                go_ret3
                exact ⟨hokE.out n (s.drop j) hb.out, nq, rfl⟩
              · have z3 : (1 : Int) < (j : Int) := by omega
                replace h5 := Lib.hid h5
                go_wp2_with fail
                go_big_quiet ((fail))
                go_wp2_with fail
                go_ret3
                exact ⟨hokE.out n (s.drop j) hb.out, nq, rfl⟩
        · have hd1 : (48 : Int) ≤ (c.toNat : Int) := by omega
          have hd2 : ¬ ((c.toNat : Int) ≤ 57) := by omega
          replace hd := Lib.hid hd; replace hcl := Lib.hid hcl
          rcases hout with ⟨h0, hb⟩ | ⟨h0, hb⟩ | ⟨d, hd0, h1, h2, h3, hb⟩ | ⟨d, hd0, h1, h2, h3, hb⟩
          · have z1 : ((j : Int) == 0) = true := by rw [h0]; rfl
            replace hb := Lib.hid hb; replace h0 := Lib.hid h0
            go_wp2_with fail
            go_ret3
            exact ⟨hbadE.out hb.out, 0, rfl⟩
          · have z1 : ((j : Int) == 0) = false := beq_eq_false_iff_ne.2 (by omega)
            have z2 : (9 : Int) < (j : Int) := by omega
            replace hb := Lib.hid hb; replace h0 := Lib.hid h0
            go_wp2_with fail
            go_ret3
            exact ⟨hbadE.out hb.out, 0, rfl⟩
          · have z1 : ((j : Int) == 0) = false := beq_eq_false_iff_ne.2 (by omega)
            have z2 : ¬ ((9 : Int) < (j : Int)) := by omega
            have z3 : (1 : Int) < (j : Int) := by omega
            have hgd := hG.out 0 d hd0
            have z4 : ((d.toNat : Int) == 48) = true := by rw [h3]; rfl
            have hlp : 0 < len := by omega
            replace hb := Lib.hid hb; replace hd0 := Lib.hid hd0; replace h3 := Lib.hid h3
            go_wp2_with fail
            go_ret3
            exact ⟨hbadE.out hb.out, 0, rfl⟩
          · have z1 : ((j : Int) == 0) = false := beq_eq_false_iff_ne.2 (by omega)
            have z2 : ¬ ((9 : Int) < (j : Int)) := by omega
            have hgd := hG.out 0 d hd0
            have hlp : 0 < len := by omega
            have hxk := hX.out j
            rcases h3 with h3 | h3
            · have z3 : ¬ ((1 : Int) < (j : Int)) := by omega
              replace hb := Lib.hid hb; replace hd0 := Lib.hid hd0; replace h3 := Lib.hid h3
              go_wp2_with fail
              go_big_quiet ((fail))
              go_wp2_with fail
              go_ret3
              exact ⟨hokE.out n (s.drop j) hb.out, nq, rfl⟩
            · have z4 : ((d.toNat : Int) == 48) = false := beq_eq_false_iff_ne.2 (by omega)
              replace hb := Lib.hid hb; replace hd0 := Lib.hid hd0; replace h3 := Lib.hid h3
              rcases (by omega : j = 1 ∨ 2 ≤ j) with h5 | h5
              · have z3 : ¬ ((1 : Int) < (j : Int)) := by omega
                replace h5 := Lib.hid h5
                go_wp2_with fail
                go_big_quiet ((fail))
                go_wp2_with fail
                go_ret3
                exact ⟨hokE.out n (s.drop j) hb.out, nq, rfl⟩
              · have z3 : (1 : Int) < (j : Int) := by omega
                replace h5 := Lib.hid h5
                go_wp2_with fail
                go_big_quiet ((fail))
                go_wp2_with fail
                go_ret3
                exact ⟨hokE.out n (s.drop j) hb.out, nq, rfl⟩
    · have hje : j = len := by omega
      have hout := num_outs hlen.out hjl hj10 hI.out (.inr (.inl (by omega)))
      have hjl2 : ¬ ((j : Int) < (len : Int)) := by omega
      replace hje := Lib.hid hje
      rcases hout with ⟨h0, hb⟩ | ⟨h0, hb⟩ | ⟨d, hd0, h1, h2, h3, hb⟩ | ⟨d, hd0, h1, h2, h3, hb⟩
      · have z1 : ((j : Int) == 0) = true := by rw [h0]; rfl
        replace hb := Lib.hid hb; replace h0 := Lib.hid h0
        go_wp2_with fail
        go_ret3
        exact ⟨hbadE.out hb.out, 0, rfl⟩
      · have z1 : ((j : Int) == 0) = false := beq_eq_false_iff_ne.2 (by omega)
        have z2 : (9 : Int) < (j : Int) := by omega
        replace hb := Lib.hid hb; replace h0 := Lib.hid h0
        go_wp2_with fail
        go_ret3
        exact ⟨hbadE.out hb.out, 0, rfl⟩
      · have z1 : ((j : Int) == 0) = false := beq_eq_false_iff_ne.2 (by omega)
        have z2 : ¬ ((9 : Int) < (j : Int)) := by omega
        have z3 : (1 : Int) < (j : Int) := by omega
        have hgd := hG.out 0 d hd0
        have z4 : ((d.toNat : Int) == 48) = true := by rw [h3]; rfl
        have hlp : 0 < len := by omega
        replace hb := Lib.hid hb; replace hd0 := Lib.hid hd0; replace h3 := Lib.hid h3
        go_wp2_with fail
        go_ret3
        exact ⟨hbadE.out hb.out, 0, rfl⟩
      · have z1 : ((j : Int) == 0) = false := beq_eq_false_iff_ne.2 (by omega)
        have z2 : ¬ ((9 : Int) < (j : Int)) := by omega
        have hgd := hG.out 0 d hd0
        have hlp : 0 < len := by omega
        have hxk := hX.out j
        rcases h3 with h3 | h3
        · have z3 : ¬ ((1 : Int) < (j : Int)) := by omega
          replace hb := Lib.hid hb; replace hd0 := Lib.hid hd0; replace h3 := Lib.hid h3
          go_wp2_with fail
          go_big_quiet ((fail))
          go_wp2_with fail
          go_ret3
          exact ⟨hokE.out n (s.drop j) hb.out, nq, rfl⟩
        · have z4 : ((d.toNat : Int) == 48) = false := beq_eq_false_iff_ne.2 (by omega)
          replace hb := Lib.hid hb; replace hd0 := Lib.hid hd0; replace h3 := Lib.hid h3
          rcases (by omega : j = 1 ∨ 2 ≤ j) with h5 | h5
          · have z3 : ¬ ((1 : Int) < (j : Int)) := by omega
            replace h5 := Lib.hid h5
            go_wp2_with fail
            go_big_quiet ((fail))
            go_wp2_with fail
            go_ret3
            exact ⟨hokE.out n (s.drop j) hb.out, nq, rfl⟩
          · have z3 : (1 : Int) < (j : Int) := by omega
            replace h5 := Lib.hid h5
            go_wp2_with fail
            go_big_quiet ((fail))
            go_wp2_with fail
            go_ret3
            exact ⟨hokE.out n (s.drop j) hb.out, nq, rfl⟩
end Go.Proofs.YtcklmkjlbpjojaaGreatDoor
