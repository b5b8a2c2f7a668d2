/- Format: closing and outside: where an expression closes, where a sign stands in none. (Printed by wip/tools/mkFC6.py.) -/
import Derived.Test.YtfhdfhlabkeipaaGreatDoorF4
import Derived.Test.YtfhdfhlabkeipaaGreatDoorC5
namespace Go.Proofs.YtfhdfhlabkeipaaGreatDoor
open Go.RowKit
set_option linter.unusedSimpArgs false
set_option linter.unusedVariables false

set_option maxHeartbeats 1000000 in
set_option maxRecDepth 100000 in
theorem closing_any (P : B) (i : Nat) (w : World) (hP : P.length ≤ 100000) (hi : i ≤ P.length) :
    Calls Tryz.prog 36 #[.string (st P), .int .i64 i] w fun e w' => e = .returned (.int .i64 (idx (closeL (P.drop i) 1 i))) ∧ w' = w := by
  obtain ⟨S, hS⟩ : ∃ S, S = st P := ⟨_, rfl⟩
  obtain ⟨len, hlen⟩ : ∃ len, len = P.length := ⟨_, rfl⟩
  have hZ : S.size = len := by rw [hS, st_size, hlen]
  rw [← hS]
  rw [← hlen] at hP
  replace hS := Lib.hid hS; replace hlen := Lib.hid hlen
  rw [← hlen.out] at hi
  go_enter Tryz.func36, Tryz.ntmps36
  go_wp2_with fail
  go_loopw [1, 5] (fun kv dv wr => ∃ (k d : Nat), kv = .int .i64 k ∧ dv = .int .i64 d ∧ wr = w ∧ k ≤ len ∧ 1 ≤ d ∧ d ≤ k + 1 ∧ Hid (closeL (P.drop i) 1 i = closeL (P.drop k) d k)) (fun kv _ _ => 100010 - (intOf kv).toNat)
  case atStart => exact ⟨i, 1, rfl, rfl, rfl, hi, by omega, by omega, Lib.hid rfl⟩
  case round =>
    obtain ⟨k, d, rfl, rfl, rfl, hk, hd1, hd2, hI⟩ := hrel
    have hwk : IntKind.i64.wrap ((k : Int) + 1) = ((k + 1 : Nat) : Int) := by rw [IntKind.wrap_i64]; omega
    have hwk2 : IntKind.i64.wrap (((k + 1 : Nat) : Int) + 1) = ((k + 2 : Nat) : Int) := by rw [IntKind.wrap_i64]; omega
    have hwk2b : IntKind.i64.wrap ((k : Int) + 1 + 1) = ((k + 2 : Nat) : Int) := by rw [IntKind.wrap_i64]; omega
    have hwd2 : IntKind.i64.wrap ((d : Int) + 1) = ((d + 1 : Nat) : Int) := by rw [IntKind.wrap_i64]; omega
    have hwd : IntKind.i64.wrap ((d : Int) - 1) = ((d - 1 : Nat) : Int) := by rw [IntKind.wrap_i64]; omega
    by_cases hlt : k < len
    · obtain ⟨c, hc⟩ : ∃ c, P[k]? = some c := ⟨P[k]'(by rw [← hlen.out]; exact hlt), List.getElem?_eq_getElem _⟩
      have hg := get_at hc hS.out
      have hlti : (k : Int) < (len : Int) := by omega
      by_cases h125 : c = 125
      · have e125 : (c.toNat : Int) = 125 := u8_eq (n := 125) (by omega) h125
        by_cases hd : d = 1
        · subst hd
          have hr : closeL (P.drop i) 1 i = some k := hI.out.trans (cl_end hc h125)
          replace hr := Lib.hid hr; replace hI := Lib.hid hI.out; replace hc := Lib.hid hc
          go_wp2_with fail
          go_ret
          exact ⟨by rw [hr.out]; rfl, rfl⟩
        · obtain ⟨d', hd'⟩ : ∃ d', d = d' + 2 := ⟨d - 2, by omega⟩
          have hS2 := hI.out.trans (cl_less hc h125 hd)
          subst hd'
          rw [show d' + 2 - 1 = d' + 1 by omega] at hS2
          have hwd' : IntKind.i64.wrap (((d' + 2 : Nat) : Int) - 1) = ((d' + 1 : Nat) : Int) := by rw [IntKind.wrap_i64]; omega
          have hd0 : ¬ (((d' + 1 : Nat) : Int) = 0) := by omega
          clear hwd
          replace hS2 := Lib.hid hS2; replace hI := Lib.hid hI.out; replace hc := Lib.hid hc
          go_wp2_with fail
          exact ⟨⟨k + 1, d' + 1, rfl, by first | rfl | rw [hwd'] | exact congrArg _ (by omega), by first | trivial | rfl, by omega, by omega, by omega, hS2⟩, by simp [intOf]; omega⟩
      · have e125 : ¬ ((c.toNat : Int) = 125) := u8_ne (n := 125) (by omega) h125
        by_cases h35 : c = 35
        · have e35 : (c.toNat : Int) = 35 := u8_eq (n := 35) (by omega) h35
          by_cases hk1 : k + 1 < len
          · obtain ⟨e, he⟩ : ∃ e, P[k + 1]? = some e := ⟨P[k + 1]'(by rw [← hlen.out]; exact hk1), List.getElem?_eq_getElem _⟩
            have hge := get_at he hS.out
            have hk1i : (k : Int) + 1 < (len : Int) := by omega
            by_cases q1 : e = 123
            · have f1 : (e.toNat : Int) = 123 := u8_eq (n := 123) (by omega) q1
              have hS2 := hI.out.trans (cl_open hc h35 he q1)
              replace hS2 := Lib.hid hS2; replace hI := Lib.hid hI.out; replace hc := Lib.hid hc; replace he := Lib.hid he
              go_wp2_with fail
              exact ⟨⟨k + 2, d + 1, rfl, by first | rfl | rw [hwd], by first | trivial | rfl, by omega, by omega, by omega, hS2⟩, by simp [intOf]; omega⟩
            · have f1 : ¬ ((e.toNat : Int) = 123) := u8_ne (n := 123) (by omega) q1
              by_cases q2 : e = 35
              · have f2 : (e.toNat : Int) = 35 := u8_eq (n := 35) (by omega) q2
                have hS2 := hI.out.trans (cl_pair hc h35 he q1 (.inl q2))
                replace hS2 := Lib.hid hS2; replace hI := Lib.hid hI.out; replace hc := Lib.hid hc; replace he := Lib.hid he
                go_wp2_with fail
                exact ⟨⟨k + 2, d, rfl, by first | rfl | rw [hwd], by first | trivial | rfl, by omega, by omega, by omega, hS2⟩, by simp [intOf]; omega⟩
              · have f2 : ¬ ((e.toNat : Int) = 35) := u8_ne (n := 35) (by omega) q2
                by_cases q3 : e = 44
                · have f3 : (e.toNat : Int) = 44 := u8_eq (n := 44) (by omega) q3
                  have hS2 := hI.out.trans (cl_pair hc h35 he q1 (.inr (.inl q3)))
                  replace hS2 := Lib.hid hS2; replace hI := Lib.hid hI.out; replace hc := Lib.hid hc; replace he := Lib.hid he
                  go_wp2_with fail
                  exact ⟨⟨k + 2, d, rfl, by first | rfl | rw [hwd], by first | trivial | rfl, by omega, by omega, by omega, hS2⟩, by simp [intOf]; omega⟩
                · have f3 : ¬ ((e.toNat : Int) = 44) := u8_ne (n := 44) (by omega) q3
                  by_cases q4 : e = 125
                  · have f4 : (e.toNat : Int) = 125 := u8_eq (n := 125) (by omega) q4
                    have hS2 := hI.out.trans (cl_pair hc h35 he q1 (.inr (.inr q4)))
                    replace hS2 := Lib.hid hS2; replace hI := Lib.hid hI.out; replace hc := Lib.hid hc; replace he := Lib.hid he
                    go_wp2_with fail
                    exact ⟨⟨k + 2, d, rfl, by first | rfl | rw [hwd], by first | trivial | rfl, by omega, by omega, by omega, hS2⟩, by simp [intOf]; omega⟩
                  · have f4 : ¬ ((e.toNat : Int) = 125) := u8_ne (n := 125) (by omega) q4
                    have hS2 := hI.out.trans (cl_one hc h125 (.inr (.inr ⟨e, he, q1, by rintro (h | h | h); exact q2 h; exact q3 h; exact q4 h⟩)))
                    replace hS2 := Lib.hid hS2; replace hI := Lib.hid hI.out; replace hc := Lib.hid hc; replace he := Lib.hid he
                    go_wp2_with fail
                    exact ⟨⟨k + 1, d, rfl, by first | rfl | rw [hwd], by first | trivial | rfl, by omega, by omega, by omega, hS2⟩, by simp [intOf]; omega⟩
          · have hk1i : ¬ ((k : Int) + 1 < (len : Int)) := by omega
            have hS2 := hI.out.trans (cl_one hc h125 (.inr (.inl (by rw [← hlen.out]; omega))))
            replace hS2 := Lib.hid hS2; replace hI := Lib.hid hI.out; replace hc := Lib.hid hc
            go_wp2_with fail
            exact ⟨⟨k + 1, d, rfl, by first | rfl | rw [hwd], by first | trivial | rfl, by omega, by omega, by omega, hS2⟩, by simp [intOf]; omega⟩
        · have e35 : ¬ ((c.toNat : Int) = 35) := u8_ne (n := 35) (by omega) h35
          have hS2 := hI.out.trans (cl_one hc h125 (.inl h35))
          replace hS2 := Lib.hid hS2; replace hI := Lib.hid hI.out; replace hc := Lib.hid hc
          go_wp2_with fail
          exact ⟨⟨k + 1, d, rfl, by first | rfl | rw [hwd], by first | trivial | rfl, by omega, by omega, by omega, hS2⟩, by simp [intOf]; omega⟩
    · have hlti : ¬ ((k : Int) < (len : Int)) := by omega
      have hr : closeL (P.drop i) 1 i = none := hI.out.trans (cl_out (by rw [← hlen.out]; omega))
      replace hr := Lib.hid hr; replace hI := Lib.hid hI.out
      go_wp2_with fail
      go_ret
      exact ⟨by rw [hr.out]; rfl, rfl⟩

set_option maxHeartbeats 1000000 in
set_option maxRecDepth 100000 in
theorem outside_any (P : B) (sign : UInt8) (w : World) (hP : P.length ≤ 100000) (hsg : sign = 44 ∨ sign = 58) :
    Calls Tryz.prog 54 #[.string (st P), .int .u8 (sign.toNat : Int)] w fun e w' => e = .returned (.int .i64 (idx (outL sign P 0 0))) ∧ w' = w := by
  obtain ⟨S, hS⟩ : ∃ S, S = st P := ⟨_, rfl⟩
  obtain ⟨len, hlen⟩ : ∃ len, len = P.length := ⟨_, rfl⟩
  have hZ : S.size = len := by rw [hS, st_size, hlen]
  rw [← hS]
  rw [← hlen] at hP
  replace hS := Lib.hid hS; replace hlen := Lib.hid hlen
  go_enter Tryz.func54, Tryz.ntmps54
  go_wp2_with fail
  go_loopw [6, 5] (fun kv dv wr => ∃ (k d : Nat), kv = .int .i64 k ∧ dv = .int .i64 d ∧ wr = w ∧ k ≤ len ∧ 0 ≤ d ∧ d ≤ k ∧ Hid (outL sign P 0 0 = outL sign (P.drop k) d k)) (fun kv _ _ => 100010 - (intOf kv).toNat)
  case atStart => exact ⟨0, 0, rfl, rfl, rfl, Nat.zero_le _, by omega, by omega, Lib.hid (by simp)⟩
  case round =>
    obtain ⟨k, d, rfl, rfl, rfl, hk, hd1, hd2, hI⟩ := hrel
    have hwk : IntKind.i64.wrap ((k : Int) + 1) = ((k + 1 : Nat) : Int) := by rw [IntKind.wrap_i64]; omega
    have hwk2 : IntKind.i64.wrap (((k + 1 : Nat) : Int) + 1) = ((k + 2 : Nat) : Int) := by rw [IntKind.wrap_i64]; omega
    have hwk2b : IntKind.i64.wrap ((k : Int) + 1 + 1) = ((k + 2 : Nat) : Int) := by rw [IntKind.wrap_i64]; omega
    have hwd2 : IntKind.i64.wrap ((d : Int) + 1) = ((d + 1 : Nat) : Int) := by rw [IntKind.wrap_i64]; omega
    have hwd : IntKind.i64.wrap ((d : Int) - 1) = ((d - 1 : Nat) : Int) ∨ d = 0 := by rw [IntKind.wrap_i64]; omega
    by_cases hlt : k < len
    · obtain ⟨c, hc⟩ : ∃ c, P[k]? = some c := ⟨P[k]'(by rw [← hlen.out]; exact hlt), List.getElem?_eq_getElem _⟩
      have hg := get_at hc hS.out
      have hlti : (k : Int) < (len : Int) := by omega
      by_cases hend : d = 0 ∧ c = sign
      · obtain ⟨hd0, hcs⟩ := hend
        subst hd0
        have hr : outL sign P 0 0 = some k := hI.out.trans (ol_end hc rfl hcs)
        have ecs : (c.toNat : Int) = (sign.toNat : Int) := by rw [hcs]
        replace hr := Lib.hid hr; replace hI := Lib.hid hI.out; replace hc := Lib.hid hc; replace hwd := Lib.hid hwd; replace hsg := Lib.hid hsg; replace hcs := Lib.hid hcs
        go_wp2_with fail
        go_ret
        exact ⟨by rw [hr.out]; rfl, rfl⟩
      · have hn := hend
        have hdc : (¬ ((d : Int) = 0)) ∨ ((d : Int) = 0 ∧ ¬ ((c.toNat : Int) = (sign.toNat : Int))) := by
          by_cases h0 : d = 0
          · exact .inr ⟨by omega, fun h => hend ⟨h0, UInt8.toNat_inj.1 (by omega)⟩⟩
          · exact .inl (by omega)
        replace hend := Lib.hid hend
        rcases hdc with hd0 | ⟨hd0, hcs⟩
        · obtain ⟨d', hd'⟩ : ∃ d', d = d' + 1 := ⟨d - 1, by omega⟩
          subst hd'
          have hwd' : IntKind.i64.wrap (((d' + 1 : Nat) : Int) - 1) = (d' : Int) := by rw [IntKind.wrap_i64]; omega
          have hdp : (0 : Int) < ((d' + 1 : Nat) : Int) := by omega
          clear hwd
          by_cases h125 : c = 125
          · have e125 : (c.toNat : Int) = 125 := u8_eq (n := 125) (by omega) h125
            have hS2 := hI.out.trans (ol_less hc hn h125 (by omega))
            rw [show d' + 1 - 1 = d' by omega] at hS2
            replace hS2 := Lib.hid hS2; replace hI := Lib.hid hI.out; replace hc := Lib.hid hc; replace hn := Lib.hid hn; replace hsg := Lib.hid hsg
            go_wp2_with fail
            exact ⟨⟨k + 1, d', rfl, by first | rfl | rw [hwd'], by first | trivial | rfl, by omega, by omega, by omega, hS2⟩, by simp [intOf]; omega⟩
          · have e125 : ¬ ((c.toNat : Int) = 125) := u8_ne (n := 125) (by omega) h125
            have h125n : ¬ (c = 125 ∧ 0 < d' + 1) := fun h => h125 h.1
            obtain ⟨d, hd⟩ : ∃ d, d = d' + 1 := ⟨_, rfl⟩
            rw [← hd] at hd1 hd2 hI hwd2 hn hd0 hwd' hdp h125n ⊢
            replace hd := Lib.hid hd
            by_cases h35 : c = 35
            · have e35 : (c.toNat : Int) = 35 := u8_eq (n := 35) (by omega) h35
              by_cases hk1 : k + 1 < len
              · obtain ⟨e, he⟩ : ∃ e, P[k + 1]? = some e := ⟨P[k + 1]'(by rw [← hlen.out]; exact hk1), List.getElem?_eq_getElem _⟩
                have hge := get_at he hS.out
                have hk1i : (k : Int) + 1 < (len : Int) := by omega
                by_cases q1 : e = 123
                · have f1 : (e.toNat : Int) = 123 := u8_eq (n := 123) (by omega) q1
                  have hS2 := hI.out.trans (ol_open hc hn h35 he q1)
                  replace hS2 := Lib.hid hS2; replace hI := Lib.hid hI.out; replace hn := Lib.hid hn; replace hsg := Lib.hid hsg; replace h125n := Lib.hid h125n; replace hc := Lib.hid hc; replace he := Lib.hid he
                  go_wp2_with fail
                  exact ⟨⟨k + 2, d + 1, rfl, by first | rfl | rw [hwd'], by first | trivial | rfl, by omega, by omega, by omega, hS2⟩, by simp [intOf]; omega⟩
                · have f1 : ¬ ((e.toNat : Int) = 123) := u8_ne (n := 123) (by omega) q1
                  by_cases q2 : e = 35
                  · have f2 : (e.toNat : Int) = 35 := u8_eq (n := 35) (by omega) q2
                    have hS2 := hI.out.trans (ol_pair hc hn h35 he q1 (.inl q2))
                    replace hS2 := Lib.hid hS2; replace hI := Lib.hid hI.out; replace hn := Lib.hid hn; replace hsg := Lib.hid hsg; replace h125n := Lib.hid h125n; replace hc := Lib.hid hc; replace he := Lib.hid he
                    go_wp2_with fail
                    exact ⟨⟨k + 2, d, rfl, by first | rfl | rw [hwd'], by first | trivial | rfl, by omega, by omega, by omega, hS2⟩, by simp [intOf]; omega⟩
                  · have f2 : ¬ ((e.toNat : Int) = 35) := u8_ne (n := 35) (by omega) q2
                    by_cases q3 : e = 44
                    · have f3 : (e.toNat : Int) = 44 := u8_eq (n := 44) (by omega) q3
                      have hS2 := hI.out.trans (ol_pair hc hn h35 he q1 (.inr (.inl q3)))
                      replace hS2 := Lib.hid hS2; replace hI := Lib.hid hI.out; replace hn := Lib.hid hn; replace hsg := Lib.hid hsg; replace h125n := Lib.hid h125n; replace hc := Lib.hid hc; replace he := Lib.hid he
                      go_wp2_with fail
                      exact ⟨⟨k + 2, d, rfl, by first | rfl | rw [hwd'], by first | trivial | rfl, by omega, by omega, by omega, hS2⟩, by simp [intOf]; omega⟩
                    · have f3 : ¬ ((e.toNat : Int) = 44) := u8_ne (n := 44) (by omega) q3
                      by_cases q4 : e = 125
                      · have f4 : (e.toNat : Int) = 125 := u8_eq (n := 125) (by omega) q4
                        have hS2 := hI.out.trans (ol_pair hc hn h35 he q1 (.inr (.inr q4)))
                        replace hS2 := Lib.hid hS2; replace hI := Lib.hid hI.out; replace hn := Lib.hid hn; replace hsg := Lib.hid hsg; replace h125n := Lib.hid h125n; replace hc := Lib.hid hc; replace he := Lib.hid he
                        go_wp2_with fail
                        exact ⟨⟨k + 2, d, rfl, by first | rfl | rw [hwd'], by first | trivial | rfl, by omega, by omega, by omega, hS2⟩, by simp [intOf]; omega⟩
                      · have f4 : ¬ ((e.toNat : Int) = 125) := u8_ne (n := 125) (by omega) q4
                        have hS2 := hI.out.trans (ol_one hc hn h125n (.inr (.inr ⟨e, he, q1, by rintro (h | h | h); exact q2 h; exact q3 h; exact q4 h⟩)))
                        replace hS2 := Lib.hid hS2; replace hI := Lib.hid hI.out; replace hn := Lib.hid hn; replace hsg := Lib.hid hsg; replace h125n := Lib.hid h125n; replace hc := Lib.hid hc; replace he := Lib.hid he
                        go_wp2_with fail
                        exact ⟨⟨k + 1, d, rfl, by first | rfl | rw [hwd'], by first | trivial | rfl, by omega, by omega, by omega, hS2⟩, by simp [intOf]; omega⟩
              · have hk1i : ¬ ((k : Int) + 1 < (len : Int)) := by omega
                have hS2 := hI.out.trans (ol_one hc hn h125n (.inr (.inl (by rw [← hlen.out]; omega))))
                replace hS2 := Lib.hid hS2; replace hI := Lib.hid hI.out; replace hn := Lib.hid hn; replace hsg := Lib.hid hsg; replace h125n := Lib.hid h125n; replace hc := Lib.hid hc
                go_wp2_with fail
                exact ⟨⟨k + 1, d, rfl, by first | rfl | rw [hwd'], by first | trivial | rfl, by omega, by omega, by omega, hS2⟩, by simp [intOf]; omega⟩
            · have e35 : ¬ ((c.toNat : Int) = 35) := u8_ne (n := 35) (by omega) h35
              have hS2 := hI.out.trans (ol_one hc hn h125n (.inl h35))
              replace hS2 := Lib.hid hS2; replace hI := Lib.hid hI.out; replace hc := Lib.hid hc; replace hn := Lib.hid hn; replace hsg := Lib.hid hsg; replace h125n := Lib.hid h125n
              go_wp2_with fail
              exact ⟨⟨k + 1, d, rfl, by first | rfl | rw [hwd'], by first | trivial | rfl, by omega, by omega, by omega, hS2⟩, by simp [intOf]; omega⟩
        · have hdz : d = 0 := by omega
          subst hdz
          clear hwd hd0
          have h125n : ¬ (c = 125 ∧ 0 < 0) := fun h => absurd h.2 (by omega)
          obtain ⟨d, hd⟩ : ∃ d : Nat, d = 0 := ⟨_, rfl⟩
          by_cases h125 : c = 125
          · have e125 : (c.toNat : Int) = 125 := u8_eq (n := 125) (by omega) h125
            have hS2 := hI.out.trans (ol_one hc hn h125n (.inl (by rw [h125]; decide)))
            replace hS2 := Lib.hid hS2; replace hI := Lib.hid hI.out; replace hc := Lib.hid hc; replace hn := Lib.hid hn; replace hsg := Lib.hid hsg; replace h125n := Lib.hid h125n; replace hd := Lib.hid hd
            go_wp2_with fail
            exact ⟨⟨k + 1, 0, rfl, rfl, by first | trivial | rfl, by omega, by omega, by omega, hS2⟩, by simp [intOf]; omega⟩
          · have e125 : ¬ ((c.toNat : Int) = 125) := u8_ne (n := 125) (by omega) h125
            by_cases h35 : c = 35
            · have e35 : (c.toNat : Int) = 35 := u8_eq (n := 35) (by omega) h35
              by_cases hk1 : k + 1 < len
              · obtain ⟨e, he⟩ : ∃ e, P[k + 1]? = some e := ⟨P[k + 1]'(by rw [← hlen.out]; exact hk1), List.getElem?_eq_getElem _⟩
                have hge := get_at he hS.out
                have hk1i : (k : Int) + 1 < (len : Int) := by omega
                by_cases q1 : e = 123
                · have f1 : (e.toNat : Int) = 123 := u8_eq (n := 123) (by omega) q1
                  have hS2 := hI.out.trans (ol_open hc hn h35 he q1)
                  replace hS2 := Lib.hid hS2; replace hI := Lib.hid hI.out; replace hn := Lib.hid hn; replace hsg := Lib.hid hsg; replace h125n := Lib.hid h125n; replace hd := Lib.hid hd; replace hc := Lib.hid hc; replace he := Lib.hid he
                  go_wp2_with fail
                  exact ⟨⟨k + 2, 1, rfl, by first | rfl | rw [hwk], by first | trivial | rfl, by omega, by omega, by omega, hS2⟩, by simp [intOf]; omega⟩
                · have f1 : ¬ ((e.toNat : Int) = 123) := u8_ne (n := 123) (by omega) q1
                  by_cases q2 : e = 35
                  · have f2 : (e.toNat : Int) = 35 := u8_eq (n := 35) (by omega) q2
                    have hS2 := hI.out.trans (ol_pair hc hn h35 he q1 (.inl q2))
                    replace hS2 := Lib.hid hS2; replace hI := Lib.hid hI.out; replace hn := Lib.hid hn; replace hsg := Lib.hid hsg; replace h125n := Lib.hid h125n; replace hd := Lib.hid hd; replace hc := Lib.hid hc; replace he := Lib.hid he
                    go_wp2_with fail
                    exact ⟨⟨k + 2, 0, rfl, by first | rfl | rw [hwk], by first | trivial | rfl, by omega, by omega, by omega, hS2⟩, by simp [intOf]; omega⟩
                  · have f2 : ¬ ((e.toNat : Int) = 35) := u8_ne (n := 35) (by omega) q2
                    by_cases q3 : e = 44
                    · have f3 : (e.toNat : Int) = 44 := u8_eq (n := 44) (by omega) q3
                      have hS2 := hI.out.trans (ol_pair hc hn h35 he q1 (.inr (.inl q3)))
                      replace hS2 := Lib.hid hS2; replace hI := Lib.hid hI.out; replace hn := Lib.hid hn; replace hsg := Lib.hid hsg; replace h125n := Lib.hid h125n; replace hd := Lib.hid hd; replace hc := Lib.hid hc; replace he := Lib.hid he
                      go_wp2_with fail
                      exact ⟨⟨k + 2, 0, rfl, by first | rfl | rw [hwk], by first | trivial | rfl, by omega, by omega, by omega, hS2⟩, by simp [intOf]; omega⟩
                    · have f3 : ¬ ((e.toNat : Int) = 44) := u8_ne (n := 44) (by omega) q3
                      by_cases q4 : e = 125
                      · have f4 : (e.toNat : Int) = 125 := u8_eq (n := 125) (by omega) q4
                        have hS2 := hI.out.trans (ol_pair hc hn h35 he q1 (.inr (.inr q4)))
                        replace hS2 := Lib.hid hS2; replace hI := Lib.hid hI.out; replace hn := Lib.hid hn; replace hsg := Lib.hid hsg; replace h125n := Lib.hid h125n; replace hd := Lib.hid hd; replace hc := Lib.hid hc; replace he := Lib.hid he
                        go_wp2_with fail
                        exact ⟨⟨k + 2, 0, rfl, by first | rfl | rw [hwk], by first | trivial | rfl, by omega, by omega, by omega, hS2⟩, by simp [intOf]; omega⟩
                      · have f4 : ¬ ((e.toNat : Int) = 125) := u8_ne (n := 125) (by omega) q4
                        have hS2 := hI.out.trans (ol_one hc hn h125n (.inr (.inr ⟨e, he, q1, by rintro (h | h | h); exact q2 h; exact q3 h; exact q4 h⟩)))
                        replace hS2 := Lib.hid hS2; replace hI := Lib.hid hI.out; replace hn := Lib.hid hn; replace hsg := Lib.hid hsg; replace h125n := Lib.hid h125n; replace hd := Lib.hid hd; replace hc := Lib.hid hc; replace he := Lib.hid he
                        go_wp2_with fail
                        exact ⟨⟨k + 1, 0, rfl, by first | rfl | rw [hwk], by first | trivial | rfl, by omega, by omega, by omega, hS2⟩, by simp [intOf]; omega⟩
              · have hk1i : ¬ ((k : Int) + 1 < (len : Int)) := by omega
                have hS2 := hI.out.trans (ol_one hc hn h125n (.inr (.inl (by rw [← hlen.out]; omega))))
                replace hS2 := Lib.hid hS2; replace hI := Lib.hid hI.out; replace hn := Lib.hid hn; replace hsg := Lib.hid hsg; replace h125n := Lib.hid h125n; replace hd := Lib.hid hd; replace hc := Lib.hid hc
                go_wp2_with fail
                exact ⟨⟨k + 1, 0, rfl, by first | rfl | rw [hwk], by first | trivial | rfl, by omega, by omega, by omega, hS2⟩, by simp [intOf]; omega⟩
            · have e35 : ¬ ((c.toNat : Int) = 35) := u8_ne (n := 35) (by omega) h35
              have hS2 := hI.out.trans (ol_one hc hn h125n (.inl h35))
              replace hS2 := Lib.hid hS2; replace hI := Lib.hid hI.out; replace hc := Lib.hid hc; replace hn := Lib.hid hn; replace hsg := Lib.hid hsg; replace h125n := Lib.hid h125n; replace hd := Lib.hid hd
              go_wp2_with fail
              exact ⟨⟨k + 1, 0, rfl, by first | rfl | rw [hwk], by first | trivial | rfl, by omega, by omega, by omega, hS2⟩, by simp [intOf]; omega⟩
    · have hlti : ¬ ((k : Int) < (len : Int)) := by omega
      have hr : outL sign P 0 0 = none := hI.out.trans (ol_out (by rw [← hlen.out]; omega))
      replace hr := Lib.hid hr; replace hI := Lib.hid hI.out; replace hwd := Lib.hid hwd; replace hsg := Lib.hid hsg
      go_wp2_with fail
      go_ret
      exact ⟨by rw [hr.out]; rfl, rfl⟩
end Go.Proofs.YtfhdfhlabkeipaaGreatDoor
