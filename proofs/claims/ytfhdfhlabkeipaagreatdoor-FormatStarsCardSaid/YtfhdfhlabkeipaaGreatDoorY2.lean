/- Format: FormatStars returns true. -/
import Derived.Test.YtfhdfhlabkeipaaGreatDoorF6
namespace Go.Proofs.YtfhdfhlabkeipaaGreatDoor
open Go.RowKit
set_option linter.unusedSimpArgs false
set_option linter.unusedVariables false

section
variable {ops : Array Oper} {rest : List Oper} {o : Oper} {a : Act} {Q : Exit → Act → World → Prop} {w : World}
/-- append of two bytes. -/
theorem ap35two (hgd : o.guard = none) (s x : Operand) (ho : o.op = .call { callee := .builtin .append, args := #[s, x], argTypes := #[35, 35] })
    (base : Nat) (v : Value) (n : Nat) (xs : List Value) (hs : a.eval s = v) (hown : w.ownsRow base 5 1 v n xs) (g : Nat) (u1 u2 : UInt8) (hx : a.eval x = .slice (some ⟨g, 0, none⟩) 2 2) (hg : w.heap[g]? = some (.cells #[.int .u8 (u1.toNat : Int), .int .u8 (u2.toNat : Int)] 5 (0, 0)))
    (hb : n ≤ 100000000) (hbase : base ≤ w.heap.size)
    (h : ∀ A' c' w', w'.ownsRow base 5 1 (.slice A' (n + 2) c') (n + 2) (xs ++ [b8 u1, b8 u2]) → w.grownBy w' v.ownBlock → wpList Tryz.prog ops Q rest (a.put o.dst (.slice A' (n + 2) c')) w') : wpList Tryz.prog ops Q (o :: rest) a w := by
  obtain ⟨i0, hi0, hz0, hz1, hz2⟩ := info_parts info5
  exact wpList_append_rd w hgd s x 35 ho base 5 i0 _ 1 1 Tryz.underlying35 hi0 hz0 hz1 hz2 rfl (by omega) v n xs hs hown (some ⟨g, 0, none⟩) 2 2 [b8 u1, b8 u2] hx rfl (rd_block hg) (by intro q hq; simp at hq; rcases hq with rfl | rfl <;> rfl) (by unfold maxLen; omega) (by omega) hbase fun A' c' w' h1 h2 _ => h A' c' w' h1 h2
end
theorem ends_eq (a c : B) (h : a.length ≤ c.length) : (c.drop (c.length - a.length) == a) = decide (a <:+ c) := by
  rw [Bool.eq_iff_iff, beq_iff_eq, decide_eq_true_eq]
  constructor
  · intro e
    rw [← e]
    exact List.drop_suffix _ _
  · rintro ⟨t, rfl⟩
    have : (t ++ a).length - a.length = t.length := by rw [List.length_append]; omega
    rw [this, List.drop_left]
theorem begins_eq (a c : B) : (c.take a.length == a) = decide (a <+: c) := by
  rw [Bool.eq_iff_iff, beq_iff_eq, decide_eq_true_eq]
  constructor
  · intro e
    rw [← e]
    exact List.take_prefix _ _
  · rintro ⟨t, rfl⟩
    rw [List.take_left]
theorem short_ends (a c : B) (h : ¬ a.length ≤ c.length) : decide (a <:+ c) = false ∧ decide (a <+: c) = false := by
  constructor
  · rw [decide_eq_false_iff_not]; intro e; exact h e.length_le
  · rw [decide_eq_false_iff_not]; intro e; exact h e.length_le
theorem st_app (a b : B) : st a ++ st b = st (a ++ b) := by
  apply ByteArray.ext
  simp [st]
theorem esc_take (a : B) (i : Nat) {c : UInt8} (h : a[i]? = some c) : esc (a.take (i + 1)) = esc (a.take i) ++ [92, c] := by
  rw [take_at h, esc_app]
  rfl
set_option maxRecDepth 100000 in
set_option maxHeartbeats 4000000 in
theorem stars_any (a c : B) (w : World) (hTB : TB w.heap.size w) :
    Calls Tryz.prog 4 #[.string (st a), .string (st c)] w fun e w' => e = .returned (.bool true) ∧ w.grownBy w' none := by
  have CS := Lib.hid (shown_any w hTB)
  have CM : Hid (∀ (P S : B) (W : World), P.length ≤ 3000 → S.length ≤ 3000 → Calls Tryz.prog 13 #[.string (st P), .string (st S)] W fun e w' => e = .returned (.bool (matchL P S)) ∧ W.grownBy w' none) := Lib.hid fun P S W h1 h2 => match_any P S W (by omega) (by omega)
  obtain ⟨SA, hSA⟩ : ∃ S, S = st a := ⟨_, rfl⟩
  obtain ⟨SC, hSC⟩ : ∃ S, S = st c := ⟨_, rfl⟩
  obtain ⟨la, hla⟩ : ∃ l, l = a.length := ⟨_, rfl⟩
  obtain ⟨lc, hlc⟩ : ∃ l, l = c.length := ⟨_, rfl⟩
  have hZA : SA.size = la := by rw [hSA, st_size, hla]
  have hZC : SC.size = lc := by rw [hSC, st_size, hlc]
  rw [← hSA, ← hSC]
  replace hSA := Lib.hid hSA; replace hSC := Lib.hid hSC; replace hla := Lib.hid hla; replace hlc := Lib.hid hlc; replace hTB := Lib.hid hTB
  by_cases h1 : la ≤ 1000
  · have h1i : ¬ ((1000 : Int) < (la : Int)) := by omega
    by_cases h2 : lc ≤ 1000
    · have h2i : ¬ ((1000 : Int) < (lc : Int)) := by omega
      go_enter Tryz.func4, Tryz.ntmps4
      go_wp2_with fail
      refine CS.out.mono ?_
      rintro e w1 ⟨rfl, G1⟩
      obtain ⟨base, hbase⟩ : ∃ b, b = w.heap.size := ⟨_, rfl⟩
      replace G1 := Lib.hid G1; replace hbase := Lib.hid hbase
      go_wp2_with fail
      go_loopw [6, 7] (fun bv iv wr => ∃ (i : Nat) (A : Option Addr) (cp : Nat), bv = .slice A (2 * i) cp ∧ iv = .int .i64 (i : Int) ∧ i ≤ la ∧ Hid (wr.ownsRow base 5 1 (.slice A (2 * i) cp) (2 * i) (bs (esc (a.take i))) ∧ w.grownBy wr none)) (fun _ iv _ => la - (intOf iv).toNat)
      case atStart => exact ⟨0, none, 0, rfl, rfl, Nat.zero_le _, Lib.hid ⟨World.ownsRow_nil _ _ _ _, G1.out⟩⟩
      case round =>
        obtain ⟨i, A, cp, rfl, rfl, hi, hI⟩ := hrel
        obtain ⟨hO, hG⟩ := hI.out
        have hbW : base ≤ wr.heap.size := by rw [hbase.out]; exact hG.size
        by_cases hlt : i < la
        · have hlti : (i : Int) < (la : Int) := by omega
          obtain ⟨x, hx⟩ : ∃ x, a[i]? = some x := ⟨a[i]'(by rw [← hla.out]; exact hlt), List.getElem?_eq_getElem _⟩
          have hg := get_at hx hSA.out
          have he := esc_take a i hx
          have hw1 : IntKind.i64.wrap ((i : Int) + 1) = ((i + 1 : Nat) : Int) := by rw [IntKind.wrap_i64]; omega
          replace hx := Lib.hid hx; replace he := Lib.hid he; replace hO := Lib.hid hO; replace hG := Lib.hid hG; replace hI := Lib.hid hI; replace hbW := Lib.hid hbW
          go_wp2_with (at_builtin; refine ap35two rfl (.tmp 27) (.tmp 31) rfl base (.slice A (2 * i) cp) (2 * i) (bs (esc (a.take i))) rfl (own_keep hO.out (World.grownBy_alloc _ _ none)) wr.heap.size 92 x rfl (heap_alloc_new wr _) (by omega) (by exact Nat.le_trans hbW.out (World.grownBy_alloc _ _ none).size) ?_; intro A' c' w' q1 q2; replace q1 := Lib.hid q1; replace q2 := Lib.hid q2)
          have hGn := g_own (a' := wr) (g_alloc hG.out _) hO.out (by rw [hbase.out]; exact Nat.le_refl _) q2.out
          exact ⟨⟨i + 1, A', c', by rw [Nat.mul_add], by first | rfl | rw [hw1], by omega, Lib.hid ⟨by rw [he.out, bs_append, Nat.mul_add]; exact q1.out, hGn⟩⟩, by first | (simp [intOf]; done) | (simp [intOf]; omega)⟩
        · have hlti : ¬ ((i : Int) < (la : Int)) := by omega
          have hia : i = la := by omega
          subst hia
          have hfull : a.take i = a := List.take_of_length_le (by rw [← hla.out]; exact Nat.le_refl _)
          rw [hfull] at hO
          obtain ⟨A', cp', eA, hrd, _⟩ := Rd.of_own hO
          injection eA with eA _ ec
          subst eA
          subst ec
          have hcv := conv_str (P := Tryz.prog) _ 35 9 5 Tryz.underlying35 Tryz.underlying5 Tryz.underlying9 A (2 * i) cp (esc a) (by rw [esc_len, ← hla.out]) hrd
          obtain ⟨SP, hSP⟩ : ∃ S, S = st (esc a) := ⟨_, rfl⟩
          rw [← hSP] at hcv
          have hZP : SP.size = 2 * i := by rw [hSP, st_size, esc_len, ← hla.out]
          have hel : (esc a).length = 2 * i := by rw [esc_len, ← hla.out]
          have hcl := hlc.out
          have hal := hla.out
          have C1 : Hid (∀ W, Calls Tryz.prog 13 #[.string SP, .string SA] W fun e w' => e = .returned (.bool true) ∧ W.grownBy w' none) := Lib.hid fun W => by
            have := CM.out (esc a) a W (by omega) (by omega)
            rw [M_self, ← hSP, ← hSA.out, beq_self_eq_true] at this
            exact this
          have C2 : Hid (∀ W, Calls Tryz.prog 13 #[.string SP, .string SC] W fun e w' => e = .returned (.bool (a == c)) ∧ W.grownBy w' none) := Lib.hid fun W => by
            have := CM.out (esc a) c W (by omega) (by omega)
            rw [M_self, ← hSP, ← hSC.out] at this
            exact this
          have C3 : Hid (∀ W, Calls Tryz.prog 13 #[.string (⟨#[42]⟩ ++ SP), .string SC] W fun e w' => e = .returned (.bool (decide (a <:+ c))) ∧ W.grownBy w' none) := Lib.hid fun W => by
            have := CM.out (42 :: esc a) c W (by rw [List.length_cons]; omega) (by omega)
            rw [M_ends, ← hSC.out, show st (42 :: esc a) = ⟨#[42]⟩ ++ SP by rw [hSP]; exact (st_app [42] (esc a)).symm] at this
            exact this
          have C4 : Hid (∀ W, Calls Tryz.prog 13 #[.string (SP ++ ⟨#[42]⟩), .string SC] W fun e w' => e = .returned (.bool (decide (a <+: c))) ∧ W.grownBy w' none) := Lib.hid fun W => by
            have := CM.out (esc a ++ [42]) c W (by rw [List.length_append, List.length_singleton]; omega) (by omega)
            rw [M_begins, ← hSC.out, show st (esc a ++ [42]) = SP ++ ⟨#[42]⟩ by rw [hSP]; exact (st_app (esc a) [42]).symm] at this
            exact this
          have C5 : Hid (∀ W, Calls Tryz.prog 13 #[.string ⟨#[42]⟩, .string SC] W fun e w' => e = .returned (.bool true) ∧ W.grownBy w' none) := Lib.hid fun W => by
            have := CM.out [42] c W (by decide) (by omega)
            rw [M_all, ← hSC.out] at this
            exact this
          have C6 : Hid (∀ W, Calls Tryz.prog 13 #[.string (SP ++ ⟨#[42]⟩), .string (SA ++ SC)] W fun e w' => e = .returned (.bool true) ∧ W.grownBy w' none) := Lib.hid fun W => by
            have := CM.out (esc a ++ [42]) (a ++ c) W (by rw [List.length_append, List.length_singleton]; omega) (by rw [List.length_append]; omega)
            rw [M_begins, show st (a ++ c) = SA ++ SC by rw [hSA.out, hSC.out, st_app], show st (esc a ++ [42]) = SP ++ ⟨#[42]⟩ by rw [hSP]; exact (st_app (esc a) [42]).symm, decide_eq_true (List.prefix_append a c)] at this
            exact this
          have C7 : Hid (∀ W, Calls Tryz.prog 13 #[.string (⟨#[42]⟩ ++ SP), .string (SC ++ SA)] W fun e w' => e = .returned (.bool true) ∧ W.grownBy w' none) := Lib.hid fun W => by
            have := CM.out (42 :: esc a) (c ++ a) W (by rw [List.length_cons]; omega) (by rw [List.length_append]; omega)
            rw [M_ends, show st (c ++ a) = SC ++ SA by rw [hSA.out, hSC.out, st_app], show st (42 :: esc a) = ⟨#[42]⟩ ++ SP by rw [hSP]; exact (st_app [42] (esc a)).symm, decide_eq_true (List.suffix_append c a)] at this
            exact this
          have hq : (SA.toList == SC.toList) = (a == c) := by rw [hSA.out, hSC.out, eq_str]
          obtain ⟨b1, hb1⟩ : ∃ b, b = (a == c) := ⟨_, rfl⟩
          obtain ⟨b2, hb2⟩ : ∃ b, b = decide (a <:+ c) := ⟨_, rfl⟩
          obtain ⟨b3, hb3⟩ : ∃ b, b = decide (a <+: c) := ⟨_, rfl⟩
          rw [← hb1] at C2 hq
          rw [← hb2] at C3
          rw [← hb3] at C4
          have hbb : ∀ b : Bool, (b == b) = true := fun b => by cases b <;> rfl
          have hbb1 := hbb b1; have hbb2 := hbb b2; have hbb3 := hbb b3
          clear hbb
          replace hSP := Lib.hid hSP; replace hrd := Lib.hid hrd; replace hO := Lib.hid hO; replace hG := Lib.hid hG; replace hI := Lib.hid hI; replace hfull := Lib.hid hfull; replace hb1 := Lib.hid hb1; replace hel := Lib.hid hel; replace hcl := Lib.hid hcl; replace hal := Lib.hid hal; replace hbW := Lib.hid hbW
          by_cases hle : i ≤ lc
          · have hlei : (i : Int) ≤ (lc : Int) := by omega
            have hx2 : SC.extract (lc - i) lc = st (c.drop (lc - i)) := by rw [hSC.out, st_drop _ _ _ hlc.out]
            have hx3 : SC.extract 0 i = st (c.take i) := by rw [hSC.out, st_take]
            have he2 : ((st (c.drop (lc - i))).toList == SA.toList) = b2 := by rw [hSA.out, eq_str, hlc.out, hla.out, ends_eq a c (by rw [← hlc.out, ← hla.out]; exact hle), hb2]
            have he3 : ((st (c.take i)).toList == SA.toList) = b3 := by rw [hSA.out, eq_str, hla.out, begins_eq, hb3]
            obtain ⟨D2, hD2⟩ : ∃ D, D = st (c.drop (lc - i)) := ⟨_, rfl⟩
            obtain ⟨D3, hD3⟩ : ∃ D, D = st (c.take i) := ⟨_, rfl⟩
            rw [← hD2] at hx2 he2
            rw [← hD3] at hx3 he3
            have hws : IntKind.i64.wrap ((lc : Int) - (i : Int)) = ((lc - i : Nat) : Int) := by rw [IntKind.wrap_i64]; omega
            replace hb2 := Lib.hid hb2; replace hb3 := Lib.hid hb3; replace hD2 := Lib.hid hD2; replace hD3 := Lib.hid hD3
            go_wp2_with fail
            refine (C1.out _).mono ?_
            rintro e v1 ⟨rfl, G⟩
            have H1 := hG.out.trans G
            replace H1 := Lib.hid H1
            clear G
            go_wp2_with fail
            refine (C2.out _).mono ?_
            rintro e v2 ⟨rfl, G⟩
            have H2 := H1.out.trans G
            replace H2 := Lib.hid H2
            clear G
            go_wp2_with fail
            refine (C3.out _).mono ?_
            rintro e v3 ⟨rfl, G⟩
            have H3 := H2.out.trans G
            replace H3 := Lib.hid H3
            clear G
            go_wp2_with fail
            refine (C4.out _).mono ?_
            rintro e v4 ⟨rfl, G⟩
            have H4 := H3.out.trans G
            replace H4 := Lib.hid H4
            clear G
            go_wp2_with fail
            refine (C5.out _).mono ?_
            rintro e v5 ⟨rfl, G⟩
            have H5 := H4.out.trans G
            replace H5 := Lib.hid H5
            clear G
            go_wp2_with fail
            refine (C6.out _).mono ?_
            rintro e v6 ⟨rfl, G⟩
            have H6 := H5.out.trans G
            replace H6 := Lib.hid H6
            clear G
            go_wp2_with fail
            refine (C7.out _).mono ?_
            rintro e v7 ⟨rfl, G⟩
            have H7 := H6.out.trans G
            replace H7 := Lib.hid H7
            clear G
            go_wp2_with fail
            go_ret
            exact ⟨by first | rfl | simp, H7.out⟩
          · have hlei : ¬ ((i : Int) ≤ (lc : Int)) := by omega
            obtain ⟨hf2, hf3⟩ := short_ends a c (by rw [← hlc.out, ← hla.out]; exact hle)
            rw [hf2] at hb2
            rw [hf3] at hb3
            subst hb2
            subst hb3
            go_wp2_with fail
            refine (C1.out _).mono ?_
            rintro e v1 ⟨rfl, G⟩
            have H1 := hG.out.trans G
            replace H1 := Lib.hid H1
            clear G
            go_wp2_with fail
            refine (C2.out _).mono ?_
            rintro e v2 ⟨rfl, G⟩
            have H2 := H1.out.trans G
            replace H2 := Lib.hid H2
            clear G
            go_wp2_with fail
            refine (C3.out _).mono ?_
            rintro e v3 ⟨rfl, G⟩
            have H3 := H2.out.trans G
            replace H3 := Lib.hid H3
            clear G
            go_wp2_with fail
            refine (C4.out _).mono ?_
            rintro e v4 ⟨rfl, G⟩
            have H4 := H3.out.trans G
            replace H4 := Lib.hid H4
            clear G
            go_wp2_with fail
            refine (C5.out _).mono ?_
            rintro e v5 ⟨rfl, G⟩
            have H5 := H4.out.trans G
            replace H5 := Lib.hid H5
            clear G
            go_wp2_with fail
            refine (C6.out _).mono ?_
            rintro e v6 ⟨rfl, G⟩
            have H6 := H5.out.trans G
            replace H6 := Lib.hid H6
            clear G
            go_wp2_with fail
            refine (C7.out _).mono ?_
            rintro e v7 ⟨rfl, G⟩
            have H7 := H6.out.trans G
            replace H7 := Lib.hid H7
            clear G
            go_wp2_with fail
            go_ret
            exact ⟨by first | rfl | simp, H7.out⟩
    · have h2i : (1000 : Int) < (lc : Int) := by omega
      go_enter Tryz.func4, Tryz.ntmps4
      go_wp2_with fail
      refine CS.out.mono ?_
      rintro e w1 ⟨rfl, G1⟩
      replace G1 := Lib.hid G1
      go_wp2_with fail
      go_ret
      exact ⟨rfl, G1.out⟩
  · have h1i : (1000 : Int) < (la : Int) := by omega
    go_enter Tryz.func4, Tryz.ntmps4
    go_wp2_with fail
    refine CS.out.mono ?_
    rintro e w1 ⟨rfl, G1⟩
    replace G1 := Lib.hid G1
    go_wp2_with fail
    go_ret
    exact ⟨rfl, G1.out⟩
end Go.Proofs.YtfhdfhlabkeipaaGreatDoor
