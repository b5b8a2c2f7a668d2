/- Format: FormatPlain: quoted. -/
import Derived.Test.YtfhdfhlabkeipaaGreatDoorE2
import Derived.Test.YtfhdfhlabkeipaaGreatDoorW1
namespace Go.Proofs.YtfhdfhlabkeipaaGreatDoor
open Go.RowKit
set_option linter.unusedSimpArgs false
set_option linter.unusedVariables false

theorem quoL_app : ∀ (a b : B), quoL (a ++ b) = quoL a ++ quoL b
  | [], b => rfl
  | c :: a, b => by
    simp only [List.cons_append, quoL]
    split <;> simp [quoL_app a b]
theorem dblL_app : ∀ (a b : B), dblL (a ++ b) = dblL a ++ dblL b
  | [], b => rfl
  | c :: a, b => by
    simp only [List.cons_append, dblL]
    split <;> simp [dblL_app a b]
theorem quo_take (a : B) (i : Nat) {c : UInt8} (h : a[i]? = some c) : quoL (a.take (i + 1)) = quoL (a.take i) ++ quoL [c] := by rw [take_at h, quoL_app]
theorem dbl_take (a : B) (i : Nat) {c : UInt8} (h : a[i]? = some c) : dblL (a.take (i + 1)) = dblL (a.take i) ++ dblL [c] := by rw [take_at h, dblL_app]
theorem quo_two {c : UInt8} (h : c = 35 ∨ c = 125) : quoL [c] = [35, c] := by unfold quoL; rw [if_pos h]; rfl
theorem quo_one {c : UInt8} (h : ¬ (c = 35 ∨ c = 125)) : quoL [c] = [c] := by unfold quoL; rw [if_neg h]; rfl
theorem dbl_two : dblL [35] = [35, 35] := rfl
theorem dbl_one {c : UInt8} (h : c ≠ 35) : dblL [c] = [c] := by unfold dblL; rw [if_neg h]; rfl
theorem quo_le : ∀ s : B, (quoL s).length ≤ 2 * s.length
  | [] => Nat.le_refl _
  | c :: r => by
    have := quo_le r
    unfold quoL
    split <;> simp only [List.length_cons] <;> omega

set_option maxRecDepth 100000 in
set_option maxHeartbeats 4000000 in
theorem quoted_any (a : B) (w : World) (ha : a.length ≤ 2000000) : Calls Tryz.prog 17 #[.string (st a)] w fun e w' => e = .returned (.string (st (quoL a))) ∧ w.grownBy w' none := by
  obtain ⟨SA, hSA⟩ : ∃ S, S = st a := ⟨_, rfl⟩
  obtain ⟨la, hla⟩ : ∃ l, l = a.length := ⟨_, rfl⟩
  have hZA : SA.size = la := by rw [hSA, st_size, hla]
  rw [← hSA]
  rw [← hla] at ha
  obtain ⟨base, hbase⟩ : ∃ b, b = w.heap.size := ⟨_, rfl⟩
  replace hSA := Lib.hid hSA; replace hla := Lib.hid hla; replace hbase := Lib.hid hbase
  go_enter Tryz.func17, Tryz.ntmps17
  go_wp2_with fail
  go_loopw [3, 4] (fun bv iv wr => ∃ (i n : Nat) (A : Option Addr) (cp : Nat), bv = .slice A n cp ∧ iv = .int .i64 (i : Int) ∧ i ≤ la ∧ n ≤ 2 * i ∧ Hid (n = (quoL (a.take i)).length ∧ wr.ownsRow base 5 1 (.slice A n cp) n (bs (quoL (a.take i))) ∧ w.grownBy wr none)) (fun _ iv _ => la - (intOf iv).toNat)
  case atStart => exact ⟨0, 0, none, 0, rfl, rfl, Nat.zero_le _, Nat.zero_le _, Lib.hid ⟨rfl, World.ownsRow_nil _ _ _ _, World.grownBy.refl _ _⟩⟩
  case round =>
    obtain ⟨i, n, A, cp, rfl, rfl, hi, hn, hI⟩ := hrel
    obtain ⟨hnl, hO, hG⟩ := hI.out
    have hbW : base ≤ wr.heap.size := by rw [hbase.out]; exact hG.size
    by_cases hlt : i < la
    · have hlti : (i : Int) < (la : Int) := by omega
      obtain ⟨x, hx⟩ : ∃ x, a[i]? = some x := ⟨a[i]'(by rw [← hla.out]; exact hlt), List.getElem?_eq_getElem _⟩
      have hg := get_at hx hSA.out
      have hq := quo_take a i hx
      have hw1 : IntKind.i64.wrap ((i : Int) + 1) = ((i + 1 : Nat) : Int) := by rw [IntKind.wrap_i64]; omega
      by_cases h35 : x = 35 ∨ x = 125
      · have hq2 : quoL (a.take (i + 1)) = quoL (a.take i) ++ [35, x] := by rw [hq, quo_two h35]
        have hl2 : (quoL (a.take (i + 1))).length = n + 1 + 1 := by rw [hq2, List.length_append, ← hnl]; rfl
        replace hx := Lib.hid hx; replace hq := Lib.hid hq; replace hO := Lib.hid hO; replace hG := Lib.hid hG; replace hI := Lib.hid hI; replace hbW := Lib.hid hbW; replace hnl := Lib.hid hnl; replace hq2 := Lib.hid hq2; replace hl2 := Lib.hid hl2; replace h35 := Lib.hid h35
        rcases h35.out with rfl | rfl
        · go_wp2_with (first
            | (at_builtin; refine ap35 rfl (.tmp 21) (.tmp 22) rfl base (.slice A n cp) n (bs (quoL (a.take i))) rfl (own_keep hO.out (World.grownBy_alloc _ _ none)) wr.heap.size 35 rfl (heap_alloc_new wr _) (by omega) (by exact Nat.le_trans hbW.out (World.grownBy_alloc _ _ none).size) ?_; intro A' c' w' q1 q2; have G2 := g_own (a' := wr) (g_alloc hG.out _) hO.out (by rw [hbase.out]; exact Nat.le_refl _) q2; replace q1 := Lib.hid q1; replace q2 := Lib.hid q2; replace G2 := Lib.hid G2)
            | (at_builtin; refine ap35 rfl (.tmp 24) (.tmp 28) rfl base (.slice A' (n + 1) c') (n + 1) (bs (quoL (a.take i)) ++ [b8 35]) rfl (own_keep q1.out (World.grownBy_alloc _ _ none)) w'.heap.size 35 rfl (heap_alloc_new w' _) (by omega) (by rw [hbase.out]; exact Nat.le_trans G2.out.size (World.grownBy_alloc _ _ none).size) ?_; intro A2 c2 w2 p1 p2; have G3 := g_own (a' := w') (g_alloc G2.out _) q1.out (by rw [hbase.out]; exact Nat.le_refl _) p2; replace p1 := Lib.hid p1; replace p2 := Lib.hid p2; replace G3 := Lib.hid G3))
          exact ⟨⟨i + 1, n + 1 + 1, A2, c2, rfl, by first | rfl | rw [hw1], by omega, by omega, Lib.hid ⟨hl2.out.symm, by rw [hq2.out, bs_append]; have := p1.out; rw [List.append_assoc] at this; exact this, G3.out⟩⟩, by first | (simp [intOf]; done) | (simp [intOf]; omega)⟩
        · go_wp2_with (first
            | (at_builtin; refine ap35 rfl (.tmp 21) (.tmp 22) rfl base (.slice A n cp) n (bs (quoL (a.take i))) rfl (own_keep hO.out (World.grownBy_alloc _ _ none)) wr.heap.size 35 rfl (heap_alloc_new wr _) (by omega) (by exact Nat.le_trans hbW.out (World.grownBy_alloc _ _ none).size) ?_; intro A' c' w' q1 q2; have G2 := g_own (a' := wr) (g_alloc hG.out _) hO.out (by rw [hbase.out]; exact Nat.le_refl _) q2; replace q1 := Lib.hid q1; replace q2 := Lib.hid q2; replace G2 := Lib.hid G2)
            | (at_builtin; refine ap35 rfl (.tmp 24) (.tmp 28) rfl base (.slice A' (n + 1) c') (n + 1) (bs (quoL (a.take i)) ++ [b8 35]) rfl (own_keep q1.out (World.grownBy_alloc _ _ none)) w'.heap.size 125 rfl (heap_alloc_new w' _) (by omega) (by rw [hbase.out]; exact Nat.le_trans G2.out.size (World.grownBy_alloc _ _ none).size) ?_; intro A2 c2 w2 p1 p2; have G3 := g_own (a' := w') (g_alloc G2.out _) q1.out (by rw [hbase.out]; exact Nat.le_refl _) p2; replace p1 := Lib.hid p1; replace p2 := Lib.hid p2; replace G3 := Lib.hid G3))
          exact ⟨⟨i + 1, n + 1 + 1, A2, c2, rfl, by first | rfl | rw [hw1], by omega, by omega, Lib.hid ⟨hl2.out.symm, by rw [hq2.out, bs_append]; have := p1.out; rw [List.append_assoc] at this; exact this, G3.out⟩⟩, by first | (simp [intOf]; done) | (simp [intOf]; omega)⟩
      · have hq2 : quoL (a.take (i + 1)) = quoL (a.take i) ++ [x] := by rw [hq, quo_one h35]
        have e1 : ¬ ((x.toNat : Int) = 35) := u8_ne (n := 35) (by omega) fun h => h35 (.inl h)
        have e2 : ¬ ((x.toNat : Int) = 125) := u8_ne (n := 125) (by omega) fun h => h35 (.inr h)
        have eb1 : ((x.toNat : Int) == 35) = false := by simpa using e1
        have eb2 : ((x.toNat : Int) == 125) = false := by simpa using e2
        have hl2 : (quoL (a.take (i + 1))).length = n + 1 := by rw [hq2, List.length_append, ← hnl]; rfl
        replace hx := Lib.hid hx; replace hq := Lib.hid hq; replace hO := Lib.hid hO; replace hG := Lib.hid hG; replace hI := Lib.hid hI; replace hbW := Lib.hid hbW; replace hnl := Lib.hid hnl; replace hq2 := Lib.hid hq2; replace hl2 := Lib.hid hl2; replace h35 := Lib.hid h35
        go_wp2_with (at_builtin; refine ap35 rfl (.tmp 24) (.tmp 28) rfl base (.slice A n cp) n (bs (quoL (a.take i))) rfl (own_keep hO.out (World.grownBy_alloc _ _ none)) wr.heap.size x rfl (heap_alloc_new wr _) (by omega) (by exact Nat.le_trans hbW.out (World.grownBy_alloc _ _ none).size) ?_; intro A2 c2 w2 p1 p2; have G3 := g_own (a' := wr) (g_alloc hG.out _) hO.out (by rw [hbase.out]; exact Nat.le_refl _) p2; replace p1 := Lib.hid p1; replace p2 := Lib.hid p2; replace G3 := Lib.hid G3)
        exact ⟨⟨i + 1, n + 1, A2, c2, rfl, by first | rfl | rw [hw1], by omega, by omega, Lib.hid ⟨hl2.out.symm, by rw [hq2.out, bs_append]; exact p1.out, G3.out⟩⟩, by first | (simp [intOf]; done) | (simp [intOf]; omega)⟩
    · have hlti : ¬ ((i : Int) < (la : Int)) := by omega
      have hfull : a.take i = a := List.take_of_length_le (by rw [← hla.out]; omega)
      rw [hfull] at hO hnl
      obtain ⟨A', cp', eA, hrd, _⟩ := Rd.of_own hO
      injection eA with eA _ ec
      subst eA
      subst ec
      have hcv := conv_str (P := Tryz.prog) _ 35 9 5 Tryz.underlying35 Tryz.underlying5 Tryz.underlying9 A n cp (quoL a) hnl hrd
      obtain ⟨SQ, hSQ⟩ : ∃ S, S = st (quoL a) := ⟨_, rfl⟩
      rw [← hSQ] at hcv
      replace hO := Lib.hid hO; replace hG := Lib.hid hG; replace hI := Lib.hid hI; replace hbW := Lib.hid hbW; replace hnl := Lib.hid hnl; replace hrd := Lib.hid hrd; replace hSQ := Lib.hid hSQ; replace hfull := Lib.hid hfull
      go_wp2_with fail
      go_ret
      exact ⟨by rw [← hSQ.out]; rfl, hG.out⟩
end Go.Proofs.YtfhdfhlabkeipaaGreatDoor
