/- Format: Expand and Steps. -/
import Derived.Test.YtfhdfhlabkeipaaGreatDoorC19
namespace Go.Proofs.YtfhdfhlabkeipaaGreatDoor
open Go.RowKit
set_option linter.unusedSimpArgs false
set_option linter.unusedVariables false

theorem ScAt.base {B B' : Nat} {w : World} {sc : Sc} {v1 v2 : Value} (h : ScAt B w sc v1 v2) (hb : B ≤ B') : ScAt B' w sc v1 v2 := by
  obtain ⟨⟨A, n, c, h1, h2, h3, h4, h5⟩, A2, n2, c2, k1, k2, k3, cs, k4, k5, k6⟩ := h
  refine ⟨⟨A, n, c, h1, h2, h3, h4, fun b hb' => Nat.lt_of_lt_of_le (h5 b hb') hb⟩, A2, n2, c2, k1, k2, k3, cs, k4, fun b hb' => Nat.lt_of_lt_of_le (k5 b hb') hb, fun j p hj => ?_⟩
  obtain ⟨A', n', c', q1, q2, q3, q4, cs', q5, q6, q7⟩ := k6 j p hj
  refine ⟨A', n', c', q1, q2, q3, q4, cs', q5, fun b hb' => Nat.lt_of_lt_of_le (q6 b hb') hb, fun j vs hj => ?_⟩
  obtain ⟨v, r1, r2, A3, n3, c3, r3, r4, r5, r6, r7⟩ := q7 j vs hj
  exact ⟨v, r1, r2, A3, n3, c3, r3, r4, r5, r6, fun b hb' => Nat.lt_of_lt_of_le (r7 b hb') hb⟩
def outV (r : Rs) : B × Int := match r with
  | .ok v _ => (v, 0)
  | .bad k => ([], k)
  | .no => ([], 0)
def outN (r : Rs) : Nat × Int := match r with
  | .ok _ n => (n, 0)
  | .bad k => (0, k)
  | .no => (0, 0)
theorem expV_eq (r : Rs) (h : r ≠ .no) : expV r = .tuple #[.string (st (outV r).1), .int .i64 ((outN r).1 : Int), .int .i64 (outV r).2] ∧ (outN r).2 = (outV r).2 := by
  cases r with
  | no => exact absurd rfl h
  | ok v n => exact ⟨rfl, rfl⟩
  | bad k => exact ⟨rfl, rfl⟩

set_option maxRecDepth 100000 in
set_option maxHeartbeats 2000000 in
theorem Expand_any (H : AllOk) (w : World) (hTB : TB w.heap.size w) (s : B) (o : Option Sc) (Av Al : Option Addr) (nv cv nl cl : Nat) (ho : ∀ sc, o = some sc → ScAt w.heap.size w sc (.slice Av nv cv) (.slice Al nl cl)) (hno : expandL [o] s ≠ .no) :
    Calls Tryz.prog 10 #[.string (st s), .agg #[.slice Av nv cv, .slice Al nl cl]] w fun e w' => e = .returned (.tuple #[.string (st (outV (expandL [o] s)).1), .int .i64 (outV (expandL [o] s)).2]) ∧ w.grownBy w' none := by
  have CE : Hid (∀ W, w.grownBy W none → Calls Tryz.prog 20 #[.string (st s), .agg #[.slice Av nv cv, .slice Al nl cl]] W fun e w' => e = .returned (.tuple #[.string (st (outV (expandL [o] s)).1), .int .i64 ((outN (expandL [o] s)).1 : Int), .int .i64 (outV (expandL [o] s)).2]) ∧ W.grownBy w' none) := Lib.hid fun W g => by
    rw [← (expV_eq _ hno).1]
    exact expanded_any H W (fun w' hb => hTB w' (Below.trans (g_below g) ⟨hb.os, hb.tape, hb.output, hb.size, fun k hk => hb.block k (Nat.lt_of_lt_of_le hk g.size)⟩)) s o Av Al nv cv nl cl (fun sc hs => ((ho sc hs).below (g_below g)).base g.size) hno
  obtain ⟨X, hX⟩ : ∃ X, X = st (outV (expandL [o] s)).1 := ⟨_, rfl⟩
  obtain ⟨nn, hnn⟩ : ∃ n, n = (outN (expandL [o] s)).1 := ⟨_, rfl⟩
  obtain ⟨ee, hee⟩ : ∃ n, n = (outV (expandL [o] s)).2 := ⟨_, rfl⟩
  rw [← hX, ← hnn, ← hee] at CE
  rw [← hX, ← hee]
  obtain ⟨S, hS⟩ : ∃ S, S = st s := ⟨_, rfl⟩
  rw [← hS] at CE ⊢
  replace hX := Lib.hid hX; replace hnn := Lib.hid hnn; replace hee := Lib.hid hee; replace hS := Lib.hid hS; replace ho := Lib.hid ho; replace hno := Lib.hid hno; replace H := Lib.hid H
  go_enter Tryz.func10, Tryz.ntmps10
  go_wp2_with fail
  refine (CE.out _ (World.grownBy_alloc _ _ none)).mono ?_
  rintro e w1 ⟨rfl, G1⟩
  have hG := (World.grownBy_alloc w (.cells #[.slice Av nv cv, .slice Al nl cl] 28) none).trans G1
  replace G1 := Lib.hid G1; replace hG := Lib.hid hG
  go_wp2_with fail
  go_ret2
  exact ⟨rfl, hG.out⟩
set_option maxRecDepth 100000 in
set_option maxHeartbeats 2000000 in
theorem Steps_any (H : AllOk) (w : World) (hTB : TB w.heap.size w) (s : B) (o : Option Sc) (Av Al : Option Addr) (nv cv nl cl : Nat) (ho : ∀ sc, o = some sc → ScAt w.heap.size w sc (.slice Av nv cv) (.slice Al nl cl)) (hno : expandL [o] s ≠ .no) :
    Calls Tryz.prog 16 #[.string (st s), .agg #[.slice Av nv cv, .slice Al nl cl]] w fun e w' => e = .returned (.tuple #[.int .i64 ((outN (expandL [o] s)).1 : Int), .int .i64 (outV (expandL [o] s)).2]) ∧ w.grownBy w' none := by
  have CE : Hid (∀ W, w.grownBy W none → Calls Tryz.prog 20 #[.string (st s), .agg #[.slice Av nv cv, .slice Al nl cl]] W fun e w' => e = .returned (.tuple #[.string (st (outV (expandL [o] s)).1), .int .i64 ((outN (expandL [o] s)).1 : Int), .int .i64 (outV (expandL [o] s)).2]) ∧ W.grownBy w' none) := Lib.hid fun W g => by
    rw [← (expV_eq _ hno).1]
    exact expanded_any H W (fun w' hb => hTB w' (Below.trans (g_below g) ⟨hb.os, hb.tape, hb.output, hb.size, fun k hk => hb.block k (Nat.lt_of_lt_of_le hk g.size)⟩)) s o Av Al nv cv nl cl (fun sc hs => ((ho sc hs).below (g_below g)).base g.size) hno
  obtain ⟨X, hX⟩ : ∃ X, X = st (outV (expandL [o] s)).1 := ⟨_, rfl⟩
  obtain ⟨nn, hnn⟩ : ∃ n, n = (outN (expandL [o] s)).1 := ⟨_, rfl⟩
  obtain ⟨ee, hee⟩ : ∃ n, n = (outV (expandL [o] s)).2 := ⟨_, rfl⟩
  rw [← hX, ← hnn, ← hee] at CE
  rw [← hnn, ← hee]
  obtain ⟨S, hS⟩ : ∃ S, S = st s := ⟨_, rfl⟩
  rw [← hS] at CE ⊢
  replace hX := Lib.hid hX; replace hnn := Lib.hid hnn; replace hee := Lib.hid hee; replace hS := Lib.hid hS; replace ho := Lib.hid ho; replace hno := Lib.hid hno; replace H := Lib.hid H
  go_enter Tryz.func16, Tryz.ntmps16
  go_wp2_with fail
  refine (CE.out _ (World.grownBy_alloc _ _ none)).mono ?_
  rintro e w1 ⟨rfl, G1⟩
  have hG := (World.grownBy_alloc w (.cells #[.slice Av nv cv, .slice Al nl cl] 28) none).trans G1
  replace G1 := Lib.hid G1; replace hG := Lib.hid hG
  go_wp2_with fail
  go_ret2
  exact ⟨rfl, hG.out⟩
end Go.Proofs.YtfhdfhlabkeipaaGreatDoor
