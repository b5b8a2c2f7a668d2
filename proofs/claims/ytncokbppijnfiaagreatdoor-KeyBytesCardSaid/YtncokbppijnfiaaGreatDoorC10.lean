/- Key: the sequence of the example: 1;3 and A. -/
import Derived.Test.YtncokbppijnfiaaGreatDoorC7
import Derived.Test.YtncokbppijnfiaaGreatDoorC9
namespace Go.Proofs.YtncokbppijnfiaaGreatDoor
open Go.RowKit
set_option linter.unusedSimpArgs false
set_option linter.unusedVariables false

set_option maxRecDepth 100000 in
theorem listed_13 : listedL [49, 59, 51] = some [1, 3] := by kernel_rfl
set_option maxHeartbeats 1000000 in
set_option maxRecDepth 100000 in
theorem sequence_13 (w : World) (hW : Wd w) :
    Calls Tryz.prog 75 #[.string (st [49, 59, 51]), .int .u8 65] w fun e w' => e = .returned (.tuple #[msV (msOne 1114112 2), .bool true]) ∧ w.grownBy w' none := by
  have hres : Tryz.f75.results = #[.cell 4 40, .tmp 5] := by kernel_rfl
  have CC : Hid (∀ W, Calls Tryz.prog 85 #[.string (st [49, 59, 51]), .string ⟨#[60]⟩] W fun e w' => e = .returned (.tuple #[.string (st [49, 59, 51]), .bool false]) ∧ w' = W) := Lib.hid fun W => Tryz.strings_CutPrefix (st [49, 59, 51]) ⟨#[60]⟩ W
  have CH : Hid (∀ W, Calls Tryz.prog 40 #[.string (st [49, 59, 51]), .string ⟨#[49, 59]⟩] W fun e w' => e = .returned (.bool true) ∧ w' = W) := Lib.hid fun W => Tryz.strings_HasPrefix (st [49, 59, 51]) ⟨#[49, 59]⟩ W
  have CL : Hid (∀ W, Wd W → Calls Tryz.prog 62 #[.int .u8 65] W fun e w' => e = .returned (.int .i64 1114112) ∧ w' = W) := Lib.hid fun W h => lettered_any 65 W h
  have CO : Hid (∀ W, Calls Tryz.prog 60 #[.int .i64 1114112, .int .i64 2] W fun e w' => e = .returned (msV (msOne 1114112 2)) ∧ W.grownBy w' none) := Lib.hid fun W => one_any 1114112 2 W
  have CI : Hid (∀ W, Wd W → Calls Tryz.prog 87 #[.string (st [49, 59, 51])] W fun e w' => W.grownBy w' none ∧ ∃ A c, e = .returned (.tuple #[.slice A 2 c, .bool true]) ∧ Rd w' A (ints [1, 3])) := Lib.hid fun W h => by
    refine (listed_any [49, 59, 51] (by decide) W h).mono ?_
    rintro e w' ⟨hg, hc⟩
    refine ⟨hg, ?_⟩
    rcases hc with ⟨hn, _⟩ | ⟨l, A, c, hl, _, he, hr⟩
    · rw [listed_13] at hn; cases hn
    · rw [listed_13] at hl
      injection hl with hl
      subst hl
      exact ⟨A, c, he, hr⟩
  obtain ⟨S, hS⟩ : ∃ S, S = st [49, 59, 51] := ⟨_, rfl⟩
  have hSE : S.toList.isEmpty = false := by rw [hS, show (st [49, 59, 51]).toList = [49, 59, 51] from ByteArray.toList_mk _]; rfl
  rw [← hS] at CC CH CI ⊢
  obtain ⟨W0, hW0⟩ : ∃ W, W = w.alloc (.cells #[.int .i64 0, .int .i64 0, .int .i64 0, .int .i64 0, .int .i64 0] 40) := ⟨_, rfl⟩
  have g0 : w.grownBy W0 none := by rw [hW0]; exact World.grownBy_alloc _ _ _
  obtain ⟨bR, hbR⟩ : ∃ n, n = w.heap.size := ⟨_, rfl⟩
  have hR0 : MC W0 bR msNone := by rw [hW0, hbR]; exact MC.new w msNone
  have CL0 := Lib.hid (CL.out W0 (hW.grown g0))
  have CI0 := Lib.hid (CI.out W0 (hW.grown g0))
  replace g0 := Lib.hid g0; replace hR0 := Lib.hid hR0; replace hbR := Lib.hid hbR; replace hW0 := Lib.hid hW0; replace hW := Lib.hid hW; replace hres := Lib.hid hres; replace hS := Lib.hid hS
  clear CL CI
  go_enter Tryz.func75, Tryz.ntmps75
  go_wp2_with fail
  rw [← hW0.out, ← hbR.out]
  refine (CC.out _).mono ?_
  rintro e w1 ⟨rfl, rfl⟩
  go_wp2_with fail
  refine CL0.out.mono ?_
  rintro e w2 ⟨rfl, rfl⟩
  go_wp2_with fail
  refine CI0.out.mono ?_
  rintro e w3 ⟨g3, A, c, rfl, hR⟩
  obtain ⟨bA, fA, rfl, _, a0⟩ := hR.at_ (j := 0) (u := .int .i64 1) rfl
  obtain ⟨_, _, e1, _, a1⟩ := hR.at_ (j := 1) (u := .int .i64 3) rfl
  cases e1
  have hR3 := hR0.out.grown g3
  have G3 := g0.out.trans g3
  replace hR := Lib.hid hR; replace g3 := Lib.hid g3; replace hR3 := Lib.hid hR3; replace G3 := Lib.hid G3
  clear CL0 CI0 CC
  go_wp2_with fail
  refine (CO.out _).mono ?_
  rintro e w4 ⟨rfl, g4⟩
  have hR4 := hR3.out.grown g4
  have G4 := G3.out.trans g4
  obtain ⟨x0, x1, x2, x3, x4, x5⟩ := hR4.cells
  have f0 := x5 0; have f1 := x5 1; have f2 := x5 2; have f3 := x5 3; have f4 := x5 4
  replace hR4 := Lib.hid hR4; replace G4 := Lib.hid G4
  clear x5 g4
  go_wp2_with fail
  refine (CH.out _).mono ?_
  rintro e w5 ⟨rfl, rfl⟩
  go_wp2_with fail
  refine bodyPost_ret (res_ms2 hres.out _ rfl (hR4.out.set5 (msOne 1114112 2)) rfl) rfl ⟨rfl, ?_⟩
  exact set5_grown (msOne 1114112 2) G4.out (Nat.le_of_eq hbR.out.symm)
end Go.Proofs.YtncokbppijnfiaaGreatDoor
