/- Key: Bytes of the example's key. -/
import Derived.Test.YtncokbppijnfiaaGreatDoorD4
import Derived.Test.YtncokbppijnfiaaGreatDoorA1
namespace Go.Proofs.YtncokbppijnfiaaGreatDoor
open Go.RowKit
set_option linter.unusedSimpArgs false
set_option linter.unusedVariables false

theorem right_up : rightK 1114112 0 = true := by kernel_rfl
theorem ended_up : endedL 1114112 = (65, false) := by kernel_rfl
set_option maxHeartbeats 1000000 in
set_option maxRecDepth 100000 in
theorem bytes_up (w : World) (hW : Wd w) : Calls Tryz.prog 12 #[keyV 1114112 0, .int .i64 16] w fun e w' => Out w e w' [27, 79, 65] := by
  have CR : Hid (∀ W, Wd W → Calls Tryz.prog 8 #[keyV 1114112 0] W fun e w' => e = .returned (.bool true) ∧ W.grownBy w' none) := Lib.hid fun W h => by rw [← right_up]; exact right_any 1114112 0 (by unfold I64; omega) W h
  have CM : Hid (∀ W, Calls Tryz.prog 22 #[.int .i64 1114112] W fun e w' => e = .returned (.bool false) ∧ w' = W) := Lib.hid fun W => mouse_any 1114112 W
  have CE : Hid (∀ W, Wd W → Calls Tryz.prog 27 #[.int .i64 1114112] W fun e w' => e = .returned (.tuple #[.int .u8 65, .bool false]) ∧ w' = W) := Lib.hid fun W h => by
    have := ended_any 1114112 W h
    rw [ended_up] at this
    exact this
  have CI : Hid (∀ W, Wd W → Calls Tryz.prog 26 #[.int .i64 1] W fun e w' => e = .returned (.string (st (Lib.itoa 1))) ∧ W.grownBy w' none) := Lib.hid fun W h => itoa_any 1 W (by omega) (by omega) h
  have CZ : Hid (∀ W, Calls Tryz.prog 25 #[.string ⟨#[27]⟩, .int .i64 0] W fun e w' => e = .returned (.string ByteArray.empty) ∧ W.grownBy w' none) := Lib.hid fun W => by
    refine (Tryz.strings_Repeat_zero ⟨#[27]⟩ W).mono ?_
    rintro e w' ⟨rfl, rfl⟩
    exact ⟨rfl, World.grownBy.refl _ _⟩
  have hb1 : bits .and .i64 0 2 = 0 := by decide
  have hb2 : bits .and .i64 16 16 = 16 := by decide
  obtain ⟨W0, hW0⟩ : ∃ W, W = w.alloc (.cells #[.int .i64 1114112, .int .i64 0] 23) := ⟨_, rfl⟩
  have g0 : w.grownBy W0 none := by rw [hW0]; exact World.grownBy_alloc _ _ _
  obtain ⟨bR, hbR⟩ : ∃ n, n = w.heap.size := ⟨_, rfl⟩
  have hR0 : KC W0 bR 1114112 0 := by rw [hW0, hbR]; exact KC.new w 1114112 0
  obtain ⟨x0, x1, _⟩ := hR0.cells
  have CR0 := Lib.hid (CR.out W0 (hW.grown g0))
  replace hW := Lib.hid hW; replace hW0 := Lib.hid hW0; replace g0 := Lib.hid g0; replace hbR := Lib.hid hbR; replace hR0 := Lib.hid hR0
  unfold keyV at *
  go_enter Tryz.func12, Tryz.ntmps12
  go_wp2_with fail
  rw [← hW0.out, ← hbR.out]
  refine CR0.out.mono ?_
  rintro e w1 ⟨rfl, g1⟩
  have hR1 := hR0.out.grown g1
  have G1 := g0.out.trans g1
  obtain ⟨y0, y1, _⟩ := hR1.cells
  clear x0 x1 CR0 CR g1
  replace hR1 := Lib.hid hR1; replace G1 := Lib.hid G1
  go_wp2_with fail
  refine (CM.out _).mono ?_
  rintro e w2 ⟨rfl, rfl⟩
  go_wp2_with fail
  refine (CZ.out _).mono ?_
  rintro e w3 ⟨rfl, g3⟩
  have hR3 := hR1.out.grown g3
  have G3 := G1.out.trans g3
  obtain ⟨z0, z1, _⟩ := hR3.cells
  have CI3 := Lib.hid (CI.out w3 (hW.out.grown G3))
  clear y0 y1 g3 CZ CI
  replace hR3 := Lib.hid hR3; replace G3 := Lib.hid G3
  go_wp2_with fail
  refine CI3.out.mono ?_
  rintro e w4 ⟨rfl, g4⟩
  have hR4 := hR3.out.grown g4
  have G4 := G3.out.trans g4
  obtain ⟨t0, t1, _⟩ := hR4.cells
  have CE4 := Lib.hid (CE.out w4 (hW.out.grown G4))
  clear z0 z1 g4 CI3 CE
  replace hR4 := Lib.hid hR4; replace G4 := Lib.hid G4
  go_wp2_with fail
  refine CE4.out.mono ?_
  rintro e w5 ⟨rfl, rfl⟩
  have hkc : ∀ (n c : Nat), (convert 32 32 (.slice (some ⟨w5.heap.size, 0, none⟩) n c)).run Tryz.prog (w5.alloc (.cells #[.int .u8 27, .int .u8 79] 5)) = .ok (.slice (some ⟨w5.heap.size, 0, none⟩) n c) (w5.alloc (.cells #[.int .u8 27, .int .u8 79] 5 (2, 3))) := fun n c => Lib.run_convert_bytes_const w5 32 5 _ n c Tryz.underlying32 Tryz.underlying5
  have M5 : MB (w5.alloc (.cells #[.int .u8 27, .int .u8 79] 5 (2, 3))) w5.heap.size 2 [27, 79] := MB.const w5 [27, 79]
  obtain ⟨W5, hW5⟩ : ∃ W, W = w5.alloc (.cells #[.int .u8 27, .int .u8 79] 5 (2, 3)) := ⟨_, rfl⟩
  have G5 := g_alloc G4.out (.cells #[.int .u8 27, .int .u8 79] 5 (2, 3))
  rw [← hW5] at M5 G5
  simp only [← hW5] at hkc
  have M6 := M5.grown (World.grownBy_alloc W5 (.cells #[.int .u8 65] 5) none)
  have R6 := Rd.newL W5 (bs [65]) 5
  have G6 := g_alloc G5 (.cells #[.int .u8 65] 5)
  have hS := G4.out.size
  replace M5 := Lib.hid M5; replace M6 := Lib.hid M6; replace R6 := Lib.hid R6; replace G5 := Lib.hid G5; replace G6 := Lib.hid G6; replace hW5 := Lib.hid hW5; replace hS := Lib.hid hS
  go_wp2_with (first | (at_builtin; refine wpList_append_mb rfl (.tmp 97) (.tmp 99) rfl rfl w5.heap.size 2 2 [27, 79] rfl rfl (some ⟨W5.heap.size, 0, none⟩) 1 65 rfl M6.out (by decide) R6.out ?_; intro A7 c7 w7 R7 hc7 G7; replace R7 := Lib.hid R7; replace G7 := Lib.hid G7) | fail)
  go_ret
  exact ⟨A7, 3, c7, rfl, rfl, hc7, R7.out, g_row G6.out hS.out G7.out⟩
end Go.Proofs.YtncokbppijnfiaaGreatDoor
