/- Key: sequence. -/
import Derived.Test.YtncokbppijnfiaaGreatDoorC6
namespace Go.Proofs.YtncokbppijnfiaaGreatDoor
open Go.RowKit
set_option linter.unusedSimpArgs false
set_option linter.unusedVariables false

set_option maxHeartbeats 1000000 in
set_option maxRecDepth 100000 in
theorem sequence_lt (q : List UInt8) (z : UInt8) (hq : q.length ≤ 90000) (hv : ∀ l, listedL q = some l → ∀ v ∈ l, 0 ≤ v ∧ v ≤ 9999) (w : World) (hW : Wd w) :
    Calls Tryz.prog 75 #[.string (st (60 :: q)), .int .u8 (z.toNat : Int)] w fun e w' => e = .returned (.tuple #[msV (sequenceL (60 :: q) z).1, .bool (sequenceL (60 :: q) z).2]) ∧ w.grownBy w' none := by
  have hres : Tryz.f75.results = #[.cell 4 40, .tmp 5] := by kernel_rfl
  have hsq : sequenceL (60 :: q) z = pointedL q z := by unfold sequenceL; rfl
  have CP : Hid (∀ W, Wd W → Calls Tryz.prog 86 #[.string (st q), .int .u8 (z.toNat : Int)] W fun e w' => e = .returned (.tuple #[msV (pointedL q z).1, .bool (pointedL q z).2]) ∧ W.grownBy w' none) := Lib.hid fun W h => pointed_any q z (by omega) hv W h
  have CC : Hid (∀ W, Calls Tryz.prog 85 #[.string (st (60 :: q)), .string ⟨#[60]⟩] W fun e w' => e = .returned (.tuple #[.string (st q), .bool true]) ∧ w' = W) := Lib.hid fun W => by
    have := Tryz.strings_CutPrefix (st (60 :: q)) ⟨#[60]⟩ W
    have e1 : Lib.trimPrefix (st (60 :: q)).data.toList (⟨#[60]⟩ : ByteArray).data.toList = q := by rw [st_data]; simp [Lib.trimPrefix, Lib.hasPrefix]
    have e2 : Lib.hasPrefix (st (60 :: q)).data.toList (⟨#[60]⟩ : ByteArray).data.toList = true := by rw [st_data]; simp [Lib.hasPrefix]
    rw [e1, e2] at this
    exact this
  rw [hsq]
  obtain ⟨zi, hzi⟩ : ∃ i : Int, i = z.toNat := ⟨_, rfl⟩
  rw [← hzi] at CP ⊢
  obtain ⟨S, hS⟩ : ∃ S, S = st (60 :: q) := ⟨_, rfl⟩
  rw [← hS] at CC ⊢
  obtain ⟨Q, hQ⟩ : ∃ S, S = st q := ⟨_, rfl⟩
  rw [← hQ] at CC CP
  obtain ⟨PL, hPL⟩ : ∃ r, r = pointedL q z := ⟨_, rfl⟩
  rw [← hPL] at CP ⊢
  obtain ⟨PM, PB⟩ := PL
  replace hW := Lib.hid hW; replace hres := Lib.hid hres; replace hPL := Lib.hid hPL; replace hS := Lib.hid hS; replace hQ := Lib.hid hQ; replace hv := Lib.hid hv; replace hsq := Lib.hid hsq
  replace hzi := Lib.hid hzi
  dsimp only at CP ⊢
  obtain ⟨W0, hW0⟩ : ∃ W, W = w.alloc (.cells #[.int .i64 0, .int .i64 0, .int .i64 0, .int .i64 0, .int .i64 0] 40) := ⟨_, rfl⟩
  have g0 : w.grownBy W0 none := by rw [hW0]; exact World.grownBy_alloc _ _ _
  obtain ⟨bR, hbR⟩ : ∃ n, n = w.heap.size := ⟨_, rfl⟩
  have hR0 : MC W0 bR msNone := by rw [hW0, hbR]; exact MC.new w msNone
  have CP0 := Lib.hid (CP.out W0 (hW.out.grown g0))
  replace g0 := Lib.hid g0; replace hR0 := Lib.hid hR0; replace hbR := Lib.hid hbR; replace hW0 := Lib.hid hW0
  clear CP
  go_enter Tryz.func75, Tryz.ntmps75
  go_wp2_with fail
  rw [← hW0.out, ← hbR.out]
  refine (CC.out _).mono ?_
  rintro e w1 ⟨rfl, rfl⟩
  clear CC
  go_wp2_with fail
  refine CP0.out.mono ?_
  rintro e w2 ⟨rfl, g2⟩
  have hR2 := hR0.out.grown g2
  have G2 := g0.out.trans g2
  obtain ⟨x0, x1, x2, x3, x4, x5⟩ := hR2.cells
  have f0 := x5 0; have f1 := x5 1; have f2 := x5 2; have f3 := x5 3; have f4 := x5 4
  replace hR2 := Lib.hid hR2; replace G2 := Lib.hid G2
  clear x5 CP0 g2
  go_wp2_with fail
  refine bodyPost_ret (res_ms2 hres.out _ rfl (hR2.out.set5 PM) rfl) rfl ⟨rfl, ?_⟩
  exact set5_grown PM G2.out (Nat.le_of_eq hbR.out.symm)
end Go.Proofs.YtncokbppijnfiaaGreatDoor
