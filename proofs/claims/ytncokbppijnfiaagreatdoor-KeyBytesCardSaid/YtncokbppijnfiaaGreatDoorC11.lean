/- Key: front of bytes that begin with ESC [, and of ESC alone. -/
import Derived.Test.YtncokbppijnfiaaGreatDoorC8
namespace Go.Proofs.YtncokbppijnfiaaGreatDoor
open Go.RowKit
set_option linter.unusedSimpArgs false
set_option linter.unusedVariables false

set_option maxHeartbeats 1000000 in
set_option maxRecDepth 100000 in
theorem front_br (b : List UInt8) (A : Option Addr) (n cap : Nat) (up : Bool) (w : World) (hW : Wd w) (hn : n = b.length) (h2 : 2 ≤ n) (hbig : n ≤ 1000000) (hcap : n ≤ cap) (hR : Rd w A (bs b)) (hb0 : b[0]? = some 27) (hb1 : b[1]? = some 91)
    (hBr : ∀ W, Wd W → Rd W A (bs b) → Calls Tryz.prog 61 #[.slice A n cap, .bool up] W fun e w' => e = .returned (.tuple #[msV (bracketL b up).1, .int .i64 (bracketL b up).2.1, .int .i64 (bracketL b up).2.2]) ∧ W.grownBy w' none) :
    Calls Tryz.prog 46 #[.slice A n cap, .bool up] w fun e w' => e = .returned (.tuple #[msV (bracketL b up).1, .int .i64 (bracketL b up).2.1, .int .i64 (bracketL b up).2.2]) ∧ w.grownBy w' none := by
  have hres : Tryz.f46.results = #[.cell 4 40, .tmp 5, .tmp 6] := by kernel_rfl
  obtain ⟨BL, hBL⟩ : ∃ r, r = bracketL b up := ⟨_, rfl⟩
  rw [← hBL] at hBr ⊢
  obtain ⟨BM, BH, BN⟩ := BL
  dsimp only at hBr ⊢
  have hbs : ∀ (j : Nat) (c : UInt8), b[j]? = some c → (bs b)[j]? = some (.int .u8 (c.toNat : Int)) := fun j c h => by rw [bs, List.getElem?_map, h]; rfl
  obtain ⟨B, off, rfl, _, c0⟩ := hR.at_ (hbs 0 27 hb0)
  obtain ⟨_, _, e1, _, c1⟩ := hR.at_ (hbs 1 91 hb1)
  cases e1
  rw [Nat.add_zero] at c0
  obtain ⟨W0, hW0⟩ : ∃ W, W = w.alloc (.cells #[.int .i64 0, .int .i64 0, .int .i64 0, .int .i64 0, .int .i64 0] 40) := ⟨_, rfl⟩
  have g0 : w.grownBy W0 none := by rw [hW0]; exact World.grownBy_alloc _ _ _
  obtain ⟨bR, hbR⟩ : ∃ n, n = w.heap.size := ⟨_, rfl⟩
  have hR0 : MC W0 bR msNone := by rw [hW0, hbR]; exact MC.new w msNone
  have d0 : W0.cell? ⟨B, off, none⟩ = some (.int .u8 27) := g0.cell c0 (by simp)
  have d1 : W0.cell? ⟨B, off + 1, none⟩ = some (.int .u8 91) := g0.cell c1 (by simp)
  have CB := Lib.hid (hBr W0 (hW.grown g0) (hR.grown g0 (.inl rfl)))
  have hn2 : (1 : Int) < n := by omega
  have hn1 : ¬ ((n : Int) = 1) := by omega
  replace g0 := Lib.hid g0; replace hR0 := Lib.hid hR0; replace hbR := Lib.hid hbR; replace hW0 := Lib.hid hW0; replace hW := Lib.hid hW; replace hres := Lib.hid hres; replace hBr := Lib.hid hBr; replace hR := Lib.hid hR; replace hbs := Lib.hid hbs; replace hBL := Lib.hid hBL; replace hn := Lib.hid hn; replace hb0 := Lib.hid hb0; replace hb1 := Lib.hid hb1
  clear c0 c1
  go_enter Tryz.func46, Tryz.ntmps46
  go_upto_region 1 with fail
  rw [← hW0.out, ← hbR.out]
  have h3 : (n : Int) = 2 ∨ (2 : Int) < n := by omega
  rcases h3 with h3 | h3
  all_goals
    go_wp2_with fail
    refine CB.out.mono ?_
    rintro e w2 ⟨rfl, g2⟩
    have hR2 := hR0.out.grown g2
    have G2 := g0.out.trans g2
    obtain ⟨x0, x1, x2, x3, x4, x5⟩ := hR2.cells
    have f0 := x5 0; have f1 := x5 1; have f2 := x5 2; have f3 := x5 3; have f4 := x5 4
    replace hR2 := Lib.hid hR2; replace G2 := Lib.hid G2
    clear x5 g2
    go_wp2_with fail
    refine bodyPost_ret (res_ms3 hres.out _ rfl (hR2.out.set5 BM) rfl rfl) rfl ⟨rfl, ?_⟩
    exact set5_grown BM G2.out (Nat.le_of_eq hbR.out.symm)
set_option maxHeartbeats 1000000 in
set_option maxRecDepth 100000 in
theorem front_esc (A : Option Addr) (cap : Nat) (up : Bool) (w : World) (hR : Rd w A (bs [27])) :
    Calls Tryz.prog 46 #[.slice A 1 cap, .bool up] w fun e w' => e = .returned (if up = true then .tuple #[msV (msOne 1114135 0), .int .i64 2, .int .i64 1] else .tuple #[msV msNone, .int .i64 0, .int .i64 0]) ∧ w.grownBy w' none := by
  have hres : Tryz.f46.results = #[.cell 4 40, .tmp 5, .tmp 6] := by kernel_rfl
  have CO : Hid (∀ W, Calls Tryz.prog 60 #[.int .i64 1114135, .int .i64 0] W fun e w' => e = .returned (msV (msOne 1114135 0)) ∧ W.grownBy w' none) := Lib.hid fun W => one_any 1114135 0 W
  obtain ⟨B, off, rfl, _, c0⟩ := hR.at_ (j := 0) (u := .int .u8 27) rfl
  rw [Nat.add_zero] at c0
  obtain ⟨W0, hW0⟩ : ∃ W, W = w.alloc (.cells #[.int .i64 0, .int .i64 0, .int .i64 0, .int .i64 0, .int .i64 0] 40) := ⟨_, rfl⟩
  have g0 : w.grownBy W0 none := by rw [hW0]; exact World.grownBy_alloc _ _ _
  obtain ⟨bR, hbR⟩ : ∃ n, n = w.heap.size := ⟨_, rfl⟩
  have hR0 : MC W0 bR msNone := by rw [hW0, hbR]; exact MC.new w msNone
  have d0 : W0.cell? ⟨B, off, none⟩ = some (.int .u8 27) := g0.cell c0 (by simp)
  replace g0 := Lib.hid g0; replace hR0 := Lib.hid hR0; replace hbR := Lib.hid hbR; replace hW0 := Lib.hid hW0; replace hres := Lib.hid hres; replace hR := Lib.hid hR
  clear c0
  go_enter Tryz.func46, Tryz.ntmps46
  go_upto_region 1 with fail
  rw [← hW0.out, ← hbR.out]
  cases up
  · obtain ⟨x0, x1, x2, x3, x4, x5⟩ := hR0.out.cells
    have f0 := x5 0; have f1 := x5 1; have f2 := x5 2; have f3 := x5 3; have f4 := x5 4
    clear x5
    go_wp2_with fail
    refine bodyPost_ret (res_ms3 hres.out _ rfl (hR0.out.set5 msNone) rfl rfl) rfl ⟨rfl, ?_⟩
    exact set5_grown msNone g0.out (Nat.le_of_eq hbR.out.symm)
  · go_wp2_with fail
    refine (CO.out _).mono ?_
    rintro e w2 ⟨rfl, g2⟩
    have hR2 := hR0.out.grown g2
    have G2 := g0.out.trans g2
    obtain ⟨x0, x1, x2, x3, x4, x5⟩ := hR2.cells
    have f0 := x5 0; have f1 := x5 1; have f2 := x5 2; have f3 := x5 3; have f4 := x5 4
    replace hR2 := Lib.hid hR2; replace G2 := Lib.hid G2
    clear x5 g2
    go_wp2_with fail
    refine bodyPost_ret (res_ms3 hres.out _ rfl (hR2.out.set5 (msOne 1114135 0)) rfl rfl) rfl ⟨rfl, ?_⟩
    exact set5_grown (msOne 1114135 0) G2.out (Nat.le_of_eq hbR.out.symm)
end Go.Proofs.YtncokbppijnfiaaGreatDoor
