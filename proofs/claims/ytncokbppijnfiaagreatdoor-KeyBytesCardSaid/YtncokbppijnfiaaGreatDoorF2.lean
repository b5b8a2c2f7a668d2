/- Key: bare at a byte below 128; front at a byte that is no ESC. -/
import Derived.Test.YtncokbppijnfiaaGreatDoorC11
namespace Go.Proofs.YtncokbppijnfiaaGreatDoor
open Go.RowKit
set_option linter.unusedSimpArgs false
set_option linter.unusedVariables false

def bareA (c : UInt8) : Int × Int := if c.toNat = 0 then (32, 4) else if c.toNat = 9 ∨ c.toNat = 13 ∨ 32 ≤ c.toNat then (c.toNat, 0) else if c.toNat < 27 then (c.toNat + 96, 4) else (c.toNat + 64, 4)
set_option maxHeartbeats 2000000 in
set_option maxRecDepth 100000 in
theorem bare_ctl (b : List UInt8) (c : UInt8) (A : Option Addr) (n cap : Nat) (up : Bool) (w : World) (hn : n = b.length) (hcap : n ≤ cap) (hR : Rd w A (bs b)) (hb0 : b[0]? = some c) (hc : c.toNat < 128) :
    Calls Tryz.prog 59 #[.slice A n cap, .bool up] w fun e w' => e = .returned (.tuple #[msV (msOne (bareA c).1 (bareA c).2), .int .i64 2, .int .i64 1]) ∧ w.grownBy w' none := by
  have hres : Tryz.f59.results = #[.cell 4 40, .tmp 5, .tmp 6] := by kernel_rfl
  have CO : Hid (∀ c m W, Calls Tryz.prog 60 #[.int .i64 c, .int .i64 m] W fun e w' => e = .returned (msV (msOne c m)) ∧ W.grownBy w' none) := Lib.hid fun c m W => one_any c m W
  have hn1 : 1 ≤ n := by
    have := (List.getElem?_eq_some_iff.1 hb0).1; omega
  have hbs : (bs b)[0]? = some (.int .u8 (c.toNat : Int)) := by rw [bs, List.getElem?_map, hb0]; rfl
  obtain ⟨B, off, rfl, _, c0⟩ := hR.at_ hbs
  rw [Nat.add_zero] at c0
  obtain ⟨BA, hBA⟩ : ∃ r, r = bareA c := ⟨_, rfl⟩
  rw [← hBA]
  unfold bareA at hBA
  obtain ⟨W0, hW0⟩ : ∃ W, W = w.alloc (.cells #[.int .i64 0, .int .i64 0, .int .i64 0, .int .i64 0, .int .i64 0] 40) := ⟨_, rfl⟩
  have g0 : w.grownBy W0 none := by rw [hW0]; exact World.grownBy_alloc _ _ _
  obtain ⟨bR, hbR⟩ : ∃ n, n = w.heap.size := ⟨_, rfl⟩
  have hR0 : MC W0 bR msNone := by rw [hW0, hbR]; exact MC.new w msNone
  have d0 : W0.cell? ⟨B, off, none⟩ = some (.int .u8 (c.toNat : Int)) := g0.cell c0 (by simp)
  obtain ⟨ci, hci⟩ : ∃ i : Int, i = c.toNat := ⟨_, rfl⟩
  rw [← hci] at d0
  have hci0 : 0 ≤ ci := by omega
  have hci1 : ci < 128 := by omega
  have hn0 : (0 : Int) < n := by omega
  have hw0 : wrap64 ci = ci := IntWalk.wrap64_in _ (by omega)
  have hfin : Hid (∀ (x m : Int) (W : World), BA = (x, m) → W0.grownBy W none → MC W bR msNone ∧ BA = (x, m) ∧ w.grownBy (set5 W bR (msOne x m)) none) := Lib.hid fun x m W e g => ⟨hR0.grown g, e, set5_grown (msOne x m) (g0.trans g) (Nat.le_of_eq hbR.symm)⟩
  have hcase : ci = 0 ∨ ci = 9 ∨ ci = 13 ∨ 32 ≤ ci ∨ (0 < ci ∧ ci < 9) ∨ (9 < ci ∧ ci < 13) ∨ (13 < ci ∧ ci < 27) ∨ (27 ≤ ci ∧ ci < 32) := by omega
  have hB : ∃ x m, BA = (x, m) ∧ (x = if ci = 0 then 32 else if ci = 9 ∨ ci = 13 ∨ 32 ≤ ci then ci else if ci < 27 then ci + 96 else ci + 64) ∧ (m = if ci = 0 then 4 else if ci = 9 ∨ ci = 13 ∨ 32 ≤ ci then 0 else 4) := by
    rw [hBA]
    by_cases h1 : c.toNat = 0
    · rw [if_pos h1]; exact ⟨_, _, rfl, by rw [if_pos (by omega)], by rw [if_pos (by omega)]⟩
    rw [if_neg h1, if_neg (show ¬ ci = 0 by omega), if_neg (show ¬ ci = 0 by omega)]
    by_cases h2 : c.toNat = 9 ∨ c.toNat = 13 ∨ 32 ≤ c.toNat
    · rw [if_pos h2, if_pos (show ci = 9 ∨ ci = 13 ∨ 32 ≤ ci by omega), if_pos (show ci = 9 ∨ ci = 13 ∨ 32 ≤ ci by omega)]; exact ⟨_, _, rfl, hci.symm, rfl⟩
    rw [if_neg h2, if_neg (show ¬ (ci = 9 ∨ ci = 13 ∨ 32 ≤ ci) by omega), if_neg (show ¬ (ci = 9 ∨ ci = 13 ∨ 32 ≤ ci) by omega)]
    by_cases h3 : c.toNat < 27
    · rw [if_pos h3, if_pos (show ci < 27 by omega)]; exact ⟨_, _, rfl, by rw [hci], rfl⟩
    · rw [if_neg h3, if_neg (show ¬ ci < 27 by omega)]; exact ⟨_, _, rfl, by rw [hci], rfl⟩
  obtain ⟨x, m, hB1, hB2, hB3⟩ := hB
  replace g0 := Lib.hid g0; replace hR0 := Lib.hid hR0; replace hbR := Lib.hid hbR; replace hW0 := Lib.hid hW0; replace hres := Lib.hid hres; replace hR := Lib.hid hR; replace hbs := Lib.hid hbs; replace hBA := Lib.hid hBA; replace hn := Lib.hid hn; replace hb0 := Lib.hid hb0; replace hci := Lib.hid hci; replace hc := Lib.hid hc; replace hB1 := Lib.hid hB1; replace hB2 := Lib.hid hB2; replace hB3 := Lib.hid hB3
  clear c0
  go_enter Tryz.func59, Tryz.ntmps59
  go_upto_region 1 with fail
  rw [← hW0.out, ← hbR.out]
  rcases hcase with h | h | h | h | ⟨h, h'⟩ | ⟨h, h'⟩ | ⟨h, h'⟩ | ⟨h, h'⟩
  · have ex : x = 32 := by
      rw [hB2.out]
      repeat' split
      all_goals omega
    have em : m = 4 := by
      rw [hB3.out]
      repeat' split
      all_goals omega
    have eB : BA = (32, 4) := by rw [hB1.out, ex, em]
    clear ex em
    replace eB := Lib.hid eB
    subst h; go_wp2_with fail
    refine (CO.out _ _ _).mono ?_
    rintro e w2 ⟨rfl, g2⟩
    obtain ⟨hR2, e2, G2⟩ := hfin.out _ _ _ eB.out g2
    obtain ⟨x0, x1, x2, x3, x4, x5⟩ := hR2.cells
    have f0 := x5 0; have f1 := x5 1; have f2 := x5 2; have f3 := x5 3; have f4 := x5 4
    replace hR2 := Lib.hid hR2; replace G2 := Lib.hid G2; replace e2 := Lib.hid e2
    clear x5 g2
    go_wp2_with fail
    refine bodyPost_ret (res_ms3 hres.out _ rfl (hR2.out.set5 (msOne (32) 4)) rfl rfl) rfl ⟨?_, G2.out⟩
    rw [e2.out]; rfl
  · have ex : x = 9 := by
      rw [hB2.out]
      repeat' split
      all_goals omega
    have em : m = 0 := by
      rw [hB3.out]
      repeat' split
      all_goals omega
    have eB : BA = (9, 0) := by rw [hB1.out, ex, em]
    clear ex em
    replace eB := Lib.hid eB
    subst h; go_wp2_with fail
    refine (CO.out _ _ _).mono ?_
    rintro e w2 ⟨rfl, g2⟩
    obtain ⟨hR2, e2, G2⟩ := hfin.out _ _ _ eB.out g2
    obtain ⟨x0, x1, x2, x3, x4, x5⟩ := hR2.cells
    have f0 := x5 0; have f1 := x5 1; have f2 := x5 2; have f3 := x5 3; have f4 := x5 4
    replace hR2 := Lib.hid hR2; replace G2 := Lib.hid G2; replace e2 := Lib.hid e2
    clear x5 g2
    go_wp2_with fail
    refine bodyPost_ret (res_ms3 hres.out _ rfl (hR2.out.set5 (msOne (9) 0)) rfl rfl) rfl ⟨?_, G2.out⟩
    rw [e2.out]; rfl
  · have ex : x = 13 := by
      rw [hB2.out]
      repeat' split
      all_goals omega
    have em : m = 0 := by
      rw [hB3.out]
      repeat' split
      all_goals omega
    have eB : BA = (13, 0) := by rw [hB1.out, ex, em]
    clear ex em
    replace eB := Lib.hid eB
    subst h; go_wp2_with fail
    refine (CO.out _ _ _).mono ?_
    rintro e w2 ⟨rfl, g2⟩
    obtain ⟨hR2, e2, G2⟩ := hfin.out _ _ _ eB.out g2
    obtain ⟨x0, x1, x2, x3, x4, x5⟩ := hR2.cells
    have f0 := x5 0; have f1 := x5 1; have f2 := x5 2; have f3 := x5 3; have f4 := x5 4
    replace hR2 := Lib.hid hR2; replace G2 := Lib.hid G2; replace e2 := Lib.hid e2
    clear x5 g2
    go_wp2_with fail
    refine bodyPost_ret (res_ms3 hres.out _ rfl (hR2.out.set5 (msOne (13) 0)) rfl rfl) rfl ⟨?_, G2.out⟩
    rw [e2.out]; rfl
  · have ex : x = ci := by
      rw [hB2.out]
      repeat' split
      all_goals omega
    have em : m = 0 := by
      rw [hB3.out]
      repeat' split
      all_goals omega
    have eB : BA = (ci, 0) := by rw [hB1.out, ex, em]
    clear ex em
    replace eB := Lib.hid eB
    go_wp2_with fail
    refine (CO.out _ _ _).mono ?_
    rintro e w2 ⟨rfl, g2⟩
    obtain ⟨hR2, e2, G2⟩ := hfin.out _ _ _ eB.out g2
    obtain ⟨x0, x1, x2, x3, x4, x5⟩ := hR2.cells
    have f0 := x5 0; have f1 := x5 1; have f2 := x5 2; have f3 := x5 3; have f4 := x5 4
    replace hR2 := Lib.hid hR2; replace G2 := Lib.hid G2; replace e2 := Lib.hid e2
    clear x5 g2
    go_wp2_with fail
    refine bodyPost_ret (res_ms3 hres.out _ rfl (hR2.out.set5 (msOne (ci) 0)) rfl rfl) rfl ⟨?_, G2.out⟩
    rw [e2.out]; rfl
  · have ex : x = ci + 97 - 1 := by
      rw [hB2.out]
      repeat' split
      all_goals omega
    have em : m = 4 := by
      rw [hB3.out]
      repeat' split
      all_goals omega
    have eB : BA = (ci + 97 - 1, 4) := by rw [hB1.out, ex, em]
    clear ex em
    replace eB := Lib.hid eB
    go_wp2_with fail
    refine (CO.out _ _ _).mono ?_
    rintro e w2 ⟨rfl, g2⟩
    obtain ⟨hR2, e2, G2⟩ := hfin.out _ _ _ eB.out g2
    obtain ⟨x0, x1, x2, x3, x4, x5⟩ := hR2.cells
    have f0 := x5 0; have f1 := x5 1; have f2 := x5 2; have f3 := x5 3; have f4 := x5 4
    replace hR2 := Lib.hid hR2; replace G2 := Lib.hid G2; replace e2 := Lib.hid e2
    clear x5 g2
    go_wp2_with fail
    refine bodyPost_ret (res_ms3 hres.out _ rfl (hR2.out.set5 (msOne (ci + 97 - 1) 4)) rfl rfl) rfl ⟨?_, G2.out⟩
    rw [e2.out]; rfl
  · have ex : x = ci + 97 - 1 := by
      rw [hB2.out]
      repeat' split
      all_goals omega
    have em : m = 4 := by
      rw [hB3.out]
      repeat' split
      all_goals omega
    have eB : BA = (ci + 97 - 1, 4) := by rw [hB1.out, ex, em]
    clear ex em
    replace eB := Lib.hid eB
    go_wp2_with fail
    refine (CO.out _ _ _).mono ?_
    rintro e w2 ⟨rfl, g2⟩
    obtain ⟨hR2, e2, G2⟩ := hfin.out _ _ _ eB.out g2
    obtain ⟨x0, x1, x2, x3, x4, x5⟩ := hR2.cells
    have f0 := x5 0; have f1 := x5 1; have f2 := x5 2; have f3 := x5 3; have f4 := x5 4
    replace hR2 := Lib.hid hR2; replace G2 := Lib.hid G2; replace e2 := Lib.hid e2
    clear x5 g2
    go_wp2_with fail
    refine bodyPost_ret (res_ms3 hres.out _ rfl (hR2.out.set5 (msOne (ci + 97 - 1) 4)) rfl rfl) rfl ⟨?_, G2.out⟩
    rw [e2.out]; rfl
  · have ex : x = ci + 97 - 1 := by
      rw [hB2.out]
      repeat' split
      all_goals omega
    have em : m = 4 := by
      rw [hB3.out]
      repeat' split
      all_goals omega
    have eB : BA = (ci + 97 - 1, 4) := by rw [hB1.out, ex, em]
    clear ex em
    replace eB := Lib.hid eB
    go_wp2_with fail
    refine (CO.out _ _ _).mono ?_
    rintro e w2 ⟨rfl, g2⟩
    obtain ⟨hR2, e2, G2⟩ := hfin.out _ _ _ eB.out g2
    obtain ⟨x0, x1, x2, x3, x4, x5⟩ := hR2.cells
    have f0 := x5 0; have f1 := x5 1; have f2 := x5 2; have f3 := x5 3; have f4 := x5 4
    replace hR2 := Lib.hid hR2; replace G2 := Lib.hid G2; replace e2 := Lib.hid e2
    clear x5 g2
    go_wp2_with fail
    refine bodyPost_ret (res_ms3 hres.out _ rfl (hR2.out.set5 (msOne (ci + 97 - 1) 4)) rfl rfl) rfl ⟨?_, G2.out⟩
    rw [e2.out]; rfl
  · have ex : x = ci + 64 := by
      rw [hB2.out]
      repeat' split
      all_goals omega
    have em : m = 4 := by
      rw [hB3.out]
      repeat' split
      all_goals omega
    have eB : BA = (ci + 64, 4) := by rw [hB1.out, ex, em]
    clear ex em
    replace eB := Lib.hid eB
    go_wp2_with fail
    refine (CO.out _ _ _).mono ?_
    rintro e w2 ⟨rfl, g2⟩
    obtain ⟨hR2, e2, G2⟩ := hfin.out _ _ _ eB.out g2
    obtain ⟨x0, x1, x2, x3, x4, x5⟩ := hR2.cells
    have f0 := x5 0; have f1 := x5 1; have f2 := x5 2; have f3 := x5 3; have f4 := x5 4
    replace hR2 := Lib.hid hR2; replace G2 := Lib.hid G2; replace e2 := Lib.hid e2
    clear x5 g2
    go_wp2_with fail
    refine bodyPost_ret (res_ms3 hres.out _ rfl (hR2.out.set5 (msOne (ci + 64) 4)) rfl rfl) rfl ⟨?_, G2.out⟩
    rw [e2.out]; rfl

set_option maxHeartbeats 1000000 in
set_option maxRecDepth 100000 in
theorem front_bare (b : List UInt8) (c : UInt8) (A : Option Addr) (n cap : Nat) (up : Bool) (R : Ms × Int × Nat) (w : World) (hn : n = b.length) (hR : Rd w A (bs b)) (hb0 : b[0]? = some c) (hc : c ≠ 27)
    (hB : ∀ W, w.grownBy W none → Calls Tryz.prog 59 #[.slice A n cap, .bool up] W fun e w' => e = .returned (.tuple #[msV R.1, .int .i64 R.2.1, .int .i64 R.2.2]) ∧ W.grownBy w' none) :
    Calls Tryz.prog 46 #[.slice A n cap, .bool up] w fun e w' => e = .returned (.tuple #[msV R.1, .int .i64 R.2.1, .int .i64 R.2.2]) ∧ w.grownBy w' none := by
  have hres : Tryz.f46.results = #[.cell 4 40, .tmp 5, .tmp 6] := by kernel_rfl
  obtain ⟨BM, BH, BN⟩ := R
  dsimp only at hB ⊢
  have hn1 : 1 ≤ n := by
    have := (List.getElem?_eq_some_iff.1 hb0).1; omega
  have hbs : (bs b)[0]? = some (.int .u8 (c.toNat : Int)) := by rw [bs, List.getElem?_map, hb0]; rfl
  obtain ⟨B, off, rfl, _, c0⟩ := hR.at_ hbs
  rw [Nat.add_zero] at c0
  obtain ⟨W0, hW0⟩ : ∃ W, W = w.alloc (.cells #[.int .i64 0, .int .i64 0, .int .i64 0, .int .i64 0, .int .i64 0] 40) := ⟨_, rfl⟩
  have g0 : w.grownBy W0 none := by rw [hW0]; exact World.grownBy_alloc _ _ _
  obtain ⟨bR, hbR⟩ : ∃ n, n = w.heap.size := ⟨_, rfl⟩
  have hR0 : MC W0 bR msNone := by rw [hW0, hbR]; exact MC.new w msNone
  have d0 : W0.cell? ⟨B, off, none⟩ = some (.int .u8 (c.toNat : Int)) := g0.cell c0 (by simp)
  have CB := Lib.hid (hB W0 g0)
  have hc27 : ¬ (c.toNat : Int) = 27 := fun e => hc (UInt8.toNat_inj.1 (by show c.toNat = 27; omega))
  have hn0 : (0 : Int) < n := by omega
  replace g0 := Lib.hid g0; replace hR0 := Lib.hid hR0; replace hbR := Lib.hid hbR; replace hW0 := Lib.hid hW0; replace hres := Lib.hid hres; replace hR := Lib.hid hR; replace hbs := Lib.hid hbs; replace hn := Lib.hid hn; replace hb0 := Lib.hid hb0; replace hB := Lib.hid hB; replace hc := Lib.hid hc
  clear c0
  go_enter Tryz.func46, Tryz.ntmps46
  go_upto_region 1 with fail
  rw [← hW0.out, ← hbR.out]
  go_wp2_with fail
  refine CB.out.mono ?_
  rintro e w2 ⟨rfl, g2⟩
  have hR2 := hR0.out.grown g2
  have G2 := g0.out.trans g2
  obtain ⟨x0, x1, x2, x3, x4, x5⟩ := hR2.cells
  have f0 := x5 0; have f1 := x5 1; have f2 := x5 2; have f3 := x5 3; have f4 := x5 4
  replace hR2 := Lib.hid hR2; replace G2 := Lib.hid G2
  clear x5 g2
  go_wp2_with fail
  refine bodyPost_ret (res_ms3 hres.out _ rfl (hR2.out.set5 BM) rfl rfl) rfl ⟨rfl, ?_⟩
  exact set5_grown BM G2.out (Nat.le_of_eq hbR.out.symm)
end Go.Proofs.YtncokbppijnfiaaGreatDoor
