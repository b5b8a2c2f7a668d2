/- Key: front of bytes that begin with ESC O, and with ESC and something else. -/
import Derived.Test.YtncokbppijnfiaaGreatDoorF2
import Derived.Test.YtncokbppijnfiaaGreatDoorD3
namespace Go.Proofs.YtncokbppijnfiaaGreatDoor
open Go.RowKit
set_option linter.unusedSimpArgs false
set_option linter.unusedVariables false

/-- front at ESC O. -/
def oL (b : List UInt8) (up : Bool) : Ms × Int × Nat :=
  if b.length = 2 ∧ up = false then (msNone, 0, 0)
  else match b[2]? with
    | some z => if letteredL z ≠ 0 then (msOne (letteredL z) 0, 2, 3) else (msOne 79 2, 2, 2)
    | none => (msOne 79 2, 2, 2)
set_option maxHeartbeats 2000000 in
set_option maxRecDepth 100000 in
theorem front_o (b : List UInt8) (A : Option Addr) (n cap : Nat) (up : Bool) (w : World) (hW : Wd w) (hn : n = b.length) (hbig : n ≤ 1000000) (hcap : n ≤ cap) (hR : Rd w A (bs b)) (hb0 : b[0]? = some 27) (hb1 : b[1]? = some 79) :
    Calls Tryz.prog 46 #[.slice A n cap, .bool up] w fun e w' => e = .returned (.tuple #[msV (oL b up).1, .int .i64 (oL b up).2.1, .int .i64 (oL b up).2.2]) ∧ w.grownBy w' none := by
  have hres : Tryz.f46.results = #[.cell 4 40, .tmp 5, .tmp 6] := by kernel_rfl
  obtain ⟨OL, hOL⟩ : ∃ r, r = oL b up := ⟨_, rfl⟩
  rw [← hOL]
  have CO : Hid (∀ c m W, Calls Tryz.prog 60 #[.int .i64 c, .int .i64 m] W fun e w' => e = .returned (msV (msOne c m)) ∧ W.grownBy w' none) := Lib.hid fun c m W => one_any c m W
  have hbs : ∀ (j : Nat) (c : UInt8), b[j]? = some c → (bs b)[j]? = some (.int .u8 (c.toNat : Int)) := fun j c h => by rw [bs, List.getElem?_map, h]; rfl
  obtain ⟨B, off, rfl, _, c0⟩ := hR.at_ (hbs 0 27 hb0)
  obtain ⟨_, _, e1, _, c1⟩ := hR.at_ (hbs 1 79 hb1)
  cases e1
  rw [Nat.add_zero] at c0
  have h2 : 2 ≤ n := by
    have := (List.getElem?_eq_some_iff.1 hb1).1; omega
  obtain ⟨W0, hW0⟩ : ∃ W, W = w.alloc (.cells #[.int .i64 0, .int .i64 0, .int .i64 0, .int .i64 0, .int .i64 0] 40) := ⟨_, rfl⟩
  have g0 : w.grownBy W0 none := by rw [hW0]; exact World.grownBy_alloc _ _ _
  obtain ⟨bR, hbR⟩ : ∃ n, n = w.heap.size := ⟨_, rfl⟩
  have hR0 : MC W0 bR msNone := by rw [hW0, hbR]; exact MC.new w msNone
  have d0 : W0.cell? ⟨B, off, none⟩ = some (.int .u8 27) := g0.cell c0 (by simp)
  have d1 : W0.cell? ⟨B, off + 1, none⟩ = some (.int .u8 79) := g0.cell c1 (by simp)
  have hEnd : Hid (∀ (W : World) (k : Ms) (i : Int) (m : Nat), OL = (k, i, m) → W0.grownBy W none → MC (set5 W bR k) bR k ∧ OL = (k, i, m) ∧ w.grownBy (set5 W bR k) none) := Lib.hid fun W k i m e g => ⟨(hR0.grown g).set5 k, e, set5_grown k (g0.trans g) (Nat.le_of_eq hbR.symm)⟩
  have hCells : Hid (∀ W, W0.grownBy W none → MC W bR msNone) := Lib.hid fun W g => hR0.grown g
  have hn1 : ¬ (n : Int) = 1 := by omega
  have hn1b : ((n : Int) == 1) = false := by rw [beq_eq_false_iff_ne]; exact hn1
  have hn1' : (1 : Int) < n := by omega
  have hW1 := hW.grown g0
  unfold oL at hOL
  rw [← hn] at hOL
  replace g0 := Lib.hid g0; replace hR0 := Lib.hid hR0; replace hbR := Lib.hid hbR; replace hW0 := Lib.hid hW0; replace hW := Lib.hid hW; replace hres := Lib.hid hres; replace hW1 := Lib.hid hW1
  clear c0 c1
  by_cases hn2 : n = 2
  · subst hn2
    have hb2 : b[2]? = none := by rw [List.getElem?_eq_none]; omega
    rw [hb2] at hOL
    replace hn := Lib.hid hn; replace hbs := Lib.hid hbs; replace hR := Lib.hid hR; replace hb0 := Lib.hid hb0; replace hb1 := Lib.hid hb1; replace hb2 := Lib.hid hb2
    cases up
    · have e1 : OL = (msNone, 0, 0) := by rw [hOL, if_pos ⟨rfl, rfl⟩]
      obtain ⟨q1, q2, q3⟩ := hEnd.out W0 _ _ _ e1 (World.grownBy.refl _ _)
      obtain ⟨x0, x1, x2, x3, x4, x5⟩ := (hCells.out W0 (World.grownBy.refl _ _)).cells
      have f0 := x5 0; have f1 := x5 1; have f2 := x5 2; have f3 := x5 3; have f4 := x5 4
      replace q1 := Lib.hid q1; replace q2 := Lib.hid q2; replace q3 := Lib.hid q3; replace hOL := Lib.hid hOL; replace e1 := Lib.hid e1
      clear x5
      go_enter Tryz.func46, Tryz.ntmps46
      go_upto_region 1 with fail
      rw [← hW0.out, ← hbR.out]
      go_wp2_with fail
      refine bodyPost_ret (res_ms3 hres.out _ rfl q1.out rfl rfl) rfl ⟨?_, q3.out⟩
      rw [q2.out]; rfl
    · have e1 : OL = (msOne 79 2, 2, 2) := by rw [hOL, if_neg (by simp)]
      replace hOL := Lib.hid hOL; replace e1 := Lib.hid e1
      go_enter Tryz.func46, Tryz.ntmps46
      go_upto_region 1 with fail
      rw [← hW0.out, ← hbR.out]
      go_wp2_with fail
      refine (CO.out _ _ _).mono ?_
      rintro e w6 ⟨rfl, g6⟩
      obtain ⟨q1, q2, q3⟩ := hEnd.out w6 _ _ _ e1.out g6
      obtain ⟨x0, x1, x2, x3, x4, x5⟩ := (hCells.out w6 g6).cells
      have f0 := x5 0; have f1 := x5 1; have f2 := x5 2; have f3 := x5 3; have f4 := x5 4
      replace q1 := Lib.hid q1; replace q2 := Lib.hid q2; replace q3 := Lib.hid q3
      clear x5 g6
      go_wp2_with fail
      refine bodyPost_ret (res_ms3 hres.out _ rfl q1.out rfl rfl) rfl ⟨?_, q3.out⟩
      rw [q2.out]; rfl
  · have hn3 : (2 : Int) < n := by omega
    have hn2b : ((n : Int) == 2) = false := by rw [beq_eq_false_iff_ne]; omega
    have hn2c : ¬ (n : Int) = 2 := by omega
    have hd3 : decide ((2 : Int) < n) = true := decide_eq_true hn3
    have hd4 : decide (2 < n) = true := decide_eq_true (by omega)
    obtain ⟨z, hz⟩ : ∃ z, b[2]? = some z := ⟨b[2]'(by omega), List.getElem?_eq_getElem _⟩
    obtain ⟨_, _, e1, _, c2⟩ := hR.at_ (hbs 2 z hz)
    cases e1
    have d2 : W0.cell? ⟨B, off + 2, none⟩ = some (.int .u8 (z.toNat : Int)) := g0.out.cell c2 (by simp)
    rw [if_neg (fun h => hn2 h.1), hz] at hOL
    dsimp only at hOL
    have CL := lettered_any z W0 hW1.out
    obtain ⟨LZ, hLZ⟩ : ∃ l, l = letteredL z := ⟨_, rfl⟩
    rw [← hLZ] at hOL CL
    obtain ⟨zi, hzi⟩ : ∃ i : Int, i = z.toNat := ⟨_, rfl⟩
    rw [← hzi] at d2 CL
    replace hn := Lib.hid hn; replace hbs := Lib.hid hbs; replace hR := Lib.hid hR; replace hb0 := Lib.hid hb0; replace hb1 := Lib.hid hb1; replace hz := Lib.hid hz; replace hLZ := Lib.hid hLZ; replace CL := Lib.hid CL; replace hzi := Lib.hid hzi
    clear c2
    by_cases hl : LZ = 0
    · have e1 : OL = (msOne 79 2, 2, 2) := by rw [hOL, if_neg (fun h => h hl)]
      replace hOL := Lib.hid hOL; replace e1 := Lib.hid e1
      subst hl
      go_enter Tryz.func46, Tryz.ntmps46
      go_upto_region 1 with fail
      rw [← hW0.out, ← hbR.out]
      go_wp2_with fail
      refine CL.out.mono ?_
      rintro e w5 ⟨rfl, rfl⟩
      go_wp2_with fail
      refine (CO.out _ _ _).mono ?_
      rintro e w6 ⟨rfl, g6⟩
      obtain ⟨q1, q2, q3⟩ := hEnd.out w6 _ _ _ e1.out g6
      obtain ⟨x0, x1, x2, x3, x4, x5⟩ := (hCells.out w6 g6).cells
      have f0 := x5 0; have f1 := x5 1; have f2 := x5 2; have f3 := x5 3; have f4 := x5 4
      replace q1 := Lib.hid q1; replace q2 := Lib.hid q2; replace q3 := Lib.hid q3
      clear x5 g6
      go_wp2_with fail
      refine bodyPost_ret (res_ms3 hres.out _ rfl q1.out rfl rfl) rfl ⟨?_, q3.out⟩
      rw [q2.out]; rfl
    · have e1 : OL = (msOne LZ 0, 2, 3) := by rw [hOL, if_pos hl]
      replace hOL := Lib.hid hOL; replace e1 := Lib.hid e1
      go_enter Tryz.func46, Tryz.ntmps46
      go_upto_region 1 with fail
      rw [← hW0.out, ← hbR.out]
      go_wp2_with fail
      refine CL.out.mono ?_
      rintro e w5 ⟨rfl, rfl⟩
      go_wp2_with fail
      refine (CO.out _ _ _).mono ?_
      rintro e w6 ⟨rfl, g6⟩
      obtain ⟨q1, q2, q3⟩ := hEnd.out w6 _ _ _ e1.out g6
      obtain ⟨x0, x1, x2, x3, x4, x5⟩ := (hCells.out w6 g6).cells
      have f0 := x5 0; have f1 := x5 1; have f2 := x5 2; have f3 := x5 3; have f4 := x5 4
      replace q1 := Lib.hid q1; replace q2 := Lib.hid q2; replace q3 := Lib.hid q3
      clear x5 g6
      go_wp2_with fail
      refine bodyPost_ret (res_ms3 hres.out _ rfl q1.out rfl rfl) rfl ⟨?_, q3.out⟩
      rw [q2.out]; rfl
end Go.Proofs.YtncokbppijnfiaaGreatDoor
