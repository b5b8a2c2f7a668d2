/- Key: front of ESC and what stands behind it. -/
import Derived.Test.YtncokbppijnfiaaGreatDoorG3
import Derived.Test.YtncokbppijnfiaaGreatDoorS2
import Derived.Deep.DeepCutAuto
import Derived.Deep.CutBlock
namespace Go.Proofs.YtncokbppijnfiaaGreatDoor
open Go.RowKit
set_option linter.unusedSimpArgs false
set_option linter.unusedVariables false

/-- A key behind an ESC: with Meta, if it may be. -/
def metaF (R : Ms × Int × Nat) : Ms × Int × Nat :=
  if R.2.1 ≠ 2 then (R.1, R.2.1, R.2.2 + 1)
  else if R.1.m / 2 % 2 = 1 ∨ isMouse R.1.c = true ∨ rightK R.1.c (R.1.m + 2) = false then (msOne 1114135 0, 2, 1)
  else (msOne R.1.c (R.1.m + 2), 2, R.2.2 + 1)
theorem or_set {m : Int} (h0 : 0 ≤ m) (h7 : m ≤ 7) (h : m / 2 % 2 = 1) : bits .or .i64 m 2 = m := by
  have hm : m = 0 ∨ m = 1 ∨ m = 2 ∨ m = 3 ∨ m = 4 ∨ m = 5 ∨ m = 6 ∨ m = 7 := by omega
  rcases hm with rfl | rfl | rfl | rfl | rfl | rfl | rfl | rfl <;> first | (exact absurd h (by decide)) | decide
@[go_sem high] theorem eq23h (a b c d : Int) (w : World) : (Op.equalIn 10000 23 (.agg #[.int .i64 a, .int .i64 b]) (.agg #[.int .i64 c, .int .i64 d])).run Tryz.prog w = .ok (a == c && b == d) w := eq23 a b c d w
set_option maxHeartbeats 900000 in
set_option maxRecDepth 100000 in
theorem front_meta (b : List UInt8) (c1 : UInt8) (A : Option Addr) (n cap : Nat) (up : Bool) (R : Ms × Int × Nat) (w : World) (hW : Wd w) (hn : n = b.length) (hbig : n ≤ 1000000) (hcap : n ≤ cap) (hR : Rd w A (bs b)) (hb0 : b[0]? = some 27) (hb1 : b[1]? = some c1)
    (h91 : c1 ≠ 91) (h79 : c1 ≠ 79) (h27 : ¬ (2 < n ∧ c1 = 27 ∧ b[2]? = some 27)) (hm : 0 ≤ R.1.m ∧ R.1.m ≤ 7) (hcI : I64 R.1.c) (hk : R.2.2 ≤ 1000000)
    (hF : ∀ A' W, Wd W → Rd W A' (bs (b.drop 1)) → Calls Tryz.prog 46 #[.slice A' (n - 1) (cap - 1), .bool up] W fun e w' => e = .returned (.tuple #[msV R.1, .int .i64 R.2.1, .int .i64 R.2.2]) ∧ W.grownBy w' none) :
    Calls Tryz.prog 46 #[.slice A n cap, .bool up] w fun e w' => e = .returned (.tuple #[msV (metaF R).1, .int .i64 (metaF R).2.1, .int .i64 (metaF R).2.2]) ∧ w.grownBy w' none := by
  have hres : Tryz.f46.results = #[.cell 4 40, .tmp 5, .tmp 6] := by kernel_rfl
  obtain ⟨OL, hOL⟩ : ∃ r, r = metaF R := ⟨_, rfl⟩
  rw [← hOL]
  obtain ⟨M, hi, k⟩ := R
  dsimp only at hm hcI hk hF
  unfold metaF at hOL
  dsimp only at hOL
  have CO : Hid (∀ c m W, Calls Tryz.prog 60 #[.int .i64 c, .int .i64 m] W fun e w' => e = .returned (msV (msOne c m)) ∧ W.grownBy w' none) := Lib.hid fun c m W => one_any c m W
  have CM : Hid (∀ W, Calls Tryz.prog 22 #[.int .i64 M.c] W fun e w' => e = .returned (.bool (isMouse M.c)) ∧ w' = W) := Lib.hid fun W => mouse_any M.c W
  have CR : Hid (∀ m W, Wd W → Calls Tryz.prog 8 #[keyV M.c m] W fun e w' => e = .returned (.bool (rightK M.c m)) ∧ W.grownBy w' none) := Lib.hid fun m W h => right_any M.c m hcI W h
  have hbs : ∀ (j : Nat) (c : UInt8), b[j]? = some c → (bs b)[j]? = some (.int .u8 (c.toNat : Int)) := fun j c h => by rw [bs, List.getElem?_map, h]; rfl
  obtain ⟨B, off, rfl, _, c0⟩ := hR.at_ (hbs 0 27 hb0)
  obtain ⟨_, _, e1, _, cc1⟩ := hR.at_ (hbs 1 c1 hb1)
  cases e1
  rw [Nat.add_zero] at c0
  have h2 : 2 ≤ n := by
    have := (List.getElem?_eq_some_iff.1 hb1).1; omega
  obtain ⟨W0, hW0⟩ : ∃ W, W = w.alloc (.cells #[.int .i64 0, .int .i64 0, .int .i64 0, .int .i64 0, .int .i64 0] 40) := ⟨_, rfl⟩
  have g0 : w.grownBy W0 none := by rw [hW0]; exact World.grownBy_alloc _ _ _
  obtain ⟨bR, hbR⟩ : ∃ n, n = w.heap.size := ⟨_, rfl⟩
  have hR0 : MC W0 bR msNone := by rw [hW0, hbR]; exact MC.new w msNone
  have d0 : W0.cell? ⟨B, off, none⟩ = some (.int .u8 27) := g0.cell c0 (by simp)
  obtain ⟨ci, hci⟩ : ∃ i : Int, i = c1.toNat := ⟨_, rfl⟩
  have d1 : W0.cell? ⟨B, off + 1, none⟩ = some (.int .u8 ci) := by rw [hci]; exact g0.cell cc1 (by simp)
  have hEnd : Hid (∀ (W : World) (k : Ms) (i : Int) (m : Nat), OL = (k, i, m) → W0.grownBy W none → MC (set5 W bR k) bR k ∧ OL = (k, i, m) ∧ w.grownBy (set5 W bR k) none) := Lib.hid fun W k i m e g => ⟨(hR0.grown g).set5 k, e, set5_grown k (g0.trans g) (Nat.le_of_eq hbR.symm)⟩
  have hCells : Hid (∀ W, W0.grownBy W none → MC W bR msNone) := Lib.hid fun W g => hR0.grown g
  have hn1 : ¬ (n : Int) = 1 := by omega
  have hn1b : ((n : Int) == 1) = false := by rw [beq_eq_false_iff_ne]; exact hn1
  have hn1' : (1 : Int) < n := by omega
  have hW1 := hW.grown g0
  have CF := hF (some ⟨B, off + 1, none⟩) W0 hW1 (by
    have := (hR.grown g0 (.inl rfl)).drop 1 rfl
    rw [show (bs b).drop 1 = bs (b.drop 1) by simp [bs]] at this
    exact this)
  have n91 : ¬ ci = 91 := fun e => h91 (UInt8.toNat_inj.1 (by show c1.toNat = 91; omega))
  have n79 : ¬ ci = 79 := fun e => h79 (UInt8.toNat_inj.1 (by show c1.toNat = 79; omega))
  have hc1 : ¬ cap = 1 := by omega
  have hc2 : 1 ≤ cap := by omega
  have hc3 : (1 : Int) ≤ cap := by omega
  replace g0 := Lib.hid g0; replace hR0 := Lib.hid hR0; replace hbR := Lib.hid hbR; replace hW0 := Lib.hid hW0; replace hW := Lib.hid hW; replace hres := Lib.hid hres; replace hW1 := Lib.hid hW1; replace CF := Lib.hid CF; replace hOL := Lib.hid hOL; replace hF := Lib.hid hF
  clear c0 cc1
  go_enter Tryz.func46, Tryz.ntmps46
  go_upto_block 0 with fail
  rw [← hW0.out, ← hbR.out]
  go_cut [4] (fun v wx => v = .pointer (some ⟨bR, 0, none⟩) ∧ wx = W0)
  case first =>
    replace hn := Lib.hid hn
    by_cases hn2 : n = 2
    · replace hbs := Lib.hid hbs; replace hR := Lib.hid hR; replace hci := Lib.hid hci
      have hd3 : ¬ (2 : Int) < n := by omega
      have hd4 : decide ((2 : Int) < n) = false := decide_eq_false hd3
      have hd5 : decide (2 < n) = false := decide_eq_false (by omega)
      subst hn2
      replace h27 := Lib.hid h27
      go_wp2_with fail
      go_meet
      exact ⟨rfl, rfl⟩
    · have hd3 : (2 : Int) < n := by omega
      have hd4 : decide ((2 : Int) < n) = true := decide_eq_true hd3
      have hd5 : decide (2 < n) = true := decide_eq_true (by omega)
      by_cases hc27 : ci = 27
      · obtain ⟨z, hz⟩ : ∃ z, b[2]? = some z := ⟨b[2]'(by rw [← hn.out]; omega), List.getElem?_eq_getElem _⟩
        obtain ⟨_, _, e1, _, c2⟩ := hR.at_ (hbs 2 z hz)
        cases e1
        have d2 : W0.cell? ⟨B, off + 2, none⟩ = some (.int .u8 (z.toNat : Int)) := g0.out.cell c2 (by simp)
        have hz27 : ¬ (z.toNat : Int) = 27 := fun e => h27 ⟨by omega, UInt8.toNat_inj.1 (by show c1.toNat = 27; omega), by rw [hz]; congr 1; exact UInt8.toNat_inj.1 (by show z.toNat = 27; omega)⟩
        obtain ⟨zi, hzi⟩ : ∃ i : Int, i = z.toNat := ⟨_, rfl⟩
        rw [← hzi] at d2 hz27
        have hq : ((27 : Int) == 27) = true := rfl
        have hq2 : (zi == 27) = false := by rw [beq_eq_false_iff_ne]; exact hz27
        replace h27 := Lib.hid h27; replace hbs := Lib.hid hbs; replace hR := Lib.hid hR; replace hz := Lib.hid hz; replace hzi := Lib.hid hzi; replace hci := Lib.hid hci
        subst hc27
        clear c2
        go_wp2_with fail
        go_meet
        exact ⟨rfl, rfl⟩
      · have hq2 : (ci == 27) = false := by rw [beq_eq_false_iff_ne]; exact hc27
        replace h27 := Lib.hid h27; replace hbs := Lib.hid hbs; replace hR := Lib.hid hR; replace hci := Lib.hid hci
        go_wp2_with fail
        go_meet
        exact ⟨rfl, rfl⟩
  case rest =>
  obtain ⟨rfl, rfl⟩ := hcut
  replace h27 := Lib.hid h27; replace hbs := Lib.hid hbs; replace hR := Lib.hid hR; replace hci := Lib.hid hci; replace hn := Lib.hid hn
  go_wp2_with fail
  refine CF.out.mono ?_
  rintro e w2 ⟨rfl, g2⟩
  have g3 := g_alloc g2 (.cells #[.int .i64 M.c, .int .i64 M.m, .int .i64 M.b, .int .i64 M.x, .int .i64 M.y] 40)
  have K3 := MC.new w2 M
  obtain ⟨bM, hbM⟩ : ∃ n, n = w2.heap.size := ⟨_, rfl⟩
  obtain ⟨W3, hW3⟩ : ∃ W, W = w2.alloc (.cells #[.int .i64 M.c, .int .i64 M.m, .int .i64 M.b, .int .i64 M.x, .int .i64 M.y] 40) := ⟨_, rfl⟩
  rw [← hbM, ← hW3] at K3
  rw [← hW3] at g3
  obtain ⟨y0, y1, y2, y3, y4, _⟩ := K3.cells
  obtain ⟨x0, x1, x2, x3, x4, x5⟩ := (hCells.out W3 g3).cells
  have f0 := x5 0; have f1 := x5 1; have f2 := x5 2; have f3 := x5 3; have f4 := x5 4
  clear x5
  have hwk : wrap64 ((k : Int) + 1) = (k : Int) + 1 := IntWalk.wrap64_in _ (by omega)
  have hkc : ((k + 1 : Nat) : Int) = (k : Int) + 1 := by omega
  replace K3 := Lib.hid K3; replace g3 := Lib.hid g3; replace hbM := Lib.hid hbM; replace hW3 := Lib.hid hW3; replace hkc := Lib.hid hkc
  clear CF g2
  go_upto_region 19 with fail
  rw [← hbM.out, ← hW3.out]
  by_cases hi2 : hi = 2
  rotate_left
  · have e1 : OL = (M, hi, k + 1) := by rw [hOL.out, if_pos hi2]
    have hi2b : (hi == 2) = false := by rw [beq_eq_false_iff_ne]; exact hi2
    have hi2c : (hi != 2) = true := by simp [bne, hi2b]
    have hi2d : decide (hi = 2) = false := decide_eq_false hi2
    clear d0 d1
    obtain ⟨q1, q2, q3⟩ := hEnd.out W3 _ _ _ e1 g3.out
    replace q1 := Lib.hid q1; replace q2 := Lib.hid q2; replace q3 := Lib.hid q3; replace e1 := Lib.hid e1
    go_upto_region 20 with fail
    go_wp2_with fail
    refine bodyPost_ret (res_ms3 hres.out _ rfl q1.out rfl rfl) rfl ⟨?_, q3.out⟩
    rw [q2.out]
    show Ending.returned (.tuple #[msV M, .int .i64 hi, .int .i64 ((k : Int) + 1)]) = .returned (.tuple #[msV M, .int .i64 hi, .int .i64 ((k + 1 : Nat) : Int)])
    rw [hkc.out]
  subst hi2
  clear d0 d1
  have hO2 := hOL.out
  rw [if_neg (by simp)] at hO2
  have g4 := g_alloc g3.out (.cells #[.int .i64 M.c, .int .i64 M.m] 23)
  have K4 := KC.new W3 M.c M.m
  obtain ⟨bK, hbK⟩ : ∃ n, n = W3.heap.size := ⟨_, rfl⟩
  obtain ⟨W4, hW4⟩ : ∃ W, W = W3.alloc (.cells #[.int .i64 M.c, .int .i64 M.m] 23) := ⟨_, rfl⟩
  rw [← hbK, ← hW4] at K4
  rw [← hW4] at g4
  have hbKW : wc.heap.size ≤ bK := by rw [hbK]; exact g3.out.size
  have hbMK : bM ≠ bK := by have := K3.out.lt; omega
  have hbRK : bR ≠ bK := by have := (hCells.out W3 g3.out).lt; omega
  have KM4 := K3.out.grown (World.grownBy_alloc W3 (.cells #[.int .i64 M.c, .int .i64 M.m] 23) none)
  rw [← hW4] at KM4
  obtain ⟨z0, z1, z2⟩ := K4.cells
  have z3 := z2 0; have z4 := z2 1
  clear z2 y0 y1 y2 y3 y4 x0 x1 x2 x3 x4 f0 f1 f2 f3 f4
  obtain ⟨y0, y1, y2, y3, y4, _⟩ := KM4.cells
  obtain ⟨m2, hm2⟩ : ∃ z, z = bits .or .i64 M.m 2 := ⟨_, rfl⟩
  have hm2' := hm2.symm
  have K5 := K4.set1 m2
  have g5 := set_grown (j := 1) (v := .int .i64 m2) g4 hbKW
  have KM5 := KM4.other (fun e => hbMK e.symm) 1 (.int .i64 m2)
  obtain ⟨W5, hW5⟩ : ∃ W, W = W4.setCell ⟨bK, 1, none⟩ (.int .i64 m2) := ⟨_, rfl⟩
  rw [← hW5] at K5 g5 KM5
  obtain ⟨p0, p1, p2, p3, p4, _⟩ := K3.out.cells
  replace hW4 := Lib.hid hW4; replace hbK := Lib.hid hbK; replace K4 := Lib.hid K4; replace g4 := Lib.hid g4; replace KM4 := Lib.hid KM4; replace K5 := Lib.hid K5; replace g5 := Lib.hid g5; replace KM5 := Lib.hid KM5; replace hW5 := Lib.hid hW5; replace hO2 := Lib.hid hO2; replace hm2 := Lib.hid hm2
  have h22 : ((2 : Int) != 2) = false := rfl
  go_upto_region 22 with fail
  rw [← hbK.out, ← hW4.out]
  clear p0 p1 p2 p3 p4
  go_upto_region 23 with fail
  rw [← hW5.out]
  clear z0 z1 z3 z4 y0 y1 y2 y3 y4 hm2'
  obtain ⟨z0, z1, _⟩ := K5.out.cells
  obtain ⟨y0, y1, y2, y3, y4, _⟩ := KM5.out.cells
  have G5 := g5
  have W5' := hW1.out.grown g5.out
  obtain ⟨mo, hmo⟩ : ∃ b, b = isMouse M.c := ⟨_, rfl⟩
  rw [← hmo] at CM hO2
  replace hmo := Lib.hid hmo
  by_cases hset : M.m / 2 % 2 = 1
  · have e1 : OL = (msOne 1114135 0, 2, 1) := by rw [hO2.out, if_pos (.inl hset)]
    have em : m2 = M.m := by rw [hm2.out]; exact or_set hm.1 hm.2 hset
    rw [em] at z1
    have hq1 : (M.c == M.c) = true := by simp
    have hq2 : (M.m == M.m) = true := by simp
    replace e1 := Lib.hid e1; replace hset := Lib.hid hset; replace em := Lib.hid em
    go_wp2_with fail
    refine (CO.out _ _ _).mono ?_
    rintro e w6 ⟨rfl, g6⟩
    have g06 := G5.out.trans g6
    obtain ⟨q1, q2, q3⟩ := hEnd.out w6 _ _ _ e1.out g06
    obtain ⟨x0, x1, x2, x3, x4, x5⟩ := (hCells.out w6 g06).cells
    have f0 := x5 0; have f1 := x5 1; have f2 := x5 2; have f3 := x5 3; have f4 := x5 4
    replace q1 := Lib.hid q1; replace q2 := Lib.hid q2; replace q3 := Lib.hid q3
    clear x5 g6 g06
    go_wp2_with fail
    refine bodyPost_ret (res_ms3 hres.out _ rfl q1.out rfl rfl) rfl ⟨?_, q3.out⟩
    rw [q2.out]; rfl
  · obtain ⟨em, em7⟩ := or_k (k := 2) hm.1 hm.2 (by omega) hset
    rw [← hm2.out] at em
    have a3 := Tryz.isAgg3
    have z3 := Tryz.sizeOf3
    have hne : (m2 == M.m) = false := by rw [beq_eq_false_iff_ne]; omega
    have hq1 : (M.c == M.c) = true := by simp
    rw [← em] at hO2
    replace hset := Lib.hid hset; replace em := Lib.hid em
    have CR5 := Lib.hid (CR.out m2 W5 W5')
    obtain ⟨rr, hrr⟩ : ∃ b, b = rightK M.c m2 := ⟨_, rfl⟩
    rw [← hrr] at CR5 hO2
    replace hrr := Lib.hid hrr
    unfold keyV at CR5
    cases mo
    rotate_left
    · have e1 : OL = (msOne 1114135 0, 2, 1) := by rw [hO2.out, if_pos (.inr (.inl rfl))]
      replace e1 := Lib.hid e1
      go_wp2_with fail
      refine (CM.out _).mono ?_
      rintro e w5 ⟨rfl, rfl⟩
      go_wp2_with fail
      refine (CO.out _ _ _).mono ?_
      rintro e w6 ⟨rfl, g6⟩
      have g06 := G5.out.trans g6
      obtain ⟨q1, q2, q3⟩ := hEnd.out w6 _ _ _ e1.out g06
      obtain ⟨x0, x1, x2, x3, x4, x5⟩ := (hCells.out w6 g06).cells
      have f0 := x5 0; have f1 := x5 1; have f2 := x5 2; have f3 := x5 3; have f4 := x5 4
      replace q1 := Lib.hid q1; replace q2 := Lib.hid q2; replace q3 := Lib.hid q3
      clear x5 g6 g06
      go_wp2_with fail
      refine bodyPost_ret (res_ms3 hres.out _ rfl q1.out rfl rfl) rfl ⟨?_, q3.out⟩
      rw [q2.out]; rfl
    cases rr
    · have e1 : OL = (msOne 1114135 0, 2, 1) := by rw [hO2.out, if_pos (.inr (.inr rfl))]
      replace e1 := Lib.hid e1
      go_wp2_with fail
      refine (CM.out _).mono ?_
      rintro e w5 ⟨rfl, rfl⟩
      go_wp2_with fail
      refine CR5.out.mono ?_
      rintro e w7 ⟨rfl, g7⟩
      replace G5 := Lib.hid (G5.out.trans g7)
      clear g7
      go_wp2_with fail
      refine (CO.out _ _ _).mono ?_
      rintro e w6 ⟨rfl, g6⟩
      have g06 := G5.out.trans g6
      obtain ⟨q1, q2, q3⟩ := hEnd.out w6 _ _ _ e1.out g06
      obtain ⟨x0, x1, x2, x3, x4, x5⟩ := (hCells.out w6 g06).cells
      have f0 := x5 0; have f1 := x5 1; have f2 := x5 2; have f3 := x5 3; have f4 := x5 4
      replace q1 := Lib.hid q1; replace q2 := Lib.hid q2; replace q3 := Lib.hid q3
      clear x5 g6 g06
      go_wp2_with fail
      refine bodyPost_ret (res_ms3 hres.out _ rfl q1.out rfl rfl) rfl ⟨?_, q3.out⟩
      rw [q2.out]; rfl
    · have e1 : OL = (msOne M.c m2, 2, k + 1) := by
        rw [hO2.out, if_neg]
        rintro (h | h | h)
        · exact hset.out h
        · cases h
        · cases h
      replace e1 := Lib.hid e1
      go_wp2_with fail
      refine (CM.out _).mono ?_
      rintro e w5 ⟨rfl, rfl⟩
      go_wp2_with fail
      refine CR5.out.mono ?_
      rintro e w7 ⟨rfl, g7⟩
      have G7 := G5.out.trans g7
      have K7 := K5.out.grown g7
      obtain ⟨u0, u1, _⟩ := K7.cells
      obtain ⟨q1, q2, q3⟩ := hEnd.out w7 _ _ _ e1.out G7
      obtain ⟨x0, x1, x2, x3, x4, x5⟩ := (hCells.out w7 G7).cells
      have f0 := x5 0; have f1 := x5 1; have f2 := x5 2; have f3 := x5 3; have f4 := x5 4
      replace q1 := Lib.hid q1; replace q2 := Lib.hid q2; replace q3 := Lib.hid q3; replace G7 := Lib.hid G7; replace K7 := Lib.hid K7
      clear x5 g7 z0 z1 y0 y1 y2 y3 y4
      go_wp2_with fail
      refine bodyPost_ret (res_ms3 hres.out _ rfl q1.out rfl rfl) rfl ⟨?_, q3.out⟩
      rw [q2.out]
      show Ending.returned (.tuple #[msV (msOne M.c m2), .int .i64 2, .int .i64 ((k : Int) + 1)]) = .returned (.tuple #[msV (msOne M.c m2), .int .i64 2, .int .i64 ((k + 1 : Nat) : Int)])
      rw [hkc.out]
end Go.Proofs.YtncokbppijnfiaaGreatDoor
