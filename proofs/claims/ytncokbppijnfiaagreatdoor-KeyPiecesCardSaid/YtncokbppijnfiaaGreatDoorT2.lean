/- Key: the walk of KeyMouse as a whole. -/
import Derived.Test.YtncokbppijnfiaaGreatDoorT1
namespace Go.Proofs.YtncokbppijnfiaaGreatDoor
open Go.RowKit
set_option linter.unusedSimpArgs false
set_option linter.unusedVariables false

theorem mouseOk_mk {c m b x y : Int} (hc : 1114136 ≤ c ∧ c ≤ 1114140) (hm : 0 ≤ m ∧ m < 8) (hb : if 1114139 ≤ c then b = 0 else 1 ≤ b ∧ b ≤ 3) (hx : 0 ≤ x ∧ x < 9999) (hy : 0 ≤ y ∧ y < 9999) : MouseOk ⟨c, m, b, x, y⟩ :=
  ⟨hc, ⟨hm.1, by have := hm.2; show m ≤ 7; omega⟩, hb, ⟨hx.1, by have := hx.2; show x ≤ 9998; omega⟩, ⟨hy.1, by have := hy.2; show y ≤ 9998; omega⟩⟩
theorem set_row (w : World) (b j : Nat) (v : Value) : w.grownBy (w.setCell ⟨b, j, none⟩ v) (some b) := g_set (a := ⟨b, j, none⟩) (World.grownBy.refl w _) rfl v
set_option maxHeartbeats 4000000 in
set_option maxRecDepth 100000 in
theorem keyMouse_any (i0 i1 i2 i3 i4 : Int) (h0 : I64 i0) (h1 : I64 i1) (h2 : I64 i2) (h3 : I64 i3) (h4 : I64 i4) (w : World) (hW : Wd w) :
    Calls Tryz.prog 6 #[.int .i64 i0, .int .i64 i1, .int .i64 i2, .int .i64 i3, .int .i64 i4] w fun e w' => e = .returned (.bool true) ∧ w.grownBy w' none := by
  have CS := Lib.hid (shown_any w hW)
  have P0 : Hid (∀ W, Calls Tryz.prog 16 #[.int .i64 i0, .int .i64 5] W fun e w' => e = .returned (.int .i64 (pickL i0 5)) ∧ w' = W) := Lib.hid fun W => pick_any i0 5 h0 (by omega) (by omega) W
  have P1 : Hid (∀ W, Calls Tryz.prog 16 #[.int .i64 i1, .int .i64 8] W fun e w' => e = .returned (.int .i64 (pickL i1 8)) ∧ w' = W) := Lib.hid fun W => pick_any i1 8 h1 (by omega) (by omega) W
  have P2 : Hid (∀ W, Calls Tryz.prog 16 #[.int .i64 i2, .int .i64 3] W fun e w' => e = .returned (.int .i64 (pickL i2 3)) ∧ w' = W) := Lib.hid fun W => pick_any i2 3 h2 (by omega) (by omega) W
  have P3 : Hid (∀ W, Calls Tryz.prog 16 #[.int .i64 i3, .int .i64 9999] W fun e w' => e = .returned (.int .i64 (pickL i3 9999)) ∧ w' = W) := Lib.hid fun W => pick_any i3 9999 h3 (by omega) (by omega) W
  have P4 : Hid (∀ W, Calls Tryz.prog 16 #[.int .i64 i4, .int .i64 9999] W fun e w' => e = .returned (.int .i64 (pickL i4 9999)) ∧ w' = W) := Lib.hid fun W => pick_any i4 9999 h4 (by omega) (by omega) W
  have b0 := pickL_in i0 5 (by omega); have b1 := pickL_in i1 8 (by omega); have b2 := pickL_in i2 3 (by omega); have b3 := pickL_in i3 9999 (by omega); have b4 := pickL_in i4 9999 (by omega)
  obtain ⟨v0, e0⟩ : ∃ v, v = pickL i0 5 := ⟨_, rfl⟩
  obtain ⟨mm, e1⟩ : ∃ v, v = pickL i1 8 := ⟨_, rfl⟩
  obtain ⟨v2, e2⟩ : ∃ v, v = pickL i2 3 := ⟨_, rfl⟩
  obtain ⟨xx, e3⟩ : ∃ v, v = pickL i3 9999 := ⟨_, rfl⟩
  obtain ⟨yy, e4⟩ : ∃ v, v = pickL i4 9999 := ⟨_, rfl⟩
  rw [← e0] at P0 b0; rw [← e1] at P1 b1; rw [← e2] at P2 b2; rw [← e3] at P3 b3; rw [← e4] at P4 b4
  obtain ⟨cc, hcc⟩ : ∃ v, v = 1114136 + v0 := ⟨_, rfl⟩
  obtain ⟨bb, hbb⟩ : ∃ v, v = 1 + v2 := ⟨_, rfl⟩
  have w1 : wrap64 (1114136 + v0) = cc := by rw [hcc]; exact IntWalk.wrap64_in _ (by omega)
  have w2 : wrap64 (1 + v2) = bb := by rw [hbb]; exact IntWalk.wrap64_in _ (by omega)
  have wf0 : Wf w w := ⟨hW, Below.refl _ _⟩
  have hcb : 1114136 ≤ cc ∧ cc ≤ 1114140 := by omega
  have hbB : 1 ≤ bb ∧ bb ≤ 3 := by omega
  replace hW := Lib.hid hW; replace wf0 := Lib.hid wf0; replace e0 := Lib.hid e0; replace e1 := Lib.hid e1; replace e2 := Lib.hid e2; replace e3 := Lib.hid e3; replace e4 := Lib.hid e4; replace hcc := Lib.hid hcc; replace hbb := Lib.hid hbb; replace b0 := Lib.hid b0; replace b1 := Lib.hid b1; replace b2 := Lib.hid b2; replace b3 := Lib.hid b3; replace b4 := Lib.hid b4; replace hbB := Lib.hid hbB
  replace h0 := Lib.hid h0; replace h1 := Lib.hid h1; replace h2 := Lib.hid h2; replace h3 := Lib.hid h3; replace h4 := Lib.hid h4
  go_enter Tryz.func6, Tryz.ntmps6
  go_wp2_with fail
  refine CS.out.mono ?_
  rintro e w1' ⟨rfl, g1⟩
  have CN := Lib.hid (newDec_any w1')
  replace g1 := Lib.hid g1
  clear CS
  go_wp2_with fail
  refine CN.out.mono ?_
  rintro e w2' ⟨rfl, g2, D2⟩
  obtain ⟨p, hp⟩ : ∃ p, p = w1'.heap.size := ⟨_, rfl⟩
  rw [← hp] at D2 ⊢
  have hp0 : w.heap.size ≤ p := by rw [hp]; exact g1.out.size
  have G2 := g1.out.trans g2
  replace D2 := Lib.hid D2; replace G2 := Lib.hid G2; replace hp := Lib.hid hp
  clear CN g2 g1
  go_wp2_with fail
  refine (P0.out _).mono ?_
  rintro e w3 ⟨rfl, rfl⟩
  go_wp2_with fail
  refine (P1.out _).mono ?_
  rintro e w4 ⟨rfl, rfl⟩
  go_wp2_with fail
  refine (P2.out _).mono ?_
  rintro e w5 ⟨rfl, rfl⟩
  go_wp2_with fail
  refine (P3.out _).mono ?_
  rintro e w6 ⟨rfl, rfl⟩
  go_wp2_with fail
  refine (P4.out _).mono ?_
  rintro e w7 ⟨rfl, rfl⟩
  clear P0 P1 P2 P3 P4
  have K7 := MC.new w7 ⟨cc, mm, bb, xx, yy⟩
  have G7 := g_alloc G2.out (.cells #[.int .i64 cc, .int .i64 mm, .int .i64 bb, .int .i64 xx, .int .i64 yy] 40)
  have D7 := D2.out.grown (World.grownBy_alloc w7 (.cells #[.int .i64 cc, .int .i64 mm, .int .i64 bb, .int .i64 xx, .int .i64 yy] 40) none) (by simp)
  obtain ⟨bm, hbm⟩ : ∃ n, n = w7.heap.size := ⟨_, rfl⟩
  obtain ⟨W7, hW7⟩ : ∃ W, W = w7.alloc (.cells #[.int .i64 cc, .int .i64 mm, .int .i64 bb, .int .i64 xx, .int .i64 yy] 40) := ⟨_, rfl⟩
  dsimp only at K7
  rw [← hbm, ← hW7] at K7
  rw [← hW7] at G7 D7
  have hbm0 : w.heap.size ≤ bm := by rw [hbm]; exact G2.out.size
  have hpbm : p ≠ bm := by have := D2.out.lt; omega
  replace hbm := Lib.hid hbm; replace hW7 := Lib.hid hW7; replace K7 := Lib.hid K7; replace G7 := Lib.hid G7; replace D7 := Lib.hid D7
  go_upto_region 6 with fail
  rw [← hbm.out, ← hW7.out]
  obtain ⟨x0, x1, x2, x3, x4, x5⟩ := K7.out.cells
  dsimp only at x0 x1 x2 x3 x4
  have f2 := x5 2
  clear x5
  go_upto_if 42 with fail
  go_cut [10] (fun _ wx => ∃ bt : Int, Hid (MC wx bm ⟨cc, mm, bt, xx, yy⟩ ∧ MouseOk ⟨cc, mm, bt, xx, yy⟩ ∧ w.grownBy wx none ∧ DB wx p (.slice none 0 0)))
  case first =>
    by_cases hw : 1114139 ≤ cc
    · have K8 := heap_set (j := 2) K7.out (.int .i64 0)
      have G8 := set_grown (j := 2) (v := .int .i64 0) G7.out hbm0
      have D8 := D7.out.grown (set_row W7 bm 2 (.int .i64 0)) (fun e => hpbm (by injection e))
      replace K8 := Lib.hid K8; replace G8 := Lib.hid G8; replace D8 := Lib.hid D8
      go_wp2_with fail
      go_meet
      exact ⟨0, Lib.hid ⟨K8.out, mouseOk_mk hcb b1.out (by rw [if_pos (by omega)]) b3.out b4.out, G8.out, D8.out⟩⟩
    · go_wp2_with fail
      go_meet
      exact ⟨bb, Lib.hid ⟨K7.out, mouseOk_mk hcb b1.out (by rw [if_neg (by omega)]; exact hbB.out) b3.out b4.out, G7.out, D7.out⟩⟩
  case rest =>
    obtain ⟨bt, hI⟩ := hcut
    obtain ⟨Km, Ok, G9, D9⟩ := hI.out
    obtain ⟨k, hk⟩ : ∃ k : Ms, k = ⟨cc, mm, bt, xx, yy⟩ := ⟨_, rfl⟩
    obtain ⟨y0, y1, y2, y3, y4, _⟩ := Km.cells
    dsimp only at y0 y1 y2 y3 y4
    have W9 := hW.out.grown G9
    have ok2 := Ok
    rw [← hk] at ok2
    have CM : Calls Tryz.prog 19 #[.agg #[.int .i64 cc, .int .i64 mm, .int .i64 bt, .int .i64 xx, .int .i64 yy], .int .i64 128] wc fun e w' => Out wc e w' (mouseL k) := by
      have i64 : ∀ z : Int, -5000000 ≤ z → z ≤ 5000000 → I64 z := fun z a b => by unfold I64; omega
      have q1 := Ok.c; have q2 := Ok.m; have q3 := Ok.b; have q4 := Ok.x; have q5 := Ok.y
      dsimp only at q1 q2 q3 q4 q5
      have q3' : 0 ≤ bt ∧ bt ≤ 3 := by split at q3 <;> omega
      have := mouseB_any ⟨cc, mm, bt, xx, yy⟩ 128 (i64 _ (by show _ ≤ cc; omega) (by show cc ≤ _; omega)) (i64 _ (by show _ ≤ mm; omega) (by show mm ≤ _; omega)) (i64 _ (by show _ ≤ bt; omega) (by show bt ≤ _; omega)) (i64 _ (by show _ ≤ xx; omega) (by show xx ≤ _; omega)) (i64 _ (by show _ ≤ yy; omega) (by show yy ≤ _; omega)) wc W9
      rw [mouseOut_on _ Ok] at this
      rw [hk]; exact this
    replace CM := Lib.hid CM; replace W9 := Lib.hid W9; replace Km := Lib.hid Km; replace G9 := Lib.hid G9; replace D9 := Lib.hid D9; replace Ok := Lib.hid Ok; replace ok2 := Lib.hid ok2; replace hk := Lib.hid hk
    clear x0 x1 x2 x3 x4 f2 K7 G7 D7 D2 G2
    go_wp2_with fail
    refine CM.out.mono ?_
    rintro e w10 ⟨A, n, c, rfl, hn, hc, R10, g10⟩
    obtain ⟨a1, a2, a3, a4⟩ := mouseL_asc k ok2.out
    have K10 := Km.out.grown g10
    have D10 := D9.out.grown g10 (by simp)
    have G10 := G9.out.trans g10
    have wf10 : Wf w w10 := wf0.out.grown G10 (by simp)
    have CF := Lib.hid (feed_any (frF false) p 0 0 w.heap.size n c none A [] (mouseL k) [] [k] w w10 wf10 (Nat.le_refl _) hp0 G10.size D10 (World.ownsRow_nil _ _ _ _) rfl hn (by omega) R10 (took_mouse k ok2.out) (frontAt_mouse k ok2.out))
    have hn0 : (0 : Int) < n := by omega
    have hn0d : decide ((0 : Int) < (n : Int)) = true := decide_eq_true hn0
    have hn0e : decide (0 < n) = true := decide_eq_true (by omega)
    replace hn := Lib.hid hn; replace hc := Lib.hid hc; replace R10 := Lib.hid R10; replace K10 := Lib.hid K10; replace D10 := Lib.hid D10; replace G10 := Lib.hid G10; replace wf10 := Lib.hid wf10; replace a1 := Lib.hid a1; replace a4 := Lib.hid a4
    clear CM y0 y1 y2 y3 y4 g10
    go_wp2_with fail
    refine CF.out.mono ?_
    rintro e w12 ⟨Al, cl, A12, c12, w11, rfl, Ol, D12, O12, g11, g12⟩
    have G11 := G10.out.trans g11
    have G12 : w.grownBy w12 none := g_rows G11 (fun g h => by injection h with h; omega) g12
    have K12 : MC w12 bm ⟨cc, mm, bt, xx, yy⟩ := (g12.block bm (K10.out.grown g11).lt (fun e => hpbm (by injection e with e; exact e.symm))).trans (K10.out.grown g11)
    have RL := Rd.own_row Ol
    have hms : msCells [k] = [.int .i64 cc, .int .i64 mm, .int .i64 bt, .int .i64 xx, .int .i64 yy] := by rw [hk.out]; rfl
    rw [hms] at RL
    obtain ⟨bL, oL, rfl, _, l0⟩ := RL.at_ (j := 0) rfl
    obtain ⟨_, _, e1', _, l1⟩ := RL.at_ (j := 1) rfl
    cases e1'
    obtain ⟨_, _, e2', _, l2⟩ := RL.at_ (j := 2) rfl
    cases e2'
    obtain ⟨_, _, e3', _, l3⟩ := RL.at_ (j := 3) rfl
    cases e3'
    obtain ⟨_, _, e4', _, l4⟩ := RL.at_ (j := 4) rfl
    cases e4'
    rw [Nat.add_zero] at l0
    obtain ⟨y0, y1, y2, y3, y4, _⟩ := K12.cells
    dsimp only at y0 y1 y2 y3 y4
    have z0 : ∀ X : Gn w12, X.V.cell? ⟨bm, 0, none⟩ = some (.int .i64 cc) := fun X => X.h.cell y0 (by simp)
    have z1 : ∀ X : Gn w12, X.V.cell? ⟨bm, 1, none⟩ = some (.int .i64 mm) := fun X => X.h.cell y1 (by simp)
    have z2 : ∀ X : Gn w12, X.V.cell? ⟨bm, 2, none⟩ = some (.int .i64 bt) := fun X => X.h.cell y2 (by simp)
    have z3 : ∀ X : Gn w12, X.V.cell? ⟨bm, 3, none⟩ = some (.int .i64 xx) := fun X => X.h.cell y3 (by simp)
    have z4 : ∀ X : Gn w12, X.V.cell? ⟨bm, 4, none⟩ = some (.int .i64 yy) := fun X => X.h.cell y4 (by simp)
    have u0 : ∀ X : Gn w12, X.V.cell? ⟨bL, oL, none⟩ = some (.int .i64 cc) := fun X => X.h.cell l0 (by simp)
    have u1 : ∀ X : Gn w12, X.V.cell? ⟨bL, oL + 1, none⟩ = some (.int .i64 mm) := fun X => X.h.cell l1 (by simp)
    have u2 : ∀ X : Gn w12, X.V.cell? ⟨bL, oL + 2, none⟩ = some (.int .i64 bt) := fun X => X.h.cell l2 (by simp)
    have u3 : ∀ X : Gn w12, X.V.cell? ⟨bL, oL + 3, none⟩ = some (.int .i64 xx) := fun X => X.h.cell l3 (by simp)
    have u4 : ∀ X : Gn w12, X.V.cell? ⟨bL, oL + 4, none⟩ = some (.int .i64 yy) := fun X => X.h.cell l4 (by simp)
    have CWt : Hid (∀ X : Gn w12, Calls Tryz.prog 15 #[.pointer (some ⟨p, 0, none⟩)] X.V fun e w' => e = .returned (.bool false) ∧ ∃ Y : Gn w12, w' = Y.V) := Lib.hid fun X => (wait_any p 0 c12 A12 X.V (D12.grown X.h (by simp))).mono fun e w' ⟨h, h2⟩ => ⟨h, X, h2⟩
    have CMo : Hid (∀ X : Gn w12, Calls Tryz.prog 19 #[.agg #[.int .i64 cc, .int .i64 mm, .int .i64 bt, .int .i64 xx, .int .i64 yy], .int .i64 0] X.V fun e w' => e = .returned (.slice none 0 0) ∧ ∃ Y : Gn w12, w' = Y.V) := Lib.hid fun X => (mouse_off ⟨cc, mm, bt, xx, yy⟩ X.V).mono fun e w' ⟨h, h2⟩ => ⟨h, ⟨w', X.h.trans h2⟩, rfl⟩
    replace G12 := Lib.hid G12; replace K12 := Lib.hid K12; replace RL := Lib.hid RL; replace hms := Lib.hid hms; replace Ol := Lib.hid Ol; replace O12 := Lib.hid O12; replace D12 := Lib.hid D12
    clear CF y0 y1 y2 y3 y4 l0 l1 l2 l3 l4 g11 g12 G11
    go_upto_region 10 with fail
    refine wp_region_gr (by kernel_rfl) (by kernel_rfl) ?_
    repeat (go_big_quiet_step (first | (go_at_call 15; exact CWt.out _) | (go_at_call 19; exact CMo.out _)))
    refine wpQuiet_nil ?_
    intro _ hw'
    obtain ⟨GX, hw''⟩ := hw'
    subst hw''
    have GW := G12.out.trans GX.h
    generalize GX.V = wg at GW ⊢
    go_wp2_with fail
    go_ret
    exact ⟨by simp, GW⟩
end Go.Proofs.YtncokbppijnfiaaGreatDoor
