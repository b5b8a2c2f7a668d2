/- Layout: right. -/
import Derived.Test.YtcklmkjlbpjojaaGreatDoorR5
import Derived.StillTailTactics
namespace Go.Proofs.YtcklmkjlbpjojaaGreatDoor
open Go.RowKit
set_option linter.unusedSimpArgs false
set_option linter.unusedVariables false


set_option maxHeartbeats 4000000 in
set_option maxRecDepth 100000 in
theorem right_good0 (n : Nd) (ks : List T) (hway : n.way = 0) (ih : ∀ k ∈ ks, ∀ (up : Option Nat) (x y : Int) (w : World), TP w up k → k.bd → 0 ≤ x ∧ x ≤ 3000000000 → 0 ≤ y ∧ y ≤ 3000000000 → Calls Tryz.prog 45 #[ptr k.g, .agg #[.int .i64 x, .int .i64 y]] w fun e w' => e = .returned (.bool (k.right x y)) ∧ w.grownBy w' none)
    (up : Option Nat) (x y : Int) (w : World) (hT : TP w up (.mk n ks)) (hbd : (T.mk n ks).bd) (hx1 : n.x = x) (hy1 : n.y = y) (ha1 : 1 ≤ n.a) (hb1' : 1 ≤ n.b) :
    Calls Tryz.prog 45 #[ptr n.g, .agg #[.int .i64 x, .int .i64 y]] w fun e w' => e = .returned (.bool (decide (ks.length = 0) || (rightL n ks x y && decide (1 < ks.length ∧ (ks.map fun k => k.sz n.way + 1).sum = n.sz n.way + 1)))) ∧ w.grownBy w' none := by
  have hAt := hT.at_
  have hK := TPs_iff.1 hT.kids
  have c1 := hAt.c1; have c2 := hAt.c2; have c3 := hAt.c3; have c4 := hAt.c4; have c5 := hAt.c5; have c6 := hAt.c6
  rw [hway] at c5
  rw [hx1] at c1; rw [hy1] at c2
  obtain ⟨b1, b2, b3, b4, b5⟩ := hbd n (by rw [T.nds_mk]; simp)
  rw [hx1] at b1; rw [hy1] at b2
  have hgl : n.g < w.heap.size := hAt.lt _ (by simp)
  have hsm := hAt.small
  obtain ⟨len, hln⟩ : ∃ len, len = ks.length := ⟨_, rfl⟩
  rw [← hln] at c6 hsm ⊢
  obtain ⟨AA, hAA⟩ : ∃ AA, AA = adr n.A := ⟨_, rfl⟩
  rw [← hAA] at c6
  obtain ⟨RB, hRB⟩ : ∃ RB, RB = (decide (len = 0) || (rightL n ks x y && decide (1 < len ∧ (ks.map fun k => k.sz n.way + 1).sum = n.sz n.way + 1))) := ⟨_, rfl⟩
  rw [← hRB]
  replace hT := Lib.hid hT; replace hAt := Lib.hid hAt; replace hK := Lib.hid hK; replace ih := Lib.hid ih; replace hbd := Lib.hid hbd; replace hln := Lib.hid hln; replace hAA := Lib.hid hAA; replace hRB := Lib.hid hRB
  replace b5 := Lib.hid b5; replace hway := Lib.hid hway; replace hx1 := Lib.hid hx1; replace hy1 := Lib.hid hy1
  unfold ptr
  obtain ⟨W1, hW1⟩ : ∃ W1, W1 = w.alloc (.cells #[.int .i64 x, .int .i64 y] 64) := ⟨_, rfl⟩
  have g1 : w.grownBy W1 none := by rw [hW1]; exact World.grownBy_alloc _ _ _
  obtain ⟨bx, hbx⟩ : ∃ bx, bx = w.heap.size := ⟨_, rfl⟩
  have hb1 : W1.heap[bx]? = some (.cells #[.int .i64 x, .int .i64 y] 64 (0, 0)) := by rw [hW1, hbx]; exact heap_alloc_new w _
  have v0 : W1.cell? ⟨bx, 0, none⟩ = some (.int .i64 x) := by rw [cell_of_heap hb1]; rfl
  have v1 : W1.cell? ⟨bx, 1, none⟩ = some (.int .i64 y) := by rw [cell_of_heap hb1]; rfl
  have d1 := g1.cell c1 (by simp); have d2 := g1.cell c2 (by simp); have d3 := g1.cell c3 (by simp); have d4 := g1.cell c4 (by simp); have d5 := g1.cell c5 (by simp); have d6 := g1.cell c6 (by simp)
  have hR0 : RI0 w n ks bx x y 0 0 W1 := ⟨by rw [hb1]; simp, g1, by rw [hbx]; exact Nat.le_refl _, by simp, by simp, by omega⟩
  replace hW1 := Lib.hid hW1; replace hbx := Lib.hid hbx; replace hb1 := Lib.hid hb1; replace g1 := Lib.hid g1; replace hR0 := Lib.hid hR0
  go_enter Tryz.func45, Tryz.ntmps45
  go_upto_region 1 with fail
  rw [← hW1.out, ← hbx.out]
  go_quiet (skip)
  by_cases h0 : len = 0
  · subst h0
    go_wp2_with fail
    go_ret
    exact ⟨by rw [hRB.out]; simp, g_drewN g1.out _⟩
  have h0' : ((len : Int) == 0) = false := beq_eq_false_iff_ne.2 (by omega)
  have c3' := Lib.hid c3; have c4' := Lib.hid c4; have c5' := Lib.hid c5; have c6' := Lib.hid c6
  clear c1 c2 c3 c4 c5 c6
  go_wp2_with fail
  clear d1 d2 d3 d4 d5 d6 v0 v1
  go_loopw [5, 39] (fun sv iv wr => ∃ (j : Nat) (S : Int), j ≤ len ∧ sv = .int .i64 (S - 1) ∧ iv = .int .i64 j ∧ Hid (RI0 w n ks bx x y j S wr)) (fun _ iv _ => len - (intOf iv).toNat)
  case atStart => exact ⟨0, 0, Nat.zero_le _, rfl, rfl, Lib.hid (hR0.out.drewN _)⟩
  case round =>
    obtain ⟨j, S, hj, rfl, rfl, hR⟩ := hrel
    have hG := hR.out.g
    have f3 := hG.cell c3'.out (by simp); have f4 := hG.cell c4'.out (by simp); have f5 := hG.cell c5'.out (by simp); have f6 := hG.cell c6'.out (by simp)
    have hu := hR.out.u
    replace hG := Lib.hid hG
    by_cases hlt : j < len
    · obtain ⟨k, hk⟩ : ∃ k, ks[j]? = some k := ⟨ks[j]'(by rw [← hln.out]; exact hlt), List.getElem?_eq_getElem _⟩
      obtain ⟨b, hA, hc⟩ := hAt.out.kid hk
      have hmem : k ∈ ks := List.mem_of_getElem? hk
      have hc' := hG.out.cell hc (by simp)
      have hTk := (hK.out k hmem).grown hG.out
      have hbk : k.bd := hbd.out.k hmem
      have hAtk := hTk.atn
      have e3 := hAtk.c3; have e4 := hAtk.c4; have e5 := hAtk.c5; have e6 := hAtk.c6
      have hsmk := hAtk.small
      obtain ⟨q1, q2, q3, q4, q5⟩ := hbk k.n (by cases k; rw [T.nds_mk]; simp [T.n])
      obtain ⟨kl, hkl⟩ : ∃ kl, kl = k.ks.length := ⟨_, rfl⟩
      obtain ⟨kA, hkA⟩ : ∃ kA, kA = adr k.n.A := ⟨_, rfl⟩
      obtain ⟨kw, hkw⟩ : ∃ kw, kw = k.n.way := ⟨_, rfl⟩
      obtain ⟨ka, hka⟩ : ∃ ka, ka = k.n.a := ⟨_, rfl⟩
      obtain ⟨kb, hkb⟩ : ∃ kb, kb = k.n.b := ⟨_, rfl⟩
      obtain ⟨kc, hkc⟩ : ∃ kc, kc = k.n.c := ⟨_, rfl⟩
      have hkg : k.n.g = k.g := by cases k; rfl
      rw [← hkl, ← hkA, ← hkc, hkg] at e6
      rw [← hkl] at hsmk
      rw [← hkw, hkg] at e5
      rw [← hka, hkg] at e3
      rw [← hkb, hkg] at e4
      rw [← hka] at q3
      rw [← hkb] at q4
      rw [← hkw] at q5
      have hAb : AA = some ⟨b, 0, none⟩ := by rw [hAA.out, hA]; rfl
      subst hAb
      obtain ⟨r, hr⟩ : ∃ r, r = k.right (x + S) (y) := ⟨_, rfl⟩
      have CK := fun (V : World) (hV : wr.grownBy V none) => (ih.out k hmem (some n.g) (x + S) (y) V (hTk.grown hV) hbk (by omega) (by omega)).mono (fun e w' (h : _ ∧ _) => (⟨by rw [h.1, hr], hV.trans h.2⟩ : e = .returned (.bool r) ∧ wr.grownBy w' none))
      have hb2 := hR.out.b
      obtain ⟨XX, hXX⟩ : ∃ XX, XX = x + S := ⟨_, rfl⟩
      obtain ⟨YY, hYY⟩ : ∃ YY, YY = y := ⟨_, rfl⟩
      rw [← hXX, ← hYY] at CK hr hb2
      have hbX : 0 ≤ XX ∧ XX ≤ 3000000000 := by omega
      have hbY : 0 ≤ YY ∧ YY ≤ 3000000000 := by omega
      have v0 : wr.cell? ⟨bx, 0, none⟩ = some (.int .i64 XX) := by rw [cell_of_heap hb2]; rfl
      have v1 : wr.cell? ⟨bx, 1, none⟩ = some (.int .i64 YY) := by rw [cell_of_heap hb2]; rfl
      have gr := World.grownBy.refl wr none
      -- where the rounds end
      have hbad : ∀ w2, wr.grownBy w2 none → (r = false ∨ (kl ≠ 0 ∧ kw = 0) ∨ k.n.b ≠ n.b) → RB = false ∧ w.grownBy w2 none := fun w2 g2 hb => by
        refine ⟨?_, hG.out.trans g2⟩
        have hrl : rightL n ks x y = false := by
          rw [hR.out.r, drop_cons hk, rightL_cons, hway.out, ← hXX, ← hYY, ← hr, ← hkl, ← hkw]
          rcases hb with hb | hb | hb
          · rw [hb]; rfl
          · rw [decide_eq_true hb]; simp
          · have : ¬ (k.sz (1 - 0) = n.sz (1 - 0)) := hb
            rw [decide_eq_false this]; simp
        rw [hRB.out, hrl]
        simp [h0]
      have hgood : ∀ w2, wr.grownBy w2 none → r = true → ¬ (kl ≠ 0 ∧ kw = 0) → k.n.b = n.b → ∀ v, v = .int .i64 ((x) + S + (ka + 1)) → RI0 w n ks bx x y (j + 1) (S + (ka + 1)) (w2.setCell ⟨bx, 0, none⟩ v) := fun w2 g2 h1 h2 h3 v hv =>
        hR.out.next hk hway.out (by rw [← hXX, ← hYY, ← hr]; exact h1) (by rw [← hkl, ← hkw]; exact h2) h3 hbk g2 _ hka v hv
      obtain ⟨cx, hcx⟩ : ∃ cx, cx = k.n.b := ⟨_, rfl⟩
      rw [← hcx] at hbad hgood
      have hcx2 : kb = cx := by rw [hcx, hkb]
      have hlb := hR.out.l
      replace hbad := Lib.hid hbad; replace hgood := Lib.hid hgood; replace hr := Lib.hid hr; replace hXX := Lib.hid hXX; replace hYY := Lib.hid hYY; replace hb2 := Lib.hid hb2; replace CK := Lib.hid CK
      replace hk := Lib.hid hk; replace hA := Lib.hid hA; replace hkl := Lib.hid hkl; replace hkA := Lib.hid hkA; replace hkw := Lib.hid hkw; replace hka := Lib.hid hka; replace hkb := Lib.hid hkb; replace hkc := Lib.hid hkc; replace hkg := Lib.hid hkg; replace hTk := Lib.hid hTk; replace hbk := Lib.hid hbk; replace hAtk := Lib.hid hAtk; replace hcx := Lib.hid hcx
      clear hc
      replace hlb := Lib.hid hlb
      replace gr := Lib.hid gr
      unfold ptr at CK hc'
      subst hcx2
      obtain ⟨kg, hkg2⟩ : ∃ kg, kg = k.g := ⟨_, rfl⟩
      rw [← hkg2] at CK hc' e3 e4 e5 e6
      replace hkg2 := Lib.hid hkg2
      have z1 : ∀ V : Gn wr, V.V.cell? ⟨kg, 3, none⟩ = some (.int .i64 ka) := fun V => V.h.cell e3 (by simp)
      have z2 : ∀ V : Gn wr, V.V.cell? ⟨kg, 4, none⟩ = some (.int .i64 kb) := fun V => V.h.cell e4 (by simp)
      have z3 : ∀ V : Gn wr, V.V.cell? ⟨kg, 5, none⟩ = some (.int .i64 kw) := fun V => V.h.cell e5 (by simp)
      have z4 : ∀ V : Gn wr, V.V.cell? ⟨kg, 6, none⟩ = some (.slice kA kl kc) := fun V => V.h.cell e6 (by simp)
      have z5 : ∀ V : Gn wr, V.V.cell? ⟨n.g, 3, none⟩ = some (.int .i64 n.a) := fun V => V.h.cell f3 (by simp)
      have z6 : ∀ V : Gn wr, V.V.cell? ⟨n.g, 4, none⟩ = some (.int .i64 n.b) := fun V => V.h.cell f4 (by simp)
      have z7 : ∀ V : Gn wr, V.V.cell? ⟨n.g, 5, none⟩ = some (.int .i64 0) := fun V => V.h.cell f5 (by simp)
      have z8 : ∀ V : Gn wr, V.V.cell? ⟨bx, 0, none⟩ = some (.int .i64 XX) := fun V => V.h.cell v0 (by simp)
      have z9 : ∀ V : Gn wr, V.V.cell? ⟨bx, 1, none⟩ = some (.int .i64 YY) := fun V => V.h.cell v1 (by simp)
      have CG : ∀ V : Gn wr, Calls Tryz.prog 45 #[.pointer (some ⟨kg, 0, none⟩), .agg #[.int .i64 XX, .int .i64 YY]] V.V (fun e w' => e = .returned (.bool r) ∧ ∃ U : Gn wr, w' = U.V) := fun V =>
        (CK.out V.V V.h).mono fun e w' h => ⟨h.1, ⟨w', h.2⟩, rfl⟩
      replace CG := Lib.hid CG
      go_upto_region 9 with fail
      cases r
      · refine wp_region_gr (by kernel_rfl) (by kernel_rfl) ?_
        repeat (go_big_quiet_step ((go_at_call 45; exact CG.out _)))
        refine wpQuiet_nil ?_
        intro _ hw'
        obtain ⟨GX, hw''⟩ := hw'
        subst hw''
        have GG := GX.h
        generalize GX.V = w2 at GG ⊢
        clear z1 z2 z3 z4 z5 z6 z7 z8 z9
        go_wp2_with fail
        go_ret
        obtain ⟨y1, y2⟩ := hbad.out _ GG (by simp)
        rw [y1]
        exact ⟨rfl, y2⟩
      · rcases Nat.eq_zero_or_pos kl with hk0 | hk0
        · subst hk0
          by_cases h3 : kb = n.b
          · subst h3
            refine wp_region_gr (by kernel_rfl) (by kernel_rfl) ?_
            repeat (go_big_quiet_step ((go_at_call 45; exact CG.out _)))
            refine wpQuiet_nil ?_
            intro _ hw'
            obtain ⟨GX, hw''⟩ := hw'
            subst hw''
            have GG := GX.h
            generalize GX.V = w2 at GG ⊢
            clear z1 z2 z3 z4 z5 z6 z7 z8 z9
            have y0 := GG.cell v0 (by simp); have y1 := GG.cell v1 (by simp); have y3 := GG.cell e3 (by simp); have y4 := GG.cell e4 (by simp); have y5 := GG.cell f5 (by simp)
            have yf : w2.frozen? ⟨bx, 0, none⟩ = false := free_of_heap ((GG.block bx (lt_of_heap hb2.out) (by simp)).trans hb2.out) _
            have hXb := hXX.out; have hYb := hYY.out
            replace hXb := Lib.hid hXb; replace hYb := Lib.hid hYb
            go_upto_region 11 with fail
            go_quiet (skip)
            have G3 := g_drewN GG nq
            clear y0 y1 y3 y4 y5 yf
            generalize w2.drewN nq = w3 at G3 ⊢
            have y0 := G3.cell v0 (by simp); have y1 := G3.cell v1 (by simp); have y3 := G3.cell e3 (by simp); have y4 := G3.cell e4 (by simp); have y5 := G3.cell f5 (by simp)
            have yf : w3.frozen? ⟨bx, 0, none⟩ = false := free_of_heap ((G3.block bx (lt_of_heap hb2.out) (by simp)).trans hb2.out) _
            replace G3 := Lib.hid G3
            go_upto_region 12 with fail
            go_still_tail 17, (by kernel_rfl)
            change wpList _ _ _ _ _ w3.drew
            go_wp2_with fail
            go_roundw
            case rel =>
              refine ⟨j + 1, S + (ka + 1), by omega, by go_num, by go_num, Lib.hid ?_⟩
              exact hgood.out _ (g_drew G3.out) rfl (by simp) rfl _ (by simp only [hXX.out, hYY.out])
            case measure => simp [intOf]; omega
          · refine wp_region_gr (by kernel_rfl) (by kernel_rfl) ?_
            repeat (go_big_quiet_step ((go_at_call 45; exact CG.out _)))
            refine wpQuiet_nil ?_
            intro _ hw'
            obtain ⟨GX, hw''⟩ := hw'
            subst hw''
            have GG := GX.h
            generalize GX.V = w2 at GG ⊢
            clear z1 z2 z3 z4 z5 z6 z7 z8 z9
            go_wp2_with fail
            go_ret
            obtain ⟨y1, y2⟩ := hbad.out _ GG (by simp [h3])
            rw [y1]
            exact ⟨rfl, y2⟩
        · have hk2 : kl ≠ 0 := by omega
          by_cases h4 : kw = 0
          · subst h4
            refine wp_region_gr (by kernel_rfl) (by kernel_rfl) ?_
            repeat (go_big_quiet_step ((go_at_call 45; exact CG.out _)))
            refine wpQuiet_nil ?_
            intro _ hw'
            obtain ⟨GX, hw''⟩ := hw'
            subst hw''
            have GG := GX.h
            generalize GX.V = w2 at GG ⊢
            clear z1 z2 z3 z4 z5 z6 z7 z8 z9
            go_wp2_with fail
            go_ret
            obtain ⟨y1, y2⟩ := hbad.out _ GG (by simp [hk2])
            rw [y1]
            exact ⟨rfl, y2⟩
          · have h5 : (kw == 0) = false := beq_eq_false_iff_ne.2 h4
            by_cases h3 : kb = n.b
            · subst h3
              refine wp_region_gr (by kernel_rfl) (by kernel_rfl) ?_
              repeat (go_big_quiet_step ((go_at_call 45; exact CG.out _)))
              refine wpQuiet_nil ?_
              intro _ hw'
              obtain ⟨GX, hw''⟩ := hw'
              subst hw''
              have GG := GX.h
              generalize GX.V = w2 at GG ⊢
              clear z1 z2 z3 z4 z5 z6 z7 z8 z9
              have y0 := GG.cell v0 (by simp); have y1 := GG.cell v1 (by simp); have y3 := GG.cell e3 (by simp); have y4 := GG.cell e4 (by simp); have y5 := GG.cell f5 (by simp)
              have yf : w2.frozen? ⟨bx, 0, none⟩ = false := free_of_heap ((GG.block bx (lt_of_heap hb2.out) (by simp)).trans hb2.out) _
              have hXb := hXX.out; have hYb := hYY.out
              replace hXb := Lib.hid hXb; replace hYb := Lib.hid hYb
              go_upto_region 11 with fail
              go_quiet (skip)
              have G3 := g_drewN GG nq
              clear y0 y1 y3 y4 y5 yf
              generalize w2.drewN nq = w3 at G3 ⊢
              have y0 := G3.cell v0 (by simp); have y1 := G3.cell v1 (by simp); have y3 := G3.cell e3 (by simp); have y4 := G3.cell e4 (by simp); have y5 := G3.cell f5 (by simp)
              have yf : w3.frozen? ⟨bx, 0, none⟩ = false := free_of_heap ((G3.block bx (lt_of_heap hb2.out) (by simp)).trans hb2.out) _
              replace G3 := Lib.hid G3
              go_upto_region 12 with fail
              go_still_tail 17, (by kernel_rfl)
              change wpList _ _ _ _ _ w3.drew
              go_wp2_with fail
              go_roundw
              case rel =>
                refine ⟨j + 1, S + (ka + 1), by omega, by go_num, by go_num, Lib.hid ?_⟩
                exact hgood.out _ (g_drew G3.out) rfl (fun h => h4 h.2) rfl _ (by simp only [hXX.out, hYY.out])
              case measure => simp [intOf]; omega
            · refine wp_region_gr (by kernel_rfl) (by kernel_rfl) ?_
              repeat (go_big_quiet_step ((go_at_call 45; exact CG.out _)))
              refine wpQuiet_nil ?_
              intro _ hw'
              obtain ⟨GX, hw''⟩ := hw'
              subst hw''
              have GG := GX.h
              generalize GX.V = w2 at GG ⊢
              clear z1 z2 z3 z4 z5 z6 z7 z8 z9
              go_wp2_with fail
              go_ret
              obtain ⟨y1, y2⟩ := hbad.out _ GG (by simp [h3])
              rw [y1]
              exact ⟨rfl, y2⟩
    · have hje : j = len := by omega
      subst hje
      have hfin : ∀ W, w.grownBy W none → RB = decide (1 < j ∧ S - 1 = n.a) ∧ w.grownBy W none := fun W gW => by
        refine ⟨?_, gW⟩
        have hs := hR.out.s
        rw [hln.out, List.take_length] at hs
        have hr := hR.out.r
        rw [hln.out, List.drop_length, rightL_nil] at hr
        have e1 : n.sz n.way = n.a := by rw [hway.out]; rfl
        rw [hRB.out, hr, ← hs, e1, decide_eq_false h0, Bool.false_or, Bool.true_and]
        exact decide_eq_decide.2 ⟨fun h => ⟨h.1, by omega⟩, fun h => ⟨h.1, by omega⟩⟩
      replace hfin := Lib.hid hfin
      by_cases h1 : 1 < j
      · have h1' : (1 : Int) < (j : Int) := by omega
        go_upto_region 14 with fail
        go_quiet (skip)
        go_wp2_with fail
        go_ret
        obtain ⟨y1, y2⟩ := hfin.out _ (g_drewN hG.out _)
        refine ⟨?_, y2⟩
        rw [y1]
        rw [decide_eq_decide.2 (show (1 < j ∧ S - 1 = n.a) ↔ S - 1 = n.a from ⟨fun h => h.2, fun h => ⟨h1, h⟩⟩)]
        by_cases he : S - 1 = n.a
        · rw [decide_eq_true he, beq_iff_eq.2 he]; rfl
        · rw [decide_eq_false he, beq_eq_false_iff_ne.2 he]; rfl
      · have h1' : ¬ (1 : Int) < (j : Int) := by omega
        have h1'' : decide ((1 : Int) < (j : Int)) = false := decide_eq_false h1'
        go_upto_region 14 with fail
        go_quiet (skip)
        go_wp2_with fail
        go_ret
        obtain ⟨y1, y2⟩ := hfin.out _ (g_drewN hG.out _)
        refine ⟨?_, y2⟩
        rw [y1]
        simp [h1]

end Go.Proofs.YtcklmkjlbpjojaaGreatDoor
