/- Layout: Apply, with its answer told exactly (R12's walk again; printed by tools/mkRR.py). -/
import Derived.Test.YtcklmkjlbpjojaaGreatDoorRQ
namespace Go.Proofs.YtcklmkjlbpjojaaGreatDoor
open Go.RowKit
set_option linter.unusedSimpArgs false
set_option linter.unusedVariables false

set_option maxHeartbeats 400000 in
set_option maxRecDepth 100000 in
theorem apply_exact (base tr : Nat) (t : T) (s : List UInt8) (w : World) (hT : Tr base w tr t) (hbase : base ≤ w.heap.size) (hD : Deb w) (hl : t.leaves.length ≤ 100000) (hs : s.length ≤ 1000000) :
    Calls Tryz.prog 13 #[ptr tr, .string (st s)] w (AppPost2 base tr t s w) := by
  obtain ⟨S, hS⟩ : ∃ S, S = st s := ⟨_, rfl⟩
  rw [← hS]
  obtain ⟨n, hn⟩ : ∃ n, n = s.length := ⟨_, rfl⟩
  have hZ : S.size = n := by rw [hS, st_size, hn]
  have hNo : Hid (∀ (err : Int) (w' : World), err ≠ 0 → w.grownBy w' none → appC s t.leaves.length = err → AppPost2 base tr t s w (.returned (.int .i64 err)) w') := Lib.hid fun err w' he hg h => app_no2 hT err he hg h
  have hn6 : n ≤ 1000000 := by omega
  replace hT := Lib.hid hT; replace hbase := Lib.hid hbase; replace hD := Lib.hid hD; replace hl := Lib.hid hl; replace hs := Lib.hid hs
  unfold ptr
  by_cases h1 : n ≤ 4096
  rotate_left
  · replace hS := Lib.hid hS
    replace hn := Lib.hid hn
    go_enter Tryz.func13, Tryz.ntmps13
    go_wp2_with fail
    go_ret
    exact hNo.out 2 _ (by decide) (World.grownBy.refl _ _) (appC_long (by have := hn.out; omega))
  by_cases h2 : 5 ≤ n
  rotate_left
  · replace hS := Lib.hid hS
    replace hn := Lib.hid hn
    go_enter Tryz.func13, Tryz.ntmps13
    go_wp2_with fail
    go_ret
    exact hNo.out 4 _ (by decide) (World.grownBy.refl _ _) (appC_form (by have := hn.out; omega) fun h => h2 (by have := h.1; have := hn.out; omega))
  obtain ⟨c4, hc4⟩ : ∃ c, s[4]? = some c := ⟨s[4]'(by omega), List.getElem?_eq_getElem _⟩
  have hG : ∀ h, S[4]'h = c4 := by
    subst hS; intro h
    obtain ⟨q1, q2⟩ := List.getElem?_eq_some_iff.1 hc4
    show (s.toArray)[4] = c4
    simpa using q2
  by_cases h3 : c4 = 44
  rotate_left
  · have hcz : ¬ ((c4.toNat : Int) = 44) := fun e => h3 (UInt8.toNat_inj.1 (by show c4.toNat = 44; omega))
    replace hS := Lib.hid hS
    replace hn := Lib.hid hn
    replace hc4 := Lib.hid hc4
    replace h3 := Lib.hid h3
    go_enter Tryz.func13, Tryz.ntmps13
    go_wp2_with fail
    go_ret
    exact hNo.out 4 _ (by decide) (World.grownBy.refl _ _) (appC_form (by have := hn.out; omega) fun h => h3.out (by have := h.2.1.symm.trans hc4.out; injection this with this; exact this.symm))
  subst h3
  obtain ⟨S4, hS4⟩ : ∃ S, S = st (s.take 4) := ⟨_, rfl⟩
  obtain ⟨S5, hS5⟩ : ∃ S, S = st (s.drop 5) := ⟨_, rfl⟩
  have hX4 : S.extract 0 4 = S4 := by rw [hS, hS4]; exact st_take s 4 (by omega)
  have hX5 : S.extract 5 n = S5 := by rw [hS, hS5]; exact st_drop s 5 n hn
  obtain ⟨TT, hTT⟩ : ∃ T, T = Lib.trimS (s.take 4) hexSigns := ⟨_, rfl⟩
  obtain ⟨U, hU⟩ : ∃ U, U = st TT := ⟨_, rfl⟩
  have CT : Hid (∀ W, Calls Tryz.prog 41 #[.string S4, .string ⟨#[48, 49, 50, 51, 52, 53, 54, 55, 56, 57, 97, 98, 99, 100, 101, 102]⟩] W fun e w' => e = .returned (.string U) ∧ W.grownBy w' none) := Lib.hid fun W => by
    rw [hS4, hU, hTT]; exact trim_any (s.take 4) W (by rw [List.length_take]; omega)
  obtain ⟨m, hm⟩ : ∃ m, m = sumB (s.drop 5) := ⟨_, rfl⟩
  have CS : Hid (∀ W, Calls Tryz.prog 11 #[.string S5] W fun e w' => e = .returned (.int .i64 (m : Int)) ∧ w' = W) := Lib.hid fun W => by
    rw [hS5, hm]; exact (sum_any (s.drop 5) W (by rw [List.length_drop]; omega)).mono fun e w' h => ⟨h.1, h.2.symm⟩
  obtain ⟨F, hF⟩ : ∃ F, F = st (fourB m) := ⟨_, rfl⟩
  have CF : Hid (∀ W, w.grownBy W none → Calls Tryz.prog 42 #[.int .i64 (m : Int)] W fun e w' => e = .returned (.string F) ∧ W.grownBy w' none) := Lib.hid fun W g => by
    rw [hF]; exact four_any m W (hD.out.grown g) (by rw [hm]; exact sumB_lt _)
  replace hS := Lib.hid hS; replace hn := Lib.hid hn; replace hc4 := Lib.hid hc4; replace hS4 := Lib.hid hS4; replace hS5 := Lib.hid hS5; replace hTT := Lib.hid hTT; replace hm := Lib.hid hm; replace hF := Lib.hid hF
  by_cases h4 : TT = []
  rotate_left
  · have hE : U.toList.isEmpty = false := by rw [hU, st_tl]; simpa using h4
    replace hU := Lib.hid hU
    replace h4 := Lib.hid h4
    go_enter Tryz.func13, Tryz.ntmps13
    go_wp2_with fail
    refine (CT.out _).mono ?_
    rintro e w1 ⟨rfl, g1⟩
    go_wp2_with fail
    go_ret
    exact hNo.out 4 _ (by decide) g1 (appC_form (by have := hn.out; omega) fun h => h4.out (by rw [hTT.out]; exact h.2.2))
  have hE : U.toList.isEmpty = true := by rw [hU, st_tl, h4]; rfl
  replace hU := Lib.hid hU
  by_cases h5 : s.take 4 = fourB m
  rotate_left
  · have hE2 : (S4.toList == F.toList) = false := by
      rw [hS4.out, hF.out, st_tl, st_tl]; simpa using h5
    replace h4 := Lib.hid h4
    replace h5 := Lib.hid h5
    go_enter Tryz.func13, Tryz.ntmps13
    go_wp2_with fail
    refine (CT.out _).mono ?_
    rintro e w1 ⟨rfl, g1⟩
    go_wp2_with fail
    go_region_held3 (fun w' => True) (first | trivial | fail)
      ((first
        | (go_at_call 11; refine (CS.out _).mono ?_; rintro e w2 ⟨rfl, rfl⟩)
        | (go_at_call 42; refine (CF.out _ (by first | assumption | exact g_drew ‹_›)).mono ?_; rintro e w3 ⟨rfl, g3⟩)
        | fail))
    go_wp2_with fail
    go_ret
    exact hNo.out 15 _ (by decide) ((g_drew g1).trans g3) (appC_sum (by have := hn.out; omega) ⟨by have := hn.out; omega, hc4.out, by rw [← hTT.out]; exact h4.out⟩ (by rw [← hm.out]; exact h5.out))
  have hE2 : (S4.toList == F.toList) = true := by
    rw [hS4.out, hF.out, st_tl, st_tl, h5]; simp
  replace h4 := Lib.hid h4
  replace h5 := Lib.hid h5
  go_enter Tryz.func13, Tryz.ntmps13
  go_wp2_with fail
  refine (CT.out _).mono ?_
  rintro e w1 ⟨rfl, g1⟩
  go_wp2_with fail
  go_region_held3 (fun w' => True) (first | trivial | fail)
    ((first
      | (go_at_call 11; refine (CS.out _).mono ?_; rintro e w2 ⟨rfl, rfl⟩)
      | (go_at_call 42; refine (CF.out _ (by first | assumption | exact g_drew ‹_›)).mono ?_; rintro e w3 ⟨rfl, g3⟩)
      | fail))
  have g03 := (g_drew g1).trans g3
  replace g03 := Lib.hid g03
  clear g1 g3 CT CS CF hE hE2
  go_upto_region 6 with fail
  obtain ⟨W3, hW3⟩ : ∃ W, W = w3.alloc (.cells #[.string S5, .bool false] 88) := ⟨_, rfl⟩
  rw [← hW3]
  obtain ⟨rb, hrb⟩ : ∃ rb, rb = w3.heap.size := ⟨_, rfl⟩
  rw [← hrb]
  have hR3 : Rdr rb (s.drop 5) false W3 := by
    rw [hW3, hrb, hS5.out]; exact heap_alloc_new w3 _
  have g33 : w3.grownBy W3 none := by rw [hW3]; exact World.grownBy_alloc _ _ _
  have hrbw : w.heap.size ≤ rb := by rw [hrb]; exact g03.out.size
  have CN := node_any (2 * (s.drop 5).length + 2) rb (s.drop 5) false W3 hR3 (Nat.le_refl _) (by rw [List.length_drop]; have := hn.out; omega)
  obtain ⟨rP, hrP⟩ : ∃ r, r = nodeP (2 * (s.drop 5).length + 2) (s.drop 5) false := ⟨_, rfl⟩
  rw [← hrP] at CN
  replace hrP := Lib.hid hrP; replace hW3 := Lib.hid hW3; replace hrb := Lib.hid hrb; replace hR3 := Lib.hid hR3; replace g33 := Lib.hid g33; replace hrbw := Lib.hid hrbw; replace CN := Lib.hid CN
  unfold ptr at CN
  refine CN.out.mono ?_
  rintro e w4 ⟨t0, rfl, hp0, hpt, hR4, o4, hb0, hd0⟩
  clear CN
  have O04 : Off [] w w4 := (Off.of_grown (S := []) (g03.out.trans g33.out)).trans o4 (by simp; exact hrbw.out)
  have hb0w : ∀ b ∈ t0.bl, w.heap.size ≤ b := fun b hb => by have := hb0 b hb; have := g03.out.size; have := g33.out.size; omega
  obtain ⟨p0, r4, bad4⟩ := rP
  dsimp only at hpt hR4
  have hok := (nodeP_ok (2 * (s.drop 5).length + 2)).1 (s.drop 5) false
  have hlv := (nodeP_lv (2 * (s.drop 5).length + 2)).1 (s.drop 5) false
  rw [← hrP.out] at hok hlv
  dsimp only at hok hlv
  rw [← hpt] at hok hlv
  have hbd := (bd_of_ok t0 hok).1
  rw [← lv_pt, List.length_drop] at hlv
  have hll : t0.leaves.length ≤ 5000 := by have := hn.out; omega
  obtain ⟨g0, hg0⟩ : ∃ g, g = t0.g := ⟨_, rfl⟩
  obtain ⟨na, hna⟩ : ∃ a, a = t0.n.a := ⟨_, rfl⟩
  obtain ⟨nb, hnb⟩ : ∃ b, b = t0.n.b := ⟨_, rfl⟩
  have d3 : w4.cell? ⟨g0, 3, none⟩ = some (.int .i64 na) := by rw [hg0, hna]; exact hp0.atn.c3
  have d4 : w4.cell? ⟨g0, 4, none⟩ = some (.int .i64 nb) := by rw [hg0, hnb]; exact hp0.atn.c4
  obtain ⟨mb, hmb⟩ : ∃ b, b = mayB na nb := ⟨_, rfl⟩
  obtain ⟨rt, hrt⟩ : ∃ b, b = t0.right 0 0 := ⟨_, rfl⟩
  obtain ⟨SR, hSR⟩ : ∃ S, S = st r4 := ⟨_, rfl⟩
  have e0 : w4.cell? ⟨rb, 0, none⟩ = some (.string SR) := by rw [hSR]; exact hR4.c0
  have e1 : w4.cell? ⟨rb, 1, none⟩ = some (.bool bad4) := hR4.c1
  have z1 : ∀ V : Gn w4, V.V.cell? ⟨g0, 3, none⟩ = some (.int .i64 na) := fun V => V.h.cell d3 (by simp)
  have z2 : ∀ V : Gn w4, V.V.cell? ⟨g0, 4, none⟩ = some (.int .i64 nb) := fun V => V.h.cell d4 (by simp)
  have z3 : ∀ V : Gn w4, V.V.cell? ⟨rb, 0, none⟩ = some (.string SR) := fun V => V.h.cell e0 (by simp)
  have z4 : ∀ V : Gn w4, V.V.cell? ⟨rb, 1, none⟩ = some (.bool bad4) := fun V => V.h.cell e1 (by simp)
  have CR : Hid (∀ V : Gn w4, Calls Tryz.prog 45 #[.pointer (some ⟨g0, 0, none⟩), .agg #[.int .i64 0, .int .i64 0]] V.V (fun e w' => e = .returned (.bool rt) ∧ ∃ U : Gn w4, w' = U.V)) := Lib.hid fun V => by
    have := right_any t0 none 0 0 V.V (hp0.grown V.h) hbd (by omega) (by omega)
    rw [← hg0, ← hrt] at this
    exact this.mono fun e w' h => ⟨h.1, ⟨w', V.h.trans h.2⟩, rfl⟩
  have CM : Hid (∀ V : Gn w4, Calls Tryz.prog 44 #[.int .i64 na, .int .i64 nb] V.V (fun e w' => e = .returned (.bool mb) ∧ ∃ U : Gn w4, w' = U.V)) := Lib.hid fun V => by
    rw [hmb]
    exact (may_any na nb V.V).mono fun e w' h => ⟨h.1, V, h.2.symm⟩
  have hbad : Hid (∀ W, w4.grownBy W none → (bad4 = true ∨ r4 ≠ [] ∨ mb = false ∨ rt = false) → AppPost2 base tr t s w (.returned (.int .i64 4)) W) := Lib.hid fun W g h => by
    refine hNo.out 4 W (by decide) (((O04.grown (by simp))).trans g) (appC_bad (by have := hn.out; omega) ⟨by have := hn.out; omega, hc4.out, by rw [← hTT.out]; exact h4.out⟩ (by rw [← hm.out]; exact h5.out) fun t1 hA => ?_)
    have h1 := hA.rd
    rw [← hrP.out] at h1
    simp only [Prod.mk.injEq] at h1
    obtain ⟨q1, q2, q3⟩ := h1
    have hpp : t0.pt = t1.pt := hpt.trans q1
    obtain ⟨_, _, _, n4, n5, _, _⟩ := pt_n hpp
    rcases h with h | h | h | h
    · rw [q3] at h; cases h
    · exact h q2
    · rw [hmb, hna, hnb, n4, n5, hA.may] at h; cases h
    · rw [hrt, right_congr t0 t1 0 0 hpp, hA.rt] at h; cases h
  replace hp0 := Lib.hid hp0; replace hpt := Lib.hid hpt; replace hR4 := Lib.hid hR4; replace o4 := Lib.hid o4; replace hb0 := Lib.hid hb0; replace hd0 := Lib.hid hd0; replace O04 := Lib.hid O04; replace hb0w := Lib.hid hb0w; replace hok := Lib.hid hok; replace hlv := Lib.hid hlv; replace hbd := Lib.hid hbd; replace hll := Lib.hid hll; replace hg0 := Lib.hid hg0; replace hna := Lib.hid hna; replace hnb := Lib.hid hnb; replace hmb := Lib.hid hmb; replace hrt := Lib.hid hrt
  rw [← hg0.out]
  clear d3 d4 e0 e1 hG hX4 hX5
  go_upto_region 9 with fail
  cases bad4
  rotate_left
  · replace hSR := Lib.hid hSR
    refine wp_region_gr (by kernel_rfl) (by kernel_rfl) ?_
    repeat (go_big_quiet_step (first | (go_at_call 45; exact CR.out _) | (go_at_call 44; exact CM.out _)))
    refine wpQuiet_nil ?_
    intro _ hw'
    obtain ⟨GX, hw''⟩ := hw'
    subst hw''
    have GG := GX.h
    generalize GX.V = w5 at GG ⊢
    clear z1 z2 z3 z4
    replace GG := Lib.hid GG
    go_wp2_with fail
    go_ret
    exact hbad.out _ GG.out (by simp)
  by_cases hr4 : r4 = []
  rotate_left
  · have hE : SR.toList.isEmpty = false := by rw [hSR, st_tl]; simpa using hr4
    replace hSR := Lib.hid hSR; replace hr4 := Lib.hid hr4
    refine wp_region_gr (by kernel_rfl) (by kernel_rfl) ?_
    repeat (go_big_quiet_step (first | (go_at_call 45; exact CR.out _) | (go_at_call 44; exact CM.out _)))
    refine wpQuiet_nil ?_
    intro _ hw'
    obtain ⟨GX, hw''⟩ := hw'
    subst hw''
    have GG := GX.h
    generalize GX.V = w5 at GG ⊢
    clear z1 z2 z3 z4
    replace GG := Lib.hid GG
    go_wp2_with fail
    go_ret
    exact hbad.out _ GG.out (by simp [hr4.out])
  have hE : SR.toList.isEmpty = true := by rw [hSR, st_tl, hr4]; rfl
  replace hSR := Lib.hid hSR; replace hr4 := Lib.hid hr4
  cases mb
  · refine wp_region_gr (by kernel_rfl) (by kernel_rfl) ?_
    repeat (go_big_quiet_step (first | (go_at_call 45; exact CR.out _) | (go_at_call 44; exact CM.out _)))
    refine wpQuiet_nil ?_
    intro _ hw'
    obtain ⟨GX, hw''⟩ := hw'
    subst hw''
    have GG := GX.h
    generalize GX.V = w5 at GG ⊢
    clear z1 z2 z3 z4
    replace GG := Lib.hid GG
    go_wp2_with fail
    go_ret
    exact hbad.out _ GG.out (by simp)
  cases rt
  · refine wp_region_gr (by kernel_rfl) (by kernel_rfl) ?_
    repeat (go_big_quiet_step (first | (go_at_call 45; exact CR.out _) | (go_at_call 44; exact CM.out _)))
    refine wpQuiet_nil ?_
    intro _ hw'
    obtain ⟨GX, hw''⟩ := hw'
    subst hw''
    have GG := GX.h
    generalize GX.V = w5 at GG ⊢
    clear z1 z2 z3 z4
    replace GG := Lib.hid GG
    go_wp2_with fail
    go_ret
    exact hbad.out _ GG.out (by simp)
  refine wp_region_gr (by kernel_rfl) (by kernel_rfl) ?_
  repeat (go_big_quiet_step (first | (go_at_call 45; exact CR.out _) | (go_at_call 44; exact CM.out _)))
  refine wpQuiet_nil ?_
  intro _ hw'
  obtain ⟨GX, hw''⟩ := hw'
  subst hw''
  have GG := GX.h
  generalize GX.V = w5 at GG ⊢
  clear z1 z2 z3 z4 hbad CR CM
  have hA0 : AppAt s t0 := ⟨by have := hn.out; omega, by have := hn.out; omega, hc4.out, by rw [← hTT.out]; exact h4.out, by rw [← hm.out]; exact h5.out, by rw [← hrP.out, hpt.out, hr4.out], by rw [← hna.out, ← hnb.out]; exact hmb.out.symm, hrt.out.symm⟩
  have O05 : Off [] w w5 := O04.out.trans (Off.of_grown (S := []) GG) (by simp)
  have hT5 : Tr base w5 tr t := hT.out.off O05 (by simp) (by simp)
  obtain ⟨nl, hnl⟩ : ∃ n, n = t.leaves.length := ⟨_, rfl⟩
  obtain ⟨n0, hn0⟩ : ∃ n, n = t0.leaves.length := ⟨_, rfl⟩
  have CA1 := all_any base tr t w5 hT5 hl.out
  rw [← hnl] at CA1
  have hp5 := hp0.out.grown GG
  replace CA1 := Lib.hid CA1; replace GG := Lib.hid GG; replace hA0 := Lib.hid hA0; replace O05 := Lib.hid O05; replace hT5 := Lib.hid hT5; replace hnl := Lib.hid hnl; replace hn0 := Lib.hid hn0; replace hp5 := Lib.hid hp5
  unfold ptr at CA1
  go_wp2_with fail
  refine CA1.out.mono ?_
  rintro e w6 ⟨A1, c1, rfl, O1, G6⟩
  have hp6 := hp5.out.grown G6
  have hT7 : Tr 0 (w6.alloc (.cells #[ptr t0.g] 73)) w6.heap.size t0 := ⟨heap_alloc_new w6 _, hp6.grown (World.grownBy_alloc _ _ _), hd0.out, fun h => by have := hp6.lt _ _ _ h; omega, ⟨Nat.zero_le _, fun _ _ => Nat.zero_le _⟩⟩
  have CA2 := all_any 0 w6.heap.size t0 (w6.alloc (.cells #[ptr t0.g] 73)) hT7 (by have := hll.out; omega)
  rw [← hn0.out, ← hg0.out] at CA2
  replace CA2 := Lib.hid CA2; replace hp6 := Lib.hid hp6; replace hT7 := Lib.hid hT7; replace O1 := Lib.hid O1; replace G6 := Lib.hid G6
  clear CA1
  unfold ptr at CA2
  go_wp2_with fail
  refine CA2.out.mono ?_
  rintro e w8 ⟨A2, c2, rfl, O2, G8⟩
  have g68 : w6.grownBy w8 none := (World.grownBy_alloc w6 _ none).trans G8
  have g58 : w5.grownBy w8 none := G6.out.trans g68
  have O08 : Off [] w w8 := O05.out.trans (Off.of_grown (S := []) g58) (by simp)
  have hp8 := hp5.out.grown g58
  replace O2 := Lib.hid O2; replace g68 := Lib.hid g68; replace G8 := Lib.hid G8; replace g58 := Lib.hid g58; replace O08 := Lib.hid O08; replace hp8 := Lib.hid hp8
  clear CA2
  by_cases hnn : n0 = nl
  rotate_left
  · have hne : ((n0 : Int) != (nl : Int)) = true := by simp; omega
    replace hnn := Lib.hid hnn
    go_wp2_with fail
    go_ret
    refine app_no2 hT.out 3 (by decide) (O08.out.grown (by simp)) (appC_many hA0.out fun e => hnn.out ?_)
    rw [hn0.out, hnl.out, ← e]
  subst hnn
  obtain ⟨pp, hpp⟩ : ∃ pp, pp = t.leaves.map (fun s => s.n.p) := ⟨_, rfl⟩
  have hB2 : w5.heap.size ≤ (w6.alloc (.cells #[ptr t0.g] 73)).heap.size := Nat.le_trans G6.out.size (World.grownBy_alloc w6 _ none).size
  obtain ⟨b2, f2, b1, f1, rfl, rfl, hround⟩ := app_round hT.out hT5.out O1.out O2.out (by simp; exact Nat.le_succ_of_le G6.out.size) g58.out g68.out hp5.out hd0.out hb0w.out hnl.out hn0.out hpp
  have hlast := fun wr hI => app_last (wr := wr) hT.out hbase.out O08.out hA0.out hp8.out hd0.out hb0w.out hnl.out hn0.out hpp hI
  rw [← hg0.out] at hlast
  have hn5 : n0 ≤ 5000 := by rw [hn0.out]; exact hll.out
  replace hround := Lib.hid hround; replace hlast := Lib.hid hlast; replace hpp := Lib.hid hpp; replace hB2 := Lib.hid hB2
  go_wp2_with fail
  go_loopw [85] (fun iv wr => ∃ j : Nat, j ≤ n0 ∧ iv = .int .i64 j ∧ Hid (GivI w8 t0.leaves pp j wr)) (fun iv _ => n0 - (intOf iv).toNat)
  case atStart => exact ⟨0, Nat.zero_le _, rfl, Lib.hid (GivI.start _ _ _)⟩
  case round =>
    obtain ⟨j, hj, rfl, hI⟩ := hrel
    by_cases hlt : j < n0
    · obtain ⟨h0, h1', p0, p1, x1, x2, x3, x4, x5, x6⟩ := hround.out j wr hlt hI.out
      replace x6 := Lib.hid x6
      go_wp2_with fail
      exact ⟨⟨j + 1, by omega, by go_num, x6⟩, by simp [intOf]; omega⟩
    · have hje : j = n0 := by omega
      subst hje
      obtain ⟨y0, y1, hfin⟩ := hlast.out wr hI.out
      replace hfin := Lib.hid hfin
      unfold ptr at y0
      go_wp2_with fail
      go_ret
      exact app_yes2 hfin.out
end Go.Proofs.YtcklmkjlbpjojaaGreatDoor
