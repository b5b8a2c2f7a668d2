/- Layout: the reference's Apply. -/
import Derived.Test.YtcklmkjlbpjojaaGreatDoorRS
namespace Go.Proofs.YtcklmkjlbpjojaaGreatDoor
open Go.RowKit
set_option linter.unusedSimpArgs false
set_option linter.unusedVariables false

set_option maxHeartbeats 2000000 in
set_option maxRecDepth 100000 in
theorem applyR_any (tr : Nat) (t : T) (s : List UInt8) (w : World) (hT : RTr w tr t) (hl : t.leaves.length ≤ 100000) (hs : s.length ≤ 1000000) :
    Calls Tryz.prog 14 #[ptr tr, .string (st s)] w (AppPostR tr t s w) := by
  obtain ⟨S, hS⟩ : ∃ S, S = st s := ⟨_, rfl⟩
  rw [← hS]
  obtain ⟨n, hn⟩ : ∃ n, n = s.length := ⟨_, rfl⟩
  have hZ : S.size = n := by rw [hS, st_size, hn]
  have hNo : Hid (∀ (err : Int) (w' : World), err ≠ 0 → w.grownBy w' none → appC s t.leaves.length = err → AppPostR tr t s w (.returned (.int .i64 err)) w') := Lib.hid fun err w' he hg h => app_noR hT err he hg h
  have hn6 : n ≤ 1000000 := by omega
  replace hT := Lib.hid hT; replace hl := Lib.hid hl; replace hs := Lib.hid hs
  unfold ptr
  by_cases h1 : n ≤ 4096
  rotate_left
  · replace hS := Lib.hid hS
    replace hn := Lib.hid hn
    go_enter Tryz.func14, Tryz.ntmps14
    go_wp2_with fail
    go_ret
    exact hNo.out 2 _ (by decide) (World.grownBy.refl _ _) (appC_long (by have := hn.out; omega))
  by_cases h2 : 5 ≤ n
  rotate_left
  · replace hS := Lib.hid hS
    replace hn := Lib.hid hn
    go_enter Tryz.func14, Tryz.ntmps14
    go_wp2_with fail
    go_ret
    exact hNo.out 4 _ (by decide) (World.grownBy.refl _ _) (appC_form (by have := hn.out; omega) fun h => h2 (by have := h.1; have := hn.out; omega))
  obtain ⟨c4, hc4⟩ : ∃ c, s[4]? = some c := ⟨s[4]'(by omega), List.getElem?_eq_getElem _⟩
  have hGj : ∀ (j : Nat) (c : UInt8), s[j]? = some c → ∀ h, S[j]'h = c := by
    subst hS
    intro j c hc h
    obtain ⟨q1, q2⟩ := List.getElem?_eq_some_iff.1 hc
    exact q2
  have hG := hGj 4 c4 hc4
  by_cases h3 : c4 = 44
  rotate_left
  · have hcz : ((c4.toNat : Int) != 44) = true := bne_iff_ne.2 (fun e => h3 (UInt8.toNat_inj.1 (by show c4.toNat = 44; omega)))
    replace hS := Lib.hid hS
    replace hn := Lib.hid hn
    replace hc4 := Lib.hid hc4
    replace h3 := Lib.hid h3
    go_enter Tryz.func14, Tryz.ntmps14
    go_wp2_with fail
    go_ret
    exact hNo.out 4 _ (by decide) (World.grownBy.refl _ _) (appC_form (by have := hn.out; omega) fun h => h3.out (by have := h.2.1.symm.trans hc4.out; injection this with this; exact this.symm))
  subst h3
  obtain ⟨S4, hS4⟩ : ∃ S, S = st (s.take 4) := ⟨_, rfl⟩
  obtain ⟨S5, hS5⟩ : ∃ S, S = st (s.drop 5) := ⟨_, rfl⟩
  have hX4 : S.extract 0 4 = S4 := by rw [hS, hS4]; exact st_take s 4 (by omega)
  have hX5 : S.extract 5 n = S5 := by rw [hS, hS5]; exact st_drop s 5 n hn
  obtain ⟨m, hm⟩ : ∃ m, m = sumB (s.drop 5) := ⟨_, rfl⟩
  have CS : Hid (∀ k, Calls Tryz.prog 12 #[.string S5] (w.drewN k) fun e w' => e = .returned (.int .i64 (m : Int)) ∧ ∃ j, w' = w.drewN j) := Lib.hid fun k => by
    rw [hS5, hm]; exact (sumR_any (s.drop 5) (w.drewN k) (by rw [List.length_drop]; omega)).mono fun e w' h => ⟨h.1, k, h.2⟩
  obtain ⟨F, hF⟩ : ∃ F, F = st (fourB m) := ⟨_, rfl⟩
  have CF : Hid (∀ k, Calls Tryz.prog 46 #[.int .i64 (m : Int)] (w.drewN k) fun e w' => e = .returned (.string F) ∧ ∃ j, w' = w.drewN j) := Lib.hid (drewN_calls fun W _ => by
    rw [hF]; exact fourR m W (by rw [hm]; exact sumB_lt _))
  have CN := readR_any (2 * (s.drop 5).length + 2) (s.drop 5) (w := w)
  replace hS := Lib.hid hS; replace hn := Lib.hid hn; replace hc4 := Lib.hid hc4; replace hS4 := Lib.hid hS4; replace hS5 := Lib.hid hS5; replace hm := Lib.hid hm; replace hF := Lib.hid hF; replace hGj := Lib.hid hGj
  clear CN
  go_enter Tryz.func14, Tryz.ntmps14
  go_wp2_with fail
  go_loopw [5] (fun iv wr => ∃ j : Nat, j ≤ 4 ∧ iv = .int .i64 j ∧ wr = w ∧ Hid (∀ (i : Nat) (c : UInt8), i < j → s[i]? = some c → hexSigns.contains c = true)) (fun iv _ => 4 - (intOf iv).toNat)
  case atStart => exact ⟨0, by omega, rfl, rfl, Lib.hid (fun i c h => by omega)⟩
  case round =>
    obtain ⟨j, hj, rfl, rfl, hI⟩ := hrel
    by_cases hlt : j < 4
    · obtain ⟨c, hc⟩ : ∃ c, s[j]? = some c := ⟨s[j]'(by have := hn.out; omega), List.getElem?_eq_getElem _⟩
      have hg := hGj.out j c hc
      have hlt' : (j : Int) < 4 := by omega
      have hjn : j < n := by omega
      have hc255 := c.toNat_lt
      by_cases hh : (48 ≤ c.toNat ∧ c.toNat ≤ 57) ∨ (97 ≤ c.toNat ∧ c.toNat ≤ 102)
      · have hnx : ∀ (i : Nat) (d : UInt8), i < j + 1 → s[i]? = some d → hexSigns.contains d = true := fun i d hi hd => by
          rcases Nat.lt_or_ge i j with h | h
          · exact hI.out i d h hd
          · have e : i = j := by omega
            subst e
            rw [hc] at hd; injection hd with hd
            rw [← hd]; exact (hexSigns_iff c).2 hh
        replace hnx := Lib.hid hnx; replace hc := Lib.hid hc
        rcases hh with ⟨q1, q2⟩ | ⟨q1, q2⟩
        · go_wp2_with fail
          exact ⟨⟨j + 1, by omega, by go_num, by first | trivial | rfl, hnx⟩, by simp [intOf]; omega⟩
        · go_wp2_with fail
          exact ⟨⟨j + 1, by omega, by go_num, by first | trivial | rfl, hnx⟩, by simp [intOf]; omega⟩
      · have hno : ¬ Formed s := fun h => hh ((hexSigns_iff c).1 ((trim_all _).1 h.2.2 c (by
          have : (s.take 4)[j]? = some c := by rw [List.getElem?_take_of_lt hlt]; exact hc
          exact List.mem_of_getElem? this)))
        replace hno := Lib.hid hno; replace hc := Lib.hid hc
        rcases (by omega : c.toNat < 48 ∨ (57 < c.toNat ∧ c.toNat < 97) ∨ 102 < c.toNat) with q | ⟨q, q'⟩ | q
        all_goals
          replace hh := Lib.hid hh
          go_wp2_with fail
          go_ret
          exact hNo.out 4 _ (by decide) (World.grownBy.refl _ _) (appC_form (by have := hn.out; omega) hno.out)
    · have hje : j = 4 := by omega
      subst hje
      have hall : Formed s := ⟨by have := hn.out; omega, hc4.out, (trim_all _).2 fun c hc => by
        obtain ⟨i, hi⟩ := List.mem_iff_getElem?.1 hc
        have hil := (List.getElem?_eq_some_iff.1 hi).1
        rw [List.length_take] at hil
        rw [List.getElem?_take_of_lt (by omega)] at hi
        exact hI.out i c (by omega) hi⟩
      replace hall := Lib.hid hall
      clear hI
      by_cases h5 : s.take 4 = fourB m
      rotate_left
      · have hE2 : (S4.toList == F.toList) = false := by
          rw [hS4.out, hF.out, st_tl, st_tl]; simpa using h5
        replace h5 := Lib.hid h5
        go_wp2_with fail
        go_big_quiet ((first | (go_at_call 12; with_reducible exact CS.out _) | (go_at_call 46; with_reducible exact CF.out _)))
        go_wp2_with fail
        go_ret
        exact hNo.out 15 _ (by decide) (grown_drewN _ _) (appC_sum (by have := hn.out; omega) hall.out (by rw [← hm.out]; exact h5.out))
      have hE2 : (S4.toList == F.toList) = true := by
        rw [hS4.out, hF.out, st_tl, st_tl, h5]; simp
      replace h5 := Lib.hid h5
      go_wp2_with fail
      go_big_quiet ((first | (go_at_call 12; with_reducible exact CS.out _) | (go_at_call 46; with_reducible exact CF.out _)))
      obtain ⟨W3, hW3⟩ : ∃ W, W = wr.drewN nq := ⟨_, rfl⟩
      rw [← hW3]
      have g03 : wr.grownBy W3 none := by rw [hW3]; exact grown_drewN _ _
      have CN := readR_any (2 * (s.drop 5).length + 2) (s.drop 5) W3 (Nat.le_refl _) (by rw [List.length_drop]; have := hn.out; omega)
      rw [← hS5.out] at CN
      have hok := (nodeP_ok (2 * (s.drop 5).length + 2)).1 (s.drop 5) false
      have hlv := (nodeP_lv (2 * (s.drop 5).length + 2)).1 (s.drop 5) false
      obtain ⟨rP, hrP⟩ : ∃ r, r = nodeP (2 * (s.drop 5).length + 2) (s.drop 5) false := ⟨_, rfl⟩
      rw [← hrP] at CN hok hlv
      replace hrP := Lib.hid hrP; replace CN := Lib.hid CN; replace g03 := Lib.hid g03; replace hW3 := Lib.hid hW3; replace hok := Lib.hid hok; replace hlv := Lib.hid hlv
      clear hE2
      go_wp2_with fail
      refine CN.out.mono ?_
      rintro e w4 ⟨g34, hp⟩
      have g04 := g03.out.trans g34
      clear CN
      have hbad : Hid (∀ W, wr.grownBy W none → (∀ t1, AppAt s t1 → False) → AppPostR tr t s wr (.returned (.int .i64 4)) W) := Lib.hid fun W g h =>
        hNo.out 4 W (by decide) g (appC_bad (by have := hn.out; omega) hall.out (by rw [← hm.out]; exact h5.out) h)
      have hrd : ∀ t1, AppAt s t1 → rP = (t1.pt, [], false) := fun t1 hA => by rw [hrP.out]; exact hA.rd
      rcases hp with ⟨hb, rfl⟩ | ⟨hb, t0, rfl, hp0, hpt, hd0, hb0⟩
      · replace g34 := Lib.hid g34; replace g04 := Lib.hid g04; replace hb := Lib.hid hb; replace hrd := Lib.hid hrd
        go_wp2_with fail
        go_ret
        exact hbad.out _ g04.out (fun t1 hA => by have h1 := hb.out; rw [hrd.out t1 hA] at h1; cases h1)
      obtain ⟨p0, r4, b4⟩ := rP
      dsimp only at hb hpt ⊢
      subst hb
      have hrd2 : ∀ t1, AppAt s t1 → t0.pt = t1.pt ∧ r4 = [] := fun t1 hA => by
        have := hrd t1 hA
        simp only [Prod.mk.injEq] at this
        exact ⟨hpt.trans this.1, this.2.1⟩
      have hok2 : t0.pt.ok := by rw [hpt]; exact hok.out
      have hbd := (bd_of_ok t0 hok2).1
      have hlv2 := hlv.out
      dsimp only at hlv2
      rw [← hpt, ← lv_pt, List.length_drop] at hlv2
      have hll : t0.leaves.length ≤ 5000 := by have := hn.out; omega
      obtain ⟨g0, hg0⟩ : ∃ g, g = t0.g := ⟨_, rfl⟩
      obtain ⟨na, hna⟩ : ∃ a, a = t0.n.a := ⟨_, rfl⟩
      obtain ⟨nb, hnb⟩ : ∃ b, b = t0.n.b := ⟨_, rfl⟩
      have hAt0 : RAt w4 t0.n t0.ks := by cases t0; exact hp0.at_
      have hng : t0.n.g = t0.g := by cases t0; rfl
      have d3 : w4.cell? ⟨g0, 3, none⟩ = some (.int .i64 na) := by rw [hg0, hna, ← hng]; exact hAt0.c3
      have d4 : w4.cell? ⟨g0, 4, none⟩ = some (.int .i64 nb) := by rw [hg0, hnb, ← hng]; exact hAt0.c4
      have hb0w : ∀ b ∈ t0.bl, wr.heap.size ≤ b := fun b hb => Nat.le_trans g03.out.size (hb0 b hb)
      have CR := rightR_any t0 0 0 w4 hp0 hbd (by omega) (by omega) (by omega)
      obtain ⟨rt, hrt⟩ : ∃ b, b = t0.right 0 0 := ⟨_, rfl⟩
      rw [← hrt] at CR
      have hmayA : ∀ t1, AppAt s t1 → na ≤ 250 ∧ nb ≤ 120 ∧ rt = true := fun t1 hA => by
        have hpp := (hrd2 t1 hA).1
        obtain ⟨_, _, _, n4, n5, _, _⟩ := pt_n hpp
        have h1 := hA.may
        unfold mayB at h1
        simp at h1
        refine ⟨by rw [hna, n4]; omega, by rw [hnb, n5]; omega, by rw [hrt, right_congr t0 t1 0 0 hpp, hA.rt]⟩
      obtain ⟨SR, hSR⟩ : ∃ S, S = st r4 := ⟨_, rfl⟩
      rw [← hSR]
      rw [← hg0] at CR ⊢
      replace g34 := Lib.hid g34; replace g04 := Lib.hid g04; replace hrd := Lib.hid hrd; replace hrd2 := Lib.hid hrd2; replace hp0 := Lib.hid hp0; replace hpt := Lib.hid hpt; replace hd0 := Lib.hid hd0; replace hb0 := Lib.hid hb0; replace hok2 := Lib.hid hok2; replace hbd := Lib.hid hbd; replace hlv2 := Lib.hid hlv2; replace hll := Lib.hid hll; replace hg0 := Lib.hid hg0; replace hna := Lib.hid hna; replace hnb := Lib.hid hnb; replace hAt0 := Lib.hid hAt0; replace hng := Lib.hid hng; replace hb0w := Lib.hid hb0w; replace hrt := Lib.hid hrt; replace hmayA := Lib.hid hmayA; replace CR := Lib.hid CR
      unfold ptr at CR ⊢
      by_cases hr4 : r4 = []
      rotate_left
      · have hE : SR.toList.isEmpty = false := by rw [hSR, st_tl]; simpa using hr4
        replace hSR := Lib.hid hSR; replace hr4 := Lib.hid hr4
        go_wp2_with fail
        go_ret
        exact hbad.out _ g04.out (fun t1 hA => hr4.out (hrd2.out t1 hA).2)
      have hE : SR.toList.isEmpty = true := by rw [hSR, st_tl, hr4]; rfl
      replace hSR := Lib.hid hSR; replace hr4 := Lib.hid hr4
      by_cases ha : na ≤ 250
      rotate_left
      · have ha' : 250 < na := by omega
        replace ha := Lib.hid ha
        go_wp2_with fail
        go_ret
        exact hbad.out _ g04.out (fun t1 hA => by have h7 := (hmayA.out t1 hA).1; have h8 := ha.out; omega)
      by_cases hb : nb ≤ 120
      rotate_left
      · have hb' : 120 < nb := by omega
        replace hb := Lib.hid hb
        go_wp2_with fail
        go_ret
        exact hbad.out _ g04.out (fun t1 hA => by have h7 := (hmayA.out t1 hA).2.1; have h8 := hb.out; omega)
      go_wp2_with fail
      refine CR.out.mono ?_
      rintro e w5 ⟨rfl, k5, h5'⟩
      have g45 : w4.grownBy w5 none := by rw [h5']; exact grown_drewN _ _
      have g05 := g04.out.trans g45
      replace h5' := Lib.hid h5'
      clear CR
      cases rt with
      | false =>
        replace g45 := Lib.hid g45; replace g05 := Lib.hid g05
        go_wp2_with fail
        go_ret
        exact hbad.out _ g05.out (fun t1 hA => by have := (hmayA.out t1 hA).2.2; cases this)
      | true =>
      have hA0 : AppAt s t0 := ⟨by have := hn.out; omega, hall.out.1, hall.out.2.1, hall.out.2.2, by rw [← hm.out]; exact h5.out, by rw [← hrP.out, hpt.out, hr4.out], by
        have h1 := hrt.out
        cases t0 with | mk n0' ks0 =>
        rw [T.right_mk] at h1
        have h2 := of_decide_eq_true (Bool.and_eq_true_iff.1 h1.symm).1
        have e1 : na = n0'.a := hna.out
        have e2 : nb = n0'.b := hnb.out
        show mayB n0'.a n0'.b = true
        unfold mayB
        simp; omega, hrt.out.symm⟩
      have hp5 := hp0.out.grown g45
      have hT5 := hT.out.grown g05
      have c05 := hT5.c0
      obtain ⟨nl, hnl⟩ : ∃ n, n = t.leaves.length := ⟨_, rfl⟩
      obtain ⟨n0, hn0⟩ : ∃ n, n = t0.leaves.length := ⟨_, rfl⟩
      have CA1 := leavesR_any t w5 hT5.p hl.out
      rw [← hnl] at CA1
      obtain ⟨gt, hgt⟩ : ∃ g, g = t.g := ⟨_, rfl⟩
      rw [← hgt] at CA1 c05
      have hn5 : n0 ≤ 5000 := by rw [hn0]; exact hll.out
      have hnl5 : nl ≤ 100000 := by rw [hnl]; exact hl.out
      replace CA1 := Lib.hid CA1; replace g45 := Lib.hid g45; replace hA0 := Lib.hid hA0; replace g05 := Lib.hid g05; replace hT5 := Lib.hid hT5; replace hnl := Lib.hid hnl; replace hn0 := Lib.hid hn0; replace hp5 := Lib.hid hp5; replace hgt := Lib.hid hgt
      unfold ptr at CA1 c05
      go_wp2_with fail
      refine CA1.out.mono ?_
      rintro e w6 ⟨A1, c1, rfl, O1, G6⟩
      have hp6 := hp5.out.grown G6
      have CA2 := leavesR_any t0 w6 hp6 (by have := hll.out; omega)
      rw [← hn0.out, ← hg0.out] at CA2
      replace CA2 := Lib.hid CA2; replace hp6 := Lib.hid hp6; replace O1 := Lib.hid O1; replace G6 := Lib.hid G6
      clear CA1
      unfold ptr at CA2
      go_wp2_with fail
      refine CA2.out.mono ?_
      rintro e w8 ⟨A2, c2, rfl, O2, G8⟩
      have g58 : w5.grownBy w8 none := G6.out.trans G8
      have g08 := g05.out.trans g58
      have O08 : Off [] wr w8 := Off.of_grown (S := []) g08
      have hp8 := hp5.out.grown g58
      have hB1 : w5.heap.size ≤ w6.heap.size := G6.out.size
      replace O2 := Lib.hid O2; replace G8 := Lib.hid G8; replace g58 := Lib.hid g58; replace O08 := Lib.hid O08; replace hp8 := Lib.hid hp8; replace g08 := Lib.hid g08; replace hB1 := Lib.hid hB1
      clear CA2
      by_cases hnn : n0 = nl
      rotate_left
      · have hne : ((n0 : Int) != (nl : Int)) = true := by simp; omega
        replace hnn := Lib.hid hnn
        go_wp2_with fail
        go_ret
        refine app_noR hT.out 3 (by decide) g08.out (appC_many hA0.out fun e => hnn.out ?_)
        rw [hn0.out, hnl.out, ← e]
      subst hnn
      obtain ⟨pp, hpp⟩ : ∃ pp, pp = t.leaves.map (fun s => s.n.p) := ⟨_, rfl⟩
      obtain ⟨b2, f2, b1, f1, rfl, rfl, hround⟩ := app_roundR hT.out hT5.out O1.out O2.out (Nat.le_refl _) hB1.out g58.out G8.out hp5.out hd0.out hb0w.out hnl.out hn0.out hpp
      have hlast := fun wr hI => app_lastR (wr := wr) hT.out O08.out hA0.out hp8.out hd0.out hb0w.out hnl.out hn0.out hpp hI
      rw [← hg0.out, ← hgt.out] at hlast
      replace hround := Lib.hid hround; replace hlast := Lib.hid hlast; replace hpp := Lib.hid hpp
      go_wp2_with fail
      go_loopw [11] (fun iv wr2 => ∃ j : Nat, j ≤ n0 ∧ iv = .int .i64 j ∧ Hid (GivI w8 t0.leaves pp j wr2)) (fun iv _ => n0 - (intOf iv).toNat)
      case atStart => exact ⟨0, Nat.zero_le _, rfl, Lib.hid (GivI.start _ _ _)⟩
      case round =>
        obtain ⟨j, hj, rfl, hI⟩ := hrel
        by_cases hlt : j < n0
        · obtain ⟨h0, h1', p0, p1, x1, x2, x3, x4, x5, x6⟩ := hround.out j _ hlt hI.out
          replace x6 := Lib.hid x6
          go_upto_region 25 with fail
          go_still_tail 13, (by kernel_rfl)
          change wpList _ _ _ _ _ (World.drew _)
          go_wp2_with fail
          exact ⟨⟨j + 1, by omega, by go_num, Lib.hid (x6.out _ rfl)⟩, by simp [intOf]; omega⟩
        · have hje : j = n0 := by omega
          subst hje
          obtain ⟨y0, y1, hfin⟩ := hlast.out _ hI.out
          replace hfin := Lib.hid hfin
          unfold ptr at y0 hfin
          go_wp2_with fail
          go_ret
          exact hfin.out
end Go.Proofs.YtcklmkjlbpjojaaGreatDoor
