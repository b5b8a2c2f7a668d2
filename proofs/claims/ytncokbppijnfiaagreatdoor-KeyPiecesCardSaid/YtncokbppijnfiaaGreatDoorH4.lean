/- Key: bare in general: the walk. -/
import Derived.Test.YtncokbppijnfiaaGreatDoorH3
namespace Go.Proofs.YtncokbppijnfiaaGreatDoor
open Go.RowKit
set_option linter.unusedSimpArgs false
set_option linter.unusedVariables false

/-- In bare's loop, behind j bytes. -/
structure BJ (w1 wr : World) (bD : Nat) (b : List UInt8) (j : Nat) (d : Dc) (R : Option (Int × Nat)) : Prop where
  g : w1.grownBy wr (some bD)
  c : DC wr bD d
  k : d.ok2
  e : bareLp j d (b.drop j) = R
set_option maxHeartbeats 900000 in
set_option maxRecDepth 100000 in
theorem bare_high (b : List UInt8) (c : UInt8) (A : Option Addr) (n cap : Nat) (up : Bool) (w : World) (hn : n = b.length) (hbig : n ≤ 1000000) (hcap : n ≤ cap) (hR : Rd w A (bs b)) (hb0 : b[0]? = some c) (hc : ¬ c.toNat < 128) :
    Calls Tryz.prog 59 #[.slice A n cap, .bool up] w fun e w' => e = .returned (.tuple #[msV (bareG up b).1, .int .i64 (bareG up b).2.1, .int .i64 (bareG up b).2.2]) ∧ w.grownBy w' none := by
  have hres : Tryz.f59.results = #[.cell 4 40, .tmp 5, .tmp 6] := by kernel_rfl
  have CO : Hid (∀ c m W, Calls Tryz.prog 60 #[.int .i64 c, .int .i64 m] W fun e w' => e = .returned (msV (msOne c m)) ∧ W.grownBy w' none) := Lib.hid fun c m W => one_any c m W
  have CW : Hid (∀ r W, Calls Tryz.prog 36 #[.int .i32 r] W fun e w' => e = .returned (.int .i64 (widthR r)) ∧ W.grownBy w' none) := Lib.hid fun r W => width_any r W
  have CP : Hid (∀ (q : Nat) (d : Dc) W, DC W q d → Calls Tryz.prog 73 #[.pointer (some ⟨q, 0, none⟩)] W fun e w' => e = .returned (.int .i64 d.have') ∧ w' = W) := Lib.hid fun q d W h => pending_any q d W h
  have hn1 : 1 ≤ n := by
    have := (List.getElem?_eq_some_iff.1 hb0).1; omega
  have hbs : ∀ (j : Nat) (c : UInt8), b[j]? = some c → (bs b)[j]? = some (.int .u8 (c.toNat : Int)) := fun j c h => by rw [bs, List.getElem?_map, h]; rfl
  obtain ⟨B, off, rfl, hBw, c0⟩ := hR.at_ (hbs 0 c hb0)
  rw [Nat.add_zero] at c0
  obtain ⟨BG, hBG⟩ : ∃ r, r = bareG up b := ⟨_, rfl⟩
  rw [← hBG]
  unfold bareG at hBG
  rw [hb0] at hBG
  dsimp only at hBG
  rw [if_neg hc] at hBG
  obtain ⟨W0, hW0⟩ : ∃ W, W = w.alloc (.cells #[.int .i64 0, .int .i64 0, .int .i64 0, .int .i64 0, .int .i64 0] 40) := ⟨_, rfl⟩
  have g0 : w.grownBy W0 none := by rw [hW0]; exact World.grownBy_alloc _ _ _
  obtain ⟨bR, hbR⟩ : ∃ n, n = w.heap.size := ⟨_, rfl⟩
  have hR0 : MC W0 bR msNone := by rw [hW0, hbR]; exact MC.new w msNone
  have d0 : W0.cell? ⟨B, off, none⟩ = some (.int .u8 (c.toNat : Int)) := g0.cell c0 (by simp)
  obtain ⟨ci, hci⟩ : ∃ i : Int, i = c.toNat := ⟨_, rfl⟩
  rw [← hci] at d0
  have hci0 : 128 ≤ ci := by omega
  have hci1 : ci ≤ 255 := by have := c.toNat_lt; omega
  have hn0 : (0 : Int) < n := by omega
  have hw0 : wrap64 ci = ci := IntWalk.wrap64_in _ (by omega)
  have CN := newDec_cell W0
  have hi1 : ¬ ci = 0 := by omega
  have hi2 : ¬ ci = 9 := by omega
  have hi3 : ¬ ci = 13 := by omega
  have hi4 : (32 : Int) ≤ ci := by omega
  have hi5 : ¬ ci ≤ 127 := by omega
  have hi6 : ¬ ci < 27 := by omega
  have hi7 : ¬ ci < 32 := by omega
  have hi8 : decide ((32 : Int) ≤ ci) = true := decide_eq_true hi4
  have hi9 : decide (ci ≤ 127) = false := decide_eq_false hi5
  have hq1 : (ci == 0) = false := by rw [beq_eq_false_iff_ne]; exact hi1
  have hq2 : (ci == 9) = false := by rw [beq_eq_false_iff_ne]; exact hi2
  have hq3 : (ci == 13) = false := by rw [beq_eq_false_iff_ne]; exact hi3
  replace g0 := Lib.hid g0; replace hR0 := Lib.hid hR0; replace hbR := Lib.hid hbR; replace hW0 := Lib.hid hW0; replace hres := Lib.hid hres; replace hR := Lib.hid hR; replace hbs := Lib.hid hbs; replace hn := Lib.hid hn; replace hb0 := Lib.hid hb0; replace hc := Lib.hid hc; replace CN := Lib.hid CN; replace hBG := Lib.hid hBG; replace hci := Lib.hid hci
  clear c0
  go_enter Tryz.func59, Tryz.ntmps59
  go_upto_region 1 with fail
  rw [← hW0.out, ← hbR.out]
  go_wp2_with fail
  refine CN.out.mono ?_
  rintro e w1 ⟨rfl, g1, hD1⟩
  obtain ⟨bD, hbD⟩ : ∃ n, n = W0.heap.size := ⟨_, rfl⟩
  rw [← hbD] at hD1 ⊢
  have hwD : w.heap.size ≤ bD := by rw [hbD]; exact g0.out.size
  have hRD : bR ≠ bD := by have := hR0.out.lt; omega
  have g01 := g0.out.trans g1
  have hwR : w.heap.size ≤ bR := Nat.le_of_eq hbR.out.symm
  obtain ⟨BL, hBL⟩ : ∃ r, r = bareLp 0 dc0 b := ⟨_, rfl⟩
  have hEnd : Hid (∀ (W : World) (k : Ms) (i : Int) (m : Nat), BG = (k, i, m) → w1.grownBy W (some bD) → MC (set5 W bR k) bR k ∧ BG = (k, i, m) ∧ w.grownBy (set5 W bR k) none) := Lib.hid fun W k i m e g => ⟨((hR0.out.grown g1).grownO g (fun e => hRD (by injection e))).set5 k, e, set5_grown k (g_new g01 g hwD) hwR⟩
  have hCells : Hid (∀ W, w1.grownBy W (some bD) → MC W bR msNone) := Lib.hid fun W g => (hR0.out.grown g1).grownO g (fun e => hRD (by injection e))
  have hRR : Hid (∀ W, w1.grownBy W (some bD) → Rd W (some ⟨B, off, none⟩) (bs b)) := Lib.hid fun W g => hR.out.grown (g_new g01 g hwD) (.inl rfl)
  have hst : BJ w1 w1 bD b 0 dc0 BL := ⟨World.grownBy.refl _ _, hD1, .inl rfl, by rw [hBL, List.drop_zero]⟩
  have hBG2 : Hid (BG = bareR up n BL) := Lib.hid (by rw [hBL, hn.out]; exact hBG.out)
  replace hst := Lib.hid hst; replace hBL := Lib.hid hBL; replace hwR := Lib.hid hwR; replace g01 := Lib.hid g01; replace hRD := Lib.hid hRD; replace hwD := Lib.hid hwD; replace hbD := Lib.hid hbD; replace g1 := Lib.hid g1; replace hD1 := Lib.hid hD1
  clear hBG d0 hi1 hi2 hi3 hi4 hi5 hi6 hi7 hi8 hi9 hq1 hq2 hq3 hw0
  go_wp2_with fail
  go_loopw [52] (fun iv wr => ∃ (j : Nat) (d : Dc), j ≤ n ∧ iv = .int .i64 j ∧ Hid (BJ w1 wr bD b j d BL)) (fun iv _ => n - (match iv with | .int _ i => i | _ => 0).toNat)
  case atStart => exact ⟨0, dc0, Nat.zero_le _, rfl, hst⟩
  case round =>
    obtain ⟨j, d, hj, rfl, hI⟩ := hrel
    by_cases hlt : j < n
    · obtain ⟨x, hx⟩ : ∃ x, b[j]? = some x := ⟨b[j]'(by rw [← hn.out]; exact hlt), List.getElem?_eq_getElem _⟩
      obtain ⟨_, _, e1, _, xj⟩ := (hRR.out wr hI.out.g).at_ (hbs.out j x hx)
      cases e1
      have hdr : b.drop j = x :: b.drop (j + 1) := by
        rw [List.drop_eq_getElem_cons (by rw [← hn.out]; exact hlt)]
        congr 1
        rw [List.getElem?_eq_getElem (by rw [← hn.out]; exact hlt)] at hx
        exact Option.some.inj hx
      have hst := hI.out.e
      rw [hdr] at hst
      unfold bareLp at hst
      have CPP := CP.out bD d wr hI.out.c
      have hx0 := x.toNat_lt
      obtain ⟨hk2, hl2, hr2⟩ := feed_ok d (x.toNat : Int) (by omega) (by omega) hI.out.k
      have CF := feed_cell bD d (x.toNat : Int) (by omega) (by omega) hI.out.k.ok wr hI.out.c
      obtain ⟨F, hF⟩ : ∃ F, F = feedL d (x.toNat : Int) := ⟨_, rfl⟩
      rw [← hF] at hst hk2 hl2 hr2 CF
      obtain ⟨rs, d2⟩ := F
      dsimp only at hst hk2 hl2 hr2 CF
      obtain ⟨xi, hxi⟩ : ∃ i : Int, i = x.toNat := ⟨_, rfl⟩
      rw [← hxi] at xj CF
      have hjn : (j : Int) < n := by omega
      have hwj : wrap64 ((j : Int) + 1) = (j : Int) + 1 := IntWalk.wrap64_in _ (by omega)
      replace CPP := Lib.hid CPP; replace CF := Lib.hid CF; replace hx := Lib.hid hx; replace hdr := Lib.hid hdr; replace hst := Lib.hid hst; replace hk2 := Lib.hid hk2; replace hr2 := Lib.hid hr2; replace hF := Lib.hid hF; replace hxi := Lib.hid hxi
      cases rs with
      | nil =>
        have hst2 : Hid (bareLp (j + 1) d2 (b.drop (j + 1)) = BL) := Lib.hid hst.out
        go_wp2_with fail
        refine CPP.out.mono ?_
        rintro e w2 ⟨rfl, rfl⟩
        go_wp2_with fail
        refine CF.out.mono ?_
        rintro e w3 ⟨A2, n2, c2, rfl, q1, q2, q3, q4, q5⟩
        replace q1 : n2 = 0 := q1
        have hn2z : (n2 : Int) = 0 := by rw [q1]; rfl
        have hn2b : ((n2 : Int) == 0) = true := by rw [hn2z]; rfl
        replace q1 := Lib.hid q1; replace q2 := Lib.hid q2; replace hn2z := Lib.hid hn2z
        replace q4 := Lib.hid q4; replace q5 := Lib.hid q5; replace q3 := Lib.hid q3
        go_wp2_with fail
        exact ⟨⟨j + 1, d2, by omega, by go_num, Lib.hid ⟨hI.out.g.trans q5.out, q4.out, hk2.out, hst2.out⟩⟩, by simp; omega⟩
      | cons z t =>
        have hst2 := hst.out
        dsimp only at hst2
        have hK0 := hBG2.out
        rw [← hst2] at hK0
        unfold bareR at hK0
        dsimp only at hK0
        obtain ⟨hz0, hz1⟩ := hr2.out z (List.mem_cons_self)
        have hwz : wrap64 z = z := IntWalk.wrap64_in _ (by omega)
        have hdn : 0 ≤ d.have' := by
          have := hI.out.k; unfold Dc.ok2 at this; omega
        have hd2n : 0 ≤ d2.have' := by
          have := hk2.out; unfold Dc.ok2 at this; omega
        replace hK0 := Lib.hid hK0
        clear hst2
        replace hl2 := Lib.hid hl2
        go_wp2_with fail
        refine CPP.out.mono ?_
        rintro e w2 ⟨rfl, rfl⟩
        go_wp2_with fail
        refine CF.out.mono ?_
        rintro e w3 ⟨A2, n2, c2, rfl, q1, q2, q3, q4, q5⟩
        replace q1 : n2 = t.length + 1 := q1
        have hl3 : t.length + 1 ≤ 2 := hl2.out
        obtain ⟨B2, off2, e2, _, z3⟩ := q3.at_ (j := 0) (u := .int .i32 z) rfl
        cases e2
        rw [Nat.add_zero] at z3
        have g3 := Lib.hid (hI.out.g.trans q5)
        have hn20 : (0 : Int) < n2 := by omega
        have hn2z : ¬ (n2 : Int) = 0 := by omega
        have hn2b : ((n2 : Int) == 0) = false := by rw [beq_eq_false_iff_ne]; exact hn2z
        replace q4 := Lib.hid q4; replace q5 := Lib.hid q5; replace q3 := Lib.hid q3
        obtain ⟨dh, hdh⟩ : ∃ i, i = d.have' := ⟨_, rfl⟩
        obtain ⟨dh2, hdh2⟩ : ∃ i, i = d2.have' := ⟨_, rfl⟩
        rw [← hdh] at hdn hK0
        rw [← hdh2] at hd2n hK0
        rw [← hdh]
        replace hdh := Lib.hid hdh
        obtain ⟨KK, hKK⟩ : ∃ k : Nat, k = if dh ≠ 0 ∧ (t ≠ [] ∨ dh2 ≠ 0) then j else j + 1 := ⟨_, rfl⟩
        rw [← hKK] at hK0
        have hcs : dh = 0 ∨ (dh ≠ 0 ∧ t ≠ []) ∨ (dh ≠ 0 ∧ t = [] ∧ dh2 ≠ 0) ∨ (dh ≠ 0 ∧ t = [] ∧ dh2 = 0) := by
          by_cases h1 : dh = 0
          · exact .inl h1
          by_cases h2 : t = []
          · by_cases h3 : dh2 = 0
            · exact .inr (.inr (.inr ⟨h1, h2, h3⟩))
            · exact .inr (.inr (.inl ⟨h1, h2, h3⟩))
          · exact .inr (.inl ⟨h1, h2⟩)
        rcases hcs with h1 | ⟨h1, h2⟩ | ⟨h1, h2, h3⟩ | ⟨h1, h2, h3⟩
        · have hK := hK0.out
          rw [if_neg (fun h => h.1 h1)] at hKK
          rw [hKK] at hK
          replace hKK := Lib.hid hKK; replace hK0 := Lib.hid hK0.out
          have hp : ¬ (0 : Int) < dh := by omega
          have hpd : decide ((0 : Int) < dh) = false := decide_eq_false hp
          replace q1 := Lib.hid q1; replace h1 := Lib.hid h1; replace hdh2 := Lib.hid hdh2; replace hst := Lib.hid hst
          go_wp2_with fail
          refine (CW.out _ _).mono ?_
          rintro e w4 ⟨rfl, g4⟩
          obtain ⟨wz, hwz⟩ : ∃ z', z' = widthR z := ⟨_, rfl⟩
          rw [← hwz] at hK ⊢
          have g14 := g3.out.trans (g4.but (some bD))
          obtain ⟨_, _, e3, _, z4⟩ := (q3.out.grown g4 (.inl rfl)).at_ (j := 0) (u := .int .i32 z) rfl
          cases e3
          rw [Nat.add_zero] at z4
          replace hwz := Lib.hid hwz; replace g14 := Lib.hid g14
          clear g4
          by_cases hw : wz < 1
          all_goals
            have e1 := hK
            first | rw [if_pos hw] at e1 | rw [if_neg hw] at e1
            replace e1 := Lib.hid e1; replace hK := Lib.hid hK
            go_wp2_with fail
            refine (CO.out _ _ _).mono ?_
            rintro e w5 ⟨rfl, g5⟩
            have g15 := g14.out.trans (g5.but (some bD))
            obtain ⟨q1, q2, q3⟩ := hEnd.out w5 _ _ _ e1.out g15
            obtain ⟨x0, x1, x2, x3, x4, x5⟩ := (hCells.out w5 g15).cells
            have f0 := x5 0; have f1 := x5 1; have f2 := x5 2; have f3 := x5 3; have f4 := x5 4
            replace q1 := Lib.hid q1; replace q2 := Lib.hid q2; replace q3 := Lib.hid q3
            clear x5 g5 g15
            go_wp2_with fail
            refine bodyPost_ret (res_ms3 hres.out _ rfl q1.out rfl rfl) rfl ⟨?_, q3.out⟩
            rw [q2.out]; rfl
        · have hK := hK0.out
          rw [if_pos ⟨h1, .inl h2⟩] at hKK
          rw [hKK] at hK
          replace hKK := Lib.hid hKK; replace hK0 := Lib.hid hK0.out
          have hp : (0 : Int) < dh := by omega
          have hpd : decide ((0 : Int) < dh) = true := decide_eq_true hp
          have hn22 : n2 = 2 := by
            have : 0 < t.length := List.length_pos_iff.2 h2
            omega
          replace q1 := Lib.hid q1; replace h1 := Lib.hid h1; replace hdh2 := Lib.hid hdh2; replace h2 := Lib.hid h2
          subst hn22
          go_wp2_with fail
          refine (CW.out _ _).mono ?_
          rintro e w4 ⟨rfl, g4⟩
          obtain ⟨wz, hwz⟩ : ∃ z', z' = widthR z := ⟨_, rfl⟩
          rw [← hwz] at hK ⊢
          have g14 := g3.out.trans (g4.but (some bD))
          obtain ⟨_, _, e3, _, z4⟩ := (q3.out.grown g4 (.inl rfl)).at_ (j := 0) (u := .int .i32 z) rfl
          cases e3
          rw [Nat.add_zero] at z4
          replace hwz := Lib.hid hwz; replace g14 := Lib.hid g14
          clear g4
          by_cases hw : wz < 1
          all_goals
            have e1 := hK
            first | rw [if_pos hw] at e1 | rw [if_neg hw] at e1
            replace e1 := Lib.hid e1; replace hK := Lib.hid hK
            go_wp2_with fail
            refine (CO.out _ _ _).mono ?_
            rintro e w5 ⟨rfl, g5⟩
            have g15 := g14.out.trans (g5.but (some bD))
            obtain ⟨q1, q2, q3⟩ := hEnd.out w5 _ _ _ e1.out g15
            obtain ⟨x0, x1, x2, x3, x4, x5⟩ := (hCells.out w5 g15).cells
            have f0 := x5 0; have f1 := x5 1; have f2 := x5 2; have f3 := x5 3; have f4 := x5 4
            replace q1 := Lib.hid q1; replace q2 := Lib.hid q2; replace q3 := Lib.hid q3
            clear x5 g5 g15
            go_wp2_with fail
            refine bodyPost_ret (res_ms3 hres.out _ rfl q1.out rfl rfl) rfl ⟨?_, q3.out⟩
            rw [q2.out]; rfl
        · have hK := hK0.out
          rw [if_pos ⟨h1, .inr h3⟩] at hKK
          rw [hKK] at hK
          replace hKK := Lib.hid hKK; replace hK0 := Lib.hid hK0.out
          have hp : (0 : Int) < dh := by omega
          have hpd : decide ((0 : Int) < dh) = true := decide_eq_true hp
          have hp2 : (0 : Int) < dh2 := by omega
          have hpd2 : decide ((0 : Int) < dh2) = true := decide_eq_true hp2
          have hn22 : n2 = 1 := by rw [q1, h2]; rfl
          replace q1 := Lib.hid q1; replace h1 := Lib.hid h1; replace h2 := Lib.hid h2; replace h3 := Lib.hid h3
          subst hn22
          go_wp2_with fail
          refine (CP.out bD d2 w3 q4.out).mono ?_
          rintro e w6 ⟨rfl, rfl⟩
          rw [← hdh2]
          replace hdh2 := Lib.hid hdh2
          go_wp2_with fail
          refine (CW.out _ _).mono ?_
          rintro e w4 ⟨rfl, g4⟩
          obtain ⟨wz, hwz⟩ : ∃ z', z' = widthR z := ⟨_, rfl⟩
          rw [← hwz] at hK ⊢
          have g14 := g3.out.trans (g4.but (some bD))
          obtain ⟨_, _, e3, _, z4⟩ := (q3.out.grown g4 (.inl rfl)).at_ (j := 0) (u := .int .i32 z) rfl
          cases e3
          rw [Nat.add_zero] at z4
          replace hwz := Lib.hid hwz; replace g14 := Lib.hid g14
          clear g4
          by_cases hw : wz < 1
          all_goals
            have e1 := hK
            first | rw [if_pos hw] at e1 | rw [if_neg hw] at e1
            replace e1 := Lib.hid e1; replace hK := Lib.hid hK
            go_wp2_with fail
            refine (CO.out _ _ _).mono ?_
            rintro e w5 ⟨rfl, g5⟩
            have g15 := g14.out.trans (g5.but (some bD))
            obtain ⟨q1, q2, q3⟩ := hEnd.out w5 _ _ _ e1.out g15
            obtain ⟨x0, x1, x2, x3, x4, x5⟩ := (hCells.out w5 g15).cells
            have f0 := x5 0; have f1 := x5 1; have f2 := x5 2; have f3 := x5 3; have f4 := x5 4
            replace q1 := Lib.hid q1; replace q2 := Lib.hid q2; replace q3 := Lib.hid q3
            clear x5 g5 g15
            go_wp2_with fail
            refine bodyPost_ret (res_ms3 hres.out _ rfl q1.out rfl rfl) rfl ⟨?_, q3.out⟩
            rw [q2.out]; rfl
        · have hK := hK0.out
          rw [if_neg (fun h => h.2.elim (fun h => h h2) (fun h => h h3))] at hKK
          rw [hKK] at hK
          replace hKK := Lib.hid hKK; replace hK0 := Lib.hid hK0.out
          have hp : (0 : Int) < dh := by omega
          have hpd : decide ((0 : Int) < dh) = true := decide_eq_true hp
          have hp2 : ¬ (0 : Int) < dh2 := by omega
          have hpd2 : decide ((0 : Int) < dh2) = false := decide_eq_false hp2
          have hn22 : n2 = 1 := by rw [q1, h2]; rfl
          replace q1 := Lib.hid q1; replace h1 := Lib.hid h1; replace h2 := Lib.hid h2; replace h3 := Lib.hid h3
          subst hn22
          go_wp2_with fail
          refine (CP.out bD d2 w3 q4.out).mono ?_
          rintro e w6 ⟨rfl, rfl⟩
          rw [← hdh2]
          replace hdh2 := Lib.hid hdh2
          go_wp2_with fail
          refine (CW.out _ _).mono ?_
          rintro e w4 ⟨rfl, g4⟩
          obtain ⟨wz, hwz⟩ : ∃ z', z' = widthR z := ⟨_, rfl⟩
          rw [← hwz] at hK ⊢
          have g14 := g3.out.trans (g4.but (some bD))
          obtain ⟨_, _, e3, _, z4⟩ := (q3.out.grown g4 (.inl rfl)).at_ (j := 0) (u := .int .i32 z) rfl
          cases e3
          rw [Nat.add_zero] at z4
          replace hwz := Lib.hid hwz; replace g14 := Lib.hid g14
          clear g4
          by_cases hw : wz < 1
          all_goals
            have e1 := hK
            first | rw [if_pos hw] at e1 | rw [if_neg hw] at e1
            replace e1 := Lib.hid e1; replace hK := Lib.hid hK
            go_wp2_with fail
            refine (CO.out _ _ _).mono ?_
            rintro e w5 ⟨rfl, g5⟩
            have g15 := g14.out.trans (g5.but (some bD))
            obtain ⟨q1, q2, q3⟩ := hEnd.out w5 _ _ _ e1.out g15
            obtain ⟨x0, x1, x2, x3, x4, x5⟩ := (hCells.out w5 g15).cells
            have f0 := x5 0; have f1 := x5 1; have f2 := x5 2; have f3 := x5 3; have f4 := x5 4
            replace q1 := Lib.hid q1; replace q2 := Lib.hid q2; replace q3 := Lib.hid q3
            clear x5 g5 g15
            go_wp2_with fail
            refine bodyPost_ret (res_ms3 hres.out _ rfl q1.out rfl rfl) rfl ⟨?_, q3.out⟩
            rw [q2.out]; rfl
    · have hje : j = n := by omega
      subst hje
      have hBN : BG = bareR up j none := by
        rw [hBG2.out, ← hI.out.e, List.drop_of_length_le (by rw [hn.out]; exact Nat.le_refl _)]; rfl
      unfold bareR at hBN
      dsimp only at hBN
      cases up
      · have e1 : BG = (msNone, 0, 0) := by rw [hBN, if_neg (by simp)]
        obtain ⟨q1, q2, q3⟩ := hEnd.out wr _ _ _ e1 hI.out.g
        obtain ⟨x0, x1, x2, x3, x4, x5⟩ := (hCells.out wr hI.out.g).cells
        have f0 := x5 0; have f1 := x5 1; have f2 := x5 2; have f3 := x5 3; have f4 := x5 4
        replace q1 := Lib.hid q1; replace q2 := Lib.hid q2; replace q3 := Lib.hid q3; replace hBN := Lib.hid hBN; replace e1 := Lib.hid e1
        clear x5
        go_wp2_with fail
        refine bodyPost_ret (res_ms3 hres.out _ rfl q1.out rfl rfl) rfl ⟨?_, q3.out⟩
        rw [q2.out]; rfl
      · have e1 : BG = (msOne 65533 0, 2, j) := by rw [hBN, if_pos rfl]
        replace hBN := Lib.hid hBN; replace e1 := Lib.hid e1
        go_wp2_with fail
        refine (CO.out _ _ _).mono ?_
        rintro e w5 ⟨rfl, g5⟩
        have g15 := hI.out.g.trans (g5.but (some bD))
        obtain ⟨q1, q2, q3⟩ := hEnd.out w5 _ _ _ e1.out g15
        obtain ⟨x0, x1, x2, x3, x4, x5⟩ := (hCells.out w5 g15).cells
        have f0 := x5 0; have f1 := x5 1; have f2 := x5 2; have f3 := x5 3; have f4 := x5 4
        replace q1 := Lib.hid q1; replace q2 := Lib.hid q2; replace q3 := Lib.hid q3
        clear x5 g5 g15
        go_wp2_with fail
        refine bodyPost_ret (res_ms3 hres.out _ rfl q1.out rfl rfl) rfl ⟨?_, q3.out⟩
        rw [q2.out]; rfl
end Go.Proofs.YtncokbppijnfiaaGreatDoor
