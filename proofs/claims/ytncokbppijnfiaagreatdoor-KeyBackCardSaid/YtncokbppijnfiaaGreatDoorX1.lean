/- Key: the walk of KeyBack as a whole. -/
import Derived.Test.YtncokbppijnfiaaGreatDoorP4
import Derived.Test.YtncokbppijnfiaaGreatDoorT2
import Derived.Test.YtncokbppijnfiaaGreatDoorX0
namespace Go.Proofs.YtncokbppijnfiaaGreatDoor
open Go.RowKit
set_option linter.unusedSimpArgs false
set_option linter.unusedVariables false

theorem nameK_len (c m : Int) : (nameK c m).length ≤ 26 := by
  have h := nameC_len c
  unfold nameK
  split
  · simp only [List.length_append]
    have h1 : (if m / 4 % 2 = 1 then [67, 45] else ([] : List UInt8)).length ≤ 2 := by split <;> simp
    have h2 : (if m / 2 % 2 = 1 then [77, 45] else ([] : List UInt8)).length ≤ 2 := by split <;> simp
    have h3 : (if m % 2 = 1 then [83, 45] else ([] : List UInt8)).length ≤ 2 := by split <;> simp
    omega
  · simp
set_option maxHeartbeats 600000 in
set_option maxRecDepth 100000 in
theorem keyBack_any (c m c' m' md : Int) (hc : I64 c) (hm : I64 m) (hc' : I64 c') (hm' : I64 m') (hmd : I64 md) (w : World) (hW : Wd w) :
    Calls Tryz.prog 3 #[keyV c m, keyV c' m', .int .i64 md] w fun e w' => e = .returned (.bool true) ∧ w.grownBy w' none := by
  have wf0 : Wf w w := ⟨hW, Below.refl _ _⟩
  have hK0 := KC.new w c m
  have g0 : w.grownBy (w.alloc (.cells #[.int .i64 c, .int .i64 m] 23)) none := World.grownBy_alloc _ _ _
  obtain ⟨bK, hbK⟩ : ∃ n, n = w.heap.size := ⟨_, rfl⟩
  obtain ⟨V0, hV0⟩ : ∃ W, W = w.alloc (.cells #[.int .i64 c, .int .i64 m] 23) := ⟨_, rfl⟩
  rw [← hbK, ← hV0] at hK0
  rw [← hV0] at g0
  have hO1 := KC.new V0 c' m'
  have g1 := g_alloc g0 (.cells #[.int .i64 c', .int .i64 m'] 23)
  have hK1 := hK0.grown (World.grownBy_alloc V0 (.cells #[.int .i64 c', .int .i64 m'] 23) none)
  obtain ⟨bO, hbO⟩ : ∃ n, n = V0.heap.size := ⟨_, rfl⟩
  obtain ⟨V1, hV1⟩ : ∃ W, W = V0.alloc (.cells #[.int .i64 c', .int .i64 m'] 23) := ⟨_, rfl⟩
  have hbO2 : bK + 1 = bO := by rw [hbO, hV0, hbK]; simp
  rw [← hbO, ← hV1] at hO1
  rw [← hV1] at g1 hK1
  have CS := Lib.hid (shown_any V1 (hW.grown g1))
  have CR : Hid (∀ W, Wd W → Calls Tryz.prog 8 #[keyV c m] W fun e w' => e = .returned (.bool (rightK c m)) ∧ W.grownBy w' none) := Lib.hid fun W h => right_any c m hc W h
  have CK : Hid (∀ W, Wd W → Calls Tryz.prog 10 #[keyV c m] W fun e w' => e = .returned (.string (st (nameK c m))) ∧ W.grownBy w' none) := Lib.hid fun W h => name_any c m hc W h
  have CO : Hid (∀ W, Wd W → Calls Tryz.prog 10 #[keyV c' m'] W fun e w' => e = .returned (.string (st (nameK c' m'))) ∧ W.grownBy w' none) := Lib.hid fun W h => name_any c' m' hc' W h
  unfold keyV at CR CK CO ⊢
  obtain ⟨rr, hrr⟩ : ∃ b, b = rightK c m := ⟨_, rfl⟩
  rw [← hrr] at CR
  replace hW := Lib.hid hW; replace wf0 := Lib.hid wf0; replace hK0 := Lib.hid hK0; replace g0 := Lib.hid g0; replace hbK := Lib.hid hbK; replace hV0 := Lib.hid hV0; replace hO1 := Lib.hid hO1; replace g1 := Lib.hid g1; replace hK1 := Lib.hid hK1; replace hbO := Lib.hid hbO; replace hbO2 := Lib.hid hbO2; replace hV1 := Lib.hid hV1; replace hrr := Lib.hid hrr
  replace hc := Lib.hid hc; replace hm := Lib.hid hm; replace hc' := Lib.hid hc'; replace hm' := Lib.hid hm'; replace hmd := Lib.hid hmd
  go_enter Tryz.func3, Tryz.ntmps3
  go_upto_region 1 with fail
  rw [← hbK.out, ← hV0.out, hbO2.out, ← hV1.out]
  go_wp2_with fail
  refine CS.out.mono ?_
  rintro e w1 ⟨rfl, q1⟩
  have G1 := g1.out.trans q1
  have K1 := hK1.out.grown q1
  have O1 := hO1.out.grown q1
  obtain ⟨k0, k1, _⟩ := K1.cells
  have W1 := hW.out.grown G1
  have CR1 := CR.out w1 W1
  replace CR1 := Lib.hid CR1; replace G1 := Lib.hid G1; replace K1 := Lib.hid K1; replace O1 := Lib.hid O1; replace W1 := Lib.hid W1
  clear q1 CS
  go_wp2_with fail
  refine CR1.out.mono ?_
  rintro e w2 ⟨rfl, q2⟩
  have CN := newDec_any w2
  have G2 := G1.out.trans q2
  have K2 := K1.out.grown q2
  have O2 := O1.out.grown q2
  replace CN := Lib.hid CN; replace G2 := Lib.hid G2; replace K2 := Lib.hid K2; replace O2 := Lib.hid O2
  clear q2 CR1 k0 k1 K1 O1 G1 W1
  go_wp2_with fail
  refine CN.out.mono ?_
  rintro e w3 ⟨rfl, q3, D3⟩
  obtain ⟨p, hp⟩ : ∃ p, p = w2.heap.size := ⟨_, rfl⟩
  rw [← hp] at D3 ⊢
  have hp0 : w.heap.size ≤ p := by rw [hp]; exact G2.out.size
  have G3 := G2.out.trans q3
  have K3 := K2.out.grown q3
  have O3 := O2.out.grown q3
  have W3 := hW.out.grown G3
  obtain ⟨k0, k1, _⟩ := K3.cells
  have CK3 := CK.out w3 W3
  replace CK3 := Lib.hid CK3; replace D3 := Lib.hid D3; replace G3 := Lib.hid G3; replace K3 := Lib.hid K3; replace O3 := Lib.hid O3; replace W3 := Lib.hid W3; replace hp := Lib.hid hp
  clear q3 K2 O2 G2 CN
  cases rr
  · have hnk : nameK c m = [] := by unfold nameK; rw [← hrr.out]; rfl
    rw [hnk] at CK3
    replace hnk := Lib.hid hnk
    have he0 : (st []).toList.isEmpty = true := (congrArg List.isEmpty (st_toList [])).trans rfl
    go_wp2_with fail
    refine CK3.out.mono ?_
    rintro e w4 ⟨rfl, q4⟩
    have G4 := Lib.hid (G3.out.trans q4)
    clear q4
    go_wp2_with fail
    go_ret
    exact ⟨rfl, G4.out⟩
  replace hrr : Hid (rightK c m = true) := Lib.hid hrr.out.symm
  obtain ⟨nk, hnk⟩ : ∃ s, s = nameK c m := ⟨_, rfl⟩
  rw [← hnk] at CK3
  have CP : Hid (∀ W, Wd W → Calls Tryz.prog 11 #[.string (st nk)] W fun e w' => e = .returned (.tuple #[.agg #[.int .i64 c, .int .i64 m], .int .i64 0]) ∧ W.grownBy w' none) := Lib.hid fun W h => by
    have := parse_any nk (by rw [hnk]; have := nameK_len c m; omega) W h
    rw [hnk, parse_name c m hrr.out] at this
    rw [hnk]
    exact this
  replace hnk := Lib.hid hnk
  go_wp2_with fail
  refine CK3.out.mono ?_
  rintro e w4 ⟨rfl, q4⟩
  have G4 := G3.out.trans q4
  have K4 := K3.out.grown q4
  have O4 := O3.out.grown q4
  have D4 := D3.out.grown q4 (by simp)
  have W4 := hW.out.grown G4
  have CP4 := CP.out w4 W4
  replace CP4 := Lib.hid CP4; replace D4 := Lib.hid D4; replace G4 := Lib.hid G4; replace K4 := Lib.hid K4; replace O4 := Lib.hid O4; replace W4 := Lib.hid W4
  clear q4 K3 O3 G3 D3 W3 CK3 k0 k1
  go_wp2_with fail
  refine CP4.out.mono ?_
  rintro e w5 ⟨rfl, q5⟩
  have G5 := g_alloc (G4.out.trans q5) (.cells #[.int .i64 c, .int .i64 m] 23)
  have K5 := (K4.out.grown q5).grown (World.grownBy_alloc w5 (.cells #[.int .i64 c, .int .i64 m] 23) none)
  have O5 := (O4.out.grown q5).grown (World.grownBy_alloc w5 (.cells #[.int .i64 c, .int .i64 m] 23) none)
  have D5 := (D4.out.grown q5 (by simp)).grown (World.grownBy_alloc w5 (.cells #[.int .i64 c, .int .i64 m] 23) none) (by simp)
  have X5 := KC.new w5 c m
  obtain ⟨bX, hbX⟩ : ∃ n, n = w5.heap.size := ⟨_, rfl⟩
  obtain ⟨V5, hV5⟩ : ∃ W, W = w5.alloc (.cells #[.int .i64 c, .int .i64 m] 23) := ⟨_, rfl⟩
  rw [← hV5] at G5 K5 O5 D5
  rw [← hbX, ← hV5] at X5
  have W5 := hW.out.grown G5
  replace G5 := Lib.hid G5; replace K5 := Lib.hid K5; replace O5 := Lib.hid O5; replace D5 := Lib.hid D5; replace X5 := Lib.hid X5; replace W5 := Lib.hid W5; replace hbX := Lib.hid hbX; replace hV5 := Lib.hid hV5
  clear q5 CP4 CP G4 K4 O4 D4 W4
  go_upto_region 7 with fail
  rw [← hbX.out, ← hV5.out]
  obtain ⟨k0, k1, _⟩ := K5.out.cells
  obtain ⟨o0, o1, _⟩ := O5.out.cells
  obtain ⟨x0, x1, _⟩ := X5.out.cells
  have zk0 : ∀ X : Gn V5, X.V.cell? ⟨bK, 0, none⟩ = some (.int .i64 c) := fun X => X.h.cell k0 (by simp)
  have zk1 : ∀ X : Gn V5, X.V.cell? ⟨bK, 1, none⟩ = some (.int .i64 m) := fun X => X.h.cell k1 (by simp)
  have zo0 : ∀ X : Gn V5, X.V.cell? ⟨bO, 0, none⟩ = some (.int .i64 c') := fun X => X.h.cell o0 (by simp)
  have zo1 : ∀ X : Gn V5, X.V.cell? ⟨bO, 1, none⟩ = some (.int .i64 m') := fun X => X.h.cell o1 (by simp)
  have zx0 : ∀ X : Gn V5, X.V.cell? ⟨bX, 0, none⟩ = some (.int .i64 c) := fun X => X.h.cell x0 (by simp)
  have zx1 : ∀ X : Gn V5, X.V.cell? ⟨bX, 1, none⟩ = some (.int .i64 m) := fun X => X.h.cell x1 (by simp)
  obtain ⟨no, hno⟩ : ∃ s, s = nameK c' m' := ⟨_, rfl⟩
  rw [← hno] at CO
  have CKX : Hid (∀ X : Gn V5, Calls Tryz.prog 10 #[.agg #[.int .i64 c, .int .i64 m]] X.V fun e w' => e = .returned (.string (st nk)) ∧ ∃ Y : Gn V5, w' = Y.V) := Lib.hid fun X => (CK.out X.V (W5.out.grown X.h)).mono fun e w' ⟨h, h2⟩ => ⟨by rw [h, hnk.out], ⟨w', X.h.trans h2⟩, rfl⟩
  have COX : Hid (∀ X : Gn V5, Calls Tryz.prog 10 #[.agg #[.int .i64 c', .int .i64 m']] X.V fun e w' => e = .returned (.string (st no)) ∧ ∃ Y : Gn V5, w' = Y.V) := Lib.hid fun X => (CO.out X.V (W5.out.grown X.h)).mono fun e w' ⟨h, h2⟩ => ⟨h, ⟨w', X.h.trans h2⟩, rfl⟩
  have hcc : (c == c) = true := by simp
  have hmm : (m == m) = true := by simp
  have hne : ((st nk).toList == (ByteArray.mk #[]).toList) = false := by
    rw [show (ByteArray.mk #[]) = st [] from rfl, beq_st]
    exact decide_eq_false (by rw [hnk.out]; exact name_ne c m hrr.out)
  have hne3 : (st nk).toList.isEmpty = false := by
    rw [st_toList]
    cases hh : nk with
    | nil => exact absurd (hnk.out.symm.trans hh) (name_ne c m hrr.out)
    | cons _ _ => rfl
  have hne2 : decide (nk = []) = false := decide_eq_false (by rw [hnk.out]; exact name_ne c m hrr.out)
  obtain ⟨ee, hee⟩ : ∃ b, b = ((st no).toList == (st nk).toList) := ⟨_, rfl⟩
  have hee2 : ((st no).toList == (st nk).toList) = ee := hee.symm
  have hee3 : (c' == c && m' == m) = ee := by
    rw [hee, beq_st]
    have hi := name_inj c m c' m' hrr.out
    rw [← hno, ← hnk.out] at hi
    by_cases h1 : no = nk
    · obtain ⟨a1, a2⟩ := hi.1 h1
      rw [decide_eq_true h1, a1, a2]; simp
    · rw [decide_eq_false h1]
      by_cases h2 : c' = c ∧ m' = m
      · exact absurd (hi.2 h2) h1
      · rw [Bool.and_eq_false_iff, beq_eq_false_iff_ne, beq_eq_false_iff_ne]
        by_cases h3 : c' = c
        · exact .inr fun h => h2 ⟨h3, h⟩
        · exact .inl h3
  replace hno := Lib.hid hno; replace hee := Lib.hid hee
  clear k0 k1 o0 o1 x0 x1
  refine wp_region_gr (by kernel_rfl) (by kernel_rfl) ?_
  repeat (go_big_quiet_step (first | (go_at_call 10; with_reducible exact CKX.out _) | (go_at_call 10; with_reducible exact COX.out _)))
  refine wpQuiet_nil ?_
  intro _ hw'
  obtain ⟨GX, hw''⟩ := hw'
  subst hw''
  have G6 := G5.out.trans GX.h
  have K6 := K5.out.grown GX.h
  have D6 := D5.out.grown GX.h (by simp)
  generalize GX.V = w6 at G6 K6 D6 ⊢
  have W6 := hW.out.grown G6
  obtain ⟨k0, k1, _⟩ := K6.cells
  clear zk0 zk1 zo0 zo1 zx0 zx1 CKX COX hne hne2 hne3 hee2 hee3 hcc hmm
  obtain ⟨mo, hmo⟩ : ∃ b, b = isMouse c := ⟨_, rfl⟩
  have hmo2 := hmo
  unfold isMouse at hmo2
  replace G6 := Lib.hid G6; replace K6 := Lib.hid K6; replace D6 := Lib.hid D6; replace W6 := Lib.hid W6; replace hmo := Lib.hid hmo
  have CB : Hid (∀ (z : Int) (W : World), Wd W → Calls Tryz.prog 12 #[.agg #[.int .i64 c, .int .i64 m], .int .i64 z] W fun e w' => Out W e w' (bytesL c m z)) := Lib.hid fun z W h => bytes_any c m z hc.out W h
  cases mo
  rotate_left
  · have hm1 : (1114136 : Int) ≤ c := by simp at hmo2; omega
    have hm2 : c ≤ 1114140 := by simp at hmo2; omega
    have hm3 : decide ((1114136 : Int) ≤ c) = true := decide_eq_true hm1
    have hm4 : decide (c ≤ 1114140) = true := decide_eq_true hm2
    have CB6 := CB.out md w6 W6.out
    have hb : bytesL c m md = [] := by unfold bytesL; rw [if_pos (.inr hmo.out.symm)]
    rw [hb] at CB6
    replace CB6 := Lib.hid CB6; replace hb := Lib.hid hb
    clear hmo2
    go_wp2_with fail
    refine CB6.out.mono ?_
    rintro e w7 ⟨A, n, cp, rfl, hn, hcp, R7, g7⟩
    replace hn : n = 0 := hn
    subst hn
    have G7 := Lib.hid (G6.out.trans g7)
    replace R7 := Lib.hid R7; replace hcp := Lib.hid hcp
    clear g7
    go_wp2_with fail
    go_ret
    exact ⟨rfl, G7.out⟩
  · obtain ⟨md2, hmd2⟩ : ∃ z, z = bits .or .i64 md 64 := ⟨_, rfl⟩
    have hmd3 := hmd2.symm
    have h64 : bits .and .i64 md2 64 ≠ 0 := by rw [hmd2, or64]; decide
    obtain ⟨hone, hbne⟩ := bytes_one c m md2 hrr.out hmo.out.symm h64
    have CB6 := CB.out md2 w6 W6.out
    obtain ⟨bl, hbl⟩ : ∃ l, l = bytesL c m md2 := ⟨_, rfl⟩
    rw [← hbl] at hone hbne CB6
    have hmq : ¬ ((1114136 : Int) ≤ c ∧ c ≤ 1114140) := by simp at hmo2; omega
    have hcs : (¬ (1114136 : Int) ≤ c ∧ decide ((1114136 : Int) ≤ c) = false) ∨ ((1114136 : Int) ≤ c ∧ decide ((1114136 : Int) ≤ c) = true ∧ ¬ c ≤ 1114140 ∧ decide (c ≤ 1114140) = false) := by
      by_cases h1 : (1114136 : Int) ≤ c
      · exact .inr ⟨h1, decide_eq_true h1, fun h => hmq ⟨h1, h⟩, decide_eq_false fun h => hmq ⟨h1, h⟩⟩
      · exact .inl ⟨h1, decide_eq_false h1⟩
    have hbl9 : bl.length ≤ 40 := by rw [hbl]; exact bytes_len c m md2 hrr.out h64
    replace CB6 := Lib.hid CB6; replace hone := Lib.hid hone; replace hbne := Lib.hid hbne; replace hbl := Lib.hid hbl; replace h64 := Lib.hid h64; replace hmd2 := Lib.hid hmd2; replace hmq := Lib.hid hmq; replace hbl9 := Lib.hid hbl9
    clear hmo2
    rcases hcs with ⟨q1, q2⟩ | ⟨q1, q2, q3, q4⟩
    all_goals
      go_wp2_with fail
      refine CB6.out.mono ?_
      rintro e w7 ⟨A, n, cp, rfl, hn, hcp, R7, g7⟩
      have G7 := G6.out.trans g7
      have K7 := K6.out.grown g7
      have D7 := D6.out.grown g7 (by simp)
      have wf7 : Wf w w7 := wf0.out.grown G7 (by simp)
      have hn0 : 0 < n := by rw [hn]; exact List.length_pos_iff.2 hbne.out
      obtain ⟨o1, rest, o2, t1, t2, t3, t4⟩ := hone.out.took hbne.out
      have CF := feed_any (frG false) p 0 0 w.heap.size n cp none A [] bl rest o1 w w7 wf7 (Nat.le_refl _) hp0 G7.size D7 (World.ownsRow_nil _ _ _ _) rfl hn (by have := hbl9.out; omega) R7 t1 (frontAt_G false _ (by have := hbl9.out; rw [List.nil_append]; omega))
      replace CF := Lib.hid CF; replace G7 := Lib.hid G7; replace K7 := Lib.hid K7; replace D7 := Lib.hid D7; replace wf7 := Lib.hid wf7; replace R7 := Lib.hid R7; replace hn := Lib.hid hn; replace hcp := Lib.hid hcp; replace t1 := Lib.hid t1; replace t2 := Lib.hid t2; replace t3 := Lib.hid t3; replace t4 := Lib.hid t4
      clear g7 k0 k1 q1 q2
      go_wp2_with fail
      refine CF.out.mono ?_
      rintro e w8 ⟨Al, cl, A8, c8, w8a, rfl, Ol, D8, O8, g8a, g8⟩
      have G8a := G7.out.trans g8a
      have G8 : w.grownBy w8 none := g_rows G8a (fun g h => by injection h with h; omega) g8
      have hpK : p ≠ bK := fun e => by have h1 := K6.out.lt; have h2 := D5.out; rw [e] at h2; unfold DB at h2; have h3 := K5.out; unfold KC at h3; rw [h2] at h3; injection h3 with h3; injection h3 with _ h4; cases h4
      have K8 : KC w8 bK c m := (K7.out.grown g8a).grown' g8 (fun e => hpK (by injection e with e; exact e.symm))
      have W8 := hW.out.grown G8
      have R8 := own_Rd O8
      have CT := time_any (frG true) p rest.length c8 A8 rest [] o2 w8 W8 D8 R8 rfl (by have := hbl9.out; have := t4.out; omega) (own_cap O8) t2.out (frontAt_G true rest (by have := hbl9.out; have := t4.out; omega))
      have hw78 : w7.heap.size ≤ w8.heap.size := by have h1 := g8a.size; have h2 := g8.size; omega
      have hp7 : p < w7.heap.size := D7.out.lt
      replace CT := Lib.hid CT; replace G8 := Lib.hid G8; replace K8 := Lib.hid K8; replace Ol := Lib.hid Ol; replace D8 := Lib.hid D8; replace hpK := Lib.hid hpK; replace W8 := Lib.hid W8; replace hw78 := Lib.hid hw78; replace hp7 := Lib.hid hp7
      clear g8a g8 G8a R8 O8 CF
      go_wp2_with fail
      refine CT.out.mono ?_
      rintro e w9 ⟨A2, co2, A9, c9, rfl, O2, D9, O9, g9⟩
      have G9 : w.grownBy w9 none := g_rows G8.out (fun g h => by injection h with h; omega) g9
      have K9 : KC w9 bK c m := K8.out.grown' g9 (fun e => hpK.out (by injection e with e; exact e.symm))
      have OL9 := own_but Ol.out g9 hp7.out
      have R2 := Rd.own_row O2
      have hlen : o1.length + o2.length = 1 := by rw [← List.length_append, t3.out]; rfl
      have hcel : msCells o1 ++ msCells o2 = [.int .i64 c, .int .i64 m, .int .i64 0, .int .i64 0, .int .i64 0] := by
        rw [msCells, msCells, ← List.flatMap_append, t3.out]; rfl
      have hw79 : w7.heap.size ≤ w9.heap.size := Nat.le_trans hw78.out g9.size
      obtain ⟨l1, hl1⟩ : ∃ n, n = o1.length := ⟨_, rfl⟩
      obtain ⟨l2, hl2⟩ : ∃ n, n = o2.length := ⟨_, rfl⟩
      rw [← hl1, ← hl2] at hlen
      rw [← hl1] at OL9
      rw [← hl1, ← hl2]
      have h2l : (msCells o2).length = l2 * 5 := by rw [msCells_len, hl2]
      have h2o : ∀ u ∈ msCells o2, u.oneCell' = true := fun u hu => by
        obtain ⟨k, _, hk⟩ := List.mem_flatMap.1 hu
        exact msC_one k u hk
      replace hcel := Lib.hid hcel; replace G9 := Lib.hid G9; replace K9 := Lib.hid K9; replace OL9 := Lib.hid OL9; replace R2 := Lib.hid R2; replace hlen := Lib.hid hlen; replace hl1 := Lib.hid hl1; replace hl2 := Lib.hid hl2; replace D9 := Lib.hid D9; replace hw79 := Lib.hid hw79; replace h2l := Lib.hid h2l
      clear g9 O9 O2 CT
      go_wp2_with (at_builtin; refine ap34 rfl (.tmp 93) (.tmp 94) rfl w7.heap.size _ l1 (msCells o1) rfl OL9.out A2 l2 co2 (msCells o2) rfl h2l.out R2.out h2o (by have := hlen.out; omega) hw79.out ?_; intro A10 c10 w10 r1 r2 r3)
      have hge : ∀ g, (Value.slice Al l1 cl).ownBlock = some g → w7.heap.size ≤ g := fun g h => (OL9.out.lt g h).1
      have r2' : w9.grownBy w10 (Value.slice Al l1 cl).ownBlock := r2
      have G10 : w.grownBy w10 none := g_rows G9.out (fun g h => Nat.le_trans G7.out.size (hge g h)) r2'
      have hKl : bK < w7.heap.size := K7.out.lt
      have K10 : KC w10 bK c m := K9.out.grown' r2' (fun e => by have := hge bK e.symm; omega)
      have D10 : DB w10 p (.slice A9 0 c9) := D9.out.grown r2' (fun e => by have := hge p e.symm; have := hp7.out; omega)
      have e11 : l1 + l2 = 1 := hlen.out
      rw [e11, hcel.out] at r1
      have RL := Rd.own_row r1
      obtain ⟨bL, oL', rfl, _, y0⟩ := RL.at_ (j := 0) rfl
      obtain ⟨_, _, e1', _, y1⟩ := RL.at_ (j := 1) rfl
      cases e1'
      obtain ⟨_, _, e2', _, y2⟩ := RL.at_ (j := 2) rfl
      cases e2'
      obtain ⟨_, _, e3', _, y3⟩ := RL.at_ (j := 3) rfl
      cases e3'
      obtain ⟨_, _, e4', _, y4⟩ := RL.at_ (j := 4) rfl
      cases e4'
      rw [Nat.add_zero] at y0
      obtain ⟨k0, k1, _⟩ := K10.cells
      have z0 : ∀ X : Gn w10, X.V.cell? ⟨bK, 0, none⟩ = some (.int .i64 c) := fun X => X.h.cell k0 (by simp)
      have z1 : ∀ X : Gn w10, X.V.cell? ⟨bK, 1, none⟩ = some (.int .i64 m) := fun X => X.h.cell k1 (by simp)
      have u0 : ∀ X : Gn w10, X.V.cell? ⟨bL, oL', none⟩ = some (.int .i64 c) := fun X => X.h.cell y0 (by simp)
      have u1 : ∀ X : Gn w10, X.V.cell? ⟨bL, oL' + 1, none⟩ = some (.int .i64 m) := fun X => X.h.cell y1 (by simp)
      have u2 : ∀ X : Gn w10, X.V.cell? ⟨bL, oL' + 2, none⟩ = some (.int .i64 0) := fun X => X.h.cell y2 (by simp)
      have u3 : ∀ X : Gn w10, X.V.cell? ⟨bL, oL' + 3, none⟩ = some (.int .i64 0) := fun X => X.h.cell y3 (by simp)
      have u4 : ∀ X : Gn w10, X.V.cell? ⟨bL, oL' + 4, none⟩ = some (.int .i64 0) := fun X => X.h.cell y4 (by simp)
      have CWt : Hid (∀ X : Gn w10, Calls Tryz.prog 15 #[.pointer (some ⟨p, 0, none⟩)] X.V fun e w' => e = .returned (.bool false) ∧ ∃ Y : Gn w10, w' = Y.V) := Lib.hid fun X => (wait_any p 0 c9 A9 X.V (D10.grown X.h (by simp))).mono fun e w' ⟨h, h2⟩ => ⟨h, X, h2⟩
      have hn1 : (0 : Int) < n := by omega
      have hn2 : decide ((0 : Int) < (n : Int)) = true := decide_eq_true hn1
      have hn3 : decide (0 < n) = true := decide_eq_true hn0
      have hcc : (c == c) = true := by simp
      have hmm : (m == m) = true := by simp
      replace G10 := Lib.hid G10; replace K10 := Lib.hid K10; replace D10 := Lib.hid D10; replace RL := Lib.hid RL; replace r1 := Lib.hid r1; replace e11 := Lib.hid e11; replace hcel := Lib.hid hcel; replace hge := Lib.hid hge; replace r2' := Lib.hid r2'
      clear r2 r3 y0 y1 y2 y3 y4 k0 k1 h2o
      rw [e11.out]
      go_upto_region 15 with fail
      refine wp_region_gr (by kernel_rfl) (by kernel_rfl) ?_
      repeat (go_big_quiet_step (first | (go_at_call 15; with_reducible exact CWt.out _)))
      refine wpQuiet_nil ?_
      intro _ hw'
      obtain ⟨GY, hw''⟩ := hw'
      subst hw''
      have GW := G10.out.trans GY.h
      generalize GY.V = wg at GW ⊢
      go_wp2_with fail
      go_ret
      exact ⟨by simp, GW⟩
end Go.Proofs.YtncokbppijnfiaaGreatDoor
