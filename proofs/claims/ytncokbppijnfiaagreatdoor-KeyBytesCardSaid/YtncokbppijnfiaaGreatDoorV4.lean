/- Key: the document's answer: Bytes. -/
import Derived.Test.YtncokbppijnfiaaGreatDoorV3
namespace Go.Proofs.YtncokbppijnfiaaGreatDoor
open Go.RowKit
set_option linter.unusedSimpArgs false
set_option linter.unusedVariables false

theorem digits_z (z : Int) (h0 : 0 ≤ z) (h1 : z ≤ 1000000) (w : World) : Calls Tryz.prog 33 #[.int .i64 z] w fun e w' => e = .returned (.string (st (Lib.itoa z))) ∧ w.grownBy w' none := by
  obtain ⟨n, rfl⟩ : ∃ n : Nat, z = n := ⟨z.toNat, by omega⟩
  rw [itoa_nat]
  exact digits_any n (by omega) w
theorem eq_empty (l : List UInt8) : ((st l).toList == (ByteArray.mk #[]).toList) = decide (l = []) := by
  rw [show (ByteArray.mk #[]) = st [] from rfl, st_toList, st_toList]
  cases l <;> rfl
theorem less_one (x : UInt8) : Op.bytesLess (st [x]).toList [80] = decide (x.toNat < 80) := by
  rw [st_toList]
  unfold Op.bytesLess
  by_cases h : x.toNat < 80
  · have : x < 80 := h
    simp [h, this]
  · have h1 : ¬ x < 80 := h
    rw [decide_eq_false h]
    by_cases h2 : 80 < x
    · simp only [h1, h2, decide_false, Bool.false_or, gt_iff_lt]
      have h3 : ¬ x = 80 := fun e => by subst e; exact absurd h2 (by decide)
      simp [h1, h3]
    · have : x = 80 := UInt8.toNat_inj.1 (by have : ¬ (80 : UInt8).toNat < x.toNat := h2; show x.toNat = 80; have h5 : (80 : UInt8).toNat = 80 := rfl; omega)
      subst this
      rfl
theorem far_of (c : Int) (h : (endedL c).1 ≠ 0) : (endedL c).2 = decide (80 ≤ (endedL c).1.toNat) := by
  have h2 : c ∈ letCs := by
    rcases Classical.em (c ∈ letCs) with h2 | h2
    · exact h2
    · have := letL_no c h2
      unfold letL at this
      rw [if_neg h] at this
      cases this
  simp only [letCs, List.mem_cons, List.not_mem_nil, or_false] at h2
  rcases h2 with rfl | rfl | rfl | rfl | rfl | rfl | rfl | rfl | rfl | rfl <;> rfl
theorem num_pos (c : Int) (h : 1114118 ≤ c ∧ c ≤ 1114133) (hl : (endedL c).1 = 0) : 0 < numR c ∧ numR c ≤ 24 ∧ numR c = numOf c := by
  have e : numR c = numOf c := by unfold numR; rw [if_pos h]
  rw [← e]
  by_cases h1 : c ≤ 1114121
  · obtain ⟨a, b, d, f, _⟩ := num_four
    have : c = 1114118 ∨ c = 1114119 ∨ c = 1114120 ∨ c = 1114121 := by omega
    rcases this with rfl | rfl | rfl | rfl
    · omega
    · omega
    · omega
    · omega
  by_cases h2 : c ≤ 1114125
  · have : c = 1114122 ∨ c = 1114123 ∨ c = 1114124 ∨ c = 1114125 := by omega
    rcases this with rfl | rfl | rfl | rfl <;> exact absurd hl (by decide)
  · obtain ⟨j, hj⟩ : ∃ j : Nat, c = 1114126 + (j : Int) := ⟨(c - 1114126).toNat, by omega⟩
    have hj8 : j < 8 := by omega
    rw [hj, num_far j hj8]
    have : j = 0 ∨ j = 1 ∨ j = 2 ∨ j = 3 ∨ j = 4 ∨ j = 5 ∨ j = 6 ∨ j = 7 := by omega
    rcases this with rfl | rfl | rfl | rfl | rfl | rfl | rfl | rfl <;> decide
set_option maxHeartbeats 8000000 in
set_option maxRecDepth 100000 in
theorem bytesRef_any (c m modes : Int) (hc : I64 c) (w : World) :
    Calls Tryz.prog 18 #[keyV c m, .int .i64 modes] w fun e w' => e = .returned (.string (st (bytesL c m modes))) ∧ w.grownBy w' none := by
  have CR : Hid (∀ W, Calls Tryz.prog 29 #[keyV c m] W fun e w' => e = .returned (.bool (rightK c m)) ∧ W.grownBy w' none) := Lib.hid fun W => rightRef_any c m hc W
  have CM : Hid (∀ W, Calls Tryz.prog 30 #[.int .i64 c] W fun e w' => e = .returned (.bool (isMouse c)) ∧ w' = W) := Lib.hid fun W => mouseRef_any c W
  have CL : Hid (∀ W, Calls Tryz.prog 31 #[.int .i64 c] W fun e w' => e = .returned (.string (st (letL c))) ∧ w' = W) := Lib.hid fun W => letter_any c W
  have CU : Hid (∀ W, Calls Tryz.prog 32 #[.int .i64 c] W fun e w' => e = .returned (.int .i64 (numR c)) ∧ W.grownBy w' none) := Lib.hid fun W => number_any c W
  have hrt := fun (h : rightK c m = true) => right_mods h
  obtain ⟨r, hr⟩ : ∃ r, r = rightK c m := ⟨_, rfl⟩
  obtain ⟨mo, hmo⟩ : ∃ r, r = isMouse c := ⟨_, rfl⟩
  obtain ⟨lt, hlt⟩ : ∃ l : UInt8, l = (endedL c).1 := ⟨_, rfl⟩
  obtain ⟨fa, hfa⟩ : ∃ b : Bool, b = (endedL c).2 := ⟨_, rfl⟩
  obtain ⟨OUT, hOUT⟩ : ∃ r, r = bytesL c m modes := ⟨_, rfl⟩
  have ho := hOUT
  rw [← hOUT]
  unfold bytesL at ho
  have hll : letL c = if lt = 0 then [] else [lt] := by unfold letL; rw [hlt]
  have hfar : lt ≠ 0 → fa = decide (80 ≤ lt.toNat) := fun h => by rw [hfa, hlt]; exact far_of c (by rw [← hlt]; exact h)
  rw [← hr, ← hmo, ← hlt, ← hfa] at ho
  rw [← hr] at CR hrt; rw [← hmo] at CM
  obtain ⟨W0, hW0⟩ : ∃ W, W = w.alloc (.cells #[.int .i64 c, .int .i64 m] 23) := ⟨_, rfl⟩
  have g0 : w.grownBy W0 none := by rw [hW0]; exact World.grownBy_alloc _ _ _
  obtain ⟨bR, hbR⟩ : ∃ n, n = w.heap.size := ⟨_, rfl⟩
  have hR0 : KC W0 bR c m := by rw [hW0, hbR]; exact KC.new w c m
  obtain ⟨x0, x1, _⟩ := hR0.cells
  have CR0 := Lib.hid (CR.out W0)
  replace hW0 := Lib.hid hW0; replace g0 := Lib.hid g0; replace hbR := Lib.hid hbR; replace hR0 := Lib.hid hR0; replace hr := Lib.hid hr; replace hmo := Lib.hid hmo; replace hOUT := Lib.hid hOUT; replace hlt := Lib.hid hlt; replace hfa := Lib.hid hfa; replace ho := Lib.hid ho; replace hrt := Lib.hid hrt; replace hll := Lib.hid hll; replace hfar := Lib.hid hfar
  clear CR
  unfold keyV I64 at *
  go_enter Tryz.func18, Tryz.ntmps18
  go_wp2_with fail
  rw [← hW0.out, ← hbR.out]
  refine CR0.out.mono ?_
  rintro e w1 ⟨rfl, g1⟩
  have hR1 := hR0.out.grown g1
  have G1 := g0.out.trans g1
  obtain ⟨y0, y1, _⟩ := hR1.cells
  clear x0 x1 CR0 g1
  replace hR1 := Lib.hid hR1; replace G1 := Lib.hid G1
  go_wp2_with fail
  refine (CM.out _).mono ?_
  rintro e w2 ⟨rfl, rfl⟩
  cases r with
  | false =>
    have e1 : OUT = [] := by rw [ho.out, if_pos (.inl rfl)]
    replace e1 := Lib.hid e1
    go_wp2_with fail
    go_ret
    exact ⟨by rw [e1.out]; rfl, G1.out⟩
  | true =>
  obtain ⟨m0, m7, _⟩ := hrt.out rfl
  cases mo with
  | true =>
    have e1 : OUT = [] := by rw [ho.out, if_pos (.inr rfl)]
    replace e1 := Lib.hid e1
    go_wp2_with fail
    go_ret
    exact ⟨by rw [e1.out]; rfl, G1.out⟩
  | false =>
  have ho2 := ho.out
  rw [if_neg (by simp)] at ho2
  replace ho := Lib.hid ho2
  clear ho2
  have hml : (metaL m).length ≤ 1 := by unfold metaL; split <;> simp
  obtain ⟨v2, hb2⟩ : ∃ v, bits .and .i64 m 2 = v := ⟨_, rfl⟩
  have hv2 : (v2 = 0 ∧ metaL m = [] ∧ (v2 == 0) = true ∧ (v2 != 0) = false) ∨ (metaL m = [27] ∧ (v2 == 0) = false ∧ (v2 != 0) = true) := by
    have h := and_k (k := 2) m0 m7 (by omega)
    rw [hb2] at h
    by_cases h1 : m / 2 % 2 = 1
    · rw [if_pos h1] at h
      subst h
      exact .inr ⟨by unfold metaL; rw [if_pos h1], rfl, rfl⟩
    · rw [if_neg h1] at h
      subst h
      exact .inl ⟨rfl, by unfold metaL; rw [if_neg h1], rfl, rfl⟩
  replace hv2 := Lib.hid hv2
  go_upto_if 24 with fail
  go_cut [7] (fun sv wx => sv = .string (st (metaL m)) ∧ wx = w2)
  case first =>
    rcases hv2.out with ⟨a0, a1, a2, a3⟩ | ⟨a1, a2, a3⟩
    · replace a0 := Lib.hid a0; replace a1 := Lib.hid a1
      go_wp2_with fail
      go_meet
      exact ⟨by rw [a1.out]; rfl, rfl⟩
    · replace a1 := Lib.hid a1
      go_wp2_with fail
      go_meet
      exact ⟨by rw [a1.out]; rfl, rfl⟩
  case rest =>
  obtain ⟨rfl, rfl⟩ := hcut
  clear hb2 hv2
  obtain ⟨ML, hML⟩ : ∃ l, l = metaL m := ⟨_, rfl⟩
  have ho2 := ho.out
  rw [← hML] at ho2 hml ⊢
  have wm : wrap64 (m + 1) = m + 1 := IntWalk.wrap64_in _ (by omega)
  have CD : Hid (∀ (z : Int) (W : World), 0 ≤ z → z ≤ 1000000 → Calls Tryz.prog 33 #[.int .i64 z] W fun e w' => e = .returned (.string (st (Lib.itoa z))) ∧ W.grownBy w' none) := Lib.hid fun z W a b => digits_z z a b W
  have il := Lib.itoa_length_le (m + 1) (by omega) (by omega)
  obtain ⟨IL, hIL⟩ : ∃ l, l = Lib.itoa (m + 1) := ⟨_, rfl⟩
  rw [← hIL] at ho2 il
  obtain ⟨NU, hNU⟩ : ∃ z, z = numR c := ⟨_, rfl⟩
  rw [← hNU] at CU
  obtain ⟨LE, hLE⟩ : ∃ l, l = letL c := ⟨_, rfl⟩
  rw [← hLE] at CL
  obtain ⟨SL, hSL⟩ : ∃ s, s = st LE := ⟨_, rfl⟩
  rw [← hSL] at CL
  obtain ⟨SM, hSM⟩ : ∃ s, s = st ML := ⟨_, rfl⟩
  rw [← hSM]
  obtain ⟨SI, hSI⟩ : ∃ s, s = st IL := ⟨_, rfl⟩
  replace ho := Lib.hid ho2; replace hIL := Lib.hid hIL; replace hML := Lib.hid hML; replace hNU := Lib.hid hNU; replace hLE := Lib.hid hLE; replace hSL := Lib.hid hSL; replace hSM := Lib.hid hSM; replace hSI := Lib.hid hSI
  clear CM ho2
  go_wp2_with fail
  refine (CL.out _).mono ?_
  rintro e w3 ⟨rfl, rfl⟩
  go_wp2_with fail
  refine (CU.out _).mono ?_
  rintro e w4 ⟨rfl, g4⟩
  have hR4 := hR1.out.grown g4
  have G4 := G1.out.trans g4
  obtain ⟨z0, z1, _⟩ := hR4.cells
  replace hR4 := Lib.hid hR4; replace G4 := Lib.hid G4
  clear y0 y1 g4
  have CD4 := CD.out (m + 1) w4 (by omega) (by omega)
  rw [← hIL.out, ← hSI.out] at CD4
  replace CD4 := Lib.hid CD4
  go_wp2_with fail
  refine CD4.out.mono ?_
  rintro e w5 ⟨rfl, g5⟩
  have hR5 := hR4.out.grown g5
  have G5 := G4.out.trans g5
  obtain ⟨y0, y1, _⟩ := hR5.cells
  replace hR5 := Lib.hid hR5; replace G5 := Lib.hid G5
  clear z0 z1 g5 CD4 hR0 hR1 hR4 G1 G4 g0 CL CU
  by_cases hc0 : c < 1114112
  · have ho2 := ho.out
    rw [if_pos hc0] at ho2
    have hb4 := and_k (k := 4) m0 m7 (by omega)
    by_cases h4 : m / 4 % 2 = 1
    · rw [if_pos h4] at ho2 hb4
      obtain ⟨q0, q1⟩ := right_ctrl hr.out.symm hc0 h4
      obtain ⟨cb, hcb⟩ : ∃ b : UInt8, b = UInt8.ofNat (c % 32).toNat := ⟨_, rfl⟩
      rw [← hcb] at ho2
      have hcbi : (cb.toNat : Int) = c % 32 := by rw [hcb, UInt8.toNat_ofNat']; omega
      have hr1 : c.tmod 32 = c % 32 := Int.tmod_eq_emod_of_nonneg q0
      have hw3 : wrap64 (c % 32) = c % 32 := IntWalk.wrap64_in _ (by omega)
      have hw8 : IntKind.u8.wrap (c % 32) = c % 32 := u8_in (by omega) (by omega)
      obtain ⟨Dg, hDg⟩ : ∃ s, s = st [cb] := ⟨_, rfl⟩
      have hcv : (convert 32 9 (.slice (some ⟨w5.heap.size, 0, none⟩) 1 1)).run Tryz.prog (w5.alloc (.cells #[.int .u8 (c % 32)] 5)) = .ok (.string Dg) (w5.alloc (.cells #[.int .u8 (c % 32)] 5)) := by
        rw [hDg]
        refine conv_str _ 32 9 5 Tryz.underlying32 Tryz.underlying5 Tryz.underlying9 _ 1 1 [cb] rfl ?_
        have h := Rd.newL w5 (bs [cb]) 5
        have e : bs [cb] = [.int .u8 (c % 32)] := by
          simp only [bs, b8, List.map_cons, List.map_nil]
          rw [hcbi]
        rw [e] at h ⊢
        exact h
      obtain ⟨SO, hSO⟩ : ∃ s, s = st OUT := ⟨_, rfl⟩
      have hadd : ∀ W, Sem.run Tryz.prog (Op.stringOp .add SM Dg) W = .ok (.string SO) W := by
        rw [hSM.out, hDg, hSO, ho2]
        exact adds_st ML [cb] (by rw [List.length_singleton]; omega)
      replace hcb := Lib.hid hcb; replace hcbi := Lib.hid hcbi; replace hDg := Lib.hid hDg; replace hSO := Lib.hid hSO; replace h4 := Lib.hid h4
      clear ho2
      go_wp2_with fail
      go_ret
      exact ⟨by rw [hSO.out]; rfl, g_alloc G5.out _⟩
    · rw [if_neg h4] at ho2 hb4
      have hb4' : (0 : Int) ≤ c := by have := right_pos hr.out.symm hc0; omega
      have hw32 : IntKind.i32.wrap c = c := by
        have h : c % 4294967296 = c := by omega
        simp [IntKind.wrap, IntKind.signed, IntKind.bits, h]; omega
      obtain ⟨EN, hEN⟩ : ∃ l, l = encL c := ⟨_, rfl⟩
      have hES : st EN = Utf8.encode c := by rw [hEN]; exact ba_st _
      have hEl : EN.length ≤ 4 := by
        have := encode_le4 c
        have e1 : (Utf8.encode c).data.toList.length = (Utf8.encode c).size := by rw [Array.length_toList]; rfl
        rw [hEN]; unfold encL; omega
      rw [← hEN] at ho2
      have hcv := conv_rune w5 c 0 0
      obtain ⟨SE, hSE⟩ : ∃ s, s = Utf8.encode c := ⟨_, rfl⟩
      rw [← hSE] at hcv
      obtain ⟨SO, hSO⟩ : ∃ s, s = st OUT := ⟨_, rfl⟩
      have hadd : ∀ W, Sem.run Tryz.prog (Op.stringOp .add SM SE) W = .ok (.string SO) W := by
        rw [hSM.out, hSE, ← hES, hSO, ho2]
        exact adds_st ML EN (by omega)
      replace hEN := Lib.hid hEN; replace hES := Lib.hid hES; replace hSE := Lib.hid hSE; replace hSO := Lib.hid hSO; replace h4 := Lib.hid h4
      clear ho2
      go_wp2_with fail
      go_ret
      exact ⟨by rw [hSO.out]; rfl, g_alloc G5.out _⟩
  have ho1 := ho.out
  rw [if_neg hc0] at ho1
  by_cases c1114135 : c = 1114135
  · rw [if_pos c1114135] at ho1
    obtain ⟨SO, hSO⟩ : ∃ s, s = st OUT := ⟨_, rfl⟩
    have hadd : ∀ W, Sem.run Tryz.prog (Op.stringOp .add SM ⟨#[27]⟩) W = .ok (.string SO) W := by
      rw [hSM.out, hSO, ho1]
      exact adds_st ML [27] (by rw [List.length_singleton]; omega)
    replace hSO := Lib.hid hSO
    clear ho1
    go_wp2_with fail
    go_ret
    exact ⟨by rw [hSO.out]; rfl, G5.out⟩
  rw [if_neg c1114135] at ho1
  by_cases c1114134 : c = 1114134
  · rw [if_pos c1114134] at ho1
    obtain ⟨SO, hSO⟩ : ∃ s, s = st OUT := ⟨_, rfl⟩
    have hadd : ∀ W, Sem.run Tryz.prog (Op.stringOp .add SM ⟨#[27, 91, 90]⟩) W = .ok (.string SO) W := by
      rw [hSM.out, hSO, ho1]
      exact adds_st ML [27, 91, 90] (by simp only [List.length_cons, List.length_nil]; omega)
    replace hSO := Lib.hid hSO
    clear ho1
    go_wp2_with fail
    go_ret
    exact ⟨by rw [hSO.out]; rfl, G5.out⟩
  rw [if_neg c1114134] at ho1
  have hcge : 1114112 ≤ c := by omega
  have hm2 : m = 0 ∨ (m ≠ 0 ∧ (m == 0) = false ∧ (m != 0) = true) := by
    by_cases h : m = 0
    · exact .inl h
    · exact .inr ⟨h, by rw [beq_eq_false_iff_ne]; exact h, by rw [bne, beq_eq_false_iff_ne.2 h]; rfl⟩
  by_cases hl0 : lt = 0
  rotate_left
  · rw [if_pos hl0] at ho1
    have hEL : LE = [lt] := by rw [hLE.out, hll.out, if_neg hl0]
    have hSL2 : SL = st [lt] := by rw [hSL.out, hEL]
    have hne : (SL.toList == (ByteArray.mk #[]).toList) = false := by rw [hSL2, eq_empty]; rfl
    have hne2 : SL.toList.isEmpty = false := by rw [hSL2, isEmpty_st]; rfl
    have hle := less_one lt
    rw [← hSL2] at hle
    have hf := hfar.out hl0
    have hsz1 : SL.size = 1 := by rw [hSL2, st_size]; rfl
    obtain ⟨SO, hSO⟩ : ∃ s, s = st OUT := ⟨_, rfl⟩
    rcases hm2 with hm | ⟨hm, hm', hm''⟩
    · rw [if_neg (fun h => h hm)] at ho1
      have hm3 : (m == 0) = true := by rw [hm]; rfl
      have hm4 : (m != 0) = false := by rw [hm]; rfl
      obtain ⟨b16, hb16⟩ : ∃ z, z = bits .and .i64 modes 16 := ⟨_, rfl⟩
      rw [← hb16] at ho1
      replace hb16 := hb16.symm
      by_cases h80 : 80 ≤ lt.toNat
      · rw [decide_eq_true h80] at hf
        rw [decide_eq_false (by omega)] at hle
        rw [if_pos (.inl hf)] at ho1
        have hadd : ∀ W, Sem.run Tryz.prog (Op.stringOp .add ⟨#[27, 79]⟩ SL) W = .ok (.string SO) W := by
          rw [hSL2, hSO, ho1]
          exact adds_st [27, 79] [lt] (by simp only [List.length_cons, List.length_nil]; omega)
        replace hSO := Lib.hid hSO; replace hSL2 := Lib.hid hSL2; replace hEL := Lib.hid hEL; replace hf := Lib.hid hf; replace hl0 := Lib.hid hl0; replace hm := Lib.hid hm; replace h80 := Lib.hid h80
        clear ho1
        go_wp2_with fail
        go_ret
        exact ⟨by rw [hSO.out]; rfl, G5.out⟩
      · rw [decide_eq_false h80] at hf
        rw [decide_eq_true (by omega)] at hle
        by_cases hz16 : b16 = 0
        · rw [if_neg (by rintro (h | h); (rw [hf] at h; cases h); exact h hz16)] at ho1
          have hz1 : (b16 == 0) = true := by rw [hz16]; rfl
          have hz2 : (b16 != 0) = false := by rw [hz16]; rfl
          have hadd : ∀ W, Sem.run Tryz.prog (Op.stringOp .add ⟨#[27, 91]⟩ SL) W = .ok (.string SO) W := by
            rw [hSL2, hSO, ho1]
            exact adds_st [27, 91] [lt] (by simp only [List.length_cons, List.length_nil]; omega)
          replace hSO := Lib.hid hSO; replace hSL2 := Lib.hid hSL2; replace hEL := Lib.hid hEL; replace hf := Lib.hid hf; replace hl0 := Lib.hid hl0; replace hm := Lib.hid hm; replace h80 := Lib.hid h80
          clear ho1
          go_wp2_with fail
          go_ret
          exact ⟨by rw [hSO.out]; rfl, G5.out⟩
        · have hz1 : (b16 == 0) = false := by rw [beq_eq_false_iff_ne]; exact hz16
          have hz2 : (b16 != 0) = true := by rw [bne, hz1]; rfl
          rw [if_pos (.inr hz16)] at ho1
          have hadd : ∀ W, Sem.run Tryz.prog (Op.stringOp .add ⟨#[27, 79]⟩ SL) W = .ok (.string SO) W := by
            rw [hSL2, hSO, ho1]
            exact adds_st [27, 79] [lt] (by simp only [List.length_cons, List.length_nil]; omega)
          replace hSO := Lib.hid hSO; replace hSL2 := Lib.hid hSL2; replace hEL := Lib.hid hEL; replace hf := Lib.hid hf; replace hl0 := Lib.hid hl0; replace hm := Lib.hid hm; replace h80 := Lib.hid h80
          clear ho1
          go_wp2_with fail
          go_ret
          exact ⟨by rw [hSO.out]; rfl, G5.out⟩
    · rw [if_pos hm] at ho1
      obtain ⟨S1, hS1⟩ : ∃ s, s = st ([27, 91, 49, 59] ++ IL) := ⟨_, rfl⟩
      have hadd1 : ∀ W, Sem.run Tryz.prog (Op.stringOp .add ⟨#[27, 91, 49, 59]⟩ SI) W = .ok (.string S1) W := by
        rw [hSI.out, hS1]
        exact adds_st [27, 91, 49, 59] IL (by simp only [List.length_cons, List.length_nil]; omega)
      have hadd2 : ∀ W, Sem.run Tryz.prog (Op.stringOp .add S1 SL) W = .ok (.string SO) W := by
        rw [hSL2, hS1, hSO, ho1]
        exact adds_st ([27, 91, 49, 59] ++ IL) [lt] (by simp only [List.length_append, List.length_cons, List.length_nil]; omega)
      replace hSO := Lib.hid hSO; replace hSL2 := Lib.hid hSL2; replace hEL := Lib.hid hEL; replace hf := Lib.hid hf; replace hl0 := Lib.hid hl0; replace hm := Lib.hid hm; replace hS1 := Lib.hid hS1
      clear ho1 hle
      go_wp2_with fail
      go_ret
      exact ⟨by rw [hSO.out]; rfl, G5.out⟩
  rw [if_neg (fun h => h hl0)] at ho1
  have hEL : LE = [] := by rw [hLE.out, hll.out, if_pos hl0]
  have hSL2 : SL = ⟨#[]⟩ := by rw [hSL.out, hEL]; rfl
  subst hSL2
  have hlt0 : (endedL c).1 = 0 := by rw [← hlt.out]; exact hl0
  obtain ⟨SO, hSO⟩ : ∃ s, s = st OUT := ⟨_, rfl⟩
  by_cases hn : 1114118 ≤ c ∧ c ≤ 1114133
  · rw [if_pos hn] at ho1
    obtain ⟨n0, n1, n2⟩ := num_pos c hn hlt0
    rw [← hNU.out] at n0 n1 n2
    rw [← n2] at ho1
    have CDn := CD.out NU w5 (by omega) (by omega)
    have iln := Lib.itoa_length_le NU (by omega) (by omega)
    obtain ⟨NL, hNL⟩ : ∃ l, l = Lib.itoa NU := ⟨_, rfl⟩
    rw [← hNL] at ho1 iln CDn
    obtain ⟨SN, hSN⟩ : ∃ s, s = st NL := ⟨_, rfl⟩
    rw [← hSN] at CDn
    obtain ⟨S1, hS1⟩ : ∃ s, s = st ([27, 91] ++ NL) := ⟨_, rfl⟩
    have hadd1 : ∀ W, Sem.run Tryz.prog (Op.stringOp .add ⟨#[27, 91]⟩ SN) W = .ok (.string S1) W := by
      rw [hSN, hS1]
      exact adds_st [27, 91] NL (by simp only [List.length_cons, List.length_nil]; omega)
    rcases hm2 with hm | ⟨hm, hm', hm''⟩
    · rw [if_neg (fun h => h hm), List.append_nil] at ho1
      have hm3 : (m == 0) = true := by rw [hm]; rfl
      have hm4 : (m != 0) = false := by rw [hm]; rfl
      have hadd2 : ∀ W, Sem.run Tryz.prog (Op.stringOp .add S1 ⟨#[126]⟩) W = .ok (.string SO) W := by
        rw [hS1, hSO, ho1]
        exact adds_st ([27, 91] ++ NL) [126] (by simp only [List.length_append, List.length_cons, List.length_nil]; omega)
      replace hSO := Lib.hid hSO; replace hl0 := Lib.hid hl0; replace hEL := Lib.hid hEL; replace hlt0 := Lib.hid hlt0; replace hm := Lib.hid hm; replace hS1 := Lib.hid hS1; replace hSN := Lib.hid hSN; replace hNL := Lib.hid hNL; replace n2 := Lib.hid n2; replace CDn := Lib.hid CDn; replace hn := Lib.hid hn
      clear ho1
      go_wp2_with fail
      refine CDn.out.mono ?_
      rintro e w6 ⟨rfl, g6⟩
      have G6 := Lib.hid (G5.out.trans g6)
      clear g6
      go_wp2_with fail
      go_ret
      exact ⟨by rw [hSO.out]; rfl, G6.out⟩
    · rw [if_pos hm] at ho1
      obtain ⟨S2, hS2⟩ : ∃ s, s = st ([27, 91] ++ NL ++ [59]) := ⟨_, rfl⟩
      obtain ⟨S3, hS3⟩ : ∃ s, s = st ([27, 91] ++ NL ++ [59] ++ IL) := ⟨_, rfl⟩
      have hadd2 : ∀ W, Sem.run Tryz.prog (Op.stringOp .add S1 ⟨#[59]⟩) W = .ok (.string S2) W := by
        rw [hS1, hS2]
        exact adds_st ([27, 91] ++ NL) [59] (by simp only [List.length_append, List.length_cons, List.length_nil]; omega)
      have hadd3 : ∀ W, Sem.run Tryz.prog (Op.stringOp .add S2 SI) W = .ok (.string S3) W := by
        rw [hS2, hS3, hSI.out]
        exact adds_st ([27, 91] ++ NL ++ [59]) IL (by simp only [List.length_append, List.length_cons, List.length_nil]; omega)
      have hadd4 : ∀ W, Sem.run Tryz.prog (Op.stringOp .add S3 ⟨#[126]⟩) W = .ok (.string SO) W := by
        rw [hS3, hSO, ho1, ← List.append_assoc ([27, 91] ++ NL) [59] IL]
        exact adds_st ([27, 91] ++ NL ++ [59] ++ IL) [126] (by simp only [List.length_append, List.length_cons, List.length_nil]; omega)
      replace hSO := Lib.hid hSO; replace hl0 := Lib.hid hl0; replace hEL := Lib.hid hEL; replace hlt0 := Lib.hid hlt0; replace hm := Lib.hid hm; replace hS1 := Lib.hid hS1; replace hS2 := Lib.hid hS2; replace hS3 := Lib.hid hS3; replace hSN := Lib.hid hSN; replace hNL := Lib.hid hNL; replace n2 := Lib.hid n2; replace CDn := Lib.hid CDn; replace hn := Lib.hid hn
      clear ho1
      go_wp2_with fail
      refine CDn.out.mono ?_
      rintro e w6 ⟨rfl, g6⟩
      have G6 := Lib.hid (G5.out.trans g6)
      clear g6
      go_wp2_with fail
      go_ret
      exact ⟨by rw [hSO.out]; rfl, G6.out⟩
  · rw [if_neg hn] at ho1
    have hNU0 : NU = 0 := by rw [hNU.out]; unfold numR; rw [if_neg hn]
    subst hNU0
    obtain ⟨b64, hb64⟩ : ∃ z, z = bits .and .i64 modes 64 := ⟨_, rfl⟩
    rw [← hb64] at ho1
    replace hb64 := hb64.symm
    have hc2 := right_paste hr.out.symm hmo.out.symm hcge hn c1114135 c1114134 hlt0
    have hmz : (m == 0) = true ∧ (m != 0) = false ∨ (m == 0) = false ∧ (m != 0) = true := by
      rcases hm2 with h | ⟨_, h, h'⟩
      · rw [h]; exact .inl ⟨rfl, rfl⟩
      · exact .inr ⟨h, h'⟩
    clear hm2
    replace hl0 := Lib.hid hl0; replace hEL := Lib.hid hEL; replace hlt0 := Lib.hid hlt0; replace hn := Lib.hid hn; replace hNU := Lib.hid hNU
    by_cases hz : b64 = 0
    · rw [if_pos hz] at ho1
      have e1 : SO = ⟨#[]⟩ := by rw [hSO, ho1]; rfl
      replace hSO := Lib.hid hSO; replace e1 := Lib.hid e1; replace hc2 := Lib.hid hc2
      clear ho1
      rcases hmz with ⟨k1, k2⟩ | ⟨k1, k2⟩
      all_goals
        go_wp2_with fail
        go_ret
        exact ⟨by rw [← hSO.out, e1.out]; rfl, G5.out⟩
    · rw [if_neg hz] at ho1
      have hz1 : (b64 == 0) = false := by rw [beq_eq_false_iff_ne]; exact hz
      rcases hc2 with hc2 | hc2
      · rw [if_pos hc2] at ho1
        have e1 : SO = ⟨#[27, 91, 50, 48, 48, 126]⟩ := by rw [hSO, ho1]; rfl
        replace hSO := Lib.hid hSO; replace e1 := Lib.hid e1
        clear ho1
        rcases hmz with ⟨k1, k2⟩ | ⟨k1, k2⟩
        all_goals
          go_wp2_with fail
          go_ret
          exact ⟨by rw [← hSO.out, e1.out]; rfl, G5.out⟩
      · rw [if_neg (by omega)] at ho1
        have e1 : SO = ⟨#[27, 91, 50, 48, 49, 126]⟩ := by rw [hSO, ho1]; rfl
        replace hSO := Lib.hid hSO; replace e1 := Lib.hid e1
        clear ho1
        rcases hmz with ⟨k1, k2⟩ | ⟨k1, k2⟩
        all_goals
          go_wp2_with fail
          go_ret
          exact ⟨by rw [← hSO.out, e1.out]; rfl, G5.out⟩
end Go.Proofs.YtncokbppijnfiaaGreatDoor
