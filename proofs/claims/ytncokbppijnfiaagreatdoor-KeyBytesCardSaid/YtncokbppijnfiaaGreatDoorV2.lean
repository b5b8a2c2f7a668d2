/- Key: the document's answer: CodeName, MouseKey, Right. -/
import Derived.Test.YtncokbppijnfiaaGreatDoorV1
namespace Go.Proofs.YtncokbppijnfiaaGreatDoor
open Go.RowKit
set_option linter.unusedSimpArgs false
set_option linter.unusedVariables false

theorem mouseRef_any (c : Int) (w : World) : Calls Tryz.prog 30 #[.int .i64 c] w fun e w' => e = .returned (.bool (isMouse c)) ∧ w' = w := by
  go_enter Tryz.func30, Tryz.ntmps30
  go_wp2_with fail
  all_goals (go_ret; exact ⟨ret_bool (by unfold isMouse; simp; try omega), rfl⟩)
theorem conv_rune (W : World) (c : Int) (n k : Nat) : (convert 63 9 (.slice (some ⟨W.heap.size, 0, none⟩) 1 1)).run Tryz.prog (W.alloc (.cells #[.int .i32 c] 21 (n, k))) = .ok (.string (Utf8.encode c)) (W.alloc (.cells #[.int .i32 c] 21 (n, k))) := by
  have h := run_convert_runes (P := Tryz.prog) (W.alloc (.cells #[.int .i32 c] 21 (n, k))) 63 9 21 ⟨W.heap.size, 0, none⟩ 1 1 [c] (Nat.le_refl _) Tryz.underlying63 Tryz.underlying21 Tryz.underlying9 (fun j hj => by
    have : j = 0 := by simpa using hj
    subst this
    have e : (⟨W.heap.size, 0, none⟩ : Addr).add 0 = ⟨W.heap.size, 0, none⟩ := by simp [Addr.add]
    rw [e]
    unfold World.cell?
    rw [heap_alloc_new]
    rfl)
  rw [h]
  have : runesBytes ([c].take 1) = Utf8.encode c := by
    show ByteArray.empty ++ Utf8.encode c = _
    simp
  rw [this]
set_option maxHeartbeats 1000000 in
set_option maxRecDepth 100000 in
theorem codeName_any (c : Int) (hc : I64 c) (w : World) : Calls Tryz.prog 48 #[.int .i64 c] w fun e w' => e = .returned (.string (st (nameC c))) ∧ w.grownBy w' none := by
  unfold I64 at hc
  by_cases k1 : c = 9
  · subst k1
    go_enter Tryz.func48, Tryz.ntmps48
    go_wp2_with fail
    go_ret
    exact ⟨rfl, World.grownBy.refl _ _⟩
  by_cases k2 : c = 13
  · subst k2
    go_enter Tryz.func48, Tryz.ntmps48
    go_wp2_with fail
    go_ret
    exact ⟨rfl, World.grownBy.refl _ _⟩
  by_cases k3 : c = 32
  · subst k3
    go_enter Tryz.func48, Tryz.ntmps48
    go_wp2_with fail
    go_ret
    exact ⟨rfl, World.grownBy.refl _ _⟩
  by_cases k4 : c = 127
  · subst k4
    go_enter Tryz.func48, Tryz.ntmps48
    go_wp2_with fail
    go_ret
    exact ⟨rfl, World.grownBy.refl _ _⟩
  by_cases k5 : 1114112 ≤ c ∧ c < 1114143
  · obtain ⟨k5, k6⟩ := k5
    obtain ⟨j, hj⟩ : ∃ j : Nat, c = 1114112 + (j : Int) := ⟨(c - 1114112).toNat, by omega⟩
    have hjl : j < 31 := by omega
    obtain ⟨s, hs⟩ : ∃ s, specialsL[j]? = some s := ⟨specialsL[j]'(by show j < 31; exact hjl), List.getElem?_eq_getElem _⟩
    have hn : nameC c = s := by
      unfold nameC
      rw [if_neg k1, if_neg k2, if_neg k3, if_neg k4, if_pos ⟨k5, k6⟩, show (c - 1114112).toNat = j by omega, List.getD_eq_getElem?_getD, hs]; rfl
    rw [hn]
    have e2 : c - 1114112 = (j : Int) := by omega
    have CF := Lib.hid (specialsRef_any w)
    replace hj := Lib.hid hj
    replace hn := Lib.hid hn; replace hs := Lib.hid hs
    go_enter Tryz.func48, Tryz.ntmps48
    go_wp2_with fail
    refine CF.out.mono ?_
    rintro e w1 ⟨rfl, g1, hcell⟩
    have hc1 := hcell j s hs.out
    replace hcell := Lib.hid hcell
    go_wp2_with fail
    go_ret
    exact ⟨rfl, g1⟩
  by_cases k6 : c < 33 ∨ 1114111 < c ∨ (55296 ≤ c ∧ c ≤ 57343)
  · have hn : nameC c = [] := by
      unfold nameC
      rw [if_neg k1, if_neg k2, if_neg k3, if_neg k4, if_neg k5, if_neg]
      rintro ⟨h1, h2, h3, _⟩
      unfold Lib.validRune at h3
      simp at h3
      omega
    rw [hn]
    replace hn := Lib.hid hn
    have k7 : c < 33 ∨ (¬ c < 33 ∧ 1114143 ≤ c ∧ 1114111 < c) ∨ (¬ c < 33 ∧ ¬ 1114111 < c ∧ 55296 ≤ c ∧ c ≤ 57343) := by omega
    rcases k7 with k7 | ⟨k7, k8, k9⟩ | ⟨k7, k8, k9, k10⟩
    all_goals
      replace k6 := Lib.hid k6
      go_enter Tryz.func48, Tryz.ntmps48
      go_wp2_with fail
      all_goals (go_ret; exact ⟨rfl, World.grownBy.refl _ _⟩)
  · have hv : Lib.validRune c = true := by unfold Lib.validRune; simp; omega
    obtain ⟨wd, hwd⟩ : ∃ z, z = widthR c := ⟨_, rfl⟩
    have CWd : Hid (∀ W, Calls Tryz.prog 64 #[.int .i32 c] W fun e w' => e = .returned (.int .i64 wd) ∧ W.grownBy w' none) := Lib.hid fun W => by rw [hwd]; exact widthRef_any c W
    have hn : nameC c = if 0 < wd then (Utf8.encode c).data.toList else [] := by
      unfold nameC
      rw [if_neg k1, if_neg k2, if_neg k3, if_neg k4, if_neg k5, ← hwd]
      by_cases h : 0 < wd
      · rw [if_pos h, if_pos ⟨by omega, by omega, hv, h⟩]
      · rw [if_neg h, if_neg fun q => h q.2.2.2]
    have hw32 : IntKind.i32.wrap c = c := by
      have h : c % 4294967296 = c := by omega
      simp [IntKind.wrap, IntKind.signed, IntKind.bits, h]; omega
    obtain ⟨N, hN⟩ : ∃ N, N = nameC c := ⟨_, rfl⟩
    rw [← hN]
    have q1 : ¬ c < 33 := by omega
    have q2 : ¬ 1114111 < c := by omega
    have q3 : ¬ 1114112 ≤ c := by omega
    have q5 : (¬ 55296 ≤ c) ∨ (55296 ≤ c ∧ ¬ c ≤ 57343) := by omega
    replace hn := Lib.hid hn; replace hv := Lib.hid hv; replace hwd := Lib.hid hwd; replace hN := Lib.hid hN; replace k6 := Lib.hid k6; replace k5 := Lib.hid k5
    rcases q5 with q5 | ⟨q5, q6⟩
    all_goals
      go_enter Tryz.func48, Tryz.ntmps48
      go_wp2_with fail
      refine (CWd.out _).mono ?_
      rintro e w2 ⟨rfl, g2⟩
      by_cases hp : 0 < wd
      · have : N = (Utf8.encode c).data.toList := by rw [hN.out, hn.out]; simp [hp]
        have hst : st N = Utf8.encode c := by rw [this]; exact ba_st _
        have hp1 : ¬ wd < 1 := by omega
        have hcv := fun n k => conv_rune w2 c n k
        have hcv0 := conv_rune w2 c 0 0
        replace this := Lib.hid this
        go_wp2_with fail
        go_ret
        exact ⟨by rw [hst]; rfl, g_alloc g2 _⟩
      · have : N = [] := by rw [hN.out, hn.out]; simp [hp]
        have hp1 : wd < 1 := by omega
        subst this
        go_wp2_with fail
        go_ret
        exact ⟨rfl, g2⟩
set_option maxHeartbeats 2000000 in
set_option maxRecDepth 100000 in
theorem rightRef_any (c m : Int) (hc : I64 c) (w : World) : Calls Tryz.prog 29 #[keyV c m] w fun e w' => e = .returned (.bool (rightK c m)) ∧ w.grownBy w' none := by
  have CN : Hid (∀ W, Calls Tryz.prog 48 #[.int .i64 c] W fun e w' => e = .returned (.string (st (nameC c))) ∧ W.grownBy w' none) := Lib.hid fun W => codeName_any c hc W
  have CM : Hid (∀ W, Calls Tryz.prog 30 #[.int .i64 c] W fun e w' => e = .returned (.bool (isMouse c)) ∧ w' = W) := Lib.hid fun W => mouseRef_any c W
  replace hc := Lib.hid hc
  unfold keyV
  go_enter Tryz.func29, Tryz.ntmps29
  go_wp2_with fail
  obtain ⟨W1, hW1⟩ : ∃ W, W = w.alloc (.cells #[.int .i64 c, .int .i64 m] 23) := ⟨_, rfl⟩
  have g01 : w.grownBy W1 none := by rw [hW1]; exact World.grownBy_alloc _ _ _
  obtain ⟨bk, hbk⟩ : ∃ n, n = w.heap.size := ⟨_, rfl⟩
  have hH : W1.heap[bk]? = some (.cells #[.int .i64 c, .int .i64 m] 23 (0, 0)) := by rw [hW1, hbk]; exact heap_alloc_new w _
  rw [← hW1, ← hbk]
  have CN1 := Lib.hid (CN.out W1)
  have h1 : W1.cell? ⟨bk, 1, none⟩ = some (.int .i64 m) := by unfold World.cell?; rw [hH]; rfl
  have h0' : W1.cell? ⟨bk, 0, none⟩ = some (.int .i64 c) := by unfold World.cell?; rw [hH]; rfl
  obtain ⟨NC, hNC⟩ : ∃ N, N = nameC c := ⟨_, rfl⟩
  rw [← hNC] at CN1
  obtain ⟨S, hS⟩ : ∃ S, S = st NC := ⟨_, rfl⟩
  rw [← hS] at CN1
  replace hW1 := Lib.hid hW1; replace hbk := Lib.hid hbk; replace hH := Lib.hid hH
  refine CN1.out.mono ?_
  rintro e w2 ⟨rfl, g12⟩
  have x1 := g12.cell h1 (by simp)
  have x0 := g12.cell h0' (by simp)
  have g02 := g01.trans g12
  replace g02 := Lib.hid g02
  clear CN1 g01 g12 h1 h0' CN
  by_cases hN : NC = []
  · have hE : S.toList.isEmpty = true := by
      rw [hS, hN, show (st []).toList = [] from ByteArray.toList_mk _]; rfl
    have hr : rightK c m = false := rightK_no (.inl (by rw [← hNC, hN]))
    replace hr := Lib.hid hr; replace hS := Lib.hid hS; replace hN := Lib.hid hN; replace hNC := Lib.hid hNC
    go_wp2_with fail
    all_goals (go_ret; exact ⟨ret_bool hr.out.symm, g02.out⟩)
  have hE : S.toList.isEmpty = false := by
    rw [hS]
    cases NC with
    | nil => exact absurd rfl hN
    | cons a l =>
      have : (st (a :: l)).toList = a :: l := ByteArray.toList_mk _
      rw [this]; rfl
  by_cases hm0 : m < 0
  · have hr : rightK c m = false := rightK_no (.inr (.inl hm0))
    replace hr := Lib.hid hr; replace hS := Lib.hid hS; replace hN := Lib.hid hN; replace hNC := Lib.hid hNC
    go_wp2_with fail
    all_goals (go_ret; exact ⟨ret_bool hr.out.symm, g02.out⟩)
  by_cases hm7 : 7 < m
  · have hr : rightK c m = false := rightK_no (.inr (.inr hm7))
    replace hr := Lib.hid hr; replace hS := Lib.hid hS; replace hN := Lib.hid hN; replace hNC := Lib.hid hNC
    go_wp2_with fail
    all_goals (go_ret; exact ⟨ret_bool hr.out.symm, g02.out⟩)
  have hr : rightK c m = rk c m := rightK_rk (by rw [← hNC]; exact hN) (by omega) (by omega)
  have hr' := Lib.hid hr
  replace hS := Lib.hid hS; replace hN := Lib.hid hN; replace hNC := Lib.hid hNC
  clear hr
  by_cases hU : 1114112 ≤ c ∧ c ≤ 1114133
  · have hk : rk c m = true := by unfold rk; rw [if_pos (.inl hU)]
    obtain ⟨u1, u2⟩ := hU
    replace hk := Lib.hid hk
    go_wp2_with fail
    refine (CM.out _).mono ?_
    rintro e w3 ⟨rfl, rfl⟩
    go_wp2_with fail
    all_goals (go_ret; exact ⟨ret_bool (by rw [hr'.out, hk.out]), g02.out⟩)
  have hU' : c < 1114112 ∨ 1114133 < c := by omega
  obtain ⟨mo, hmo⟩ : ∃ b, b = isMouse c := ⟨_, rfl⟩
  rw [← hmo] at CM
  have hm8 : m = 0 ∨ m = 1 ∨ m = 2 ∨ m = 3 ∨ m = 4 ∨ m = 5 ∨ m = 6 ∨ m = 7 := by omega
  cases mo
  rotate_left
  · have hk : rk c m = true := by unfold rk; rw [if_pos (.inr hmo.symm)]
    replace hk := Lib.hid hk; replace hmo := Lib.hid hmo
    clear hm8
    rcases hU' with hU' | hU'
    all_goals
      go_wp2_with fail
      refine (CM.out _).mono ?_
      rintro e w3 ⟨rfl, rfl⟩
      go_wp2_with fail
      all_goals (go_ret; exact ⟨ret_bool (by rw [hr'.out, hk.out]), g02.out⟩)
  have hk0 : rk c m = (if c = 1114141 ∨ c = 1114142 then decide (m = 0)
      else if m % 2 = 1 then false
      else if m / 4 % 2 = 0 then true
      else decide ((97 ≤ c ∧ c ≤ 122 ∧ c ≠ 105 ∧ c ≠ 109) ∨ (92 ≤ c ∧ c ≤ 95) ∨ c = 32)) := by
    unfold rk; rw [if_neg]
    rintro (h | h)
    · omega
    · rw [← hmo] at h; cases h
  replace hk0 := Lib.hid hk0; replace hmo := Lib.hid hmo
  clear hm0 hm7 hU
  rcases hm8 with rfl | rfl | rfl | rfl | rfl | rfl | rfl | rfl
  · have q1 : bits .and .i64 0 1 = 0 := by decide
    have q4 : bits .and .i64 0 4 = 0 := by decide
    rcases hU' with hU' | hU'
    all_goals
      go_wp2_with fail
      refine (CM.out _).mono ?_
      rintro e w3 ⟨rfl, rfl⟩
      go_wp2_with fail
      all_goals (go_ret; exact ⟨ret_bool (by (try subst_vars); rw [hr'.out, hk0.out]; (try simp only [beq_iff_eq, beq_eq_false_iff_ne, Bool.and_eq_true, Bool.or_eq_true, decide_eq_true_eq] at *); first | (simp; done) | (rw [Bool.eq_iff_iff]; simp; done) | (rw [Bool.eq_iff_iff]; simp; omega) | (simp; omega)), g02.out⟩)
  · have q1 : bits .and .i64 1 1 = 1 := by decide
    have q4 : bits .and .i64 1 4 = 0 := by decide
    rcases hU' with hU' | hU'
    all_goals
      go_wp2_with fail
      refine (CM.out _).mono ?_
      rintro e w3 ⟨rfl, rfl⟩
      go_wp2_with fail
      all_goals (go_ret; exact ⟨ret_bool (by (try subst_vars); rw [hr'.out, hk0.out]; (try simp only [beq_iff_eq, beq_eq_false_iff_ne, Bool.and_eq_true, Bool.or_eq_true, decide_eq_true_eq] at *); first | (simp; done) | (rw [Bool.eq_iff_iff]; simp; done) | (rw [Bool.eq_iff_iff]; simp; omega) | (simp; omega)), g02.out⟩)
  · have q1 : bits .and .i64 2 1 = 0 := by decide
    have q4 : bits .and .i64 2 4 = 0 := by decide
    rcases hU' with hU' | hU'
    all_goals
      go_wp2_with fail
      refine (CM.out _).mono ?_
      rintro e w3 ⟨rfl, rfl⟩
      go_wp2_with fail
      all_goals (go_ret; exact ⟨ret_bool (by (try subst_vars); rw [hr'.out, hk0.out]; (try simp only [beq_iff_eq, beq_eq_false_iff_ne, Bool.and_eq_true, Bool.or_eq_true, decide_eq_true_eq] at *); first | (simp; done) | (rw [Bool.eq_iff_iff]; simp; done) | (rw [Bool.eq_iff_iff]; simp; omega) | (simp; omega)), g02.out⟩)
  · have q1 : bits .and .i64 3 1 = 1 := by decide
    have q4 : bits .and .i64 3 4 = 0 := by decide
    rcases hU' with hU' | hU'
    all_goals
      go_wp2_with fail
      refine (CM.out _).mono ?_
      rintro e w3 ⟨rfl, rfl⟩
      go_wp2_with fail
      all_goals (go_ret; exact ⟨ret_bool (by (try subst_vars); rw [hr'.out, hk0.out]; (try simp only [beq_iff_eq, beq_eq_false_iff_ne, Bool.and_eq_true, Bool.or_eq_true, decide_eq_true_eq] at *); first | (simp; done) | (rw [Bool.eq_iff_iff]; simp; done) | (rw [Bool.eq_iff_iff]; simp; omega) | (simp; omega)), g02.out⟩)
  · have q1 : bits .and .i64 4 1 = 0 := by decide
    have q4 : bits .and .i64 4 4 = 4 := by decide
    rcases hU' with hU' | hU'
    all_goals
      go_wp2_with fail
      refine (CM.out _).mono ?_
      rintro e w3 ⟨rfl, rfl⟩
      go_wp2_with fail
      all_goals (go_ret; exact ⟨ret_bool (by (try subst_vars); rw [hr'.out, hk0.out]; (try simp only [beq_iff_eq, beq_eq_false_iff_ne, Bool.and_eq_true, Bool.or_eq_true, decide_eq_true_eq] at *); first | (simp; done) | (rw [Bool.eq_iff_iff]; simp; done) | (rw [Bool.eq_iff_iff]; simp; omega) | (simp; omega)), g02.out⟩)
  · have q1 : bits .and .i64 5 1 = 1 := by decide
    have q4 : bits .and .i64 5 4 = 4 := by decide
    rcases hU' with hU' | hU'
    all_goals
      go_wp2_with fail
      refine (CM.out _).mono ?_
      rintro e w3 ⟨rfl, rfl⟩
      go_wp2_with fail
      all_goals (go_ret; exact ⟨ret_bool (by (try subst_vars); rw [hr'.out, hk0.out]; (try simp only [beq_iff_eq, beq_eq_false_iff_ne, Bool.and_eq_true, Bool.or_eq_true, decide_eq_true_eq] at *); first | (simp; done) | (rw [Bool.eq_iff_iff]; simp; done) | (rw [Bool.eq_iff_iff]; simp; omega) | (simp; omega)), g02.out⟩)
  · have q1 : bits .and .i64 6 1 = 0 := by decide
    have q4 : bits .and .i64 6 4 = 4 := by decide
    rcases hU' with hU' | hU'
    all_goals
      go_wp2_with fail
      refine (CM.out _).mono ?_
      rintro e w3 ⟨rfl, rfl⟩
      go_wp2_with fail
      all_goals (go_ret; exact ⟨ret_bool (by (try subst_vars); rw [hr'.out, hk0.out]; (try simp only [beq_iff_eq, beq_eq_false_iff_ne, Bool.and_eq_true, Bool.or_eq_true, decide_eq_true_eq] at *); first | (simp; done) | (rw [Bool.eq_iff_iff]; simp; done) | (rw [Bool.eq_iff_iff]; simp; omega) | (simp; omega)), g02.out⟩)
  · have q1 : bits .and .i64 7 1 = 1 := by decide
    have q4 : bits .and .i64 7 4 = 4 := by decide
    rcases hU' with hU' | hU'
    all_goals
      go_wp2_with fail
      refine (CM.out _).mono ?_
      rintro e w3 ⟨rfl, rfl⟩
      go_wp2_with fail
      all_goals (go_ret; exact ⟨ret_bool (by (try subst_vars); rw [hr'.out, hk0.out]; (try simp only [beq_iff_eq, beq_eq_false_iff_ne, Bool.and_eq_true, Bool.or_eq_true, decide_eq_true_eq] at *); first | (simp; done) | (rw [Bool.eq_iff_iff]; simp; done) | (rw [Bool.eq_iff_iff]; simp; omega) | (simp; omega)), g02.out⟩)
end Go.Proofs.YtncokbppijnfiaaGreatDoor
