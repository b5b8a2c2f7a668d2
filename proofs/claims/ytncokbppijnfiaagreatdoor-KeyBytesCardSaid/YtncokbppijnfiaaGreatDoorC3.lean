/- Key: named, Right, Name. -/
import Derived.Test.YtncokbppijnfiaaGreatDoorC2
namespace Go.Proofs.YtncokbppijnfiaaGreatDoor
open Go.RowKit
set_option linter.unusedSimpArgs false
set_option linter.unusedVariables false

theorem calls_str {P : Program} {f : FuncId} {w : World} {R : Ending → World → Prop} {x y : ByteArray} (h : Calls P f #[.string x] w R) (e : x = y) : Calls P f #[.string y] w R := by subst e; exact h
set_option maxHeartbeats 1000000 in
set_option maxRecDepth 100000 in
theorem named_any (c : Int) (hc : I64 c) (w : World) (hW : Wd w) : Calls Tryz.prog 21 #[.int .i64 c] w fun e w' => e = .returned (.string (st (nameC c))) ∧ w.grownBy w' none := by
  unfold I64 at hc
  by_cases k1 : c = 9
  · subst k1
    go_enter Tryz.func21, Tryz.ntmps21
    go_wp2_with fail
    go_ret
    exact ⟨rfl, World.grownBy.refl _ _⟩
  by_cases k2 : c = 13
  · subst k2
    go_enter Tryz.func21, Tryz.ntmps21
    go_wp2_with fail
    go_ret
    exact ⟨rfl, World.grownBy.refl _ _⟩
  by_cases k3 : c = 32
  · subst k3
    go_enter Tryz.func21, Tryz.ntmps21
    go_wp2_with fail
    go_ret
    exact ⟨rfl, World.grownBy.refl _ _⟩
  by_cases k4 : c = 127
  · subst k4
    go_enter Tryz.func21, Tryz.ntmps21
    go_wp2_with fail
    go_ret
    exact ⟨rfl, World.grownBy.refl _ _⟩
  by_cases k5 : 1114112 ≤ c ∧ c < 1114143
  · obtain ⟨k5, k6⟩ := k5
    have CF := Lib.hid (fields_any w hW)
    obtain ⟨j, hj⟩ : ∃ j : Nat, c = 1114112 + (j : Int) := ⟨(c - 1114112).toNat, by omega⟩
    have hjl : j < 31 := by omega
    obtain ⟨s, hs⟩ : ∃ s, specialsL[j]? = some s := ⟨specialsL[j]'(by show j < 31; exact hjl), List.getElem?_eq_getElem _⟩
    have hn : nameC c = s := by
      unfold nameC
      rw [if_neg k1, if_neg k2, if_neg k3, if_neg k4, if_pos ⟨k5, k6⟩, show (c - 1114112).toNat = j by omega, List.getD_eq_getElem?_getD, hs]; rfl
    rw [hn]
    have e2 : c - 1114112 = (j : Int) := by omega
    replace hj := Lib.hid hj
    replace hn := Lib.hid hn; replace hs := Lib.hid hs; replace hW := Lib.hid hW
    go_enter Tryz.func21, Tryz.ntmps21
    go_wp2_with fail
    obtain ⟨X, hX⟩ : ∃ X : ByteArray, X = ⟨specialsT.toArray⟩ := ⟨_, rfl⟩
    rw [← hX] at CF
    have hX2 := Lib.hid hX
    clear hX
    refine Calls.mono (calls_str CF.out ?_) ?_
    · rw [hX2.out]
      kernel_rfl
    rintro e w1 ⟨rfl, g1, hcell⟩
    have hc1 := hcell j s hs.out
    replace hcell := Lib.hid hcell
    go_wp2_with fail
    go_ret
    exact ⟨rfl, g1⟩
  by_cases k6 : 32 < c ∧ c ≤ 1114111
  · obtain ⟨k6, k7⟩ := k6
    obtain ⟨v, hv⟩ : ∃ v, v = Lib.validRune c := ⟨_, rfl⟩
    obtain ⟨wd, hwd⟩ : ∃ z, z = widthR c := ⟨_, rfl⟩
    have CV : Hid (∀ W, Calls Tryz.prog 35 #[.int .i32 c] W fun e w' => e = .returned (.bool v) ∧ w' = W) := Lib.hid fun W => by rw [hv]; exact Tryz.utf8_ValidRune c W
    have CWd : Hid (∀ W, Calls Tryz.prog 36 #[.int .i32 c] W fun e w' => e = .returned (.int .i64 wd) ∧ W.grownBy w' none) := Lib.hid fun W => by rw [hwd]; exact width_any c W
    have hn : nameC c = if v = true ∧ 0 < wd then (Utf8.encode c).data.toList else [] := by
      unfold nameC
      rw [if_neg k1, if_neg k2, if_neg k3, if_neg k4, if_neg (by omega), ← hv, ← hwd]
      by_cases h : v = true ∧ 0 < wd
      · rw [if_pos h, if_pos ⟨k6, k7, h.1, h.2⟩]
      · rw [if_neg h, if_neg fun q => h ⟨q.2.2.1, q.2.2.2⟩]
    have hw32 : IntKind.i32.wrap c = c := by
      have h : c % 4294967296 = c := by omega
      simp [IntKind.wrap, IntKind.signed, IntKind.bits, h]; omega
    obtain ⟨N, hN⟩ : ∃ N, N = nameC c := ⟨_, rfl⟩
    rw [← hN]
    replace hn := Lib.hid hn; replace hv := Lib.hid hv; replace hwd := Lib.hid hwd; replace hW := Lib.hid hW; replace hN := Lib.hid hN
    go_enter Tryz.func21, Tryz.ntmps21
    go_wp2_with fail
    refine (CV.out _).mono ?_
    rintro e w1 ⟨rfl, rfl⟩
    cases v
    · have : N = [] := by rw [hN.out, hn.out]; simp
      subst this
      go_wp2_with fail
      go_ret
      exact ⟨rfl, World.grownBy.refl _ _⟩
    · go_wp2_with fail
      refine (CWd.out _).mono ?_
      rintro e w2 ⟨rfl, g2⟩
      by_cases hp : 0 < wd
      · have : N = (Utf8.encode c).data.toList := by rw [hN.out, hn.out]; simp [hp]
        have hst : st N = Utf8.encode c := by rw [this]; exact ba_st _
        replace this := Lib.hid this
        go_wp2_with fail
        go_ret
        exact ⟨by rw [hst]; rfl, g2⟩
      · have : N = [] := by rw [hN.out, hn.out]; simp [hp]
        subst this
        go_wp2_with fail
        go_ret
        exact ⟨rfl, g2⟩
  · have hn : nameC c = [] := by
      unfold nameC
      rw [if_neg k1, if_neg k2, if_neg k3, if_neg k4, if_neg k5, if_neg (fun h => k6 ⟨h.1, h.2.1⟩)]
    rw [hn]
    replace hn := Lib.hid hn; replace hW := Lib.hid hW
    have k7 : c ≤ 32 ∨ 1114143 ≤ c := by omega
    rcases k7 with k7 | k7
    all_goals
      go_enter Tryz.func21, Tryz.ntmps21
      go_wp2_with fail
      all_goals (go_ret; exact ⟨rfl, World.grownBy.refl _ _⟩)
/-- right, of a code that has a name, with modifiers that may be. -/
def rk (c m : Int) : Bool :=
  if (1114112 ≤ c ∧ c ≤ 1114133) ∨ isMouse c = true then true
  else if c = 1114141 ∨ c = 1114142 then decide (m = 0)
  else if m % 2 = 1 then false
  else if m / 4 % 2 = 0 then true
  else decide ((97 ≤ c ∧ c ≤ 122 ∧ c ≠ 105 ∧ c ≠ 109) ∨ (92 ≤ c ∧ c ≤ 95) ∨ c = 32)
theorem rightK_rk {c m : Int} (h : nameC c ≠ []) (h0 : 0 ≤ m) (h7 : m ≤ 7) : rightK c m = rk c m := by
  unfold rightK rk
  rw [if_neg]
  rintro (h' | h' | h')
  · exact h h'
  · omega
  · omega
theorem rightK_no {c m : Int} (h : nameC c = [] ∨ m < 0 ∨ 7 < m) : rightK c m = false := by unfold rightK; rw [if_pos h]
set_option maxHeartbeats 2000000 in
set_option maxRecDepth 100000 in
theorem right_any (c m : Int) (hc : I64 c) (w : World) (hW : Wd w) : Calls Tryz.prog 8 #[keyV c m] w fun e w' => e = .returned (.bool (rightK c m)) ∧ w.grownBy w' none := by
  have CN : Hid (∀ W, Wd W → Calls Tryz.prog 21 #[.int .i64 c] W fun e w' => e = .returned (.string (st (nameC c))) ∧ W.grownBy w' none) := Lib.hid fun W h => named_any c hc W h
  have CM : Hid (∀ W, Calls Tryz.prog 22 #[.int .i64 c] W fun e w' => e = .returned (.bool (isMouse c)) ∧ w' = W) := Lib.hid fun W => mouse_any c W
  replace hW := Lib.hid hW; replace hc := Lib.hid hc
  unfold keyV
  go_enter Tryz.func8, Tryz.ntmps8
  go_wp2_with fail
  obtain ⟨W1, hW1⟩ : ∃ W, W = w.alloc (.cells #[.int .i64 c, .int .i64 m] 23) := ⟨_, rfl⟩
  have g01 : w.grownBy W1 none := by rw [hW1]; exact World.grownBy_alloc _ _ _
  obtain ⟨bk, hbk⟩ : ∃ n, n = w.heap.size := ⟨_, rfl⟩
  have hH : W1.heap[bk]? = some (.cells #[.int .i64 c, .int .i64 m] 23 (0, 0)) := by rw [hW1, hbk]; exact heap_alloc_new w _
  rw [← hW1, ← hbk]
  have CN1 := Lib.hid (CN.out W1 (hW.out.grown g01))
  have h1 : W1.cell? ⟨bk, 1, none⟩ = some (.int .i64 m) := by unfold World.cell?; rw [hH]; rfl
  obtain ⟨NC, hNC⟩ : ∃ N, N = nameC c := ⟨_, rfl⟩
  rw [← hNC] at CN1
  obtain ⟨S, hS⟩ : ∃ S, S = st NC := ⟨_, rfl⟩
  rw [← hS] at CN1
  replace hW1 := Lib.hid hW1; replace hbk := Lib.hid hbk; replace hH := Lib.hid hH
  refine CN1.out.mono ?_
  rintro e w2 ⟨rfl, g12⟩
  have x1 := g12.cell h1 (by simp)
  have g02 := g01.trans g12
  replace g02 := Lib.hid g02
  clear CN1 g01 g12 h1 CN
  by_cases hN : NC = []
  · have hE : S.toList.isEmpty = true := by
      rw [hS, hN, show (st []).toList = [] from ByteArray.toList_mk _]; rfl
    have hr : rightK c m = false := rightK_no (.inl (by rw [← hNC, hN]))
    replace hr := Lib.hid hr; replace hS := Lib.hid hS; replace hN := Lib.hid hN; replace hNC := Lib.hid hNC
    go_wp2_with fail
    all_goals (go_ret; exact ⟨ret_bool hr.out.symm, g02.out⟩)
  have hE : S.toList.isEmpty = false := by
    rw [hS]
    cases NC with
    | nil => exact absurd rfl hN
    | cons a l =>
      have : (st (a :: l)).toList = a :: l := ByteArray.toList_mk _
      rw [this]; rfl
  by_cases hm0 : m < 0
  · have hr : rightK c m = false := rightK_no (.inr (.inl hm0))
    replace hr := Lib.hid hr; replace hS := Lib.hid hS; replace hN := Lib.hid hN; replace hNC := Lib.hid hNC
    go_wp2_with fail
    all_goals (go_ret; exact ⟨ret_bool hr.out.symm, g02.out⟩)
  by_cases hm7 : 7 < m
  · have hr : rightK c m = false := rightK_no (.inr (.inr hm7))
    replace hr := Lib.hid hr; replace hS := Lib.hid hS; replace hN := Lib.hid hN; replace hNC := Lib.hid hNC
    go_wp2_with fail
    all_goals (go_ret; exact ⟨ret_bool hr.out.symm, g02.out⟩)
  have hr : rightK c m = rk c m := rightK_rk (by rw [← hNC]; exact hN) (by omega) (by omega)
  have hr' := Lib.hid hr
  replace hS := Lib.hid hS; replace hN := Lib.hid hN; replace hNC := Lib.hid hNC
  clear hr
  by_cases hU : 1114112 ≤ c ∧ c ≤ 1114133
  · have hk : rk c m = true := by unfold rk; rw [if_pos (.inl hU)]
    obtain ⟨u1, u2⟩ := hU
    replace hk := Lib.hid hk
    go_wp2_with fail
    all_goals (go_ret; exact ⟨ret_bool (by rw [hr'.out, hk.out]), g02.out⟩)
  have hU' : c < 1114112 ∨ 1114133 < c := by omega
  obtain ⟨mo, hmo⟩ : ∃ b, b = isMouse c := ⟨_, rfl⟩
  rw [← hmo] at CM
  have hm8 : m = 0 ∨ m = 1 ∨ m = 2 ∨ m = 3 ∨ m = 4 ∨ m = 5 ∨ m = 6 ∨ m = 7 := by omega
  cases mo
  rotate_left
  · have hk : rk c m = true := by unfold rk; rw [if_pos (.inr hmo.symm)]
    replace hk := Lib.hid hk; replace hmo := Lib.hid hmo
    clear hm8
    rcases hU' with hU' | hU'
    all_goals
      go_wp2_with fail
      refine (CM.out _).mono ?_
      rintro e w3 ⟨rfl, rfl⟩
      go_wp2_with fail
      all_goals (go_ret; exact ⟨ret_bool (by rw [hr'.out, hk.out]), g02.out⟩)
  have hk0 : rk c m = (if c = 1114141 ∨ c = 1114142 then decide (m = 0)
      else if m % 2 = 1 then false
      else if m / 4 % 2 = 0 then true
      else decide ((97 ≤ c ∧ c ≤ 122 ∧ c ≠ 105 ∧ c ≠ 109) ∨ (92 ≤ c ∧ c ≤ 95) ∨ c = 32)) := by
    unfold rk; rw [if_neg]
    rintro (h | h)
    · omega
    · rw [← hmo] at h; cases h
  replace hk0 := Lib.hid hk0; replace hmo := Lib.hid hmo
  clear hm0 hm7 hU
  rcases hm8 with rfl | rfl | rfl | rfl | rfl | rfl | rfl | rfl
  · have q1 : bits .and .i64 0 1 = 0 := by decide
    have q4 : bits .and .i64 0 4 = 0 := by decide
    rcases hU' with hU' | hU'
    all_goals
      go_wp2_with fail
      refine (CM.out _).mono ?_
      rintro e w3 ⟨rfl, rfl⟩
      go_wp2_with fail
      all_goals (go_ret; exact ⟨ret_bool (by rw [hr'.out, hk0.out]; (try simp only [beq_iff_eq, beq_eq_false_iff_ne, Bool.and_eq_true, Bool.or_eq_true, decide_eq_true_eq] at *); first | (simp; done) | (rw [Bool.eq_iff_iff]; simp; done) | (rw [Bool.eq_iff_iff]; simp; omega) | (simp; omega)), g02.out⟩)
  · have q1 : bits .and .i64 1 1 = 1 := by decide
    have q4 : bits .and .i64 1 4 = 0 := by decide
    rcases hU' with hU' | hU'
    all_goals
      go_wp2_with fail
      refine (CM.out _).mono ?_
      rintro e w3 ⟨rfl, rfl⟩
      go_wp2_with fail
      all_goals (go_ret; exact ⟨ret_bool (by rw [hr'.out, hk0.out]; (try simp only [beq_iff_eq, beq_eq_false_iff_ne, Bool.and_eq_true, Bool.or_eq_true, decide_eq_true_eq] at *); first | (simp; done) | (rw [Bool.eq_iff_iff]; simp; done) | (rw [Bool.eq_iff_iff]; simp; omega) | (simp; omega)), g02.out⟩)
  · have q1 : bits .and .i64 2 1 = 0 := by decide
    have q4 : bits .and .i64 2 4 = 0 := by decide
    rcases hU' with hU' | hU'
    all_goals
      go_wp2_with fail
      refine (CM.out _).mono ?_
      rintro e w3 ⟨rfl, rfl⟩
      go_wp2_with fail
      all_goals (go_ret; exact ⟨ret_bool (by rw [hr'.out, hk0.out]; (try simp only [beq_iff_eq, beq_eq_false_iff_ne, Bool.and_eq_true, Bool.or_eq_true, decide_eq_true_eq] at *); first | (simp; done) | (rw [Bool.eq_iff_iff]; simp; done) | (rw [Bool.eq_iff_iff]; simp; omega) | (simp; omega)), g02.out⟩)
  · have q1 : bits .and .i64 3 1 = 1 := by decide
    have q4 : bits .and .i64 3 4 = 0 := by decide
    rcases hU' with hU' | hU'
    all_goals
      go_wp2_with fail
      refine (CM.out _).mono ?_
      rintro e w3 ⟨rfl, rfl⟩
      go_wp2_with fail
      all_goals (go_ret; exact ⟨ret_bool (by rw [hr'.out, hk0.out]; (try simp only [beq_iff_eq, beq_eq_false_iff_ne, Bool.and_eq_true, Bool.or_eq_true, decide_eq_true_eq] at *); first | (simp; done) | (rw [Bool.eq_iff_iff]; simp; done) | (rw [Bool.eq_iff_iff]; simp; omega) | (simp; omega)), g02.out⟩)
  · have q1 : bits .and .i64 4 1 = 0 := by decide
    have q4 : bits .and .i64 4 4 = 4 := by decide
    rcases hU' with hU' | hU'
    all_goals
      go_wp2_with fail
      refine (CM.out _).mono ?_
      rintro e w3 ⟨rfl, rfl⟩
      go_wp2_with fail
      all_goals (go_ret; exact ⟨ret_bool (by rw [hr'.out, hk0.out]; (try simp only [beq_iff_eq, beq_eq_false_iff_ne, Bool.and_eq_true, Bool.or_eq_true, decide_eq_true_eq] at *); first | (simp; done) | (rw [Bool.eq_iff_iff]; simp; done) | (rw [Bool.eq_iff_iff]; simp; omega) | (simp; omega)), g02.out⟩)
  · have q1 : bits .and .i64 5 1 = 1 := by decide
    have q4 : bits .and .i64 5 4 = 4 := by decide
    rcases hU' with hU' | hU'
    all_goals
      go_wp2_with fail
      refine (CM.out _).mono ?_
      rintro e w3 ⟨rfl, rfl⟩
      go_wp2_with fail
      all_goals (go_ret; exact ⟨ret_bool (by rw [hr'.out, hk0.out]; (try simp only [beq_iff_eq, beq_eq_false_iff_ne, Bool.and_eq_true, Bool.or_eq_true, decide_eq_true_eq] at *); first | (simp; done) | (rw [Bool.eq_iff_iff]; simp; done) | (rw [Bool.eq_iff_iff]; simp; omega) | (simp; omega)), g02.out⟩)
  · have q1 : bits .and .i64 6 1 = 0 := by decide
    have q4 : bits .and .i64 6 4 = 4 := by decide
    rcases hU' with hU' | hU'
    all_goals
      go_wp2_with fail
      refine (CM.out _).mono ?_
      rintro e w3 ⟨rfl, rfl⟩
      go_wp2_with fail
      all_goals (go_ret; exact ⟨ret_bool (by rw [hr'.out, hk0.out]; (try simp only [beq_iff_eq, beq_eq_false_iff_ne, Bool.and_eq_true, Bool.or_eq_true, decide_eq_true_eq] at *); first | (simp; done) | (rw [Bool.eq_iff_iff]; simp; done) | (rw [Bool.eq_iff_iff]; simp; omega) | (simp; omega)), g02.out⟩)
  · have q1 : bits .and .i64 7 1 = 1 := by decide
    have q4 : bits .and .i64 7 4 = 4 := by decide
    rcases hU' with hU' | hU'
    all_goals
      go_wp2_with fail
      refine (CM.out _).mono ?_
      rintro e w3 ⟨rfl, rfl⟩
      go_wp2_with fail
      all_goals (go_ret; exact ⟨ret_bool (by rw [hr'.out, hk0.out]; (try simp only [beq_iff_eq, beq_eq_false_iff_ne, Bool.and_eq_true, Bool.or_eq_true, decide_eq_true_eq] at *); first | (simp; done) | (rw [Bool.eq_iff_iff]; simp; done) | (rw [Bool.eq_iff_iff]; simp; omega) | (simp; omega)), g02.out⟩)
end Go.Proofs.YtncokbppijnfiaaGreatDoor
