/- Format: expression: any expression, out of what is modified, looped and reckoned. -/
import Derived.Test.YtfhdfhlabkeipaaGreatDoorC17
namespace Go.Proofs.YtfhdfhlabkeipaaGreatDoor
open Go.RowKit
set_option linter.unusedSimpArgs false
set_option linter.unusedVariables false

theorem chk_len {acc : B} {r : Rs} {v : B} {n : Nat} (h : chk acc r = .ok v n) : acc.length ≤ 8192 ∧ r = .ok v n := by
  unfold chk at h
  split at h
  · exact ⟨by assumption, h⟩
  · cases h
theorem textF_len {ex : B → Nat → Rs} {scs : List (Option Sc)} : ∀ (f : Nat) (r acc : B) (n : Nat) (v : B) (n' : Nat), acc.length ≤ 8192 → textF ex scs f r acc n = .ok v n' → v.length ≤ 8192
  | 0, _, acc, n, v, n', ha, h => by
    have h : Rs.ok acc n = .ok v n' := h
    injection h with h1
    rw [← h1]; exact ha
  | f + 1, [], acc, n, v, n', ha, h => by
    have h : Rs.ok acc n = .ok v n' := h
    injection h with h1
    rw [← h1]; exact ha
  | f + 1, c0 :: r, acc, n, v, n', ha, h => by
    rw [textF_cons] at h
    generalize (if c0 = 35 then r.headD 0 else (0 : UInt8)) = cc at h
    dsimp only at h
    split at h
    · obtain ⟨h1, h2⟩ := chk_len h
      exact textF_len f _ _ _ _ _ h1 h2
    · split at h
      · split at h
        · cases h
        · rename_i k _
          generalize hx : ex (r.tail.take k) n = y at h
          cases y with
          | ok u n2 =>
            have h : chk (acc ++ u) _ = _ := h
            obtain ⟨h1, h2⟩ := chk_len h
            exact textF_len f _ _ _ _ _ h1 h2
          | bad e => cases h
          | no => cases h
      · split at h
        · split at h
          · cases h
          · split at h
            · obtain ⟨h1, h2⟩ := chk_len h
              exact textF_len f _ _ _ _ _ h1 h2
            · cases h
        · obtain ⟨h1, h2⟩ := chk_len h
          exact textF_len f _ _ _ _ _ h1 h2
theorem textL_len {ex : B → Nat → Rs} {scs : List (Option Sc)} {s : B} {n : Nat} {v : B} {n' : Nat} (h : textL ex scs s n = .ok v n') : v.length ≤ 8192 := textF_len _ _ _ _ _ _ (by simp) h
theorem shortL_ok {s v : B} {n n' : Nat} (h : shortL s n = .ok v n') : s.length ≤ 8192 ∧ v = s ∧ n' = n := by
  unfold shortL at h
  split at h
  · injection h with h1 h2
    exact ⟨by assumption, h1.symm, h2.symm⟩
  · cases h
theorem exprL_len {d : Nat} {scs : List (Option Sc)} {c : B} {n : Nat} {v : B} {n' : Nat} (h : exprL d scs c n = .ok v n') : v.length ≤ 8192 := by
  cases d with
  | zero => cases h
  | succ d =>
    unfold exprL at h
    split at h
    · generalize madeL _ scs c (n + 1) = y at h
      cases y with
      | ok u n2 =>
        have h : shortL u n2 = .ok v n' := h
        obtain ⟨h1, h2, _⟩ := shortL_ok h
        rw [h2]; exact h1
      | bad e => cases h
      | no => cases h
    · cases h

set_option maxRecDepth 100000 in
set_option maxHeartbeats 2000000 in
theorem expr_zero (base mb : Nat) (scs : List (Option Sc)) : ExOk base mb 16 scs (exprL 0 scs) := by
  intro c n ab cap W hc hM hB hno
  have c1 := hM.c1
  have CM0 := Lib.hid must_bad
  unfold Pan at CM0
  replace hM := Lib.hid hM; replace hno := Lib.hid hno; replace hB := Lib.hid hB
  go_enter Tryz.func38, Tryz.ntmps38
  go_wp2_with fail
  refine (CM0.out 13 _).mono ?_
  rintro e w1 ⟨rfl, rfl⟩
  go_wp2_with fail
  exact ⟨rfl, rfl, Kp.refl⟩
set_option maxRecDepth 100000 in
set_option maxHeartbeats 2000000 in
theorem expr_succ (base mb deep d : Nat) (scs : List (Option Sc)) (hd : deep + 1 ≤ 16) (tx : Tx)
    (hex : ∀ c n, exprL (d + 1) scs c n = if n + 1 ≤ 10000 then (madeL tx scs c (n + 1)).bind shortL else .bad 3)
    (CMd : ∀ (c : B) (n ab cap : Nat) (W : World), c.length ≤ 8192 → Mk base mb W ab cap scs (deep + 1) n → base ≤ W.heap.size → madeL tx scs c n ≠ .no → Calls Tryz.prog 47 #[.pointer (some ⟨mb, 0, none⟩), .string (st c)] W (ResP base mb scs (deep + 1) ab W (madeL tx scs c n))) :
    ExOk base mb deep scs (exprL (d + 1) scs) := by
  intro c n ab cap W hc hM hB hno
  have c1 := hM.c1
  have hdi : (deep : Int) < 16 := by omega
  have CM1 := Lib.hid must_ok
  have CS := step_any base mb ab cap deep n scs W hM hB
  obtain ⟨R, hR⟩ : ∃ R, R = exprL (d + 1) scs c n := ⟨_, rfl⟩
  rw [← hR] at hno ⊢
  rw [hex] at hR
  obtain ⟨S, hS⟩ : ∃ S, S = st c := ⟨_, rfl⟩
  replace hM := Lib.hid hM; replace hno := Lib.hid hno; replace hB := Lib.hid hB; replace CS := Lib.hid CS; replace hR := Lib.hid hR; replace hex := Lib.hid hex
  have CMh := Lib.hid (CMd c)
  clear CMd
  rw [← hS] at CMh ⊢
  replace hS := Lib.hid hS
  go_enter Tryz.func38, Tryz.ntmps38
  go_wp2_with fail
  refine (CM1.out 13 _).mono ?_
  rintro e w1 ⟨rfl, rfl⟩
  go_wp2_with fail
  refine CS.out.mono ?_
  rintro e w2 (⟨hle, rfl, hK2, hM2⟩ | ⟨hle, rfl, hK2⟩)
  · have hB2 : base ≤ w2.heap.size := Nat.le_trans hB.out hK2.size
    have d1 := hM2.c1
    have f1 := hM2.free 1
    have hwd : IntKind.i64.wrap ((deep : Int) + 1) = ((deep + 1 : Nat) : Int) := by rw [IntKind.wrap_i64]; omega
    have hM3 := hM2.box hB2 1 (.int .i64 ((deep + 1 : Nat) : Int)) (deep' := deep + 1) (steps' := n + 1) (by simp) hd hle
    have hK3 : Kp mb ab w2 (w2.setCell ⟨mb, 1, none⟩ (.int .i64 ((deep + 1 : Nat) : Int))) := Kp.setBox _ _ _
    obtain ⟨W3, hW3⟩ : ∃ W3, W3 = w2.setCell ⟨mb, 1, none⟩ (.int .i64 ((deep + 1 : Nat) : Int)) := ⟨_, rfl⟩
    have hR2 := hR.out
    rw [if_pos hle] at hR2
    have hmn : madeL tx scs c (n + 1) ≠ .no := fun h => hno.out (by rw [hR2, h]; rfl)
    rw [← hW3] at hM3 hK3
    have hB3 : base ≤ W3.heap.size := Nat.le_trans hB2 hK3.size
    have C47 := CMh.out (n + 1) ab cap W3 hc hM3 hB3 hmn
    have hKK := hK2.trans hK3 (.inl rfl)
    have hW3' : w2.setCell ⟨mb, 1, none⟩ (.int .i64 ((deep : Int) + 1)) = W3 := hW3.symm
    replace hW3 := Lib.hid hW3; replace hM2 := Lib.hid hM2; replace hM3 := Lib.hid hM3; replace hK2 := Lib.hid hK2; replace hK3 := Lib.hid hK3; replace hB2 := Lib.hid hB2; replace hB3 := Lib.hid hB3; replace C47 := Lib.hid C47; replace hKK := Lib.hid hKK; replace hmn := Lib.hid hmn; replace hR2 := Lib.hid hR2
    cases hmd : madeL tx scs c (n + 1) with
    | no => exact absurd hmd hmn.out
    | bad e0 =>
      have C5 := C47.out
      have hR3 := hR2.out
      rw [hmd] at C5 hR3
      replace hR3 : R = .bad e0 := hR3
      replace C5 : Calls Tryz.prog 47 #[.pointer (some ⟨mb, 0, none⟩), .string S] W3 fun e w' => e = Pan e0 ∧ Kp mb ab W3 w' := C5
      unfold Pan at C5
      replace C5 := Lib.hid C5; replace hR3 := Lib.hid hR3; replace hmd := Lib.hid hmd
      go_wp2_with fail
      refine C5.out.mono ?_
      rintro e w4 ⟨rfl, hK4⟩
      replace hK4 := Lib.hid hK4
      go_wp2_with fail
      refine ⟨rfl, ?_⟩
      rw [hR3.out]
      exact ⟨rfl, hKK.out.trans hK4.out (.inl rfl)⟩
    | ok v n' =>
      have C5 := C47.out
      have hR3 := hR2.out
      rw [hmd] at C5 hR3
      replace hR3 : R = shortL v n' := hR3
      replace C5 : Calls Tryz.prog 47 #[.pointer (some ⟨mb, 0, none⟩), .string S] W3 fun e w' => e = .returned (.string (st v)) ∧ Kp mb ab W3 w' ∧ ∃ ab' cap', Mk base mb w' ab' cap' scs (deep + 1) n' ∧ (ab' = ab ∨ W3.heap.size ≤ ab') := C5
      replace C5 := Lib.hid C5; replace hR3 := Lib.hid hR3; replace hmd := Lib.hid hmd
      go_wp2_with fail
      refine C5.out.mono ?_
      rintro e w4 ⟨rfl, hK4, ab4, cap4, hM4, hab4⟩
      have hK5 := hKK.out.trans hK4 (.inl rfl)
      have hB4 : base ≤ w4.heap.size := Nat.le_trans hB3.out hK4.size
      have g1 := hM4.c1
      have g2 := hM4.free 1
      have hM5 := hM4.box hB4 1 (.int .i64 (deep : Int)) (deep' := deep) (steps' := n') (by simp) (by omega) hM4.sl
      have hK6 : Kp mb ab w1 (w4.setCell ⟨mb, 1, none⟩ (.int .i64 (deep : Int))) := hK5.trans (Kp.setBox (ab := ab) _ _ _) (.inl rfl)
      have hab5 : ab4 = ab ∨ w1.heap.size ≤ ab4 := by
        rcases hab4 with rfl | h
        · exact .inl rfl
        · exact .inr (Nat.le_trans hKK.out.size h)
      have hwd2 : IntKind.i64.wrap (((deep + 1 : Nat) : Int) - 1) = (deep : Int) := by rw [IntKind.wrap_i64]; omega
      obtain ⟨dd, hdd⟩ : ∃ dd, dd = deep + 1 := ⟨_, rfl⟩
      rw [← hdd] at g1 hwd2
      replace hdd := Lib.hid hdd
      by_cases hvl : v.length ≤ 8192
      · have CSh := short_ok v w4 hvl
        have hR4 : R = .ok v n' := by rw [hR3.out]; unfold shortL; rw [if_pos hvl]
        replace CSh := Lib.hid CSh; replace hR4 := Lib.hid hR4; replace hK4 := Lib.hid hK4; replace hM4 := Lib.hid hM4; replace hM5 := Lib.hid hM5; replace hK5 := Lib.hid hK5; replace hK6 := Lib.hid hK6; replace hab4 := Lib.hid hab4; replace hab5 := Lib.hid hab5; replace hB4 := Lib.hid hB4; replace hvl := Lib.hid hvl
        go_wp2_with fail
        refine CSh.out.mono ?_
        rintro e w5 ⟨rfl, rfl⟩
        go_wp2_with fail
        go_ret
        rw [hR4.out]
        exact ⟨rfl, hK6.out, ab4, cap4, hM5.out, hab5.out⟩
      · have CSh := short_bad v w4 hvl
        unfold Pan at CSh
        have hR4 : R = .bad 2 := by rw [hR3.out]; unfold shortL; rw [if_neg hvl]
        replace CSh := Lib.hid CSh; replace hR4 := Lib.hid hR4; replace hK4 := Lib.hid hK4; replace hM4 := Lib.hid hM4; replace hM5 := Lib.hid hM5; replace hK5 := Lib.hid hK5; replace hK6 := Lib.hid hK6; replace hab4 := Lib.hid hab4; replace hab5 := Lib.hid hab5; replace hB4 := Lib.hid hB4; replace hvl := Lib.hid hvl
        go_wp2_with fail
        refine CSh.out.mono ?_
        rintro e w5 ⟨rfl, rfl⟩
        go_wp2_with fail
        refine ⟨rfl, ?_⟩
        rw [hR4.out]
        exact ⟨rfl, hK5.out⟩
  · have hR2 := hR.out
    rw [if_neg hle] at hR2
    replace hK2 := Lib.hid hK2; replace hR2 := Lib.hid hR2
    unfold Pan
    go_wp2_with fail
    refine ⟨rfl, ?_⟩
    rw [hR2.out]
    exact ⟨rfl, hK2.out⟩
/-- All of it: any expression at any depth. -/
theorem expr_ok (base mb : Nat) (HM : ∀ deep scs, scs.length ≤ 100 → ModOk base mb deep scs) (HL : ∀ deep L tx scs, TxOk base mb deep (L + 1) tx → TxLen tx → L ≤ 99 → scs.length ≤ L → LoopOk base mb deep scs tx) (HR : ∀ deep L tx scs, TxOk base mb deep L tx → TxLen tx → L ≤ 100 → scs.length ≤ L → ReckOk base mb deep scs tx) :
    ∀ (d deep : Nat) (scs : List (Option Sc)), deep + d = 16 → scs.length + d ≤ 60 → ExOk base mb deep scs (exprL d scs)
  | 0, deep, scs, h, _ => by
    obtain rfl : deep = 16 := by omega
    exact expr_zero base mb scs
  | d + 1, deep, scs, h, hl => by
    have hTx : TxOk base mb (deep + 1) (60 - d) (fun scs' s n' => textL (exprL d scs') scs' s n') := fun scs' s n ab cap W h1 h2 h3 h4 h5 =>
      text_any base mb (deep + 1) scs' (exprL d scs') (expr_ok base mb HM HL HR d (deep + 1) scs' (by omega) (by omega)) (fun c n v n' h => exprL_len h) (by omega) s n ab cap W h2 h3 h4 h5
    refine expr_succ base mb deep d scs (by omega) (fun scs' s n' => textL (exprL d scs') scs' s n') (fun c n => rfl) fun c n ab cap W h1 h2 h3 h4 => ?_
    exact made_any base mb (deep + 1) (60 - d) scs _ hTx (fun scs s n v n' h => textL_len h) (by omega) (by omega) (HM _ _ (by omega)) (HL (deep + 1) (59 - d) _ scs (by rw [show 59 - d + 1 = 60 - d by omega]; exact hTx) (fun scs s n v n' h => textL_len h) (by omega) (by omega)) (HR (deep + 1) (60 - d) _ scs hTx (fun scs s n v n' h => textL_len h) (by omega) (by omega)) c n ab cap W h1 h2 h3 h4
end Go.Proofs.YtfhdfhlabkeipaaGreatDoor
