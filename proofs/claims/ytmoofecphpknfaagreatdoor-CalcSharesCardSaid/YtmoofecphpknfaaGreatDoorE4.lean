/- Calc: the reference's Share, Inf, rank, Less. -/
import Derived.Test.YtmoofecphpknfaaGreatDoorE3
namespace Go.Proofs.YtmoofecphpknfaaGreatDoor
open Go.RowKit
set_option linter.unusedSimpArgs false
set_option linter.unusedVariables false

set_option maxRecDepth 100000 in
set_option maxHeartbeats 1000000 in
theorem refShare_any (n : Int) (p : Nat) (hn1 : -9223372036854775808 ≤ n) (hn2 : n ≤ 9223372036854775807) (w : World) : Calls Tryz.prog 20 #[.int .i64 n, .float .f64 p] w fun e w' => e = .returned (.int .i64 (sh n p)) ∧ w' = w := by
  obtain ⟨R, hR⟩ : ∃ R, R = sh n p := ⟨_, rfl⟩
  rw [← hR]
  by_cases c : n < 1
  · have hR2 : R = 0 := by rw [hR]; unfold sh; rw [if_pos c]
    clear hR
    replace hR2 := Lib.hid hR2
    go_enter Tryz.func20, Tryz.ntmps20
    go_wp2_with fail
    go_ret
    exact ⟨by rw [hR2.out]; rfl, rfl⟩
  rcases self_ord p with ⟨hp, h0⟩ | ⟨hp, h0⟩
  · have hR2 : R = 0 := by rw [hR]; unfold sh; rw [if_neg c, if_pos hp]
    have h1 : (FloatKind.f64.format.order p p != some .eq) = true := by rw [h0]; rfl
    clear hR hp h0
    replace hR2 := Lib.hid hR2
    have hc : 1 ≤ n := by omega
    clear c
    go_enter Tryz.func20, Tryz.ntmps20
    go_wp2_with fail
    go_ret
    exact ⟨by rw [hR2.out]; rfl, rfl⟩
  · obtain ⟨s, m, hs, q1', q2', hv⟩ := sh_way n p (by omega) (by omega) hp
    have q1 := fun W => run_float_arith (P := Tryz.prog) W .mul 23 .f64 s p m q1'
    have q2 := fun W => run_float_arith (P := Tryz.prog) W .quo 23 .f64 m 4636737291354636288 (qw s p) q2'
    have CA := fun w => refWhole_any (qw s p) w
    rw [← hR] at hv
    have h1 : (FloatKind.f64.format.order p p != some .eq) = false := by rw [h0]; rfl
    clear hR q1' q2' hp h0
    generalize wh (qw s p) = Z at *
    generalize qw s p = q at *
    replace CA := Lib.hid CA
    replace hv := Lib.hid hv
    have hc : 1 ≤ n := by omega
    clear c
    have fin3 : ∀ X : Int, X = max 0 (min n Z) → Ending.returned (Value.int .i64 X) = .returned (.int .i64 R) := by
      intro X hX
      rw [hX, hv.out]
    replace fin3 := Lib.hid fin3
    go_enter Tryz.func20, Tryz.ntmps20
    go_wp2_with fail
    refine (CA.out _).mono ?_
    rintro e w3 ⟨rfl, rfl⟩
    rcases (by omega : Z < 0 ∨ (0 ≤ Z ∧ n < Z) ∨ (0 ≤ Z ∧ Z ≤ n)) with k | ⟨k, k2⟩ | ⟨k, k2⟩
    · go_wp2_with fail
      go_ret
      exact ⟨fin3.out _ (by omega), rfl⟩
    · go_wp2_with fail
      go_ret
      exact ⟨fin3.out _ (by omega), rfl⟩
    · go_wp2_with fail
      go_ret
      exact ⟨fin3.out _ (by omega), rfl⟩
/-- The reference's rank. -/
def rk (f : Nat) : Int := if INF < rg f then 3 else if rg f = INF then (if negB f then 0 else 2) else 1
theorem inf_false (w : World) : Calls Tryz.prog 31 #[.bool false] w fun e w' => e = .returned (.float .f64 9218868437227405312) ∧ w' = w := by
  have q1 := fun W => run_float_arith (P := Tryz.prog) W .quo 23 .f64 4607182418800017408 0 9218868437227405312 (by decide)
  go_enter Tryz.func31, Tryz.ntmps31
  go_wp2_with fail
  go_ret
  exact ⟨rfl, rfl⟩
theorem inf_true (w : World) : Calls Tryz.prog 31 #[.bool true] w fun e w' => e = .returned (.float .f64 18442240474082181120) ∧ w' = w := by
  have q1 := fun W => run_float_arith (P := Tryz.prog) W .quo 23 .f64 13830554455654793216 0 18442240474082181120 (by decide)
  go_enter Tryz.func31, Tryz.ntmps31
  go_wp2_with fail
  go_ret
  exact ⟨rfl, rfl⟩
/-- The four kinds of a float. -/
theorem kinds (f : Nat) : (rk f = 3 ∧ ky f = none ∧ FloatKind.f64.format.order f f = none) ∨
    (rk f = 2 ∧ ky f = some (1, 0) ∧ negB f = false ∧ FloatKind.f64.format.order f f = some .eq ∧ FloatKind.f64.format.order f 9218868437227405312 = some .eq) ∨
    (rk f = 0 ∧ ky f = some (-1, 0) ∧ negB f = true ∧ FloatKind.f64.format.order f f = some .eq ∧ FloatKind.f64.format.order f 9218868437227405312 = some .lt ∧ FloatKind.f64.format.order f 18442240474082181120 = some .eq) ∨
    (rk f = 1 ∧ (∃ s, ky f = some (0, s)) ∧ FloatKind.f64.format.order f f = some .eq ∧ FloatKind.f64.format.order f 9218868437227405312 = some .lt ∧ FloatKind.f64.format.order f 18442240474082181120 = some .gt) := by
  have k1 : ky 9218868437227405312 = some (1, 0) := by decide
  have k2 : ky 18442240474082181120 = some (-1, 0) := by decide
  rw [fkey, fkey, fkey, k1, k2]
  unfold rk
  rcases Nat.lt_trichotomy (rg f) INF with c | c | c
  · right; right; right
    rw [if_neg (by omega), if_neg (by omega), ky_fin f c]
    exact ⟨rfl, ⟨_, rfl⟩, by rw [oss, cmp_self], by rw [oss]; unfold cmpP; simp, by rw [oss]; unfold cmpP; simp⟩
  · rw [if_neg (by omega), if_pos c, ky_inf f c]
    cases negB f
    · right; left
      exact ⟨rfl, rfl, rfl, rfl, rfl⟩
    · right; right; left
      exact ⟨rfl, rfl, rfl, rfl, rfl, rfl⟩
  · left
    rw [if_pos c, ky_nan f (Nat.not_le.2 c)]
    exact ⟨rfl, rfl, rfl⟩
set_option maxRecDepth 100000 in
theorem rank_any (f : Nat) (w : World) : Calls Tryz.prog 52 #[.float .f64 f] w fun e w' => e = .returned (.int .i64 (rk f)) ∧ w' = w := by
  have C1 := Lib.hid inf_false
  have C2 := Lib.hid inf_true
  rcases kinds f with ⟨hr, _, h1⟩ | ⟨hr, _, _, h1, h2⟩ | ⟨hr, _, _, h1, h2, h3⟩ | ⟨hr, _, h1, h2, h3⟩
  · rw [hr]
    clear hr
    go_enter Tryz.func52, Tryz.ntmps52
    go_wp2_with fail
    go_ret
    exact ⟨rfl, rfl⟩
  · rw [hr]
    clear hr
    go_enter Tryz.func52, Tryz.ntmps52
    go_wp2_with fail
    refine (C1.out _).mono ?_
    rintro e w3 ⟨rfl, rfl⟩
    go_wp2_with fail
    go_ret
    exact ⟨rfl, rfl⟩
  · rw [hr]
    clear hr
    go_enter Tryz.func52, Tryz.ntmps52
    go_wp2_with fail
    refine (C1.out _).mono ?_
    rintro e w3 ⟨rfl, rfl⟩
    go_wp2_with fail
    refine (C2.out _).mono ?_
    rintro e w3 ⟨rfl, rfl⟩
    go_wp2_with fail
    go_ret
    exact ⟨rfl, rfl⟩
  · rw [hr]
    clear hr
    go_enter Tryz.func52, Tryz.ntmps52
    go_wp2_with fail
    refine (C1.out _).mono ?_
    rintro e w3 ⟨rfl, rfl⟩
    go_wp2_with fail
    refine (C2.out _).mono ?_
    rintro e w3 ⟨rfl, rfl⟩
    go_wp2_with fail
    go_ret
    exact ⟨rfl, rfl⟩
/-- Where the ranks tell. -/
theorem rank_less (a b : Nat) (h : rk a ≠ rk b ∨ rk a ≠ 1) : lessB a b = decide (rk a < rk b) := by
  rcases kinds a with ⟨ra, ka, _⟩ | ⟨ra, ka, na, _⟩ | ⟨ra, ka, na, _⟩ | ⟨ra, ⟨s, ka⟩, _⟩ <;> rcases kinds b with ⟨rb, kb, _⟩ | ⟨rb, kb, nb, _⟩ | ⟨rb, kb, nb, _⟩ | ⟨rb, ⟨t, kb⟩, _⟩ <;> rw [ra, rb] at h ⊢
  all_goals first
    | (rw [less_none_l ka]; rfl)
    | (rw [less_none_r ka kb]; rfl)
    | (exfalso; revert h; decide)
    | (rw [less_some ka kb, if_pos rfl, na, nb]; rfl)
    | (rw [less_some ka kb, if_neg (by intro e; injection e with e; omega)]; unfold cmpP; simp)
theorem rank_both (a b : Nat) (h1 : rk a = 1) (h2 : rk b = 1) : lessB a b = if (FloatKind.f64.format.order a b == some .eq) = true then belowB a && !belowB b else (FloatKind.f64.format.order a b == some .lt) := by
  rcases kinds a with ⟨ra, ka, _⟩ | ⟨ra, ka, na, _⟩ | ⟨ra, ka, na, _⟩ | ⟨ra, ⟨s, ka⟩, _⟩ <;> rw [h1] at ra <;> first | (exfalso; revert ra; decide) | skip
  rcases kinds b with ⟨rb, kb, _⟩ | ⟨rb, kb, nb, _⟩ | ⟨rb, kb, nb, _⟩ | ⟨rb, ⟨t, kb⟩, _⟩ <;> rw [h2] at rb <;> first | (exfalso; revert rb; decide) | skip
  rw [below_neg a _ ka, below_neg b _ kb, fkey, less_some ka kb, ka, kb, oss]
  by_cases e : ((0 : Int), s) = (0, t)
  · rw [if_pos e, e, cmp_self, if_pos (by rfl)]
  · rw [if_neg e]
    rcases cmp_cases (0, s) (0, t) with ⟨q, _⟩ | ⟨q, _⟩ | ⟨q, _⟩
    · rw [q]; rfl
    · exact absurd (cmp_eq.1 q) e
    · rw [q]; rfl
set_option maxRecDepth 100000 in
theorem refLess_any (a b : Nat) (w : World) : Calls Tryz.prog 22 #[.float .f64 a, .float .f64 b] w fun e w' => e = .returned (.bool (lessB a b)) ∧ w' = w := by
  have CA := Lib.hid (rank_any a)
  have CB := Lib.hid (rank_any b)
  have BA := Lib.hid (below_any a)
  have BB := Lib.hid (below_any b)
  have hl := Lib.hid (rank_less a b)
  have hb := Lib.hid (rank_both a b)
  obtain ⟨ba, hba⟩ : ∃ x, x = belowB a := ⟨_, rfl⟩
  obtain ⟨bb, hbb⟩ : ∃ x, x = belowB b := ⟨_, rfl⟩
  rw [← hba] at BA hb; rw [← hbb] at BB hb
  clear hba hbb
  obtain ⟨L, hL⟩ : ∃ x, x = lessB a b := ⟨_, rfl⟩
  rw [← hL] at hl hb ⊢
  clear hL
  generalize rk a = x at *
  generalize rk b = y at *
  obtain ⟨ee, hee⟩ : ∃ z, (FloatKind.f64.format.order a b == some .eq) = z := ⟨_, rfl⟩
  obtain ⟨ll, hll⟩ : ∃ z, (FloatKind.f64.format.order a b == some .lt) = z := ⟨_, rfl⟩
  rw [hee, hll] at hb
  rcases (by omega : x ≠ y ∨ (x = y ∧ x ≠ 1) ∨ (x = y ∧ x = 1)) with k | ⟨k, k2⟩ | ⟨k, k2⟩
  · have h := hl.out (.inl k)
    clear hl hb
    replace h := Lib.hid h
    go_enter Tryz.func22, Tryz.ntmps22
    go_wp2_with fail
    refine (CA.out _).mono ?_
    rintro e w3 ⟨rfl, rfl⟩
    go_wp2_with fail
    refine (CB.out _).mono ?_
    rintro e w3 ⟨rfl, rfl⟩
    go_wp2_with fail
    go_ret
    exact ⟨by rw [h.out]; rfl, rfl⟩
  · have h := hl.out (.inr k2)
    clear hl hb
    subst k
    rw [decide_eq_false (Int.lt_irrefl _)] at h
    replace h := Lib.hid h
    go_enter Tryz.func22, Tryz.ntmps22
    go_wp2_with fail
    refine (CA.out _).mono ?_
    rintro e w3 ⟨rfl, rfl⟩
    go_wp2_with fail
    refine (CB.out _).mono ?_
    rintro e w3 ⟨rfl, rfl⟩
    go_wp2_with fail
    go_ret
    exact ⟨by rw [h.out]; rfl, rfl⟩
  · have h := hb.out k2 (by omega)
    clear hl hb
    subst k2
    subst k
    cases ee with
    | false =>
      replace h := Lib.hid h
      go_enter Tryz.func22, Tryz.ntmps22
      go_wp2_with fail
      refine (CA.out _).mono ?_
      rintro e w3 ⟨rfl, rfl⟩
      go_wp2_with fail
      refine (CB.out _).mono ?_
      rintro e w3 ⟨rfl, rfl⟩
      go_wp2_with fail
      go_ret
      exact ⟨by rw [h.out]; rfl, rfl⟩
    | true =>
      replace h := Lib.hid h
      go_enter Tryz.func22, Tryz.ntmps22
      go_wp2_with fail
      refine (CA.out _).mono ?_
      rintro e w3 ⟨rfl, rfl⟩
      go_wp2_with fail
      refine (CB.out _).mono ?_
      rintro e w3 ⟨rfl, rfl⟩
      go_wp2_with fail
      refine (BA.out _).mono ?_
      rintro e w3 ⟨rfl, rfl⟩
      go_wp2_with fail
      refine (BB.out _).mono ?_
      rintro e w3 ⟨rfl, rfl⟩
      cases ba <;> (go_wp2_with fail) <;> (go_ret; exact ⟨by rw [h.out]; cases bb <;> rfl, rfl⟩)
end Go.Proofs.YtmoofecphpknfaaGreatDoor
