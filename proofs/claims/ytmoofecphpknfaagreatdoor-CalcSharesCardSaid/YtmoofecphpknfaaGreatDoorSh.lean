/- Calc: shares. No program in sight. -/
import Derived.Test.YtmoofecphpknfaaGreatDoorWl3
namespace Go.Proofs.YtmoofecphpknfaaGreatDoor
open Ieee
set_option linter.unusedVariables false
set_option linter.unusedSimpArgs false

theorem read_inf (x : Nat) (h : rg x = INF) : double.read x = .infinity (negB x) := by
  unfold Format.read
  rw [sw_eq, bin_eq, inf_eq]
  have hr : x % 2 ^ 63 = INF := h
  have hn : (x / 2 ^ 63 % 2 == 1) = negB x := rfl
  rw [hr, hn]
  rfl
theorem read_pos (x : Nat) (h : Fin' x) (h0 : rg x ≠ 0) : ∃ (m k : Nat), double.read x = .number (negB x) m ((k : Int) - 1074) ∧ m ≠ 0 := by
  obtain ⟨m, k, e, v⟩ := read_fin x h
  refine ⟨m, k, e, ?_⟩
  intro c; subst c
  rw [Nat.zero_mul] at v
  exact h0 (val_zero _ v.symm)
theorem write_inf (s : Bool) : double.write (.infinity s) = double.word s INF := by
  show double.word s double.infRung = _
  rw [inf_eq]
/-- The rung of a product. -/
def f1 (r s : Nat) : Nat := min (rq 1074 (val r * val s) 1) INF
theorem f1_inf (r : Nat) (h : 2 ^ ex ≤ val r) : f1 r INF = INF := by
  unfold f1
  have h1 := rq_mono 1074 (val INF * 2 ^ ex) (val r * val INF) 1 (by decide) (by rw [Nat.mul_comm]; exact Nat.mul_le_mul_right _ h)
  have h2 := rq_scale 0 (val INF) 1 ex (by decide)
  rw [rq_val, show 0 + ex = 1074 by rw [hex]] at h2
  rw [h2] at h1
  exact Nat.min_eq_right h1
theorem mul_num (x y : Nat) (hx : Fin' x) (h1 : 2 ^ ex ≤ val (rg x)) (hy : Num y) : double.mul x y = some (double.word (negB x ^^ negB y) (f1 (rg x) (rg y))) := by
  rcases Nat.eq_or_lt_of_le hy with c | c
  · have h0 : rg x ≠ 0 := by
      intro z
      rw [z] at h1
      have : 0 < 2 ^ ex := Nat.two_pow_pos _
      have e : val 0 = 0 := rfl
      omega
    obtain ⟨m, k, e, hm⟩ := read_pos x hx h0
    unfold Format.mul
    rw [e, read_inf y c, c, f1_inf _ h1]
    unfold Datum.product
    dsimp only
    rw [if_neg hm, Option.map_some, write_inf]
    cases negB x <;> cases negB y <;> rfl
  · exact mul_fin x y hx c
/-- A hundred's rung. -/
def r100 : Nat := 4636737291354636288
def f2 (r : Nat) : Nat := if r = INF then INF else min (rq 0 (val r * 2 ^ ex) (val r100)) INF
theorem div_num (y : Nat) (hy : Num y) : double.div y 4636737291354636288 = some (double.word (negB y) (f2 (rg y))) := by
  have e1 : negB 4636737291354636288 = false := by decide
  have e2 : rg 4636737291354636288 = r100 := by decide
  have hc : Fin' 4636737291354636288 := by show _ < _; decide
  unfold f2
  rcases Nat.eq_or_lt_of_le hy with c | c
  · obtain ⟨m, k, e, hm⟩ := read_pos 4636737291354636288 hc (by decide)
    unfold Format.div
    rw [e, read_inf y c, if_pos c, e1]
    unfold Datum.quotient
    dsimp only
    rw [Option.map_some, write_inf]
    cases negB y <;> rfl
  · have h := div_fin y 4636737291354636288 c hc (by decide)
    rw [h, e1, e2, if_neg (Nat.ne_of_lt c)]
    cases negB y <;> rfl
theorem f1_le (r s : Nat) : f1 r s ≤ INF := Nat.min_le_right _ _
theorem f2_le (r : Nat) : f2 r ≤ INF := by unfold f2; split; exact Nat.le_refl _; exact Nat.min_le_right _ _
theorem f1_mono (r s s' : Nat) (h : s ≤ s') : f1 r s ≤ f1 r s' := by
  have := rq_mono 1074 _ _ 1 (by decide) (Nat.mul_le_mul_left (val r) (val_le _ _ h))
  unfold f1
  omega
theorem val_r100 : val r100 = 100 * 2 ^ ex := by decide +kernel
theorem r100_pos : 0 < val r100 := by rw [val_r100]; exact Nat.mul_pos (by decide) (Nat.two_pow_pos _)
theorem f2_mono (r r' : Nat) (h : r ≤ r') (h' : r' ≤ INF) : f2 r ≤ f2 r' := by
  by_cases c : r' = INF
  · unfold f2
    rw [if_pos c]
    exact f2_le r
  · unfold f2
    rw [if_neg c, if_neg (by omega)]
    have := rq_mono 0 _ _ (val r100) r100_pos (Nat.mul_le_mul_right (2 ^ ex) (val_le _ _ h))
    omega
/-- A share's quotient as a word. -/
def qw (s p : Nat) : Nat := double.word (negB p) (f2 (f1 (rg s) (rg p)))
theorem inf63 {r : Nat} (h : r ≤ INF) : r < 2 ^ 63 := by
  have : INF = 2047 * 2 ^ 52 := rfl
  omega
theorem share_steps (s p : Nat) (hs : Fin' s) (h1 : 2 ^ ex ≤ val (rg s)) (hn : negB s = false) (hp : Num p) : ∃ m, double.mul s p = some m ∧ double.div m 4636737291354636288 = some (qw s p) := by
  refine ⟨_, mul_num s p hs h1 hp, ?_⟩
  rw [hn, Bool.false_xor]
  have hw := word_rg (negB p) (f1 (rg s) (rg p)) (inf63 (f1_le _ _))
  have := div_num (double.word (negB p) (f1 (rg s) (rg p))) (by unfold Num; rw [hw.1]; exact f1_le _ _)
  rw [this, hw.1, hw.2]
  rfl
/-- The size as a float. -/
theorem size_float (n : Int) (h1 : 1 ≤ n) (h2 : n < 2 ^ 63) : ∃ s, double.write (.number (n < 0) n.natAbs 0) = s ∧ Fin' s ∧ 2 ^ ex ≤ val (rg s) ∧ negB s = false ∧ rg s = rq 0 (n.natAbs * 2 ^ ex) 1 := by
  refine ⟨_, rfl, ?_⟩
  rw [ofInt_rq]
  have hI : INF = 2047 * 2 ^ 52 := rfl
  have hb : rq 0 (n.natAbs * 2 ^ ex) 1 < INF := by
    have g1 := rq_mono 0 (n.natAbs * 2 ^ ex) (2 ^ 63 * 2 ^ ex) 1 (by decide) (Nat.mul_le_mul_right _ (by omega))
    have g2 : rq 0 (2 ^ 63 * 2 ^ ex) 1 < INF := by decide +kernel
    omega
  have hlow : 2 ^ ex ≤ val (rq 0 (n.natAbs * 2 ^ ex) 1) := by
    have g1 := rq_mono 0 (1 * 2 ^ ex) (n.natAbs * 2 ^ ex) 1 (by decide) (Nat.mul_le_mul_right _ (by omega))
    have g2 := rq_exact 1 ex (by decide)
    have g3 := val_le _ _ g1
    rw [g2, Nat.one_mul] at g3
    exact g3
  rw [Nat.min_eq_left (Nat.le_of_lt hb)]
  have hw := word_rg (decide (n < 0)) (rq 0 (n.natAbs * 2 ^ ex) 1) (by omega)
  refine ⟨by unfold Fin'; rw [hw.1]; exact hb, by rw [hw.1]; exact hlow, ?_, hw.1⟩
  rw [hw.2]
  exact decide_eq_false (by omega)
/-- What a share is: sf is the size as a float. -/
def shp (n : Int) (sf p : Nat) : Int := if negB p then 0 else min n (nw (f2 (f1 (rg sf) (rg p))))
theorem share_val (n : Int) (sf p : Nat) (h1 : 1 ≤ n) (h2 : n < 2 ^ 63) : max 0 (min n (wh (qw sf p))) = shp n sf p := by
  have hw := word_rg (negB p) (f2 (f1 (rg sf) (rg p))) (inf63 (f2_le _))
  unfold wh shp qw
  rw [hw.1, hw.2, if_neg (Nat.not_lt.2 (f2_le _))]
  generalize nw (f2 (f1 (rg sf) (rg p))) = N
  cases negB p
  · simp only [Bool.false_eq_true, if_false]; omega
  · simp only [if_true]; omega
theorem shp_range (n : Int) (sf p : Nat) (h1 : 1 ≤ n) : 0 ≤ shp n sf p ∧ shp n sf p ≤ n := by
  unfold shp
  split <;> omega
/-- More percent is no less. -/
theorem shp_mono (n : Int) (sf p q : Nat) (h1 : 1 ≤ n) (hp : Num p) (hq : Num q) (h : sval p ≤ sval q) : shp n sf p ≤ shp n sf q := by
  have a1 := shp_range n sf p h1
  have a2 := shp_range n sf q h1
  unfold shp at *
  unfold sval at h
  cases cp : negB p
  · rw [cp] at h a1
    simp only [Bool.false_eq_true, if_false] at h a1 ⊢
    have key : rg p ≤ rg q → nw (f2 (f1 (rg sf) (rg p))) ≤ nw (f2 (f1 (rg sf) (rg q))) := fun c =>
      nw_mono _ _ (f2_mono _ _ (f1_mono _ _ _ c) (f1_le _ _))
    cases cq : negB q
    · rw [cq] at h
      simp only [Bool.false_eq_true, if_false] at h ⊢
      have : rg p ≤ rg q := by
        rcases Nat.lt_or_ge (rg q) (rg p) with c | c
        · have := val_lt _ _ c; omega
        · exact c
      have := key this
      omega
    · rw [cq] at h
      simp only [if_true] at h ⊢
      have z : rg p = 0 := val_zero _ (by omega)
      rw [z]
      have e1 : f1 (rg sf) 0 = 0 := by
        unfold f1
        rw [show val 0 = 0 from rfl, Nat.mul_zero, rq_zero 1074 1 (by decide), Nat.zero_min]
      have e2 : f2 0 = 0 := by
        unfold f2
        rw [if_neg (by decide), show val 0 = 0 from rfl, Nat.zero_mul, rq_zero 0 _ r100_pos, Nat.zero_min]
      have e3 : nw 0 = 0 := by decide +kernel
      rw [e1, e2, e3]
      omega
  · simp only [if_true]
    cases cq : negB q
    · rw [cq] at a2; simpa using a2.1
    · simp
theorem m4 (N U : Nat) : N * U * (100 * U) = N * 100 * U * U := by ac_rfl
/-- A hundred is all. -/
theorem shp_all (n : Int) (sf : Nat) (h1 : 1 ≤ n) (h2 : n < 2 ^ 40) (hs : rg sf = rq 0 (n.natAbs * 2 ^ ex) 1) : shp n sf 4636737291354636288 = n := by
  have e1 : negB 4636737291354636288 = false := by decide
  have e2 : rg 4636737291354636288 = r100 := by decide
  obtain ⟨N, hN⟩ : ∃ N : Nat, n = N := ⟨n.natAbs, by omega⟩
  subst hN
  have hN : N < 2 ^ 40 := by omega
  rw [Int.natAbs_natCast] at hs
  have ev : val (rg sf) = N * 2 ^ ex := by rw [hs]; exact rq_exact N ex (by omega)
  unfold shp
  rw [e1, e2]
  have v1 : val (rq 1074 (val (rg sf) * val r100) 1) = N * 100 * 2 ^ ex := by
    rw [ev, val_r100]
    have := rq_scale 0 (N * 100 * 2 ^ ex) 1 ex (by decide)
    rw [show 0 + ex = 1074 by rw [hex]] at this
    rw [m4, this]
    exact rq_exact (N * 100) ex (by omega)
  have big : N * 100 * 2 ^ ex < val INF := by
    have h3 := val_INF_big
    have h4 : N * 100 * 2 ^ ex < 2 ^ 63 * 2 ^ ex := Nat.mul_lt_mul_of_pos_right (by omega) (Nat.two_pow_pos _)
    have e : ((2 ^ 63 * 2 ^ ex : Nat) : Int) = 2 ^ 63 * 2 ^ ex := big_cast
    rw [← e] at h3
    exact Nat.lt_of_lt_of_le h4 (Int.ofNat_le.1 h3)
  have hlt : rq 1074 (val (rg sf) * val r100) 1 < INF := rung_lt _ _ (Nat.le_of_eq v1) big
  have w1 : f1 (rg sf) r100 = rq 1074 (val (rg sf) * val r100) 1 := by unfold f1; exact Nat.min_eq_left (Nat.le_of_lt hlt)
  have v2 : rq 0 (val (f1 (rg sf) r100) * 2 ^ ex) (val r100) = rq 0 (N * 2 ^ ex) 1 := by
    rw [w1, v1, val_r100]
    have := rq_mulc 0 (N * 2 ^ ex) 1 (100 * 2 ^ ex) (Nat.mul_pos (by decide) (Nat.two_pow_pos _))
    rw [Nat.one_mul] at this
    rw [← this, m4]
  have v3 : val (rq 0 (N * 2 ^ ex) 1) = N * 2 ^ ex := rq_exact N ex (by omega)
  have lt2 : rq 0 (N * 2 ^ ex) 1 < INF := rung_lt _ _ (Nat.le_of_eq v3) (Nat.lt_of_le_of_lt (Nat.mul_le_mul_right _ (by omega)) big)
  have w2 : f2 (f1 (rg sf) r100) = rq 0 (N * 2 ^ ex) 1 := by
    unfold f2
    rw [if_neg (by rw [w1]; exact Nat.ne_of_lt hlt), v2, Nat.min_eq_left (Nat.le_of_lt lt2)]
  have w3 : nw (f2 (f1 (rg sf) r100)) = N := by
    rw [nw_frac, w2, v3, Nat.mul_div_cancel _ (Nat.two_pow_pos _), Nat.mul_mod_left, if_neg (by have := Nat.two_pow_pos (ex - 1); omega)]
    rfl
  rw [w3]
  simp
/-- None is nothing. -/
theorem shp_none (n : Int) (sf : Nat) (h1 : 1 ≤ n) : shp n sf 0 = 0 := by
  have z : rg 0 = 0 := by decide
  have e1 : f1 (rg sf) 0 = 0 := by
    unfold f1
    rw [show val 0 = 0 from rfl, Nat.mul_zero, rq_zero 1074 1 (by decide), Nat.zero_min]
  have e2 : f2 0 = 0 := by
    unfold f2
    rw [if_neg (by decide), show val 0 = 0 from rfl, Nat.zero_mul, rq_zero 0 _ r100_pos, Nat.zero_min]
  have e3 : nw 0 = 0 := by decide +kernel
  have e4 : negB 0 = false := by decide
  unfold shp
  rw [e4, z, e1, e2, e3]
  simp
  omega
end Go.Proofs.YtmoofecphpknfaaGreatDoor
