/- Calc: the reference's way to a whole number; shares. No program in sight. -/
import Derived.Test.YtmoofecphpknfaaGreatDoorWl2
namespace Go.Proofs.YtmoofecphpknfaaGreatDoor
open Ieee
set_option linter.unusedVariables false
set_option linter.unusedSimpArgs false

theorem cast_pow (n e : Nat) : ((n * 2 ^ e : Nat) : Int) = (n : Int) * 2 ^ e := by
  rw [Int.natCast_mul, Int.natCast_pow]; rfl
/-- What is cut off. -/
def cutI (x : Nat) : Int := if negB x then -((val (rg x) / 2 ^ ex : Nat) : Int) else ((val (rg x) / 2 ^ ex : Nat) : Int)
def InR (x : Nat) : Prop := -(2 ^ 63 * 2 ^ ex) < sval x ∧ sval x < 2 ^ 63 * 2 ^ ex
theorem big_gen (e : Nat) (he : e = 2047) : (2 : Int) ^ 63 * 2 ^ ex ≤ (val (e * 2 ^ 52 + 0) : Int) := by
  rw [val_mid e 0 (by omega) (by decide), Nat.add_zero, ← Nat.pow_add, ← Int.pow_add, Int.natCast_pow]
  have h2 : 2 ^ (63 + ex) ≤ 2 ^ (52 + (e - 1)) := Nat.pow_le_pow_right (by decide) (by rw [hex]; omega)
  have h3 : ((2 ^ (63 + ex) : Nat) : Int) ≤ ((2 ^ (52 + (e - 1)) : Nat) : Int) := Int.ofNat_le.2 h2
  rw [Int.natCast_pow, Int.natCast_pow] at h3
  exact h3
theorem val_INF_big : (2 : Int) ^ 63 * 2 ^ ex ≤ (val INF : Int) := big_gen 2047 rfl
theorem inr_fin (x : Nat) (h : Num x) (hr : InR x) : Fin' x := by
  rcases Nat.eq_or_lt_of_le h with c | c
  · exfalso
    have h1 := sval_inf x c
    have h2 := val_INF_big
    unfold InR at hr
    rw [h1] at hr
    split at hr <;> omega
  · exact c
theorem sval_abs (x : Nat) : (sval x).natAbs = val (rg x) := by
  unfold sval
  split <;> omega
theorem inr_val (x : Nat) (hr : InR x) : val (rg x) < 2 ^ 63 * 2 ^ ex := by
  have h := sval_abs x
  unfold InR at hr
  have e : ((2 ^ 63 * 2 ^ ex : Nat) : Int) = 2 ^ 63 * 2 ^ ex := cast_pow (2 ^ 63) ex
  omega
theorem cut_range (x : Nat) (hr : InR x) : -(2 ^ 63) < cutI x ∧ cutI x < 2 ^ 63 := by
  have h := inr_val x hr
  have h2 : val (rg x) / 2 ^ ex < 2 ^ 63 := (Nat.div_lt_iff_lt_mul (Nat.two_pow_pos _)).2 h
  unfold cutI
  generalize val (rg x) / 2 ^ ex = Q at *
  split <;> omega
theorem rung_lt (r M : Nat) (h : val r ≤ M) (hM : M < val INF) : r < INF := by
  rcases Nat.lt_or_ge r INF with c | c
  · exact c
  · have := val_le _ _ c; omega
/-- The reference: the whole part as a float. -/
theorem back_float (x : Nat) (hf : Fin' x) : ∃ y, double.write (.number (cutI x < 0) (cutI x).natAbs 0) = y ∧ Fin' y ∧ sval y = cutI x * 2 ^ ex := by
  refine ⟨_, rfl, ?_⟩
  rw [ofInt_rq]
  have ha : (cutI x).natAbs = val (rg x) / 2 ^ ex := by
    unfold cutI
    generalize val (rg x) / 2 ^ ex = Q
    split <;> omega
  have hv := (frac_gen ex (rg x)).2
  rw [ha]
  have hlt : rq 0 (val (rg x) / 2 ^ ex * 2 ^ ex) 1 < INF := rung_lt _ _ (Nat.le_trans (Nat.le_of_eq hv) (Nat.div_mul_le_self _ _)) (val_lt _ _ hf)
  rw [Nat.min_eq_left (Nat.le_of_lt hlt)]
  have hI : INF = 2047 * 2 ^ 52 := rfl
  have h63 : rq 0 (val (rg x) / 2 ^ ex * 2 ^ ex) 1 < 2 ^ 63 := by omega
  refine ⟨?_, ?_⟩
  · unfold Fin'
    rw [(word_rg _ _ h63).1]; exact hlt
  · rw [sval_word _ _ h63, hv, cast_pow, ← ha]
    have hp := two_pos ex
    by_cases c : cutI x < 0
    · rw [decide_eq_true c, if_pos rfl, ← Int.neg_mul, show -((cutI x).natAbs : Int) = cutI x by omega]
    · rw [decide_eq_false c, if_neg (by decide), show ((cutI x).natAbs : Int) = cutI x by omega]
theorem sval_split (x : Nat) : sval x - cutI x * 2 ^ ex = if negB x then -((val (rg x) % 2 ^ ex : Nat) : Int) else ((val (rg x) % 2 ^ ex : Nat) : Int) := by
  have hd := Nat.div_add_mod (val (rg x)) (2 ^ ex)
  have e : ((2 ^ ex * (val (rg x) / 2 ^ ex) : Nat) : Int) = ((val (rg x) / 2 ^ ex : Nat) : Int) * 2 ^ ex := by rw [Nat.mul_comm, cast_pow]
  unfold sval cutI
  generalize val (rg x) / 2 ^ ex = Q at *
  generalize val (rg x) % 2 ^ ex = R at *
  split
  · rw [Int.neg_mul]; omega
  · omega
theorem frac_float (x y : Nat) (hf : Fin' x) (hy : Fin' y) (hs : sval y = cutI x * 2 ^ ex) : ∃ d, double.sub x y = some d ∧ Num d ∧ sval d = if negB x then -((val (rg x) % 2 ^ ex : Nat) : Int) else ((val (rg x) % 2 ^ ex : Nat) : Int) := by
  refine ⟨_, sub_fin x y hf hy, ?_⟩
  rw [hs, sval_split]
  have hv := (frac_gen ex (rg x)).1
  have ha : (if negB x then -((val (rg x) % 2 ^ ex : Nat) : Int) else ((val (rg x) % 2 ^ ex : Nat) : Int)).natAbs = val (rg x) % 2 ^ ex := by split <;> omega
  rw [ha]
  have hlt : rq 0 (val (rg x) % 2 ^ ex) 1 < INF := rung_lt _ _ (Nat.le_trans (Nat.le_of_eq hv) (Nat.mod_le _ _)) (val_lt _ _ hf)
  rw [Nat.min_eq_left (Nat.le_of_lt hlt)]
  have hI : INF = 2047 * 2 ^ 52 := rfl
  have h63 : rq 0 (val (rg x) % 2 ^ ex) 1 < 2 ^ 63 := by omega
  refine ⟨?_, ?_⟩
  · unfold Num
    rw [(word_rg _ _ h63).1]; omega
  · rw [sval_word _ _ h63, hv]
    generalize val (rg x) % 2 ^ ex = R
    by_cases c : R = 0
    · subst c
      cases negB x <;> simp
    · have : ((R : Nat) : Int) ≠ 0 := by omega
      cases negB x
      · simp only [Bool.false_eq_true, if_false, if_neg this]
        rw [decide_eq_false (by omega)]; rfl
      · have t2 : -(R : Int) ≠ 0 := by omega
        simp only [if_true, if_neg t2]
        rw [decide_eq_true (by omega)]; rfl
theorem frac_small (E r : Nat) (hE : 53 ≤ E) (h : val r % 2 ^ E ≠ 0) : val r / 2 ^ E < 2 ^ 53 := by
  obtain ⟨m, j, hv, hm, _, _⟩ := val_parts r
  rw [hv] at h ⊢
  rcases Nat.lt_or_ge j E with q | q
  · have e : 2 ^ E = 2 ^ (E - j) * 2 ^ j := by rw [← Nat.pow_add]; congr 1; omega
    rw [e, Nat.mul_div_mul_right _ _ (Nat.two_pow_pos _)]
    exact Nat.lt_of_le_of_lt (Nat.div_le_self _ _) hm
  · exfalso
    refine h ?_
    rw [show 2 ^ j = 2 ^ (j - E) * 2 ^ E by rw [← Nat.pow_add]; congr 1; omega, ← Nat.mul_assoc, Nat.mul_mod_left]
theorem ref_gen (neg : Bool) (Q R : Nat) (H : Int) (hp : 0 < H) (hc : -(2 ^ 63) < (if neg then -(Q : Int) else (Q : Int)) ∧ (if neg then -(Q : Int) else (Q : Int)) < 2 ^ 63) (hsm : H ≤ (R : Int) → Q < 2 ^ 53) :
    (H ≤ (if neg then -(R : Int) else R) → max (-2 ^ 63 : Int) (min (2 ^ 63 - 1) (if neg then -((Q + (if H ≤ (R : Int) then 1 else 0) : Nat) : Int) else ((Q + (if H ≤ (R : Int) then 1 else 0) : Nat) : Int))) = (if neg then -(Q : Int) else (Q : Int)) + 1 ∧ (if neg then -(Q : Int) else (Q : Int)) + 1 < 2 ^ 63) ∧
    ((if neg then -(R : Int) else R) ≤ -H → max (-2 ^ 63 : Int) (min (2 ^ 63 - 1) (if neg then -((Q + (if H ≤ (R : Int) then 1 else 0) : Nat) : Int) else ((Q + (if H ≤ (R : Int) then 1 else 0) : Nat) : Int))) = (if neg then -(Q : Int) else (Q : Int)) - 1 ∧ -2 ^ 63 ≤ (if neg then -(Q : Int) else (Q : Int)) - 1) ∧
    (¬ H ≤ (if neg then -(R : Int) else R) → ¬ (if neg then -(R : Int) else R) ≤ -H → max (-2 ^ 63 : Int) (min (2 ^ 63 - 1) (if neg then -((Q + (if H ≤ (R : Int) then 1 else 0) : Nat) : Int) else ((Q + (if H ≤ (R : Int) then 1 else 0) : Nat) : Int))) = (if neg then -(Q : Int) else (Q : Int))) := by
  cases neg
  · simp only [Bool.false_eq_true, if_false] at *
    refine ⟨fun c => ?_, fun c => ?_, fun c1 c2 => ?_⟩
    · have := hsm c
      rw [if_pos c]; omega
    · omega
    · rw [if_neg c1]; omega
  · simp only [if_true] at *
    refine ⟨fun c => ?_, fun c => ?_, fun c1 c2 => ?_⟩
    · omega
    · have c' : H ≤ R := by omega
      have := hsm c'
      rw [if_pos c']; omega
    · rw [if_neg (by omega)]; omega
theorem wh_num (x : Nat) (h : Num x) (H : Int) (hH : ((2 ^ (ex - 1) : Nat) : Int) = H) : wh x = max (-2 ^ 63 : Int) (min (2 ^ 63 - 1) (if negB x then -((val (rg x) / 2 ^ ex + (if H ≤ ((val (rg x) % 2 ^ ex : Nat) : Int) then 1 else 0) : Nat) : Int) else ((val (rg x) / 2 ^ ex + (if H ≤ ((val (rg x) % 2 ^ ex : Nat) : Int) then 1 else 0) : Nat) : Int))) := by
  have hn : ¬ INF < rg x := Nat.not_lt.2 h
  subst hH
  unfold wh
  rw [if_neg hn, nw_frac]
  simp only [Int.ofNat_le]
/-- THE REFERENCE's ANSWER. -/
theorem ref_wh (x : Nat) (h : Num x) (hr : InR x) (S : Int) (hS : S = if negB x then -((val (rg x) % 2 ^ ex : Nat) : Int) else ((val (rg x) % 2 ^ ex : Nat) : Int)) :
    (2 ^ (ex - 1) ≤ S → wh x = cutI x + 1 ∧ cutI x + 1 < 2 ^ 63) ∧ (S ≤ -2 ^ (ex - 1) → wh x = cutI x - 1 ∧ -2 ^ 63 ≤ cutI x - 1) ∧ (¬ 2 ^ (ex - 1) ≤ S → ¬ S ≤ -2 ^ (ex - 1) → wh x = cutI x) := by
  have e1 : ((2 ^ (ex - 1) : Nat) : Int) = 2 ^ (ex - 1) := by rw [Int.natCast_pow]; rfl
  have hsm : (2 : Int) ^ (ex - 1) ≤ ((val (rg x) % 2 ^ ex : Nat) : Int) → val (rg x) / 2 ^ ex < 2 ^ 53 := by
    intro c
    refine frac_small ex (rg x) (by rw [hex]; decide) ?_
    intro z
    rw [z] at c
    have := two_pos (ex - 1)
    exact absurd c (Int.not_le.2 this)
  subst hS
  rw [wh_num x h _ e1]
  exact ref_gen (negB x) _ _ _ (two_pos _) (cut_range x hr) hsm
theorem out_gen (neg : Bool) (N V B : Nat) (hB : 0 < B) (big : B ≤ V → 2 ^ 63 ≤ N) : ((B : Int) ≤ (if neg then -(V : Int) else V) → max (-2 ^ 63 : Int) (min (2 ^ 63 - 1) (if neg then -(N : Int) else N)) = 2 ^ 63 - 1) ∧
    ((if neg then -(V : Int) else V) ≤ -(B : Int) → max (-2 ^ 63 : Int) (min (2 ^ 63 - 1) (if neg then -(N : Int) else N)) = -2 ^ 63) := by
  cases neg
  · simp only [Bool.false_eq_true, if_false]
    exact ⟨fun q => by have := big (by omega); omega, fun q => by omega⟩
  · simp only [if_true]
    exact ⟨fun q => by omega, fun q => by have := big (by omega); omega⟩
theorem cut_aux (x : Nat) (h : Num x) (B : Nat) (C : Int) (hC : (B : Int) = C) (hB : 0 < B) (hb : B ≤ val (rg x) → 2 ^ 63 ≤ nw (rg x)) : (C ≤ sval x → wh x = 2 ^ 63 - 1) ∧ (sval x ≤ -C → wh x = -2 ^ 63) := by
  have hn : ¬ INF < rg x := Nat.not_lt.2 h
  subst hC
  unfold wh sval
  rw [if_neg hn]
  exact out_gen (negB x) _ _ B hB hb
theorem big_nw (r K : Nat) (h : K * 2 ^ ex ≤ val r) : K ≤ nw r := by
  rw [nw_frac]
  exact Nat.le_trans ((Nat.le_div_iff_mul_le (Nat.two_pow_pos _)).2 h) (Nat.le_add_right _ _)
theorem big_cast : ((2 ^ 63 * 2 ^ ex : Nat) : Int) = 2 ^ 63 * 2 ^ ex := cast_pow (2 ^ 63) ex
theorem big_pos : 0 < 2 ^ 63 * 2 ^ ex := Nat.mul_pos (by decide) (Nat.two_pow_pos _)
theorem cut_out (x : Nat) (h : Num x) : (2 ^ 63 * 2 ^ ex ≤ sval x → wh x = 2 ^ 63 - 1) ∧ (sval x ≤ -(2 ^ 63 * 2 ^ ex) → wh x = -2 ^ 63) :=
  cut_aux x h _ _ big_cast big_pos (big_nw (rg x) (2 ^ 63))
end Go.Proofs.YtmoofecphpknfaaGreatDoor
