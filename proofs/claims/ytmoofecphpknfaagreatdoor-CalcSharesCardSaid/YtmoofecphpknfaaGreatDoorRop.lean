/- Calc: the operations on floats in terms of what their rungs are worth. No program in sight. -/
import Derived.Test.YtmoofecphpknfaaGreatDoorRnd
import Derived.Test.YtmoofecphpknfaaGreatDoorOrd
namespace Go.Proofs.YtmoofecphpknfaaGreatDoor
open Ieee
set_option linter.unusedVariables false
set_option linter.unusedSimpArgs false

/-- The digits below the point. -/
def ex : Nat := 1074
theorem hex : ex = 1074 := rfl
/-- A float's rung. -/
def rg (x : Nat) : Nat := x % 2 ^ 63
def Fin' (x : Nat) : Prop := rg x < 2047 * 2 ^ 52
theorem sw_eq : double.signWeight = 2 ^ 63 := rfl
theorem bin_eq : double.binade = 2 ^ 52 := rfl
theorem inf_eq : double.infRung = 2047 * 2 ^ 52 := by decide
theorem lp_eq : double.leastPlace = -1074 := by decide
theorem read_fin (x : Nat) (h : Fin' x) : ∃ (m k : Nat), double.read x = .number (negB x) m ((k : Int) - 1074) ∧ m * 2 ^ k = val (rg x) := by
  unfold Fin' at h
  unfold Format.read
  rw [sw_eq, bin_eq, inf_eq, lp_eq]
  have hr : x % 2 ^ 63 = rg x := rfl
  have hn : (x / 2 ^ 63 % 2 == 1) = negB x := rfl
  rw [hr, hn]
  dsimp only
  split
  · rename_i c
    exact ⟨rg x, 0, rfl, by unfold val; rw [if_pos c]; simp⟩
  · rename_i c
    refine ⟨2 ^ 52 + rg x % 2 ^ 52, rg x / 2 ^ 52 - 1, ?_, by unfold val; rw [if_neg c]⟩
    rw [Int.sub_eq_add_neg, Int.add_comm]
/-- What a float is worth. -/
def sval (x : Nat) : Int := if negB x then -(val (rg x) : Int) else val (rg x)
theorem val_zero (r : Nat) (h : val r = 0) : r = 0 := by
  rcases Nat.eq_zero_or_pos r with q | q
  · exact q
  · have := val_lt 0 r q
    omega
theorem signed_pow (s : Bool) (m k : Nat) : signed s m k = if s then -((m * 2 ^ k : Nat) : Int) else ((m * 2 ^ k : Nat) : Int) := by
  unfold signed; rw [Nat.shiftLeft_eq]
theorem ky_fin (x : Nat) (h : Fin' x) : ky x = some (0, sval x) := by
  obtain ⟨m, k, e, v⟩ := read_fin x h
  unfold ky
  rw [e, lp_eq]
  show some (0, signed (negB x) m ((k : Int) - 1074 - -1074).toNat) = _
  rw [show ((k : Int) - 1074 - -1074).toNat = k by omega, signed_pow, v]
  rfl
abbrev INF : Nat := 2047 * 2 ^ 52
theorem mul_fin (x y : Nat) (hx : Fin' x) (hy : Fin' y) : double.mul x y = some (double.word (negB x ^^ negB y) (min (rq 1074 (val (rg x) * val (rg y)) 1) INF)) := by
  obtain ⟨m, k, e, v⟩ := read_fin x hx
  obtain ⟨n, j, f, w⟩ := read_fin y hy
  unfold Format.mul
  rw [e, f]
  show some (double.nearest _ _ _) = _
  rw [nearest_rq _ _ _ 1074 (by omega)]
  rw [show ((k : Int) - 1074 + ((j : Int) - 1074) + 1074 + (1074 : Nat)).toNat = k + j by omega, ← v, ← w]
  rw [show m * n * 2 ^ (k + j) = m * 2 ^ k * (n * 2 ^ j) by rw [Nat.pow_add]; ac_rfl]
theorem quot_big (m n : Nat) (hm : m ≠ 0) (hn : n ≠ 0) (u : Nat) (hu : 54 + n.log2 - m.log2 ≤ u) : 2 ^ 53 ≤ m * 2 ^ u / n := by
  have h1 := log2_bounds m hm
  have h2 := log2_bounds n hn
  refine (Nat.le_div_iff_mul_le (Nat.pos_of_ne_zero hn)).2 ?_
  refine Nat.le_trans (Nat.mul_le_mul_left _ (Nat.le_of_lt h2.2)) ?_
  refine Nat.le_trans ?_ (Nat.mul_le_mul_right _ h1.1)
  rw [← Nat.pow_add, ← Nat.pow_add]
  exact Nat.pow_le_pow_right (by decide) (by omega)
theorem div_key (m n k j u E : Nat) (hn0 : 0 < n) : rq (j + u + 1) (m * 2 ^ u * 2 ^ (k + E + 1)) n = rq 0 (m * 2 ^ k * 2 ^ E) (n * 2 ^ j) := by
  have hh := rq_scale 0 (m * 2 ^ k * 2 ^ E) (n * 2 ^ j) j (Nat.mul_pos hn0 (Nat.two_pow_pos _))
  rw [Nat.zero_add] at hh
  have h2 := rq_mulc j (m * 2 ^ k * 2 ^ E) n (2 ^ j) (Nat.two_pow_pos j)
  have h3 := rq_scale j (m * 2 ^ k * 2 ^ E) n (u + 1) hn0
  rw [← hh, h2, ← h3, Nat.add_assoc]
  have h4 : m * 2 ^ u * 2 ^ (k + E + 1) = m * 2 ^ k * 2 ^ E * 2 ^ (u + 1) := by
    rw [Nat.pow_add 2 (k + E), Nat.pow_add 2 k, Nat.pow_add 2 u]
    ac_rfl
  rw [h4]
theorem div_fin (x y : Nat) (hx : Fin' x) (hy : Fin' y) (h0 : rg y ≠ 0) : double.div x y = some (double.word (negB x ^^ negB y) (min (rq 0 (val (rg x) * 2 ^ ex) (val (rg y))) INF)) := by
  obtain ⟨m, k, e, v⟩ := read_fin x hx
  obtain ⟨n, j, f, w⟩ := read_fin y hy
  have hn : n ≠ 0 := by
    intro c; subst c
    rw [Nat.zero_mul] at w
    exact h0 (val_zero _ w.symm)
  unfold Format.div
  rw [e, f]
  unfold Datum.quotient
  dsimp only
  rw [if_neg hn, Option.map_some]
  unfold Format.write
  dsimp only
  rw [← v, ← w]
  by_cases hm : m = 0
  · subst hm
    rw [Nat.zero_mul, Nat.zero_mul, rq_zero _ _ (Nat.mul_pos (Nat.pos_of_ne_zero hn) (Nat.two_pow_pos _))]
    have : 2 * (0 <<< (double.fractionBits + 2 + n.log2 - Nat.log2 0) / n) + (0 <<< (double.fractionBits + 2 + n.log2 - Nat.log2 0) % n != 0).toNat = 0 := by
      rw [Nat.shiftLeft_eq, Nat.zero_mul, Nat.zero_div, Nat.zero_mod]; rfl
    rw [this]
    unfold Format.nearest
    rw [if_pos rfl, Nat.zero_min]
  have hex := hex
  have hs := fun u => sticky_rq (j + u + 1) (m * 2 ^ u) n (k + ex + 1) (Nat.pos_of_ne_zero hn)
  have hb := quot_big m n hm hn
  rw [show double.fractionBits + 2 = 54 from rfl]
  generalize hu : 54 + n.log2 - m.log2 = u
  have hst : 2 * (m <<< u / n) + (m <<< u % n != 0).toNat = sticky (m * 2 ^ u) n := by rw [Nat.shiftLeft_eq]; rfl
  rw [hst, nearest_rq _ _ _ (j + u + 1) (by omega)]
  rw [show ((k : Int) - 1074 - ((j : Int) - 1074) - u - 1 + 1074 + ((j + u + 1 : Nat) : Int)).toNat = k + ex + 1 - 1 by omega]
  rw [hs u (hb u (by omega)) (by omega)]
  have hex := hex
  have hn0 := Nat.pos_of_ne_zero hn
  rw [div_key m n k j u ex hn0]
theorem sum_fin (s t : Bool) (m n k j : Nat) : ((Datum.number s m ((k : Int) - 1074)).sum (.number t n ((j : Int) - 1074))).map double.write =
    some (double.word (if (if s then -((m * 2 ^ k : Nat) : Int) else ((m * 2 ^ k : Nat) : Int)) + (if t then -((n * 2 ^ j : Nat) : Int) else ((n * 2 ^ j : Nat) : Int)) = 0 then s && t else (if s then -((m * 2 ^ k : Nat) : Int) else ((m * 2 ^ k : Nat) : Int)) + (if t then -((n * 2 ^ j : Nat) : Int) else ((n * 2 ^ j : Nat) : Int)) < 0)
      (min (rq 0 ((if s then -((m * 2 ^ k : Nat) : Int) else ((m * 2 ^ k : Nat) : Int)) + (if t then -((n * 2 ^ j : Nat) : Int) else ((n * 2 ^ j : Nat) : Int))).natAbs 1) INF)) := by
  unfold Datum.sum
  dsimp only
  show some (double.nearest _ _ _) = _
  rw [nearest_rq _ _ _ 0 (by omega)]
  rw [← signed_pow, ← signed_pow]
  have a1 : signed s m k = signed s m ((k : Int) - 1074 - min ((k : Int) - 1074) ((j : Int) - 1074)).toNat * 2 ^ (min k j) := by
    rw [← signed_add]; congr 1; omega
  have a2 : signed t n j = signed t n ((j : Int) - 1074 - min ((k : Int) - 1074) ((j : Int) - 1074)).toNat * 2 ^ (min k j) := by
    rw [← signed_add]; congr 1; omega
  rw [a1, a2, ← Int.add_mul]
  generalize signed s m ((k : Int) - 1074 - min ((k : Int) - 1074) ((j : Int) - 1074)).toNat + signed t n ((j : Int) - 1074 - min ((k : Int) - 1074) ((j : Int) - 1074)).toNat = T
  rw [show (min ((k : Int) - 1074) ((j : Int) - 1074) + 1074 + ((0 : Nat) : Int)).toNat = min k j by omega]
  have h := two_pos (min k j)
  have z1 : (T * 2 ^ min k j = 0) ↔ T = 0 := by
    constructor
    · intro q
      rcases Int.mul_eq_zero.1 q with q | q
      · exact q
      · omega
    · intro q; rw [q, Int.zero_mul]
  have z2 : (T * 2 ^ min k j < 0) ↔ T < 0 := by
    constructor
    · intro q
      rcases Int.lt_or_le T 0 with c | c
      · exact c
      · have := Int.mul_nonneg c (Int.le_of_lt h); omega
    · intro q; exact Int.mul_neg_of_neg_of_pos q h
  have z3 : (T * 2 ^ min k j).natAbs = T.natAbs * 2 ^ min k j := by
    rw [Int.natAbs_mul]; congr 1
  simp only [z1, z2, z3]
theorem sub_fin (x y : Nat) (hx : Fin' x) (hy : Fin' y) : double.sub x y = some (double.word (if sval x - sval y = 0 then negB x && !negB y else sval x - sval y < 0) (min (rq 0 (sval x - sval y).natAbs 1) INF)) := by
  obtain ⟨m, k, e, v⟩ := read_fin x hx
  obtain ⟨n, j, f, w⟩ := read_fin y hy
  unfold Format.sub
  rw [e, f]
  show ((Datum.number (negB x) m ((k : Int) - 1074)).sum (.number (!negB y) n ((j : Int) - 1074))).map double.write = _
  rw [sum_fin, v, w]
  have e2 : (if (!negB y) = true then -((val (rg y) : Nat) : Int) else ((val (rg y) : Nat) : Int)) = -sval y := by
    unfold sval; cases negB y <;> simp
  have e1 : (if negB x = true then -((val (rg x) : Nat) : Int) else ((val (rg x) : Nat) : Int)) = sval x := rfl
  rw [e1, e2, ← Int.sub_eq_add_neg]
theorem ofInt_rq (n : Int) : double.write (.number (n < 0) n.natAbs 0) = double.word (n < 0) (min (rq 0 (n.natAbs * 2 ^ ex) 1) INF) := by
  show double.nearest _ _ _ = _
  rw [nearest_rq _ _ _ 0 (by omega)]
  rw [show ((0 : Int) + 1074 + (0 : Nat)).toNat = ex from rfl]
theorem cut_zero (neg : Bool) (n d : Nat) : Toward.zero.cut neg n d = n / 2 ^ d := by
  unfold Toward.cut
  simp only [Nat.shiftLeft_eq, Nat.one_mul, Bool.toNat_false, Nat.add_zero]
  rcases Nat.lt_or_ge (n.log2 + 2) d with h | h
  · rw [Nat.min_eq_right (by omega)]
    have h1 : n < 2 ^ (n.log2 + 1) := Nat.lt_log2_self
    have h2 : 2 ^ (n.log2 + 1) ≤ 2 ^ d := Nat.pow_le_pow_right (by decide) (by omega)
    have h3 : 2 ^ (n.log2 + 1) ≤ 2 ^ (n.log2 + 2) := Nat.pow_le_pow_right (by decide) (by omega)
    rw [Nat.div_eq_of_lt (by omega), Nat.div_eq_of_lt (by omega)]
  · rw [Nat.min_eq_left h]
theorem toInt_fin (x : Nat) (h : Fin' x) : (double.read x).toInt .zero = some (if negB x then -((val (rg x) / 2 ^ ex : Nat) : Int) else ((val (rg x) / 2 ^ ex : Nat) : Int)) := by
  obtain ⟨m, k, e, v⟩ := read_fin x h
  rw [e]
  unfold Datum.toInt Datum.integral
  dsimp only
  rw [cut_zero, signed_pow, Nat.pow_zero, Nat.mul_one]
  have : m <<< ((k : Int) - 1074).toNat / 2 ^ (-((k : Int) - 1074)).toNat = val (rg x) / 2 ^ ex := by
    have hex := hex
    rw [← v, Nat.shiftLeft_eq]
    rcases Nat.lt_or_ge k 1074 with q | q
    · rw [show ((k : Int) - 1074).toNat = 0 by omega, show (-((k : Int) - 1074)).toNat = ex - k by omega, show 2 ^ ex = 2 ^ (ex - k) * 2 ^ k by rw [← Nat.pow_add]; congr 1; omega, Nat.mul_div_mul_right _ _ (Nat.two_pow_pos _), Nat.pow_zero, Nat.mul_one]
    · rw [show ((k : Int) - 1074).toNat = k - ex by omega, show (-((k : Int) - 1074)).toNat = 0 by omega, show 2 ^ k = 2 ^ (k - ex) * 2 ^ ex by rw [← Nat.pow_add]; congr 1; omega, ← Nat.mul_assoc, Nat.mul_div_cancel _ (Nat.two_pow_pos _), Nat.pow_zero, Nat.div_one]
  rw [this]
/-- A word read again. -/
theorem word_rg (s : Bool) (r : Nat) (h : r < 2 ^ 63) : rg (double.word s r) = r ∧ negB (double.word s r) = s := by
  unfold rg negB Format.word
  rw [sw_eq]
  cases s
  · simp only [Bool.false_eq_true, if_false]
    rw [Nat.mod_eq_of_lt h, Nat.div_eq_of_lt h]
    exact ⟨rfl, rfl⟩
  · simp only [if_true]
    rw [Nat.add_mod_left, Nat.mod_eq_of_lt h, Nat.add_div_left _ (by decide), Nat.div_eq_of_lt h]
    exact ⟨rfl, rfl⟩
theorem word_of (x : Nat) (h : x < 2 ^ 64) : double.word (negB x) (rg x) = x := by
  unfold rg negB Format.word
  rw [sw_eq]
  by_cases c : x < 2 ^ 63
  · rw [show x / 2 ^ 63 % 2 = 0 by omega]
    simp; omega
  · rw [show x / 2 ^ 63 % 2 = 1 by omega]
    simp; omega
end Go.Proofs.YtmoofecphpknfaaGreatDoor
