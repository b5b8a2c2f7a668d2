/- Calc: the bits that Round takes. No program in sight. -/
import Derived.Test.YtmoofecphpknfaaGreatDoorWl3
import Derived.Laws.Bits64b
import Derived.Laws.BitsLemmas
namespace Go.Proofs.YtmoofecphpknfaaGreatDoor
open Ieee
set_option linter.unusedVariables false
set_option linter.unusedSimpArgs false

theorem and_exp (b : Nat) (h : b < 2 ^ 64) : bits .and .u64 ((b : Int) / 4503599627370496) 2047 = ((rg b / 2 ^ 52 : Nat) : Int) := by
  have hk : ∀ n : Int, 0 ≤ n → n < 2 ^ 64 → IntKind.u64.wrap n = n := fun n h0 h1 => by rw [IntKind.wrap_u64]; omega
  have := bits_mask .u64 64 (by decide) hk 11 (by decide) ((b : Int) / 4503599627370496) (by omega) (by omega)
  rw [show (2 : Int) ^ 11 - 1 = 2047 by decide] at this
  rw [this]
  unfold rg
  omega
theorem and_sign (b : Nat) (h : b < 2 ^ 64) : bits .and .u64 (b : Int) 9223372036854775808 = if negB b then 9223372036854775808 else 0 := by
  have := bits_and_u64_nat b 9223372036854775808 (by omega) (by decide)
  rw [show ((9223372036854775808 : Nat) : Int) = 9223372036854775808 by decide] at this
  have h2 : b &&& 9223372036854775808 = if negB b then 9223372036854775808 else 0 := by
    refine Nat.eq_of_testBit_eq fun i => ?_
    rw [Nat.testBit_and, show 9223372036854775808 = 2 ^ 63 by decide, Nat.testBit_two_pow]
    by_cases c : 63 = i
    · subst c
      rw [Nat.testBit_eq_decide_div_mod_eq]
      unfold negB
      by_cases c2 : b / 2 ^ 63 % 2 = 1
      · rw [c2]; decide
      · rw [show b / 2 ^ 63 % 2 = 0 by omega]; decide
    · rw [decide_eq_false c, Bool.and_false]
      cases negB b
      · simp
      · simp only [if_true]
        rw [Nat.testBit_two_pow, decide_eq_false c]
  rw [this, h2]
  cases negB b <;> rfl
theorem andNot_low (a k : Nat) (ha : a < 2 ^ 64) (hk : k ≤ 64) : bits .andNot .u64 (a : Int) ((2 ^ k - 1 : Nat) : Int) = ((a / 2 ^ k * 2 ^ k : Nat) : Int) := by
  have h2 : 2 ^ k ≤ 2 ^ 64 := Nat.pow_le_pow_right (by decide) hk
  have hp : 0 < 2 ^ k := Nat.two_pow_pos k
  have hb : (BitVec.ofNat 64 a &&& ~~~BitVec.ofNat 64 (2 ^ k - 1)).toNat = a / 2 ^ k * 2 ^ k := by
    refine Nat.eq_of_testBit_eq fun i => ?_
    rw [BitVec.testBit_toNat, BitVec.getLsbD_and, BitVec.getLsbD_not, BitVec.getLsbD_ofNat, BitVec.getLsbD_ofNat, Nat.testBit_two_pow_sub_one, ← Nat.shiftRight_eq_div_pow, ← Nat.shiftLeft_eq, Nat.testBit_shiftLeft, Nat.testBit_shiftRight]
    by_cases hi : i < 64
    · by_cases c : i < k
      · simp [hi, c, Nat.not_le.2 c]
      · simp [hi, c, Nat.not_lt.1 c]
    · have : a.testBit i = false := Nat.testBit_lt_two_pow (Nat.lt_of_lt_of_le ha (Nat.pow_le_pow_right (by decide) (by omega)))
      by_cases c : k ≤ i
      · simp [hi, c, show k + (i - k) = i by omega, this]
      · simp [hi, c]
  have hm := Nat.div_mul_le_self a (2 ^ k)
  show IntKind.u64.wrap ((BitVec.ofInt 64 (a : Int) &&& ~~~BitVec.ofInt 64 ((2 ^ k - 1 : Nat) : Int)).toNat : Int) = _
  rw [BitVec.ofInt_natCast, BitVec.ofInt_natCast, hb, IntKind.wrap_u64]
  omega
theorem half_div (c : Nat) (h : c ≤ 51) : (2251799813685248 : Int) / 2 ^ c = ((2 ^ (51 - c) : Nat) : Int) := by
  have e : (2251799813685248 : Int) = ((2 ^ (51 - c) * 2 ^ c : Nat) : Int) := by
    rw [← Nat.pow_add, show 51 - c + c = 51 by omega]; decide
  have e2 : (2 : Int) ^ c = ((2 ^ c : Nat) : Int) := by rw [Int.natCast_pow]; rfl
  rw [e, e2, ← Int.natCast_ediv, Nat.mul_div_cancel _ (Nat.two_pow_pos c)]
theorem mask_div (c : Nat) (h : c ≤ 52) : (4503599627370495 : Int) / 2 ^ c = ((2 ^ (52 - c) - 1 : Nat) : Int) := by
  have e : (4503599627370495 : Int) = ((2 ^ (52 - c) * 2 ^ c - 1 : Nat) : Int) := by
    rw [← Nat.pow_add, show 52 - c + c = 52 by omega]; decide
  have e2 : (2 : Int) ^ c = ((2 ^ c : Nat) : Int) := by rw [Int.natCast_pow]; rfl
  have hp := Nat.two_pow_pos c
  have hq := Nat.two_pow_pos (52 - c)
  rw [e, e2, ← Int.natCast_ediv]
  congr 1
  have e3 : 2 ^ (52 - c) * 2 ^ c - 1 = 2 ^ c - 1 + (2 ^ (52 - c) - 1) * 2 ^ c := by
    rw [Nat.sub_mul, Nat.one_mul]
    have : 1 * 2 ^ c ≤ 2 ^ (52 - c) * 2 ^ c := Nat.mul_le_mul_right _ hq
    omega
  rw [e3, Nat.add_mul_div_right _ _ hp, Nat.div_eq_of_lt (by omega), Nat.zero_add]
/-- Round's third way, on bits. -/
theorem rnd_mid (b c : Nat) (h : b < 2 ^ 64) (hc : rg b / 2 ^ 52 = 1023 + c) (hc2 : c ≤ 51) :
    (bits .andNot .u64 (IntKind.u64.wrap ((b : Int) + 2251799813685248 / 2 ^ c)) (4503599627370495 / 2 ^ c)).toNat = double.word (negB b) (rndR (rg b)) := by
  have h1 : 2 ^ (51 - c) ≤ 2 ^ 51 := Nat.pow_le_pow_right (by decide) (by omega)
  rw [half_div c hc2, mask_div c (by omega), IntKind.wrap_u64]
  have hw := word_of b h
  have hb : b + 2 ^ (51 - c) < 2 ^ 64 := by
    unfold rg at hc
    omega
  have hmod : ((b : Int) + ((2 ^ (51 - c) : Nat) : Int)) % 18446744073709551616 = ((b + 2 ^ (51 - c) : Nat) : Int) := by
    generalize 2 ^ (51 - c) = P at *
    omega
  rw [hmod, andNot_low _ _ hb (by omega), Int.toNat_natCast]
  unfold rndR
  rw [if_neg (by omega), if_neg (by omega), if_pos (by omega), hc, show 1074 - (1023 + c) = 51 - c by omega, show 1075 - (1023 + c) = 52 - c by omega]
  have e63 : 2 ^ 63 = 2 ^ (11 + c) * 2 ^ (52 - c) := by rw [← Nat.pow_add]; congr 1; omega
  have hp := Nat.two_pow_pos (52 - c)
  unfold Format.word at hw ⊢
  rw [sw_eq] at hw ⊢
  generalize negB b = s at *
  generalize rg b = r at *
  subst hw
  cases s
  · simp only [Bool.false_eq_true, if_false]
  · simp only [if_true]
    rw [show 2 ^ 63 + r + 2 ^ (51 - c) = r + 2 ^ (51 - c) + 2 ^ (11 + c) * 2 ^ (52 - c) by rw [← e63]; omega, Nat.add_mul_div_right _ _ hp, Nat.add_mul, ← e63]
    omega
theorem rnd_low (b : Nat) (h : b < 2 ^ 64) (hc : rg b / 2 ^ 52 < 1022) : (bits .and .u64 (b : Int) 9223372036854775808).toNat = double.word (negB b) (rndR (rg b)) := by
  rw [and_sign b h]
  unfold rndR
  rw [if_pos hc]
  cases negB b <;> decide
theorem rnd_one (b : Nat) (h : b < 2 ^ 64) (hc : rg b / 2 ^ 52 = 1022) : (bits .or .u64 (bits .and .u64 (b : Int) 9223372036854775808) 4607182418800017408).toNat = double.word (negB b) (rndR (rg b)) := by
  rw [and_sign b h]
  unfold rndR
  have hn : ¬ rg b / 2 ^ 52 < 1022 := by omega
  rw [if_neg hn, if_pos hc]
  cases negB b <;> decide
theorem rnd_high (b : Nat) (h : b < 2 ^ 64) (hc : 1075 ≤ rg b / 2 ^ 52) : b = double.word (negB b) (rndR (rg b)) := by
  unfold rndR
  rw [if_neg (by omega), if_neg (by omega), if_neg (by omega), word_of b h]
end Go.Proofs.YtmoofecphpknfaaGreatDoor
