/- Calc: comparing floats by their worth; both ways to a whole number are one. No program in sight. -/
import Derived.Test.YtmoofecphpknfaaGreatDoorWhl
namespace Go.Proofs.YtmoofecphpknfaaGreatDoor
open Ieee
set_option linter.unusedVariables false
set_option linter.unusedSimpArgs false

/-- No NaN. -/
def Num (x : Nat) : Prop := rg x ≤ INF
theorem ky_inf (x : Nat) (h : rg x = INF) : ky x = some (if negB x then -1 else 1, 0) := by
  have e : double.read x = .infinity (negB x) := by
    unfold Format.read
    rw [sw_eq, bin_eq, inf_eq]
    have hr : x % 2 ^ 63 = INF := h
    have hn : (x / 2 ^ 63 % 2 == 1) = negB x := rfl
    rw [hr, hn]
    rfl
  unfold ky
  rw [e]
  rfl
theorem ky_nan (x : Nat) (h : ¬ Num x) : ky x = none := by
  have e : double.read x = .nan (negB x) (rg x - INF) := by
    unfold Num at h
    unfold Format.read
    rw [sw_eq, bin_eq, inf_eq]
    have hr : x % 2 ^ 63 = rg x := rfl
    have hn : (x / 2 ^ 63 % 2 == 1) = negB x := rfl
    rw [hr, hn]
    dsimp only
    have hI : INF = 2047 * 2 ^ 52 := rfl
    rw [if_neg (by omega), if_neg (by omega), if_neg (by omega)]
  unfold ky
  rw [e]
  rfl
theorem sval_lt (x : Nat) (h : Fin' x) : -(val INF : Int) < sval x ∧ sval x < val INF := by
  have h1 := val_lt _ _ h
  have h2 : val (2047 * 2 ^ 52) = val INF := rfl
  unfold sval
  split <;> omega
theorem sval_inf (x : Nat) (h : rg x = INF) : sval x = if negB x then -(val INF : Int) else val INF := by
  unfold sval; rw [h]
theorem INF_pos : (0 : Int) < val INF := by
  have := val_lt 0 INF (by decide)
  omega
theorem ord_sval (x y : Nat) (hx : Num x) (hy : Num y) : double.order x y = some (if sval x < sval y then .lt else if sval x = sval y then .eq else .gt) := by
  have hI := INF_pos
  rw [ord_key]
  have fin2 : ∀ p q : Int × Int, ∀ a b : Int, (p.1 < q.1 ∨ (p.1 = q.1 ∧ p.2 < q.2) ↔ a < b) → (p.1 = q.1 ∧ p.2 = q.2 ↔ a = b) → some (cmpP p q) = some (if a < b then Ordering.lt else if a = b then .eq else .gt) := by
    intro p q a b h1 h2
    unfold cmpP
    simp only [h1, h2]
  rcases Nat.eq_or_lt_of_le hx with ax | ax <;> rcases Nat.eq_or_lt_of_le hy with ay | ay
  · rw [ky_inf x ax, ky_inf y ay, sval_inf x ax, sval_inf y ay]
    generalize val INF = V at *
    refine fin2 _ _ _ _ ?_ ?_ <;> cases negB x <;> cases negB y <;> simp <;> omega
  · have b := sval_lt y ay
    rw [ky_inf x ax, ky_fin y ay, sval_inf x ax]
    generalize val INF = V at *
    refine fin2 _ _ _ _ ?_ ?_ <;> cases negB x <;> simp <;> omega
  · have b := sval_lt x ax
    rw [ky_fin x ax, ky_inf y ay, sval_inf y ay]
    generalize val INF = V at *
    refine fin2 _ _ _ _ ?_ ?_ <;> cases negB y <;> simp <;> omega
  · rw [ky_fin x ax, ky_fin y ay]
    refine fin2 _ _ _ _ ?_ ?_ <;> simp
theorem ord_nan (x y : Nat) (h : ¬ Num x ∨ ¬ Num y) : double.order x y = none := by
  rw [ord_key]
  rcases h with h | h
  · rw [ky_nan x h]; rfl
  · rw [ky_nan y h]; cases ky x <;> rfl
/-- The whole number that chapter 2 speaks of. -/
def wh (x : Nat) : Int := if INF < rg x then 0 else max (-2 ^ 63) (min (2 ^ 63 - 1) (if negB x then -(nw (rg x) : Int) else nw (rg x)))
/-- A float without a fraction as an int. -/
def pw (y : Nat) : Int := if INF < rg y then 0 else if 2 ^ 63 * 2 ^ ex ≤ sval y then 2 ^ 63 - 1 else if sval y ≤ -(2 ^ 63 * 2 ^ ex) then -2 ^ 63 else if negB y then -((val (rg y) / 2 ^ ex : Nat) : Int) else ((val (rg y) / 2 ^ ex : Nat) : Int)
theorem sval_word (s : Bool) (r : Nat) (h : r < 2 ^ 63) : sval (double.word s r) = if s then -(val r : Int) else val r := by
  unfold sval
  rw [(word_rg s r h).1, (word_rg s r h).2]
theorem rndR_lt (r : Nat) (h : r < 2 ^ 63) : rndR r < 2 ^ 63 := by
  unfold rndR
  split
  · decide
  split
  · decide
  split
  · rename_i a b c
    refine Nat.lt_of_le_of_lt (Nat.div_mul_le_self _ _) ?_
    have : 2 ^ (1074 - r / 2 ^ 52) ≤ 2 ^ 51 := Nat.pow_le_pow_right (by decide) (by omega)
    omega
  · exact h
theorem rndR_nan (r : Nat) (h : INF < r) : rndR r = r := by
  have hI : INF = 2047 * 2 ^ 52 := rfl
  unfold rndR
  rw [if_neg (by omega), if_neg (by omega), if_neg (by omega)]
theorem val_inj (r r' : Nat) (h : val r = val r') : r = r' := by
  rcases Nat.lt_trichotomy r r' with c | c | c
  · have := val_lt _ _ c; omega
  · exact c
  · have := val_lt _ _ c; omega
theorem pw_rnd (x : Nat) : pw (double.word (negB x) (rndR (rg x))) = wh x := by
  have hr : rg x < 2 ^ 63 := Nat.mod_lt _ (by decide)
  have hw := word_rg (negB x) _ (rndR_lt _ hr)
  unfold pw wh
  rw [hw.1, hw.2, sval_word _ _ (rndR_lt _ hr)]
  by_cases hn : INF < rg x
  · rw [rndR_nan _ hn, if_pos hn, if_pos hn]
  rw [if_neg hn]
  have hi : ¬ INF < rndR (rg x) := by
    unfold rndR
    split
    · decide
    split
    · decide
    split
    · rename_i a b c
      have h2 : 2 ^ (1074 - rg x / 2 ^ 52) ≤ 2 ^ 51 := Nat.pow_le_pow_right (by decide) (by omega)
      have := Nat.div_mul_le_self (rg x + 2 ^ (1074 - rg x / 2 ^ 52)) (2 ^ (1075 - rg x / 2 ^ 52))
      have hI : INF = 2047 * 2 ^ 52 := rfl
      omega
    · exact hn
  rw [if_neg hi, val_rnd]
  have hp : 0 < 2 ^ ex := Nat.two_pow_pos ex
  rw [Nat.mul_div_cancel _ hp]
  have hp' : (0 : Int) < 2 ^ ex := two_pos ex
  generalize nw (rg x) = n
  have e1 : ((n * 2 ^ ex : Nat) : Int) = (n : Int) * 2 ^ ex := by
    rw [Int.natCast_mul, Int.natCast_pow]; rfl
  rw [e1]
  have l1 : ∀ a b : Int, (a * 2 ^ ex ≤ b * 2 ^ ex) ↔ a ≤ b := fun a b => ⟨fun h => Int.le_of_mul_le_mul_right h hp', fun h => Int.mul_le_mul_of_nonneg_right h (Int.le_of_lt hp')⟩
  have e2 : -((2 : Int) ^ 63 * 2 ^ ex) = -2 ^ 63 * 2 ^ ex := by rw [Int.neg_mul]
  have e3 : -((n : Int) * 2 ^ ex) = -(n : Int) * 2 ^ ex := by rw [Int.neg_mul]
  rw [e2, e3]
  cases negB x
  · simp only [Bool.false_eq_true, if_false, l1]
    split
    · omega
    split
    · omega
    · omega
  · simp only [if_true, l1]
    split
    · omega
    split
    · omega
    · omega
end Go.Proofs.YtmoofecphpknfaaGreatDoor
