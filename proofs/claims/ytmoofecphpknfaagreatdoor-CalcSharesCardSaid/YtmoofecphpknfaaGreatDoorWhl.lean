/- Calc: whole numbers of floats; the half away from nought. No program in sight. -/
import Derived.Test.YtmoofecphpknfaaGreatDoorRop
namespace Go.Proofs.YtmoofecphpknfaaGreatDoor
open Ieee
set_option linter.unusedVariables false
set_option linter.unusedSimpArgs false

/-- A rung rounded to a whole number, the half away from nought, on its bits. -/
def rndR (r : Nat) : Nat := if r / 2 ^ 52 < 1022 then 0 else if r / 2 ^ 52 = 1022 then 1023 * 2 ^ 52 else if r / 2 ^ 52 < 1075 then (r + 2 ^ (1074 - r / 2 ^ 52)) / 2 ^ (1075 - r / 2 ^ 52) * 2 ^ (1075 - r / 2 ^ 52) else r
/-- What a rung is worth, as 53 digits and a power. -/
theorem val_parts (r : Nat) : ∃ m j, val r = m * 2 ^ j ∧ m < 2 ^ 53 ∧ (r / 2 ^ 52 = 0 → j = 0 ∧ m < 2 ^ 52) ∧ (r / 2 ^ 52 ≠ 0 → 2 ^ 52 ≤ m ∧ j = r / 2 ^ 52 - 1 ∧ m = 2 ^ 52 + r % 2 ^ 52) := by
  unfold val
  by_cases c : r < 2 ^ 52
  · rw [if_pos c]
    exact ⟨r, 0, by simp, by omega, fun _ => ⟨rfl, c⟩, fun h => by omega⟩
  · rw [if_neg c]
    exact ⟨_, _, rfl, by omega, fun h => by omega, fun h => ⟨by omega, rfl, rfl⟩⟩
theorem half_pow (E : Nat) (h : 1 ≤ E) : 2 ^ E = 2 * 2 ^ (E - 1) := by
  obtain ⟨F, rfl⟩ : ∃ F, E = F + 1 := ⟨E - 1, by omega⟩
  rw [Nat.pow_succ, Nat.add_sub_cancel]; omega
theorem val_mid (e q : Nat) (he : 1 ≤ e) (hq : q ≤ 2 ^ 52) : val (e * 2 ^ 52 + q) = (2 ^ 52 + q) * 2 ^ (e - 1) := by
  unfold val
  rw [if_neg (by omega)]
  rcases Nat.eq_or_lt_of_le hq with h | h
  · subst h
    rw [show (e * 2 ^ 52 + 2 ^ 52) % 2 ^ 52 = 0 by omega, show (e * 2 ^ 52 + 2 ^ 52) / 2 ^ 52 - 1 = e by omega, half_pow e he]
    rw [← Nat.mul_assoc]
  · rw [show (e * 2 ^ 52 + q) % 2 ^ 52 = q by omega, show (e * 2 ^ 52 + q) / 2 ^ 52 - 1 = e - 1 by omega]
theorem small_lt (m j E : Nat) (h : m < 2 ^ 53) (hj : j + 53 ≤ E) : m * 2 ^ j < 2 ^ E := by
  have h1 : 2 ^ (53 + j) ≤ 2 ^ E := Nat.pow_le_pow_right (by decide) (by omega)
  rw [Nat.pow_add] at h1
  exact Nat.lt_of_lt_of_le (Nat.mul_lt_mul_of_pos_right h (Nat.two_pow_pos _)) h1
theorem val_rnd_gen (E r : Nat) (hE : E = 1074) : val (rndR r) = (val r + 2 ^ (E - 1)) / 2 ^ E * 2 ^ E := by
  obtain ⟨m, j, hv, hm, h0, h1⟩ := val_parts r
  have hE2 := half_pow E (by omega)
  have hP := Nat.two_pow_pos (E - 1)
  unfold rndR
  by_cases c1 : r / 2 ^ 52 < 1022
  · rw [if_pos c1]
    have hj : j + 53 ≤ E - 1 := by
      by_cases z : r / 2 ^ 52 = 0
      · have := h0 z; omega
      · have := h1 z; omega
    have := small_lt m j (E - 1) hm hj
    rw [← hv] at this
    rw [Nat.div_eq_of_lt (by omega), Nat.zero_mul]
    rfl
  rw [if_neg c1]
  have z : r / 2 ^ 52 ≠ 0 := by omega
  obtain ⟨g1, g2, g3⟩ := h1 z
  by_cases c2 : r / 2 ^ 52 = 1022
  · rw [if_pos c2]
    have e1 : ∀ t, t = 1023 → val (t * 2 ^ 52) = 2 ^ E := by
      intro t ht
      have h := val_mid t 0 (by omega) (by decide)
      rw [Nat.add_zero] at h
      rw [h, Nat.add_zero, ← Nat.pow_add, show 52 + (t - 1) = E by omega]
    have hu := small_lt m j E hm (by omega)
    have hl : 2 ^ (E - 1) ≤ m * 2 ^ j := by
      rw [show E - 1 = 52 + j by omega, Nat.pow_add]
      exact Nat.mul_le_mul_right _ g1
    rw [← hv] at hu hl
    rw [e1 1023 rfl]
    have : (val r + 2 ^ (E - 1)) / 2 ^ E = 1 := by
      rw [Nat.div_eq_sub_div (Nat.two_pow_pos _) (by omega), Nat.div_eq_of_lt (by omega)]
    rw [this, Nat.one_mul]
  rw [if_neg c2]
  by_cases c3 : r / 2 ^ 52 < 1075
  · rw [if_pos c3]
    have hr : r = r / 2 ^ 52 * 2 ^ 52 + r % 2 ^ 52 := by omega
    have hqb : r % 2 ^ 52 < 2 ^ 52 := Nat.mod_lt _ (by decide)
    generalize r / 2 ^ 52 = e at *
    generalize r % 2 ^ 52 = q at *
    obtain ⟨k, hk⟩ : ∃ k, k = 1075 - e := ⟨_, rfl⟩
    have hk1 : 1 ≤ k ∧ k ≤ 52 := by omega
    have hK := half_pow k hk1.1
    have h52 : 2 ^ 52 = 2 ^ (52 - k) * 2 ^ k := by rw [← Nat.pow_add]; congr 1; omega
    have hkp := Nat.two_pow_pos k
    rw [← hk, show 1074 - e = k - 1 by omega]
    have e1 : (r + 2 ^ (k - 1)) / 2 ^ k = e * 2 ^ (52 - k) + (q + 2 ^ (k - 1)) / 2 ^ k := by
      rw [hr, show e * 2 ^ 52 + q + 2 ^ (k - 1) = q + 2 ^ (k - 1) + e * 2 ^ (52 - k) * 2 ^ k by rw [Nat.mul_assoc, ← h52]; omega, Nat.add_mul_div_right _ _ hkp, Nat.add_comm]
    have hup : (q + 2 ^ (k - 1)) / 2 ^ k ≤ 2 ^ (52 - k) := by
      have : (q + 2 ^ (k - 1)) / 2 ^ k < 2 ^ (52 - k) + 1 := by
        refine (Nat.div_lt_iff_lt_mul hkp).2 ?_
        rw [Nat.add_mul, ← h52]; omega
      omega
    have hup2 : (q + 2 ^ (k - 1)) / 2 ^ k * 2 ^ k ≤ 2 ^ 52 := by
      rw [h52]; exact Nat.mul_le_mul_right _ hup
    rw [e1, Nat.add_mul, Nat.mul_assoc, ← h52, val_mid e _ (by omega) hup2]
    have hEk : 2 ^ E = 2 ^ k * 2 ^ (e - 1) := by rw [← Nat.pow_add]; congr 1; omega
    have hEk1 : 2 ^ (E - 1) = 2 ^ (k - 1) * 2 ^ (e - 1) := by rw [← Nat.pow_add]; congr 1; omega
    rw [hv, g3, g2, hEk, hEk1, ← Nat.add_mul, Nat.mul_div_mul_right _ _ (Nat.two_pow_pos _)]
    rw [show 2 ^ 52 + q + 2 ^ (k - 1) = q + 2 ^ (k - 1) + 2 ^ (52 - k) * 2 ^ k by rw [← h52]; omega, Nat.add_mul_div_right _ _ hkp, ← Nat.mul_assoc, Nat.add_mul _ _ (2 ^ k), ← h52, Nat.add_comm]
  · rw [if_neg c3]
    rw [hv, show 2 ^ j = 2 ^ (j - E) * 2 ^ E by rw [← Nat.pow_add]; congr 1; omega, ← Nat.mul_assoc, Nat.add_comm, Nat.add_mul_div_right _ _ (Nat.two_pow_pos _), Nat.div_eq_of_lt (by omega), Nat.zero_add]
/-- The whole number next to a rung, the half upwards. -/
def nw (r : Nat) : Nat := (val r + 2 ^ (ex - 1)) / 2 ^ ex
theorem val_rnd (r : Nat) : val (rndR r) = nw r * 2 ^ ex := val_rnd_gen ex r hex
theorem nw_mono (r r' : Nat) (h : r ≤ r') : nw r ≤ nw r' := Nat.div_le_div_right (Nat.add_le_add_right (val_le _ _ h) _)
/-- What is below the point is a float. -/
theorem frac_gen (E r : Nat) : val (rq 0 (val r % 2 ^ E) 1) = val r % 2 ^ E ∧ val (rq 0 (val r / 2 ^ E * 2 ^ E) 1) = val r / 2 ^ E * 2 ^ E := by
  obtain ⟨m, j, hv, hm, h0, h1⟩ := val_parts r
  rw [hv]
  rcases Nat.lt_or_ge j E with q | q
  · have e : 2 ^ E = 2 ^ (E - j) * 2 ^ j := by rw [← Nat.pow_add]; congr 1; omega
    have e1 : m * 2 ^ j % 2 ^ E = m % 2 ^ (E - j) * 2 ^ j := by rw [e, Nat.mul_mod_mul_right]
    have e2 : m * 2 ^ j / 2 ^ E * 2 ^ E = m / 2 ^ (E - j) * 2 ^ (E - j) * 2 ^ j := by rw [e, Nat.mul_div_mul_right _ _ (Nat.two_pow_pos _), Nat.mul_assoc]
    rw [e1, e2]
    exact ⟨rq_exact _ _ (Nat.lt_of_le_of_lt (Nat.mod_le _ _) hm), rq_exact _ _ (Nat.lt_of_le_of_lt (Nat.div_mul_le_self _ _) hm)⟩
  · have e : 2 ^ j = 2 ^ (j - E) * 2 ^ E := by rw [← Nat.pow_add]; congr 1; omega
    have e1 : m * 2 ^ j % 2 ^ E = 0 := by rw [e, ← Nat.mul_assoc, Nat.mul_mod_left]
    have e2 : m * 2 ^ j / 2 ^ E * 2 ^ E = m * 2 ^ j := by rw [e, ← Nat.mul_assoc, Nat.mul_div_cancel _ (Nat.two_pow_pos _)]
    rw [e1, e2]
    exact ⟨by rw [rq_zero 0 1 (by decide)]; rfl, rq_exact _ _ hm⟩
/-- What is whole or below the half. -/
theorem nw_gen (E v : Nat) (hE : 1 ≤ E) : (v + 2 ^ (E - 1)) / 2 ^ E = v / 2 ^ E + (if 2 ^ (E - 1) ≤ v % 2 ^ E then 1 else 0) := by
  have hE2 := half_pow E hE
  have hd := Nat.div_add_mod v (2 ^ E)
  have hp := Nat.two_pow_pos E
  have hl := Nat.mod_lt v hp
  generalize hR : v % 2 ^ E = R at *
  generalize hQ : v / 2 ^ E = Q at *
  generalize 2 ^ (E - 1) = H at *
  generalize 2 ^ E = G at *
  rw [← hd, Nat.add_assoc, Nat.mul_add_div hp]
  congr 1
  split
  · rw [Nat.div_eq_sub_div hp (by omega), Nat.div_eq_of_lt (by omega)]
  · rw [Nat.div_eq_of_lt (by omega)]
theorem nw_frac (r : Nat) : nw r = val r / 2 ^ ex + (if 2 ^ (ex - 1) ≤ val r % 2 ^ ex then 1 else 0) := nw_gen ex (val r) (by rw [hex]; decide)
end Go.Proofs.YtmoofecphpknfaaGreatDoor
