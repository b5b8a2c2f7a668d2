/- Calc: rounding to the nearest float as a plain law over whole numbers. No program in sight. -/
import Ieee.Arith
namespace Go.Proofs.YtmoofecphpknfaaGreatDoor
open Ieee
set_option linter.unusedVariables false
set_option linter.unusedSimpArgs false

/-- n by g, to the nearest whole number; of two the even one. -/
def rne (n g : Nat) : Nat := n / g + (if g < 2 * (n % g) ∨ (g = 2 * (n % g) ∧ n / g % 2 = 1) then 1 else 0)
theorem rne_scale (n g c : Nat) (hc : 0 < c) : rne (n * c) (g * c) = rne n g := by
  unfold rne
  rw [Nat.mul_div_mul_right _ _ hc, Nat.mul_mod_mul_right, show 2 * (n % g * c) = 2 * (n % g) * c from (Nat.mul_assoc _ _ _).symm]
  have h1 : g * c < 2 * (n % g) * c ↔ g < 2 * (n % g) := Nat.mul_lt_mul_right hc
  have h2 : g * c = 2 * (n % g) * c ↔ g = 2 * (n % g) := ⟨fun h => Nat.eq_of_mul_eq_mul_right hc h, fun h => by rw [h.symm]⟩
  simp only [h1, h2]
theorem rne_ge (n g : Nat) : n / g ≤ rne n g := Nat.le_add_right _ _
theorem rne_le (n g : Nat) : rne n g ≤ n / g + 1 := by
  unfold rne; split <;> omega
theorem rne_mono (n n' g : Nat) (hg : 0 < g) (h : n ≤ n') : rne n g ≤ rne n' g := by
  have h1 : n / g ≤ n' / g := Nat.div_le_div_right h
  rcases Nat.lt_or_ge (n / g) (n' / g) with h2 | h2
  · exact Nat.le_trans (rne_le n g) (Nat.le_trans h2 (rne_ge n' g))
  · have e : n / g = n' / g := by omega
    have d1 := Nat.div_add_mod n g
    have d2 := Nat.div_add_mod n' g
    rw [← e] at d2
    have h3 : n % g ≤ n' % g := by omega
    unfold rne
    rw [e]
    split
    · rename_i c
      rw [if_pos]
      · exact Nat.le_refl _
      · rcases c with c | ⟨c1, c2⟩
        · left; omega
        · rcases Nat.lt_or_ge g (2 * (n' % g)) with q | q
          · left; exact q
          · right; exact ⟨by omega, c2⟩
    · omega
theorem rne_mul (k g : Nat) (hg : 0 < g) : rne (k * g) g = k := by
  unfold rne
  rw [Nat.mul_div_cancel _ hg, Nat.mul_mod_left]
  rw [if_neg (by omega)]; rfl
theorem log2_bounds (n : Nat) (h : n ≠ 0) : 2 ^ n.log2 ≤ n ∧ n < 2 ^ (n.log2 + 1) := ⟨Nat.log2_self_le h, Nat.lt_log2_self⟩
theorem rne_small (n d : Nat) (h : n.log2 + 2 ≤ d) : rne n (2 ^ d) = 0 := by
  have h1 : n < 2 ^ (n.log2 + 1) := Nat.lt_log2_self
  have h2 : 2 ^ (n.log2 + 2) ≤ 2 ^ d := Nat.pow_le_pow_right (by decide) h
  have h3 : 2 ^ (n.log2 + 2) = 2 * 2 ^ (n.log2 + 1) := by rw [Nat.pow_succ 2 (n.log2 + 1)]; omega
  unfold rne
  rw [Nat.div_eq_of_lt (by omega), Nat.mod_eq_of_lt (by omega), if_neg (by omega)]
theorem cut_even (neg : Bool) (n d : Nat) : Toward.even.cut neg n d = rne n (2 ^ d) := by
  have key : Toward.even.cut neg n d = rne n (2 ^ min d (n.log2 + 2)) := by
    unfold Toward.cut rne
    simp only [Nat.shiftLeft_eq, Nat.one_mul]
    congr 1
    generalize 2 ^ min d (n.log2 + 2) = g
    by_cases c : g < 2 * (n % g) ∨ (g = 2 * (n % g) ∧ n / g % 2 = 1)
    · rw [if_pos c]
      rcases c with c | ⟨c1, c2⟩
      · simp [c]
      · simp [← c1, c2]
    · rw [if_neg c]
      have c1 : ¬ g < 2 * (n % g) := fun h => c (.inl h)
      have c2 : ¬ (g = 2 * (n % g) ∧ n / g % 2 = 1) := fun h => c (.inr h)
      simp [c1]
      intro h1
      have := fun h => c2 ⟨h1, h⟩
      omega
  rw [key]
  rcases Nat.lt_or_ge (n.log2 + 2) d with h | h
  · rw [Nat.min_eq_right (by omega), rne_small n _ (Nat.le_refl _), rne_small n d (by omega)]
  · rw [Nat.min_eq_left h]
theorem log2_mul_pow (n k : Nat) (h : n ≠ 0) : (n * 2 ^ k).log2 = n.log2 + k := by
  have h0 : 0 < 2 ^ k := Nat.two_pow_pos k
  have hb := log2_bounds n h
  refine (Nat.log2_eq_iff (by have := Nat.mul_pos (Nat.pos_of_ne_zero h) h0; omega)).2 ⟨?_, ?_⟩
  · rw [Nat.pow_add]; exact Nat.mul_le_mul_right _ hb.1
  · rw [show n.log2 + k + 1 = n.log2 + 1 + k by omega, Nat.pow_add]; exact Nat.mul_lt_mul_of_pos_right hb.2 h0
theorem log2_mono (m n : Nat) (h : m ≤ n) : m.log2 ≤ n.log2 := by
  by_cases hm : m = 0
  · subst hm; exact Nat.zero_le _
  · refine (Nat.le_log2 (by omega)).2 (Nat.le_trans (log2_bounds m hm).1 h)
/-- How many binary digits of M by N (in units of 2 to the minus D of the least place) lie beyond 53. -/
def tq (D M N : Nat) : Nat := (M / N).log2 - (52 + D)
/-- The rung nearest to M by N. -/
def rq (D M N : Nat) : Nat := tq D M N * 2 ^ 52 + rne M (N * 2 ^ (tq D M N + D))
theorem tq_mono (D M M' N : Nat) (h : M ≤ M') : tq D M N ≤ tq D M' N := by
  have := log2_mono _ _ (Nat.div_le_div_right (c := N) h)
  unfold tq; omega
theorem tq_up (D M N : Nat) : M / (N * 2 ^ (tq D M N + D)) < 2 ^ 53 := by
  rw [← Nat.div_div_eq_div_mul]
  refine (Nat.div_lt_iff_lt_mul (Nat.two_pow_pos _)).2 ?_
  rw [← Nat.pow_add]
  refine Nat.lt_of_lt_of_le (Nat.lt_log2_self) (Nat.pow_le_pow_right (by decide) ?_)
  unfold tq; omega
theorem tq_low (D M N : Nat) (h : 0 < tq D M N) : 2 ^ 52 ≤ M / (N * 2 ^ (tq D M N + D)) := by
  rw [← Nat.div_div_eq_div_mul]
  refine (Nat.le_div_iff_mul_le (Nat.two_pow_pos _)).2 ?_
  rw [← Nat.pow_add]
  have hz : M / N ≠ 0 := by
    intro e
    unfold tq at h
    rw [e] at h
    have : (0 : Nat).log2 = 0 := rfl
    omega
  refine Nat.le_trans (Nat.pow_le_pow_right (by decide) ?_) (log2_bounds _ hz).1
  unfold tq at *; omega
theorem rq_mono (D M M' N : Nat) (hN : 0 < N) (h : M ≤ M') : rq D M N ≤ rq D M' N := by
  have ht := tq_mono D M M' N h
  unfold rq
  rcases Nat.lt_or_ge (tq D M N) (tq D M' N) with q | q
  · have a1 := rne_le M (N * 2 ^ (tq D M N + D))
    have a2 := tq_up D M N
    have a3 := tq_low D M' N (by omega)
    have a4 := rne_ge M' (N * 2 ^ (tq D M' N + D))
    omega
  · have e : tq D M N = tq D M' N := by omega
    rw [e]
    exact Nat.add_le_add_left (rne_mono _ _ _ (Nat.mul_pos hN (Nat.two_pow_pos _)) h) _
theorem div_scale_log (M N k : Nat) (hN : 0 < N) (h : M / N ≠ 0) : (M * 2 ^ k / N).log2 = (M / N).log2 + k := by
  have hb := log2_bounds _ h
  have p1 : N * 2 ^ (M / N).log2 ≤ M := by
    have := (Nat.le_div_iff_mul_le hN).1 hb.1
    rw [Nat.mul_comm]; exact this
  have p2 : M < N * 2 ^ ((M / N).log2 + 1) := by
    have := (Nat.div_lt_iff_lt_mul hN).1 hb.2
    rw [Nat.mul_comm]; exact this
  have h0 : 0 < 2 ^ k := Nat.two_pow_pos k
  have q1 : 2 ^ ((M / N).log2 + k) ≤ M * 2 ^ k / N := by
    refine (Nat.le_div_iff_mul_le hN).2 ?_
    rw [Nat.pow_add, Nat.mul_comm _ N, ← Nat.mul_assoc]
    exact Nat.mul_le_mul_right _ p1
  refine (Nat.log2_eq_iff (by have := Nat.two_pow_pos ((M / N).log2 + k); omega)).2 ⟨q1, ?_⟩
  refine (Nat.div_lt_iff_lt_mul hN).2 ?_
  rw [show (M / N).log2 + k + 1 = (M / N).log2 + 1 + k by omega, Nat.pow_add, Nat.mul_comm _ N, ← Nat.mul_assoc]
  exact Nat.mul_lt_mul_of_pos_right p2 h0
theorem tq_scale (D M N k : Nat) (hN : 0 < N) : tq (D + k) (M * 2 ^ k) N = tq D M N := by
  unfold tq
  by_cases h : M / N = 0
  · rw [h]
    have h1 : M < N := by
      rcases Nat.div_eq_zero_iff.1 h with h | h
      · omega
      · exact h
    have h2 : M * 2 ^ k / N < 2 ^ k := by
      refine (Nat.div_lt_iff_lt_mul hN).2 ?_
      rw [Nat.mul_comm (2 ^ k) N]
      exact Nat.mul_lt_mul_of_pos_right h1 (Nat.two_pow_pos k)
    have h3 : (M * 2 ^ k / N).log2 ≤ k := by
      by_cases z : M * 2 ^ k / N = 0
      · rw [z]; exact Nat.zero_le _
      · have := (log2_bounds _ z).1
        have h4 : 2 ^ (M * 2 ^ k / N).log2 < 2 ^ k := by omega
        exact Nat.le_of_lt ((Nat.pow_lt_pow_iff_right (by decide)).1 h4)
    have : (0 : Nat).log2 = 0 := rfl
    omega
  · rw [div_scale_log M N k hN h]; omega
theorem rq_scale (D M N k : Nat) (hN : 0 < N) : rq (D + k) (M * 2 ^ k) N = rq D M N := by
  unfold rq
  rw [tq_scale D M N k hN, show tq D M N + (D + k) = tq D M N + D + k by omega, Nat.pow_add 2 _ k, ← Nat.mul_assoc, rne_scale _ _ _ (Nat.two_pow_pos k)]
theorem rq_mulc (D M N c : Nat) (hc : 0 < c) : rq D (M * c) (N * c) = rq D M N := by
  have ht : tq D (M * c) (N * c) = tq D M N := by unfold tq; rw [Nat.mul_div_mul_right _ _ hc]
  unfold rq
  rw [ht, Nat.mul_right_comm, rne_scale _ _ _ hc]
theorem rq_zero (D N : Nat) (hN : 0 < N) : rq D 0 N = 0 := by
  have h : tq D 0 N = 0 := by
    unfold tq
    rw [Nat.zero_div]
    have : (0 : Nat).log2 = 0 := rfl
    omega
  unfold rq
  rw [h]
  have := rne_mul 0 (N * 2 ^ (0 + D)) (Nat.mul_pos hN (Nat.two_pow_pos _))
  rw [Nat.zero_mul] at this
  rw [this]
/-- What a rung is worth, in units of the least place. -/
def val (r : Nat) : Nat := if r < 2 ^ 52 then r else (2 ^ 52 + r % 2 ^ 52) * 2 ^ (r / 2 ^ 52 - 1)
theorem rq_exact (k j : Nat) (hk : k < 2 ^ 53) : val (rq 0 (k * 2 ^ j) 1) = k * 2 ^ j := by
  by_cases hz : k = 0
  · subst hz
    rw [Nat.zero_mul, rq_zero 0 1 (by decide)]; rfl
  have hl : k.log2 ≤ 52 := by
    have h1 := (log2_bounds k hz).1
    have h2 : 2 ^ k.log2 < 2 ^ 53 := Nat.lt_of_le_of_lt h1 hk
    have := (Nat.pow_lt_pow_iff_right (by decide : 1 < 2)).1 h2
    omega
  have ht : tq 0 (k * 2 ^ j) 1 = k.log2 + j - 52 := by
    unfold tq
    rw [Nat.div_one, log2_mul_pow k j hz]
  have up := tq_up 0 (k * 2 ^ j) 1
  have low := tq_low 0 (k * 2 ^ j) 1
  have e1 : k * 2 ^ j = k * 2 ^ (j - (k.log2 + j - 52)) * 2 ^ (k.log2 + j - 52) := by
    rw [Nat.mul_assoc, ← Nat.pow_add]
    congr 2
    omega
  unfold rq
  rw [ht] at *
  generalize hT : k.log2 + j - 52 = t at *
  rw [Nat.add_zero, Nat.one_mul] at *
  generalize hq : k * 2 ^ (j - t) = q at *
  rw [e1] at up low ⊢
  rw [Nat.mul_div_cancel _ (Nat.two_pow_pos t)] at up low
  rw [rne_mul _ _ (Nat.two_pow_pos t)]
  unfold val
  by_cases c : t * 2 ^ 52 + q < 2 ^ 52
  · rw [if_pos c]
    have : t = 0 := by omega
    subst this
    simp
  · rw [if_neg c]
    have h1 : 2 ^ 52 ≤ q := by
      by_cases z : t = 0
      · subst z; omega
      · exact low (by omega)
    rw [show (t * 2 ^ 52 + q) % 2 ^ 52 = q - 2 ^ 52 by omega, show (t * 2 ^ 52 + q) / 2 ^ 52 - 1 = t by omega, show 2 ^ 52 + (q - 2 ^ 52) = q by omega]
theorem rq_val (r : Nat) : rq 0 (val r) 1 = r := by
  unfold val
  split
  · rename_i h
    unfold rq
    have ht : tq 0 r 1 = 0 := by
      unfold tq
      rw [Nat.div_one]
      by_cases z : r = 0
      · subst z; rfl
      · have h1 := (log2_bounds r z).1
        have h2 : 2 ^ r.log2 < 2 ^ 52 := Nat.lt_of_le_of_lt h1 h
        have := (Nat.pow_lt_pow_iff_right (by decide : 1 < 2)).1 h2
        omega
    rw [ht]
    have := rne_mul r 1 (by decide)
    simpa using this
  · rename_i h
    have hr : r = r / 2 ^ 52 * 2 ^ 52 + r % 2 ^ 52 := by omega
    have hm : r % 2 ^ 52 < 2 ^ 52 := Nat.mod_lt _ (by decide)
    have hd : 1 ≤ r / 2 ^ 52 := by omega
    generalize r / 2 ^ 52 = e at *
    generalize r % 2 ^ 52 = q at *
    have hl : (2 ^ 52 + q).log2 = 52 := (Nat.log2_eq_iff (by omega)).2 ⟨by omega, by omega⟩
    have ht : tq 0 ((2 ^ 52 + q) * 2 ^ (e - 1)) 1 = e - 1 := by
      unfold tq
      rw [Nat.div_one, log2_mul_pow _ _ (by omega), hl]; omega
    unfold rq
    rw [ht, Nat.add_zero, Nat.one_mul, rne_mul _ _ (Nat.two_pow_pos _)]
    omega
theorem val_lt (r r' : Nat) (h : r < r') : val r < val r' := by
  rcases Nat.lt_or_ge (val r) (val r') with q | q
  · exact q
  · have := rq_mono 0 _ _ 1 (by decide) q
    rw [rq_val, rq_val] at this
    omega
theorem val_le (r r' : Nat) (h : r ≤ r') : val r ≤ val r' := by
  rcases Nat.eq_or_lt_of_le h with e | e
  · rw [e]; exact Nat.le_refl _
  · exact Nat.le_of_lt (val_lt _ _ e)
/-- A quotient with a last digit that tells whether anything is left is rounded as the exact one. -/
def sticky (M n : Nat) : Nat := 2 * (M / n) + (M % n != 0).toNat
theorem sticky_rne (M n e : Nat) (hn : 0 < n) (he : 1 ≤ e) : rne (sticky M n) (2 ^ (e + 1)) = rne M (n * 2 ^ e) := by
  obtain ⟨f, rfl⟩ : ∃ f, e = f + 1 := ⟨e - 1, by omega⟩
  have hG : 2 ^ (f + 1) = 2 * 2 ^ f := by rw [Nat.pow_succ]; omega
  have hG2 : 2 ^ (f + 1 + 1) = 2 * 2 ^ (f + 1) := by rw [Nat.pow_succ 2 (f + 1)]; omega
  have hg : 0 < 2 ^ f := Nat.two_pow_pos f
  rw [hG2]
  generalize 2 ^ (f + 1) = G at *
  have hs : sticky M n = 2 * (M / n) + (if M % n = 0 then 0 else 1) := by
    unfold sticky
    by_cases c : M % n = 0
    · simp [c]
    · simp [c]
  have hr : M % n < n := Nat.mod_lt _ hn
  have d1 : sticky M n / (2 * G) = M / n / G := by
    rw [← Nat.div_div_eq_div_mul]
    congr 1
    rw [hs]; split <;> omega
  have d2 : M / (n * G) = M / n / G := (Nat.div_div_eq_div_mul _ _ _).symm
  have m1 : M % (n * G) = n * (M / n % G) + M % n := by
    rw [Nat.mod_mul, Nat.add_comm]
  have m2 : sticky M n % (2 * G) = 2 * (M / n % G) + (if M % n = 0 then 0 else 1) := by
    rw [Nat.mod_mul, hs]
    have a1 : (2 * (M / n) + (if M % n = 0 then 0 else 1)) / 2 = M / n := by split <;> omega
    have a2 : (2 * (M / n) + (if M % n = 0 then 0 else 1)) % 2 = (if M % n = 0 then 0 else 1) := by split <;> omega
    rw [a1, a2]; omega
  unfold rne
  rw [d1, d2, m1, m2]
  congr 1
  generalize M / n % G = z
  generalize M / n / G % 2 = p
  generalize M % n = r at *
  have k1 : (2 * G < 2 * (2 * z + if r = 0 then 0 else 1)) ↔ (n * G < 2 * (n * z + r)) := by
    rcases Nat.lt_trichotomy G (2 * z) with q | q | q
    · have h1 : n * (G + 1) ≤ n * (2 * z) := Nat.mul_le_mul_left _ q
      rw [Nat.mul_add, Nat.mul_left_comm] at h1
      exact ⟨fun _ => by omega, fun _ => by omega⟩
    · have h1 : n * G = 2 * (n * z) := by rw [q, Nat.mul_left_comm]
      split <;> omega
    · have h1 : n * (2 * z + 2) ≤ n * G := Nat.mul_le_mul_left _ (by omega)
      rw [Nat.mul_add, Nat.mul_left_comm] at h1
      constructor
      · intro h; split at h <;> omega
      · intro h; omega
  have k2 : (2 * G = 2 * (2 * z + if r = 0 then 0 else 1)) ↔ (n * G = 2 * (n * z + r)) := by
    rcases Nat.lt_trichotomy G (2 * z) with q | q | q
    · have h1 : n * (G + 1) ≤ n * (2 * z) := Nat.mul_le_mul_left _ q
      rw [Nat.mul_add, Nat.mul_left_comm] at h1
      exact ⟨fun h => by split at h <;> omega, fun _ => by omega⟩
    · have h1 : n * G = 2 * (n * z) := by rw [q, Nat.mul_left_comm]
      split <;> omega
    · have h1 : n * (2 * z + 2) ≤ n * G := Nat.mul_le_mul_left _ (by omega)
      rw [Nat.mul_add, Nat.mul_left_comm] at h1
      constructor
      · intro h; split at h <;> omega
      · intro h; omega
  simp only [k1, k2]
theorem sticky_rq (D M n K : Nat) (hn : 0 < n) (hq : 2 ^ 53 ≤ M / n) (hK : 1 ≤ K) : rq D (sticky M n * 2 ^ (K - 1)) 1 = rq D (M * 2 ^ K) n := by
  have hq0 : M / n ≠ 0 := by omega
  have hl : 53 ≤ (M / n).log2 := (Nat.le_log2 hq0).2 hq
  have hs0 : sticky M n ≠ 0 := by unfold sticky; omega
  have hsl : (sticky M n).log2 = (M / n).log2 + 1 := by
    have hb := log2_bounds _ hq0
    have hle : (M % n != 0).toNat ≤ 1 := Bool.toNat_le _
    refine (Nat.log2_eq_iff hs0).2 ⟨?_, ?_⟩
    · unfold sticky; rw [Nat.pow_succ]; omega
    · unfold sticky; rw [Nat.pow_succ]; omega
  have ht : tq D (sticky M n * 2 ^ (K - 1)) 1 = tq D (M * 2 ^ K) n := by
    unfold tq
    rw [Nat.div_one, log2_mul_pow _ _ hs0, div_scale_log _ _ _ hn hq0, hsl]
    omega
  have hT : K + 1 ≤ tq D (M * 2 ^ K) n + D := by
    unfold tq
    rw [div_scale_log _ _ _ hn hq0]
    omega
  unfold rq
  rw [ht]
  congr 1
  generalize tq D (M * 2 ^ K) n + D = T at *
  rw [Nat.one_mul, show 2 ^ T = 2 ^ (T - K + 1) * 2 ^ (K - 1) by rw [← Nat.pow_add]; congr 1; omega, rne_scale _ _ _ (Nat.two_pow_pos _)]
  rw [sticky_rne M n (T - K) hn (by omega), show n * (2 ^ (T - K + 1) * 2 ^ (K - 1)) = n * 2 ^ (T - K) * 2 ^ K by rw [Nat.mul_assoc, ← Nat.pow_add, ← Nat.pow_add]; congr 2; omega, rne_scale _ _ _ (Nat.two_pow_pos _)]
/-- The nearest word. -/
theorem nearest_rq (neg : Bool) (mag : Nat) (place : Int) (D : Nat) (h : -1074 - (D : Int) ≤ place) :
    double.nearest neg mag place = double.word neg (min (rq D (mag * 2 ^ (place + 1074 + D).toNat) 1) (2047 * 2 ^ 52)) := by
  unfold Format.nearest
  by_cases hz : mag = 0
  · rw [if_pos hz, hz, Nat.zero_mul, rq_zero D 1 (by decide)]
    rfl
  rw [if_neg hz]
  dsimp only
  rw [cut_even]
  have e0 : double.leastPlace = -1074 := by decide
  have e1 : double.fractionBits = 52 := rfl
  have e2 : double.binade = 2 ^ 52 := rfl
  have e3 : double.infRung = 2047 * 2 ^ 52 := by decide
  rw [e0, e1, e2, e3, Nat.shiftLeft_eq]
  obtain ⟨k, hk⟩ : ∃ k : Nat, place = (k : Int) - 1074 - D := ⟨(place + 1074 + D).toNat, by omega⟩
  subst hk
  rw [show ((k : Int) - 1074 - D + 1074 + D).toNat = k by omega]
  unfold rq
  have ht : tq D (mag * 2 ^ k) 1 = mag.log2 + k - (52 + D) := by
    unfold tq; rw [Nat.div_one, log2_mul_pow _ _ hz]
  rw [ht]
  generalize mag.log2 = l
  generalize hT : l + k - (52 + D) = t
  have hL : max ((k : Int) - 1074 - D + l - (52 : Nat)) (-1074) = (t : Int) - 1074 := by omega
  rw [hL, show ((t : Int) - 1074 - -1074).toNat = t by omega]
  rw [show ((k : Int) - 1074 - D - (t - 1074)).toNat = k - (t + D) by omega, show ((t : Int) - 1074 - ((k : Int) - 1074 - D)).toNat = t + D - k by omega]
  rw [Nat.one_mul]
  congr 3
  rcases Nat.lt_or_ge k (t + D) with q | q
  · rw [show k - (t + D) = 0 by omega, show 2 ^ (t + D) = 2 ^ (t + D - k) * 2 ^ k by rw [← Nat.pow_add]; congr 1; omega, rne_scale _ _ _ (Nat.two_pow_pos _)]
    simp
  · rw [show t + D - k = 0 by omega, show mag * 2 ^ k = mag * 2 ^ (k - (t + D)) * 2 ^ (t + D) by rw [Nat.mul_assoc, ← Nat.pow_add]; congr 2; omega]
    rw [rne_mul _ _ (Nat.two_pow_pos _)]
    have := rne_mul (mag * 2 ^ (k - (t + D))) 1 (by decide)
    simpa using this
end Go.Proofs.YtmoofecphpknfaaGreatDoor
