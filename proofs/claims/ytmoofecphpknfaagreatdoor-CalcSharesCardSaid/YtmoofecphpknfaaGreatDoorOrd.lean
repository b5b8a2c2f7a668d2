/- Calc: the order of floats. No program in sight. -/
import Ieee.Arith
namespace Go.Proofs.YtmoofecphpknfaaGreatDoor
open Ieee
set_option linter.unusedVariables false
set_option linter.unusedSimpArgs false

theorem signed_eq (s : Bool) (m u : Nat) : signed s m u = (if s then -(m : Int) else m) * 2 ^ u := by
  unfold signed
  rw [Nat.shiftLeft_eq]
  cases s
  · simp
  · simp [Int.neg_mul]
theorem signed_add (s : Bool) (m u v : Nat) : signed s m (u + v) = signed s m u * 2 ^ v := by
  rw [signed_eq, signed_eq, Int.pow_add, Int.mul_assoc]
theorem two_pos (v : Nat) : (0 : Int) < 2 ^ v := Int.pow_pos (by decide)
/-- Which of two comes first. -/
def cmpP (p q : Int × Int) : Ordering := if p.1 < q.1 ∨ (p.1 = q.1 ∧ p.2 < q.2) then .lt else if p.1 = q.1 ∧ p.2 = q.2 then .eq else .gt
theorem cmp_int (x y : Int) : compare x y = if x < y then .lt else if x = y then .eq else .gt := rfl
theorem cmp_scale (x y : Int) (v : Nat) : compare (x * 2 ^ v) (y * 2 ^ v) = compare x y := by
  have h := two_pos v
  rw [cmp_int, cmp_int]
  have h1 : (x * 2 ^ v < y * 2 ^ v) ↔ x < y := ⟨fun q => Int.lt_of_mul_lt_mul_right q (Int.le_of_lt h), fun q => Int.mul_lt_mul_of_pos_right q h⟩
  have h2 : (x * 2 ^ v = y * 2 ^ v) ↔ x = y := ⟨fun q => Int.eq_of_mul_eq_mul_right (Int.ne_of_gt h) q, fun q => by rw [q]⟩
  simp only [h1, h2]
/-- A datum's place among all: below the numbers, among them, above them. -/
def kyD (B : Int) : Datum → Option (Int × Int)
  | .nan _ _ => none
  | .infinity s => some (if s then -1 else 1, 0)
  | .number s m i => some (0, signed s m (i - B).toNat)
def ordO : Option (Int × Int) → Option (Int × Int) → Option Ordering
  | some p, some q => some (cmpP p q)
  | _, _ => none
def lowD (B : Int) : Datum → Prop
  | .number _ _ i => B ≤ i
  | _ => True
theorem order_key (B : Int) (d e : Datum) (hd : lowD B d) (he : lowD B e) : d.order e = ordO (kyD B d) (kyD B e) := by
  cases d with
  | nan => cases e <;> rfl
  | infinity s =>
    cases e with
    | nan => rfl
    | infinity t => cases s <;> cases t <;> rfl
    | number t n j => cases s <;> rfl
  | number s m i =>
    cases e with
    | nan => rfl
    | infinity t => cases t <;> rfl
    | number t n j =>
      have hi : B ≤ i := hd
      have hj : B ≤ j := he
      show some (compare (signed s m (i - min i j).toNat) (signed t n (j - min i j).toNat)) = some (cmpP (0, signed s m (i - B).toNat) (0, signed t n (j - B).toNat))
      congr 1
      rw [show (i - B).toNat = (i - min i j).toNat + (min i j - B).toNat by omega, show (j - B).toNat = (j - min i j).toNat + (min i j - B).toNat by omega, signed_add, signed_add]
      rw [← cmp_scale _ _ (min i j - B).toNat, cmp_int]
      unfold cmpP
      simp
/-- A float's place. -/
def ky (x : Nat) : Option (Int × Int) := kyD double.leastPlace (double.read x)
def negB (x : Nat) : Bool := x / 2 ^ 63 % 2 == 1
theorem low_read (x : Nat) : lowD double.leastPlace (double.read x) := by
  unfold Format.read
  dsimp only
  split
  · exact Int.le_refl _
  split
  · show double.leastPlace ≤ double.leastPlace + _
    omega
  split
  · trivial
  · trivial
theorem ord_key (x y : Nat) : double.order x y = ordO (ky x) (ky y) := order_key _ _ _ (low_read x) (low_read y)
theorem signed_pos {s : Bool} {m u : Nat} : (0 < signed s m u ↔ s = false ∧ m ≠ 0) ∧ (signed s m u < 0 ↔ s = true ∧ m ≠ 0) ∧ (signed s m u = 0 ↔ m = 0) := by
  have h := two_pos u
  rw [signed_eq]
  have hm : m = 0 ∨ 0 < (m : Int) := by omega
  rcases hm with rfl | hm
  · cases s <;> simp
  · have h1 : 0 < (m : Int) * 2 ^ u := Int.mul_pos hm h
    cases s
    · simp only [Bool.false_eq_true, if_false]
      refine ⟨⟨fun _ => ⟨trivial, by omega⟩, fun _ => h1⟩, ⟨fun h => by omega, fun h => by simp at h⟩, ⟨fun h => by omega, fun h => by omega⟩⟩
    · simp only [if_true, Int.neg_mul]
      refine ⟨⟨fun h => by omega, fun h => by simp at h⟩, ⟨fun _ => ⟨trivial, by omega⟩, fun _ => by omega⟩, ⟨fun h => by omega, fun h => by omega⟩⟩
/-- The sign's bit, where a float is no nought. -/
theorem key_neg (x : Nat) (p : Int × Int) (h : ky x = some p) : (cmpP p (0, 0) = .lt → negB x = true) ∧ (cmpP p (0, 0) = .gt → negB x = false) := by
  have hn : (x / double.signWeight % 2 == 1) = negB x := rfl
  unfold ky Format.read at h
  dsimp only at h
  rw [hn] at h
  have num : ∀ (s : Bool) (m : Nat) (i : Int), kyD double.leastPlace (.number s m i) = some p → (cmpP p (0, 0) = .lt → s = true) ∧ (cmpP p (0, 0) = .gt → s = false) := by
    intro s m i h
    injection h with h
    subst h
    obtain ⟨a, b, c⟩ := @signed_pos s m (i - double.leastPlace).toNat
    unfold cmpP
    simp only [Int.lt_irrefl, false_or, true_and]
    constructor
    · intro q
      split at q
      · rename_i q2; exact (b.1 q2).1
      · split at q <;> cases q
    · intro q
      split at q
      · cases q
      · split at q
        · cases q
        · rename_i q1 q2
          exact (a.1 (by omega)).1
  split at h
  · exact num _ _ _ h
  split at h
  · exact num _ _ _ h
  split at h
  · injection h with h
    subst h
    cases negB x
    · exact ⟨fun q => by revert q; decide, fun _ => rfl⟩
    · exact ⟨fun _ => rfl, fun q => by revert q; decide⟩
  · cases h
theorem key_zero : ky 0 = some (0, 0) := by decide
end Go.Proofs.YtmoofecphpknfaaGreatDoor
