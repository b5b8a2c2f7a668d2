/- Key: listed numbers are of four digits at most. No walk. -/
import Derived.Test.YtncokbppijnfiaaGreatDoorC2
import Derived.Lib.AtoiAllCases
namespace Go.Proofs.YtncokbppijnfiaaGreatDoor
open Go.RowKit
set_option linter.unusedSimpArgs false
set_option linter.unusedVariables false

theorem parse_le : ∀ (l : List UInt8) (acc u : Nat), Lib.parseUint10 acc l = .ok u → u + 1 ≤ (acc + 1) * 10 ^ l.length
  | [], acc, u, h => by
    simp only [Lib.parseUint10] at h
    injection h with h
    simp; omega
  | c :: r, acc, u, h => by
    simp only [Lib.parseUint10] at h
    split at h
    · rename_i hc
      split at h
      · cases h
      · split at h
        · cases h
        · have := parse_le r _ u h
          rw [List.length_cons, Nat.pow_succ]
          have h2 : (acc * 10 + (c.toNat - 48) + 1) * 10 ^ r.length ≤ ((acc + 1) * 10) * 10 ^ r.length := Nat.mul_le_mul_right _ (by omega)
          have h3 : (acc + 1) * (10 ^ r.length * 10) = ((acc + 1) * 10) * 10 ^ r.length := by rw [Nat.mul_comm (10 ^ r.length) 10, ← Nat.mul_assoc]
          omega
    · cases h
theorem numL_bound {d : List UInt8} {v : Int} (h : numL d = some v) : 0 ≤ v ∧ v ≤ 9999 := by
  unfold numL at h
  cases ha : Lib.atoiAll d
  rotate_left
  · rw [ha] at h; cases h
  · rw [ha] at h; cases h
  · rename_i v'
    rw [ha] at h
    dsimp only at h
    split at h
    · cases h
    · rename_i hn
      injection h with h
      subst h
      cases d with
      | nil => simp [Lib.atoiAll] at ha
      | cons c r =>
        have hc : 48 ≤ c.toNat := by
          have : ¬ (c.toNat < 48) := fun h => hn (.inr h)
          omega
        have hl : (c :: r).length ≤ 4 := by
          rcases Nat.lt_or_ge 4 (c :: r).length with h | h
          · exact absurd (.inl h) hn
          · exact h
        rw [Lib.atoiAll_plain c r (by omega) (by omega)] at ha
        cases hm : Lib.parseMag (c :: r)
        rotate_left
        · rw [hm] at ha; cases ha
        · rw [hm] at ha; cases ha
        · rename_i u
          rw [hm] at ha
          unfold Lib.parseMag at hm
          rw [if_neg (by simp)] at hm
          have h1 := parse_le _ _ _ hm
          have h2 : 10 ^ (c :: r).length ≤ 10 ^ 4 := Nat.pow_le_pow_right (by omega) hl
          simp only [Lib.signless] at ha
          split at ha
          · cases ha
          · injection ha with ha
            omega
theorem listedF_bound : ∀ {ps : List (List UInt8)} {l : List Int}, listedF ps = some l → ∀ v ∈ l, 0 ≤ v ∧ v ≤ 9999
  | [], l, h, v, hv => by
    simp [listedF] at h; subst h; cases hv
  | d :: r, l, h, v, hv => by
    unfold listedF at h
    cases hd : numL d with
    | none => rw [hd] at h; cases h
    | some u =>
      rw [hd] at h
      dsimp only at h
      cases hr : listedF r with
      | none => rw [hr] at h; cases h
      | some l' =>
        rw [hr] at h
        simp only [Option.map_some, Option.some.injEq] at h
        subst h
        rcases List.mem_cons.1 hv with rfl | hv
        · exact numL_bound hd
        · exact listedF_bound hr v hv
theorem listedL_bound {p : List UInt8} : ∀ l, listedL p = some l → ∀ v ∈ l, 0 ≤ v ∧ v ≤ 9999 := fun _ h => listedF_bound h
end Go.Proofs.YtncokbppijnfiaaGreatDoor
