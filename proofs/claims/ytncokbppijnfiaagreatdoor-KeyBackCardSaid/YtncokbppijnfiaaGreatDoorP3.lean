/- Key: what key.Bytes tells reads back as the key. -/
import Derived.Test.YtncokbppijnfiaaGreatDoorP2
import Derived.Test.YtncokbppijnfiaaGreatDoorG6
namespace Go.Proofs.YtncokbppijnfiaaGreatDoor
open Go.RowKit
set_option linter.unusedSimpArgs false
set_option linter.unusedVariables false

/-- Bytes that read as one key, with the time that runs out behind them or without. -/
def OneB (b : List UInt8) (k : Ms) : Prop := frG false b = (k, 2, b.length) ∨ ((frG false b).2.1 = 0 ∧ frG true b = (k, 2, b.length))
theorem OneB.took {b : List UInt8} {k : Ms} (h : OneB b k) (hb : b ≠ []) : ∃ o1 rest o2, Took (frG false) b o1 rest ∧ Took (frG true) rest o2 [] ∧ o1 ++ o2 = [k] ∧ rest.length ≤ b.length := by
  have hl : 1 ≤ b.length := List.length_pos_iff.2 hb
  have full : ∀ up, frG up b = (k, 2, b.length) → Took (frG up) b [k] [] := fun up e => by
    have := Took.is (F := frG up) b [] [] hb (by rw [e]) (by rw [e]; exact hl) (by rw [e]; exact Nat.le_refl _) (by rw [e]; dsimp only; rw [List.drop_length]; exact Took.nil)
    rw [e] at this
    exact this
  rcases h with h | ⟨h1, h2⟩
  · exact ⟨[k], [], [], full false h, Took.nil, rfl, Nat.zero_le _⟩
  · exact ⟨[], b, [k], Took.waits b hb h1, full true h2, rfl, Nat.le_refl _⟩
/-- bytesL, of the modes only what it asks. -/
def bytesB (c m : Int) (a z : Bool) : List UInt8 :=
  if rightK c m = false ∨ isMouse c = true then []
  else if c < 1114112 then (if m / 4 % 2 = 1 then metaL m ++ [UInt8.ofNat (c % 32).toNat] else metaL m ++ encL c)
  else if c = 1114135 then metaL m ++ [27]
  else if c = 1114134 then metaL m ++ [27, 91, 90]
  else if (endedL c).1 ≠ 0 then (if m ≠ 0 then [27, 91, 49, 59] ++ Lib.itoa (m + 1) ++ [(endedL c).1] else if (endedL c).2 = true ∨ a = true then [27, 79, (endedL c).1] else [27, 91, (endedL c).1])
  else if 1114118 ≤ c ∧ c ≤ 1114133 then [27, 91] ++ Lib.itoa (numOf c) ++ (if m ≠ 0 then [59] ++ Lib.itoa (m + 1) else []) ++ [126]
  else if z = true then [] else if c = 1114141 then [27, 91, 50, 48, 48, 126] else [27, 91, 50, 48, 49, 126]
theorem bytes_B (c m modes : Int) : bytesL c m modes = bytesB c m (decide (bits .and .i64 modes 16 ≠ 0)) (decide (bits .and .i64 modes 64 = 0)) := by
  unfold bytesL bytesB
  simp only [decide_eq_true_eq]
def oneT (b : List UInt8) (k : Ms) : Bool := decide (frG false b = (k, 2, b.length)) || (decide ((frG false b).2.1 = 0) && decide (frG true b = (k, 2, b.length)))
theorem oneT_B {b : List UInt8} {k : Ms} (h : oneT b k = true) : OneB b k := by
  unfold oneT at h
  simp only [Bool.or_eq_true, Bool.and_eq_true, decide_eq_true_eq] at h
  exact h
def keyT (c m : Int) (a : Bool) : Bool := !rightK c m || isMouse c || (oneT (bytesB c m a false) (msOne c m) && decide (bytesB c m a false ≠ []))
set_option maxRecDepth 100000 in
theorem keys_special : ((List.range 31).all fun i => (List.range 8).all fun j => keyT (1114112 + (i : Int)) (j : Int) true && keyT (1114112 + (i : Int)) (j : Int) false) = true := by kernel_rfl
set_option maxRecDepth 100000 in
theorem keys_ascii : ((List.range 128).all fun i => (List.range 8).all fun j => keyT (i : Int) (j : Int) true) = true := by kernel_rfl
end Go.Proofs.YtncokbppijnfiaaGreatDoor
