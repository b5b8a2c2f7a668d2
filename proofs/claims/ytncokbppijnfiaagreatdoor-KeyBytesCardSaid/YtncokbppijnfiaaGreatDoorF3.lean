/- Key: front as a function, on bytes below 128; equality of keys. -/
import Derived.Test.YtncokbppijnfiaaGreatDoorF2
import Derived.Test.YtncokbppijnfiaaGreatDoorE3
import Derived.Test.YtncokbppijnfiaaGreatDoorC10
namespace Go.Proofs.YtncokbppijnfiaaGreatDoor
open Go.RowKit
set_option linter.unusedSimpArgs false
set_option linter.unusedVariables false

/-- front, on bytes below 128 of which an ESC stands ahead of a '[' or at the end. -/
def frF (up : Bool) (l : List UInt8) : Ms × Int × Nat :=
  if l[0]? = some 27 then (if l[1]? = some 91 then bracketL l up else if up = true then (msOne 1114135 0, 2, 1) else (msNone, 0, 0))
  else match l[0]? with
    | some c => (msOne (bareA c).1 (bareA c).2, 2, 1)
    | none => (msNone, 0, 0)
/-- sequence's contract at what a list holds. -/
def SeqAt (l : List UInt8) : Prop := ∀ z, l[brK l]? = some z → 64 ≤ z.toNat → z.toNat ≤ 126 → ∀ W, Wd W → Calls Tryz.prog 75 #[.string (st ((l.take (brK l)).drop 2)), .int .u8 (z.toNat : Int)] W fun e w' => e = .returned (.tuple #[msV (sequenceL ((l.take (brK l)).drop 2) z).1, .bool (sequenceL ((l.take (brK l)).drop 2) z).2]) ∧ W.grownBy w' none
theorem front_F (up : Bool) (l : List UInt8) (hne : l ≠ []) (hl : l.length ≤ 1000000) (hasc : ∀ c ∈ l, c.toNat < 128) (h27 : l[0]? = some 27 → l.length = 1 ∨ (l[1]? = some 91 ∧ SeqAt l))
    (A : Option Addr) (n c : Nat) (W : World) (hW : Wd W) (hn : n = l.length) (hc : n ≤ c) (hR : Rd W A (bs l)) :
    Calls Tryz.prog 46 #[.slice A n c, .bool up] W fun e w' => e = .returned (.tuple #[msV (frF up l).1, .int .i64 (frF up l).2.1, .int .i64 (frF up l).2.2]) ∧ W.grownBy w' none := by
  by_cases h0 : l[0]? = some 27
  · rcases h27 h0 with h1 | ⟨h1, hS⟩
    · have hl1 : l = [27] := by
        match l, h1, h0 with
        | [x], _, h => simp at h; rw [h]
      subst hl1
      have hn1 : n = 1 := hn
      subst hn1
      refine (front_esc A c up W hR).mono ?_
      rintro e w' ⟨rfl, hg⟩
      refine ⟨?_, hg⟩
      unfold frF
      cases up <;> rfl
    · have hF : frF up l = bracketL l up := by unfold frF; rw [if_pos h0, if_pos h1]
      rw [hF]
      have h2 : 2 ≤ n := by
        have := (List.getElem?_eq_some_iff.1 h1).1; omega
      exact front_br l A n c up W hW hn h2 (by omega) hc hR h0 h1 (fun W' hW' hR' => bracket_any l A n c up W' hW' hn h2 (by omega) hc hR' hS)
  · obtain ⟨x, hx⟩ : ∃ x, l[0]? = some x := by
      cases l with
      | nil => exact absurd rfl hne
      | cons x r => exact ⟨x, rfl⟩
    have hF : frF up l = (msOne (bareA x).1 (bareA x).2, 2, 1) := by unfold frF; rw [if_neg h0, hx]
    rw [hF]
    exact front_bare l x A n c up _ W hn hR hx (fun e => h0 (by rw [hx, e])) (fun W' g => bare_ctl l x A n c up W' hn hc (hR.grown g (.inl rfl)) hx (hasc x (List.mem_of_getElem? hx)))
theorem frontAt_F (up : Bool) (xs : List UInt8) (hl : xs.length ≤ 1000000) (hasc : ∀ c ∈ xs, c.toNat < 128) (h27 : ∀ k, (xs.drop k)[0]? = some 27 → (xs.drop k).length = 1 ∨ ((xs.drop k)[1]? = some 91 ∧ SeqAt (xs.drop k))) : FrontAt (frF up) up xs := by
  intro l hne hle hk A n c W hW hn hc hR
  obtain ⟨k, rfl⟩ := hk
  exact front_F up _ hne (by omega) (fun c hc => hasc c (List.mem_of_mem_drop hc)) (h27 k) A n c W hW hn hc hR
end Go.Proofs.YtncokbppijnfiaaGreatDoor
