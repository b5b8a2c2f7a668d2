/- Key: bare in general: the plain part. -/
import Derived.Test.YtncokbppijnfiaaGreatDoorH2
import Derived.Test.YtncokbppijnfiaaGreatDoorF2
namespace Go.Proofs.YtncokbppijnfiaaGreatDoor
open Go.RowKit
set_option linter.unusedSimpArgs false
set_option linter.unusedVariables false

/-- What holds of a decoder between two bytes, told so that it holds behind the next one. -/
def Dc.ok2 (d : Dc) : Prop := d.have' = 0 ∨ (0 ≤ d.r ∧ 1 ≤ d.have' ∧ 1 ≤ d.more ∧ d.have' + d.more ≤ 4 ∧ (d.more = 1 ∧ d.r ≤ 32767 ∨ d.more = 2 ∧ d.r ≤ 511 ∨ d.more = 3 ∧ d.r ≤ 7) ∧ 0 ≤ d.lo ∧ d.hi ≤ 255)
theorem Dc.ok2.ok {d : Dc} (h : d.ok2) : d.ok := by
  unfold Dc.ok2 at h
  unfold Dc.ok
  omega
theorem begin_ok (d : Dc) (c : Int) (h0 : 0 ≤ c) (h1 : c ≤ 255) (hd : d.have' = 0) : (beginL d c).2.ok2 ∧ (beginL d c).1.length ≤ 1 ∧ ∀ z ∈ (beginL d c).1, 0 ≤ z ∧ z ≤ 2097151 := by
  unfold beginL
  split
  · refine ⟨.inl hd, by simp, fun z hz => ?_⟩
    rw [List.mem_singleton] at hz; omega
  split
  · refine ⟨.inr ?_, by simp, fun z hz => by simp at hz⟩
    dsimp only; omega
  split
  · refine ⟨.inr ?_, by simp, fun z hz => by simp at hz⟩
    have e1 : 0 ≤ (if c = 224 then (160 : Int) else 128) := by split <;> omega
    have e2 : (if c = 237 then (159 : Int) else 191) ≤ 255 := by split <;> omega
    dsimp only
    exact ⟨by omega, by omega, by omega, by omega, by omega, e1, e2⟩
  split
  · refine ⟨.inr ?_, by simp, fun z hz => by simp at hz⟩
    have e1 : 0 ≤ (if c = 240 then (144 : Int) else 128) := by split <;> omega
    have e2 : (if c = 244 then (143 : Int) else 191) ≤ 255 := by split <;> omega
    dsimp only
    exact ⟨by omega, by omega, by omega, by omega, by omega, e1, e2⟩
  · refine ⟨.inl hd, by simp, fun z hz => ?_⟩
    rw [List.mem_singleton] at hz; omega
theorem feed_ok (d : Dc) (c : Int) (h0 : 0 ≤ c) (h1 : c ≤ 255) (hd : d.ok2) : (feedL d c).2.ok2 ∧ (feedL d c).1.length ≤ 2 ∧ ∀ z ∈ (feedL d c).1, 0 ≤ z ∧ z ≤ 2097151 := by
  unfold feedL
  split
  · rename_i h
    obtain ⟨a, b, e⟩ := begin_ok d c h0 h1 h
    exact ⟨a, by omega, e⟩
  rename_i hz
  split
  · obtain ⟨a, b, e⟩ := begin_ok { d with have' := 0 } c h0 h1 rfl
    refine ⟨a, by rw [List.length_cons]; omega, fun z hz => ?_⟩
    rw [List.mem_cons] at hz
    rcases hz with rfl | hz
    · omega
    · exact e z hz
  have hk := hd.resolve_left hz
  split
  · refine ⟨.inr ?_, by simp, fun z hz => by simp at hz⟩
    dsimp only; omega
  · refine ⟨.inl rfl, by simp, fun z hz => ?_⟩
    rw [List.mem_singleton] at hz; omega
/-- bare's loop: the rune, and how many bytes it took. -/
def bareLp : Nat → Dc → List UInt8 → Option (Int × Nat)
  | _, _, [] => none
  | i, d, x :: r =>
    match (feedL d (x.toNat : Int)).1 with
    | [] => bareLp (i + 1) (feedL d (x.toNat : Int)).2 r
    | z :: t => some (z, if d.have' ≠ 0 ∧ (t ≠ [] ∨ (feedL d (x.toNat : Int)).2.have' ≠ 0) then i else i + 1)
def dc0 : Dc := ⟨0, 0, 0, 0, 0⟩
/-- bare, behind its loop. -/
def bareR (up : Bool) (n : Nat) : Option (Int × Nat) → Ms × Int × Nat
  | some p => (msOne p.1 0, if widthR p.1 < 1 then 1 else 2, p.2)
  | none => if up = true then (msOne 65533 0, 2, n) else (msNone, 0, 0)
/-- bare. -/
def bareG (up : Bool) (l : List UInt8) : Ms × Int × Nat :=
  match l[0]? with
  | none => (msNone, 0, 0)
  | some c =>
    if c.toNat < 128 then (msOne (bareA c).1 (bareA c).2, 2, 1)
    else bareR up l.length (bareLp 0 dc0 l)
theorem g_new {w w1 w2 : World} {p : Nat} (h : w.grownBy w1 none) (g : w1.grownBy w2 (some p)) (hp : w.heap.size ≤ p) : w.grownBy w2 none := by
  have h5 := (h.but (some p)).trans g
  exact ⟨h5.os, h5.tape, h5.output, h5.size, fun k hk _ => h5.block k hk (by intro e; injection e with e; omega)⟩
theorem MC.grownO {w w' : World} {b : Nat} {k : Ms} {r : Option Nat} (h : MC w b k) (g : w.grownBy w' r) (hr : some b ≠ r) : MC w' b k := (g.block b h.lt hr).trans h
end Go.Proofs.YtncokbppijnfiaaGreatDoor
