/- Key: what the package reckons, as functions. No program in sight. -/
import Derived.Lib.Split
import Derived.Lib.AtoiAll
namespace Go.Proofs.YtncokbppijnfiaaGreatDoor
set_option linter.unusedSimpArgs false
set_option linter.unusedVariables false

/-- A mouse's key as it stands in memory: code, modifiers, button, place. -/
structure Ms where
  c : Int
  m : Int
  b : Int
  x : Int
  y : Int
deriving DecidableEq
def msOne (c m : Int) : Ms := ⟨c, m, 0, 0, 0⟩
def msNone : Ms := ⟨0, 0, 0, 0, 0⟩
def within (r : Int) (l : List (Int × Int)) : Bool := l.any fun p => decide (p.1 ≤ r) && decide (r ≤ p.2)
def zeroT : List (Int × Int) := [(0x300, 0x36f), (0x200b, 0x200f), (0xfe00, 0xfe0f)]
def wideT : List (Int × Int) := [(0x1100, 0x115f), (0x2e80, 0x303e), (0x3041, 0x4dbf), (0x4e00, 0xa4cf), (0xac00, 0xd7a3), (0xf900, 0xfaff), (0xfe30, 0xfe6f), (0xff00, 0xff60), (0xffe0, 0xffe6), (0x1f300, 0x1f64f), (0x1f900, 0x1f9ff), (0x20000, 0x3fffd)]
def widthR (r : Int) : Int := if r < 32 ∨ 1114111 < r ∨ within r [(0x7f, 0x9f)] = true then -1 else if within r zeroT = true then 0 else if within r wideT = true then 2 else 1
def isMouse (c : Int) : Bool := decide (1114136 ≤ c) && decide (c ≤ 1114140)
/-- The letter of a key, and is it one of F1 to F4? -/
def endedL (c : Int) : UInt8 × Bool :=
  if 1114112 ≤ c ∧ c ≤ 1114117 then (([65, 66, 68, 67, 72, 70] : List UInt8).getD (c - 1114112).toNat 0, false)
  else if 1114122 ≤ c ∧ c ≤ 1114125 then (UInt8.ofNat (80 + (c - 1114122).toNat), true)
  else (0, false)
def letteredL (z : UInt8) : Int :=
  if z = 65 then 1114112 else if z = 66 then 1114113 else if z = 68 then 1114114 else if z = 67 then 1114115 else if z = 72 then 1114116 else if z = 70 then 1114117
  else if z = 80 then 1114122 else if z = 81 then 1114123 else if z = 82 then 1114124 else if z = 83 then 1114125 else 0
def numbersL : List Int := [2, 3, 5, 6, 0, 0, 0, 0, 15, 17, 18, 19, 20, 21, 23, 24]
def tildeL (n : Int) : Int :=
  if n = 1 ∨ n = 7 then 1114116 else if n = 4 ∨ n = 8 then 1114117 else if n = 200 then 1114141 else if n = 201 then 1114142
  else if 11 ≤ n ∧ n ≤ 14 then 1114122 + n - 11
  else if 0 < n ∧ n ∈ numbersL then 1114118 + (numbersL.idxOf n : Int) else 0
/-- The pieces of a text between ';'. -/
def piecesL (p : List UInt8) : List (List UInt8) := (Lib.splitB ⟨#[59]⟩ 0 (Lib.countB ⟨p.toArray⟩ ⟨#[59]⟩) ⟨p.toArray⟩).map fun b => b.data.toList
/-- A piece as a number: one to four digits. -/
def numL (d : List UInt8) : Option Int :=
  match Lib.atoiAll d with
  | .ok v => if 4 < d.length ∨ (d.headD 0).toNat < 48 then none else some v
  | _ => none
def listedF : List (List UInt8) → Option (List Int)
  | [] => some []
  | d :: r => match numL d with
    | none => none
    | some v => (listedF r).map (v :: ·)
def listedL (p : List UInt8) : Option (List Int) := listedF (piecesL p)
/-- The low bits of a mouse's number: b2 b1 b0, the others but the modifiers' three. -/
def pointedL (q : List UInt8) (z : UInt8) : Ms × Bool :=
  match listedL q with
  | some [n, x, y] =>
    if x < 1 ∨ y < 1 ∨ (z ≠ 77 ∧ z ≠ 109) then (msNone, false)
    else
      let b := n / 32 * 32 + n % 4
      let m := n / 4 % 8
      if b ≤ 2 then (⟨if z = 109 then 1114137 else 1114136, m, b + 1, x - 1, y - 1⟩, true)
      else if 32 ≤ b ∧ b ≤ 34 then (⟨1114138, m, b - 31, x - 1, y - 1⟩, decide (z = 77))
      else if b = 64 then (⟨1114139, m, 0, x - 1, y - 1⟩, decide (z = 77))
      else if b = 65 then (⟨1114140, m, 0, x - 1, y - 1⟩, decide (z = 77))
      else (msNone, false)
  | _ => (msNone, false)
def sequenceL (p : List UInt8) (z : UInt8) : Ms × Bool :=
  if p.head? = some 60 then pointedL p.tail z
  else if p = [] ∧ z = 90 then (msOne 1114134 0, true)
  else if p = [] then (msOne (letteredL z) 0, decide (letteredL z ≠ 0 ∧ letteredL z < 1114122))
  else match listedL p with
    | none => (msNone, false)
    | some l =>
      if 2 < l.length ∨ (l.length = 2 ∧ (l.getD 1 0 < 2 ∨ 8 < l.getD 1 0)) then (msNone, false)
      else
        let m := if l.length = 2 then l.getD 1 0 - 1 else 0
        if z = 126 then (msOne (tildeL (l.getD 0 0)) m, decide (tildeL (l.getD 0 0) ≠ 0 ∧ (tildeL (l.getD 0 0) < 1114141 ∨ l.length = 1)))
        else (msOne (letteredL z) m, decide (letteredL z ≠ 0 ∧ l.length = 2 ∧ p.take 2 = [49, 59]))
def parB (c : UInt8) : Bool := decide (48 ≤ c.toNat) && decide (c.toNat ≤ 63)
def waitsL : Int := 0
/-- A sequence behind ESC [: b is the whole. -/
def bracketL (b : List UInt8) (up : Bool) : Ms × Int × Nat :=
  let k := 2 + (((b.drop 2).take 31).takeWhile parB).length
  if 32 < k then (msOne 91 2, 2, 2)
  else match b[k]? with
    | none => if up then (msOne 91 2, 2, 2) else (msNone, 0, 0)
    | some z => if 64 ≤ z.toNat ∧ z.toNat ≤ 126 then (if (sequenceL ((b.take k).drop 2) z).2 then ((sequenceL ((b.take k).drop 2) z).1, 2, k + 1) else (msNone, 1, k + 1)) else (msOne 91 2, 2, 2)
end Go.Proofs.YtncokbppijnfiaaGreatDoor
