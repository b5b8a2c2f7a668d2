/- Key: names read. No walk. -/
import Derived.Test.YtncokbppijnfiaaGreatDoorC2
namespace Go.Proofs.YtncokbppijnfiaaGreatDoor
set_option linter.unusedSimpArgs false
set_option linter.unusedVariables false

def lowK (c : Int) : Int := if 65 ≤ c ∧ c ≤ 90 then c + 32 else c
/-- A key with Ctrl as it is told. -/
def plainK (c m : Int) : Int × Int :=
  if lowK c = 105 then (9, m - 4) else if lowK c = 109 then (13, m - 4) else if lowK c = 91 then (1114135, m - 4) else if lowK c = 64 then (32, m) else (lowK c, m)
/-- The code of a name; -1: there is none. -/
def codeL (s : List UInt8) : Int :=
  if s = nameC 9 then 9 else if s = nameC 13 then 13 else if s = nameC 32 then 32 else if s = nameC 127 then 127
  else if s ∈ specialsL then 1114112 + (specialsL.idxOf s : Int)
  else if (Lib.decodeGo (st s)).2 = 0 ∨ (Lib.decodeGo (st s)).2 ≠ s.length ∨ ((Lib.decodeGo (st s)).1 = 65533 ∧ (Lib.decodeGo (st s)).2 = 1) ∨ nameC ((Lib.decodeGo (st s)).1 : Int) ≠ s then -1 else ((Lib.decodeGo (st s)).1 : Int)
def modOf (a : UInt8) : Int := if a = 67 then 4 else if a = 77 then 2 else if a = 83 then 1 else 0
/-- The modifiers ahead of a name: the rest and their sum; none: one stands twice. -/
def modsL : Int → List UInt8 → Option (Int × List UInt8)
  | m, a :: b :: c :: r =>
    if b = 45 ∧ modOf a ≠ 0 then (if m / modOf a % 2 = 1 then none else modsL (m + modOf a) (c :: r)) else some (m, a :: b :: c :: r)
  | m, s => some (m, s)
def finL (m : Int) (t : List UInt8) : Option (Int × Int) :=
  if rightK (if 4 ≤ m then plainK (codeL t) m else (codeL t, m)).1 (if 4 ≤ m then plainK (codeL t) m else (codeL t, m)).2 then some (if 4 ≤ m then plainK (codeL t) m else (codeL t, m)) else none
def parseL (s : List UInt8) : Option (Int × Int) := (modsL 0 s).bind fun p => finL p.1 p.2
end Go.Proofs.YtncokbppijnfiaaGreatDoor
