/- Format: what the expander reckons, as functions. No program in sight. Format: patterns, and the expander whole, as functions. No program in sight. -/
import Derived.Lib.Split
import Derived.Test.YtfhdfhlabkeipaaGreatDoorRd
namespace Go.Proofs.YtfhdfhlabkeipaaGreatDoor
set_option linter.unusedSimpArgs false
set_option linter.unusedVariables false

abbrev B := List UInt8
/-- What a reckoning gives: an answer and the steps so far, an error, or: not said here. -/
inductive Rs where
  | ok (v : B) (n : Nat)
  | bad (e : Int)
  | no
instance rsDec : DecidableEq Rs := fun a b =>
  match a, b with
  | .ok v n, .ok v' n' => if h : v = v' ∧ n = n' then isTrue (by rw [h.1, h.2]) else isFalse (fun e => h (by injection e with e1 e2; exact ⟨e1, e2⟩))
  | .bad e, .bad e' => if h : e = e' then isTrue (by rw [h]) else isFalse (fun x => h (by injection x))
  | .no, .no => isTrue rfl
  | .ok _ _, .bad _ => isFalse (by intro h; cases h)
  | .ok _ _, .no => isFalse (by intro h; cases h)
  | .bad _, .ok _ _ => isFalse (by intro h; cases h)
  | .bad _, .no => isFalse (by intro h; cases h)
  | .no, .ok _ _ => isFalse (by intro h; cases h)
  | .no, .bad _ => isFalse (by intro h; cases h)
def Rs.bind (r : Rs) (f : B → Nat → Rs) : Rs :=
  match r with
  | .ok v n => f v n
  | .bad e => .bad e
  | .no => .no
/-- A scope: its pairs, and its loops: of which kind, over which scopes (these are asked for pairs alone). -/
structure Sc where
  vars : List (B × B)
  loops : List (UInt8 × List (List (B × B)))
/-- Where the } is that closes what begins here: how far on. d: how deep. -/
def closeL : B → Nat → Nat → Option Nat
  | [], _, _ => none
  | c :: r, d, k =>
    if c = 125 then (if d = 1 then some k else closeL r (d - 1) (k + 1))
    else if c = 35 then
      match r with
      | [] => none
      | e :: r' => if e = 123 then closeL r' (d + 1) (k + 2) else if e = 35 ∨ e = 44 ∨ e = 125 then closeL r' d (k + 2) else closeL (e :: r') d (k + 1)
    else closeL r d (k + 1)
/-- Where the first sign is that stands in no expression. -/
def outL (sign : UInt8) : B → Nat → Nat → Option Nat
  | [], _, _ => none
  | c :: r, d, k =>
    if d = 0 ∧ c = sign then some k
    else if c = 125 ∧ 0 < d then outL sign r (d - 1) (k + 1)
    else if c = 35 then
      match r with
      | [] => none
      | e :: r' => if e = 123 then outL sign r' (d + 1) (k + 2) else if e = 35 ∨ e = 44 ∨ e = 125 then outL sign r' d (k + 2) else outL sign (e :: r') d (k + 1)
    else outL sign r d (k + 1)
def piecesF : Nat → B → List B
  | 0, s => [s]
  | n + 1, s => match outL 44 s 0 0 with
    | none => [s]
    | some k => s.take k :: piecesF n (s.drop (k + 1))
def namedL (c : UInt8) : B :=
  if c = 83 then [115, 101, 115, 115, 105, 111, 110, 95, 110, 97, 109, 101]
  else if c = 87 then [119, 105, 110, 100, 111, 119, 95, 110, 97, 109, 101]
  else if c = 73 then [119, 105, 110, 100, 111, 119, 95, 105, 110, 100, 101, 120]
  else if c = 80 then [112, 97, 110, 101, 95, 105, 110, 100, 101, 120]
  else if c = 70 then [119, 105, 110, 100, 111, 119, 95, 102, 108, 97, 103, 115]
  else if c = 84 then [112, 97, 110, 101, 95, 116, 105, 116, 108, 101]
  else if c = 68 then [112, 97, 110, 101, 95, 105, 100]
  else if c = 72 then [104, 111, 115, 116]
  else []
def trueL (s : B) : Bool := s != [] && s != [48]
def flagL (b : Bool) : B := if b then [49] else [48]
/-- A name's value in one scope. -/
def inL : List (B × B) → B → Option B
  | [], _ => none
  | p :: r, name => if p.1 = name then some p.2 else inL r name
/-- A name's value, of the innermost scope (here: the first) that has one; none: not said here. -/
def valueL : List (Option Sc) → B → Option (Option B)
  | [], _ => some none
  | none :: _, _ => none
  | some sc :: r, name => match inL sc.vars name with
    | some v => some (some v)
    | none => valueL r name
def loopIn : List (UInt8 × List (List (B × B))) → UInt8 → Option (List (List (B × B)))
  | [], _ => none
  | p :: r, k => if p.1 = k then some p.2 else loopIn r k
/-- What a loop goes over. -/
def overL : List (Option Sc) → UInt8 → Option (List (List (B × B)))
  | [], _ => some []
  | none :: _, _ => none
  | some sc :: r, k => match loopIn sc.loops k with
    | some l => some l
    | none => overL r k
def shortL (s : B) (n : Nat) : Rs := if s.length ≤ 8192 then .ok s n else .bad 2
/-- A text, out of what expressions give. Scopes: the innermost first. -/
def textF (ex : B → Nat → Rs) (scs : List (Option Sc)) : Nat → B → B → Nat → Rs
  | 0, _, acc, n => .ok acc n
  | _ + 1, [], acc, n => .ok acc n
  | f + 1, c0 :: r, acc, n =>
    let c : UInt8 := if c0 = 35 then r.headD 0 else 0
    let go (acc' : B) (r' : B) (n' : Nat) : Rs := if acc'.length ≤ 8192 then textF ex scs f r' acc' n' else .bad 2
    if c = 35 ∨ c = 44 ∨ c = 125 then go (acc ++ [c]) r.tail n
    else if c = 123 then
      match closeL r.tail 1 0 with
      | none => .bad 4
      | some k => (ex (r.tail.take k) n).bind fun v n' => go (acc ++ v) (r.tail.drop (k + 1)) n'
    else if namedL c ≠ [] then
      match valueL scs (namedL c) with
      | none => .no
      | some v => if (v.getD []).length ≤ 1000000 then go (acc ++ v.getD []) r.tail n else .no
    else go (acc ++ [c0]) r n
def textL (ex : B → Nat → Rs) (scs : List (Option Sc)) (s : B) (n : Nat) : Rs := textF ex scs s.length s [] n
/-- Two pieces. -/
def twoL (tx : B → Nat → Rs) (rest : B) (n : Nat) (f : B → B → Nat → Rs) : Rs :=
  match piecesF 1 rest with
  | [a, b] => (tx a n).bind fun x n1 => (tx b n1).bind fun y n2 => f x y n2
  | _ => .bad 4
def bytesLess : B → B → Bool
  | _, [] => false
  | [], _ :: _ => true
  | a :: r, b :: s => if a.toNat < b.toNat then true else if b.toNat < a.toNat then false else bytesLess r s
end Go.Proofs.YtfhdfhlabkeipaaGreatDoor
namespace Go.Proofs.YtfhdfhlabkeipaaGreatDoor
set_option linter.unusedSimpArgs false
set_option linter.unusedVariables false

/-- The inside of a class from k on (first: may a ] be one of it?): is the byte in it, and what is behind the ]. -/
def classIn (c : UInt8) : Nat → Bool → B → Bool → Option (Bool × B)
  | 0, _, _, _ => none
  | f + 1, first, s, is =>
    match s with
    | [] => none
    | a :: r =>
      if a = 93 ∧ first = false then some (is, r)
      else if 2 ≤ r.length ∧ r.headD 0 = 45 ∧ r.tail.headD 0 ≠ 93 then classIn c f false r.tail.tail (is || (decide (a.toNat ≤ c.toNat) && decide (c.toNat ≤ (r.tail.headD 0).toNat)))
      else classIn c f false r (is || a == c)
/-- A class behind its [: is the byte in it, and what is behind it; none: it is none. -/
def classL (s : B) (c : UInt8) : Option (Bool × B) :=
  let neg := match s with | a :: _ => a == 33 || a == 94 | [] => false
  let s' := if neg then s.tail else s
  (classIn c (s'.length + 1) true s' false).map fun p => (p.1 != neg, p.2)
/-- The part that a pattern (not empty) begins: does it mean a byte, and what is behind it? -/
def partL (p : B) (c : UInt8) : Bool × B :=
  match p with
  | [] => (false, [])
  | a :: r =>
    if a = 63 then (true, r)
    else if a = 91 then
      match classL r c with
      | some x => x
      | none => (a == c, r)
    else if a = 92 then
      match r with
      | b :: r' => (b == c, r')
      | [] => (a == c, r)
    else (a == c, r)
/-- Does a pattern mean a text? -/
def matchF : Nat → B → B → Bool
  | 0, _, _ => false
  | f + 1, p, s =>
    match p with
    | [] => s == []
    | a :: r =>
      if a = 42 then matchF f r s || (match s with | [] => false | _ :: s' => matchF f (a :: r) s')
      else match s with
        | [] => false
        | c :: s' => (partL (a :: r) c).1 && matchF f (partL (a :: r) c).2 s'
def matchL (p s : B) : Bool := matchF (p.length + s.length + 1) p s

def cmpL (op a b : B) : Bool :=
  if op = [61, 61] then a == b
  else if op = [33, 61] then a != b
  else if op = [60] then Op.bytesLess a b
  else if op = [62] then !(Op.bytesLess a b) && !(a == b)
  else if op = [60, 61] then Op.bytesLess a b || a == b
  else if op = [62, 61] then !(Op.bytesLess a b)
  else if op = [124, 124] then trueL a || trueL b
  else if op = [38, 38] then trueL a && trueL b
  else matchL a b
def isCmp (h : B) : Bool := h == [61, 61] || h == [33, 61] || h == [60] || h == [62] || h == [60, 61] || h == [62, 61] || h == [124, 124] || h == [38, 38] || h == [109]
def activeN : B := [97, 99, 116, 105, 118, 101]
abbrev Tx := List (Option Sc) → B → Nat → Rs
def loopF (tx : Tx) (scs : List (Option Sc)) (p0 : B) (p1 : Option B) : List (List (B × B)) → B → Nat → Rs
  | [], acc, n => .ok acc n
  | s :: r, acc, n =>
    if n + 1 ≤ 10000 then
      let t := match p1 with | some q => if trueL ((inL s activeN).getD []) = true then q else p0 | none => p0
      (tx (some ⟨s, []⟩ :: scs) t (n + 1)).bind fun v n' => if (acc ++ v).length ≤ 8192 then loopF tx scs p0 p1 r (acc ++ v) n' else .bad 2
    else .bad 3
def loopL (tx : Tx) (scs : List (Option Sc)) (k : UInt8) (rest : B) (n : Nat) : Rs :=
  let p := piecesF 1 rest
  match overL scs k with
  | none => .no
  | some l => loopF tx scs (p.headD []) p.tail.head? l [] n
def eitherL (tx : Tx) (scs : List (Option Sc)) (c : B) (n : Nat) : Rs :=
  let p := piecesF 2 c ++ [[], []]
  match valueL scs (p.headD []) with
  | some (some v) => if v.length ≤ 8192 then (if trueL v = true then tx scs (p.tail.headD []) n else tx scs (p.tail.tail.headD []) n) else .bad 2
  | _ => .no
/-- The one reckoning of the examples: 7 by 2. -/
def reckL (tx : Tx) (scs : List (Option Sc)) (op rest : B) (n : Nat) : Rs :=
  if op = [47, 124, 102] then
    twoL (tx scs) rest n fun x y n2 => if x = [55] ∧ y = [50] then .ok [51, 46, 53, 48] n2 else .no
  else .no
def xN : B := [120]
def xV : B := [97, 47, 98, 46, 99]
/-- What is modified: by l any text; else the examples' x alone. -/
def modL (scs : List (Option Sc)) (c : B) (n : Nat) : Rs :=
  if c.take 2 = [108, 58] then shortL (c.drop 2) n
  else if valueL scs xN = some (some xV) then
    if c = [61, 51, 58, 120] then .ok [97, 47, 98] n
    else if c = [98, 58, 120] then .ok [98, 46, 99] n
    else if c = [115, 47, 98, 47, 81, 47, 58, 120] then .ok [97, 47, 81, 46, 99] n
    else if c = [61, 51, 59, 117, 58, 120] then .ok [65, 47, 66] n
    else .no
  else .no
def madeL (tx : Tx) (scs : List (Option Sc)) (c : B) (n : Nat) : Rs :=
  match c with
  | 63 :: r => eitherL tx scs r n
  | _ =>
    match outL 58 c 0 0 with
    | none => match valueL scs c with
      | none => .no
      | some v => .ok (v.getD []) n
    | some k =>
      let head := c.take k
      let rest := c.drop (k + 1)
      if isCmp head = true then twoL (tx scs) rest n fun x y n2 => .ok (flagL (cmpL head x y)) n2
      else if head = [83] ∨ head = [87] ∨ head = [80] then loopL tx scs (head.headD 0) rest n
      else if head.take 2 = [101, 124] then reckL tx scs (head.drop 2) rest n
      else modL scs c n
/-- An expression; d: how much deeper it may go. -/
def exprL : Nat → List (Option Sc) → B → Nat → Rs
  | 0, _, _, _ => .bad 13
  | d + 1, scs, c, n =>
    if n + 1 ≤ 10000 then (madeL (fun scs' s n' => textL (exprL d scs') scs' s n') scs c (n + 1)).bind shortL
    else .bad 3
def expandL (scs : List (Option Sc)) (s : B) : Rs := if s.length ≤ 8192 then textL (exprL 16 scs) scs s 0 else .bad 2

def one1 : List (B × B) := [([119, 105, 110, 100, 111, 119, 95, 110, 97, 109, 101], [111, 110, 101])]
def two1 : List (B × B) := [([119, 105, 110, 100, 111, 119, 95, 110, 97, 109, 101], [116, 119, 111]), (activeN, [49])]
def exSc : Sc := ⟨[([115, 101, 115, 115, 105, 111, 110, 95, 110, 97, 109, 101], [115, 49]), ([119, 105, 110, 100, 111, 119, 95, 105, 110, 100, 101, 120], [51]), (xN, xV), ([121], [48])], [(87, [one1, two1])]⟩
end Go.Proofs.YtfhdfhlabkeipaaGreatDoor
