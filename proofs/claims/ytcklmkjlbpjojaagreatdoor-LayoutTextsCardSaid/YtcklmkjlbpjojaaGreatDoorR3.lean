/- Layout: the reader of a body: node, as a function. No walk. -/
import Derived.Test.YtcklmkjlbpjojaaGreatDoorR2
namespace Go.Proofs.YtcklmkjlbpjojaaGreatDoor
open Go.RowKit
set_option linter.unusedSimpArgs false
set_option linter.unusedVariables false

/-- A tree as it is read. -/
inductive P where
  | mk (p x y a b way : Int) (ks : List P)
mutual
def T.pt : T → P
  | .mk n ks => .mk n.p n.x n.y n.a n.b n.way (ptL ks)
def ptL : List T → List P
  | [] => []
  | k :: ks => k.pt :: ptL ks
end
theorem T.pt_mk (n : Nd) (ks : List T) : (T.mk n ks).pt = .mk n.p n.x n.y n.a n.b n.way (ptL ks) := by rw [T.pt]
theorem ptL_map : ∀ ks : List T, ptL ks = ks.map T.pt
  | [] => by rw [ptL]; rfl
  | k :: ks => by rw [ptL, ptL_map ks]; rfl
/-- What stands ahead of a node's kids: sizes, place, the sign behind them. -/
structure HdP where
  a : Nat
  b : Nat
  x : Nat
  y : Nat
  c : UInt8
  s : List UInt8
  bad : Bool
def hdP (s : List UInt8) (bad : Bool) : HdP :=
  let r1 := numP s bad
  let r2 := nextP [120] r1.2.1 r1.2.2
  let r3 := numP r2.2.1 r2.2.2
  let r4 := nextP [44] r3.2.1 r3.2.2
  let r5 := numP r4.2.1 r4.2.2
  let r6 := nextP [44] r5.2.1 r5.2.2
  let r7 := numP r6.2.1 r6.2.2
  let r8 := nextP [44, 123, 91] r7.2.1 r7.2.2
  ⟨r1.1, r3.1, r5.1, r7.1, r8.1, r8.2.1, r8.2.2⟩
def endB (way : Int) : UInt8 := if way = 0 then 125 else 93
mutual
def nodeP : Nat → List UInt8 → Bool → P × List UInt8 × Bool
  | 0, _, _ => (.mk 0 0 0 0 0 0 [], [], true)
  | n + 1, s, bad =>
    if (hdP s bad).c = 44 then (.mk (numP (hdP s bad).s (hdP s bad).bad).1 (hdP s bad).x (hdP s bad).y (hdP s bad).a (hdP s bad).b 0 [], (numP (hdP s bad).s (hdP s bad).bad).2)
    else if (hdP s bad).c = 123 then (.mk 0 (hdP s bad).x (hdP s bad).y (hdP s bad).a (hdP s bad).b 0 (kidsP n 0 (hdP s bad).s (hdP s bad).bad).1, (kidsP n 0 (hdP s bad).s (hdP s bad).bad).2)
    else if (hdP s bad).c = 91 then (.mk 0 (hdP s bad).x (hdP s bad).y (hdP s bad).a (hdP s bad).b 1 (kidsP n 1 (hdP s bad).s (hdP s bad).bad).1, (kidsP n 1 (hdP s bad).s (hdP s bad).bad).2)
    else (.mk 0 (hdP s bad).x (hdP s bad).y (hdP s bad).a (hdP s bad).b 0 [], (hdP s bad).s, (hdP s bad).bad)
def kidsP : Nat → Int → List UInt8 → Bool → List P × List UInt8 × Bool
  | 0, _, _, _ => ([], [], true)
  | n + 1, way, s, bad =>
    if (nextP [44, endB way] (nodeP n s bad).2.1 (nodeP n s bad).2.2).1 = 44 then
      ((nodeP n s bad).1 :: (kidsP n way (nextP [44, endB way] (nodeP n s bad).2.1 (nodeP n s bad).2.2).2.1 (nextP [44, endB way] (nodeP n s bad).2.1 (nodeP n s bad).2.2).2.2).1,
        (kidsP n way (nextP [44, endB way] (nodeP n s bad).2.1 (nodeP n s bad).2.2).2.1 (nextP [44, endB way] (nodeP n s bad).2.1 (nodeP n s bad).2.2).2.2).2)
    else ([(nodeP n s bad).1], (nextP [44, endB way] (nodeP n s bad).2.1 (nodeP n s bad).2.2).2)
end
def nodeH (n : Nat) (h : HdP) : P × List UInt8 × Bool :=
  if h.c = 44 then (.mk (numP h.s h.bad).1 h.x h.y h.a h.b 0 [], (numP h.s h.bad).2)
  else if h.c = 123 then (.mk 0 h.x h.y h.a h.b 0 (kidsP n 0 h.s h.bad).1, (kidsP n 0 h.s h.bad).2)
  else if h.c = 91 then (.mk 0 h.x h.y h.a h.b 1 (kidsP n 1 h.s h.bad).1, (kidsP n 1 h.s h.bad).2)
  else (.mk 0 h.x h.y h.a h.b 0 [], h.s, h.bad)
def kidsH (n : Nat) (way : Int) (k : P × List UInt8 × Bool) (e : UInt8 × List UInt8 × Bool) : List P × List UInt8 × Bool :=
  if e.1 = 44 then (k.1 :: (kidsP n way e.2.1 e.2.2).1, (kidsP n way e.2.1 e.2.2).2) else ([k.1], e.2)
theorem nodeP_succ (n : Nat) (s : List UInt8) (bad : Bool) : nodeP (n + 1) s bad = nodeH n (hdP s bad) := by rw [nodeP]; rfl
theorem kidsP_succ (n : Nat) (way : Int) (s : List UInt8) (bad : Bool) : kidsP (n + 1) way s bad = kidsH n way (nodeP n s bad) (nextP [44, endB way] (nodeP n s bad).2.1 (nodeP n s bad).2.2) := by rw [kidsP]; rfl
theorem mem_tw {p : UInt8 → Bool} : ∀ {s : List UInt8} {c : UInt8}, c ∈ s.takeWhile p → p c = true
  | [], c, h => by simp at h
  | a :: s, c, h => by
    rw [List.takeWhile_cons] at h
    split at h
    · rename_i ha
      rcases List.mem_cons.1 h with rfl | h
      · exact ha
      · exact mem_tw h
    · simp at h
theorem nextP_cons (l : List UInt8) (c : UInt8) (r : List UInt8) (bad : Bool) : nextP l (c :: r) bad = if c ∈ l then (c, r, bad) else (0, [], true) := rfl
theorem nextP_len (l s : List UInt8) (bad : Bool) : (nextP l s bad).2.1.length ≤ s.length ∧ ((nextP l s bad).1 ≠ 0 → (nextP l s bad).2.1.length + 1 ≤ s.length) := by
  cases s with
  | nil => exact ⟨Nat.le_refl _, fun h => absurd rfl h⟩
  | cons c r =>
    rw [nextP_cons]
    by_cases h : c ∈ l
    · rw [if_pos h]; exact ⟨by simp, fun _ => by simp⟩
    · rw [if_neg h]; exact ⟨by simp, fun h => absurd rfl h⟩
theorem nextP_mem (l s : List UInt8) (bad : Bool) : (nextP l s bad).1 = 0 ∨ (nextP l s bad).1 ∈ l := by
  cases s with
  | nil => exact .inl rfl
  | cons c r =>
    rw [nextP_cons]
    by_cases h : c ∈ l
    · rw [if_pos h]; exact .inr h
    · rw [if_neg h]; exact .inl rfl
theorem numP_len (s : List UInt8) (bad : Bool) : (numP s bad).2.1.length ≤ s.length := by
  unfold numP
  split
  · simp
  · simp
theorem numP_lt (s : List UInt8) (bad : Bool) : (numP s bad).1 < 1000000000 := by
  unfold numP
  split
  · simp
  · rename_i h
    show valD _ < _
    have h1 := valD_lt (s.takeWhile dig) (fun c hc => mem_tw hc)
    have h2 := pow9 (n := (s.takeWhile dig).length) (by omega)
    omega
theorem hdP_len (s : List UInt8) (bad : Bool) : (hdP s bad).s.length ≤ s.length ∧ ((hdP s bad).c ≠ 0 → (hdP s bad).s.length + 1 ≤ s.length) := by
  unfold hdP
  dsimp only
  generalize h1 : numP s bad = r1
  generalize h2 : nextP [120] r1.2.1 r1.2.2 = r2
  generalize h3 : numP r2.2.1 r2.2.2 = r3
  generalize h4 : nextP [44] r3.2.1 r3.2.2 = r4
  generalize h5 : numP r4.2.1 r4.2.2 = r5
  generalize h6 : nextP [44] r5.2.1 r5.2.2 = r6
  generalize h7 : numP r6.2.1 r6.2.2 = r7
  have a1 := numP_len s bad
  have a2 := (nextP_len [120] r1.2.1 r1.2.2).1
  have a3 := numP_len r2.2.1 r2.2.2
  have a4 := (nextP_len [44] r3.2.1 r3.2.2).1
  have a5 := numP_len r4.2.1 r4.2.2
  have a6 := (nextP_len [44] r5.2.1 r5.2.2).1
  have a7 := numP_len r6.2.1 r6.2.2
  obtain ⟨a8, a9⟩ := nextP_len [44, 123, 91] r7.2.1 r7.2.2
  rw [h1] at a1; rw [h2] at a2; rw [h3] at a3; rw [h4] at a4; rw [h5] at a5; rw [h6] at a6; rw [h7] at a7
  exact ⟨by omega, fun h => by have := a9 h; omega⟩
theorem nodeP_len : ∀ n : Nat, (∀ s bad, (nodeP n s bad).2.1.length ≤ s.length) ∧ ∀ way s bad, (kidsP n way s bad).2.1.length ≤ s.length := by
  intro n
  induction n with
  | zero => exact ⟨fun s bad => by rw [nodeP]; simp, fun way s bad => by rw [kidsP]; simp⟩
  | succ n ih =>
    obtain ⟨i1, i2⟩ := ih
    constructor
    · intro s bad
      have h := (hdP_len s bad).1
      rw [nodeP_succ]
      generalize hdP s bad = hd at h
      unfold nodeH
      by_cases c1 : hd.c = 44
      · rw [if_pos c1]; exact Nat.le_trans (numP_len _ _) h
      · rw [if_neg c1]
        by_cases c2 : hd.c = 123
        · rw [if_pos c2]; exact Nat.le_trans (i2 _ _ _) h
        · rw [if_neg c2]
          by_cases c3 : hd.c = 91
          · rw [if_pos c3]; exact Nat.le_trans (i2 _ _ _) h
          · rw [if_neg c3]; exact h
    · intro way s bad
      rw [kidsP_succ]
      have h1 := i1 s bad
      have h2 := (nextP_len [44, endB way] (nodeP n s bad).2.1 (nodeP n s bad).2.2).1
      generalize nodeP n s bad = k at h1 h2
      generalize nextP [44, endB way] k.2.1 k.2.2 = e at h2
      unfold kidsH
      by_cases c1 : e.1 = 44
      · rw [if_pos c1]; exact Nat.le_trans (i2 _ _ _) (Nat.le_trans h2 h1)
      · rw [if_neg c1]; exact Nat.le_trans h2 h1
end Go.Proofs.YtcklmkjlbpjojaaGreatDoor
