/- Format: the laws of a pattern's meaning, and what a greedy reading of the stars keeps. No program in sight. -/
import Derived.Test.YtfhdfhlabkeipaaGreatDoorF1
namespace Go.Proofs.YtfhdfhlabkeipaaGreatDoor
set_option linter.unusedSimpArgs false
set_option linter.unusedVariables false

theorem classIn_rest (c c' : UInt8) : ∀ (f : Nat) (first : Bool) (s : B) (is is' : Bool), (classIn c f first s is).map (·.2) = (classIn c' f first s is').map (·.2)
  | 0, _, _, _, _ => by simp [classIn]
  | f + 1, first, s, is, is' => by
    cases s with
    | nil => simp [classIn]
    | cons a r =>
      rw [classIn, classIn]
      try dsimp only
      split
      · rfl
      · split
        · exact classIn_rest c c' f _ _ _ _
        · exact classIn_rest c c' f _ _ _ _
theorem classIn_len (c : UInt8) : ∀ (f : Nat) (first : Bool) (s : B) (is : Bool) (x : Bool × B), classIn c f first s is = some x → x.2.length < s.length
  | 0, _, _, _, _, h => by simp [classIn] at h
  | f + 1, first, s, is, x, h => by
    cases s with
    | nil => simp [classIn] at h
    | cons a r =>
      rw [classIn] at h
      try dsimp only at h
      split at h
      · injection h with h
        subst h
        simp
      · split at h
        · rename_i h2
          have := classIn_len c f _ _ _ _ h
          simp only [List.length_tail, List.length_cons] at this ⊢
          omega
        · have := classIn_len c f _ _ _ _ h
          simp only [List.length_cons]
          omega
theorem classL_rest (s : B) (c c' : UInt8) : (classL s c).map (·.2) = (classL s c').map (·.2) := by
  unfold classL
  try dsimp only
  rw [Option.map_map, Option.map_map]
  have := classIn_rest c c' (((if (match s with | a :: _ => a == 33 || a == 94 | [] => false) = true then s.tail else s)).length + 1) true (if (match s with | a :: _ => a == 33 || a == 94 | [] => false) = true then s.tail else s) false false
  exact this
theorem ite_tail (b : Bool) (s : B) : (if b = true then s.tail else s).length ≤ s.length := by cases b <;> simp
theorem classL_len {s : B} {c : UInt8} {x : Bool × B} (h : classL s c = some x) : x.2.length < s.length := by
  unfold classL at h
  try dsimp only at h
  rw [Option.map_eq_some_iff] at h
  obtain ⟨y, hy, rfl⟩ := h
  have := classIn_len c _ _ _ _ _ hy
  refine Nat.lt_of_lt_of_le this ?_
  exact ite_tail _ _
theorem partL_len {p : B} (c : UInt8) (h : p ≠ []) : (partL p c).2.length < p.length := by
  cases p with
  | nil => exact absurd rfl h
  | cons a r =>
    unfold partL
    try dsimp only
    split
    · simp
    · split
      · cases hc : classL r c with
        | none => simp
        | some x => have := classL_len hc; simp only [List.length_cons]; omega
      · split
        · cases r <;> simp <;> omega
        · simp
theorem partL_rest (p : B) (c c' : UInt8) : (partL p c).2 = (partL p c').2 := by
  cases p with
  | nil => rfl
  | cons a r =>
    unfold partL
    try dsimp only
    split
    · rfl
    · split
      · have := classL_rest r c c'
        cases h1 : classL r c <;> cases h2 : classL r c' <;> simp [h1, h2] at this ⊢
        exact this
      · split
        · cases r <;> rfl
        · rfl
theorem matchF_cons (f : Nat) (a : UInt8) (r s : B) : matchF (f + 1) (a :: r) s = if a = 42 then matchF f r s || (match s with | [] => false | _ :: s' => matchF f (a :: r) s')
    else match s with
      | [] => false
      | c :: s' => (partL (a :: r) c).1 && matchF f (partL (a :: r) c).2 s' := rfl
theorem matchF_fuel : ∀ (f g : Nat) (p s : B), p.length + s.length < f → p.length + s.length < g → matchF f p s = matchF g p s
  | 0, _, _, _, h, _ => absurd h (by omega)
  | _ + 1, 0, _, _, _, h => absurd h (by omega)
  | f + 1, g + 1, p, s, hf, hg => by
    cases p with
    | nil => rfl
    | cons a r =>
      rw [matchF_cons, matchF_cons]
      try dsimp only
      simp only [List.length_cons] at hf hg
      split
      · rw [matchF_fuel f g r s (by omega) (by omega)]
        cases s with
        | nil => rfl
        | cons c s' =>
          try dsimp only
          simp only [List.length_cons] at hf hg
          rw [matchF_fuel f g (a :: r) s' (by simp only [List.length_cons]; omega) (by simp only [List.length_cons]; omega)]
      · cases s with
        | nil => rfl
        | cons c s' =>
          try dsimp only
          simp only [List.length_cons] at hf hg
          have := partL_len (p := a :: r) c (by simp)
          simp only [List.length_cons] at this
          rw [matchF_fuel f g (partL (a :: r) c).2 s' (by omega) (by omega)]
theorem matchF_L {f : Nat} {p s : B} (h : p.length + s.length < f) : matchF f p s = matchL p s := matchF_fuel f _ p s h (by omega)
theorem M_nil (s : B) : matchL [] s = (s == []) := by unfold matchL; rw [matchF]
theorem M_star (r s : B) : matchL (42 :: r) s = (matchL r s || (match s with | [] => false | _ :: s' => matchL (42 :: r) s')) := by
  conv => lhs; unfold matchL
  rw [List.length_cons, show r.length + 1 + s.length + 1 = (r.length + 1 + s.length) + 1 from rfl, matchF_cons]
  try dsimp only
  rw [if_pos rfl, matchF_L (by omega)]
  cases s with
  | nil => rfl
  | cons c s' => dsimp only; rw [matchF_L (by simp only [List.length_cons]; omega)]
theorem M_one_nil {a : UInt8} (h : a ≠ 42) (r : B) : matchL (a :: r) [] = false := by
  unfold matchL
  rw [List.length_cons, show r.length + 1 + ([] : B).length + 1 = (r.length + 1 + ([] : B).length) + 1 from rfl, matchF_cons]
  try dsimp only
  rw [if_neg h]
theorem M_one {a : UInt8} (h : a ≠ 42) (r : B) (c : UInt8) (s : B) : matchL (a :: r) (c :: s) = ((partL (a :: r) c).1 && matchL (partL (a :: r) c).2 s) := by
  conv => lhs; unfold matchL
  rw [matchF_cons]
  try dsimp only
  have := partL_len (p := a :: r) c (by simp)
  simp only [List.length_cons] at this
  rw [if_neg h, matchF_L (by simp only [List.length_cons]; omega)]
/-- A star takes in what is ahead. -/
theorem M_more {r : B} : ∀ (y s : B), matchL (42 :: r) s = true → matchL (42 :: r) (y ++ s) = true
  | [], s, h => h
  | c :: y, s, h => by
    rw [List.cons_append, M_star]
    simp [M_more y s h]
theorem M_star_iff {r : B} : ∀ (s : B), matchL (42 :: r) s = true ↔ ∃ k, k ≤ s.length ∧ matchL r (s.drop k) = true
  | [] => by rw [M_star]; simp
  | c :: s => by
    rw [M_star]
    simp only [Bool.or_eq_true]
    rw [M_star_iff s]
    constructor
    · rintro (h | ⟨k, hk, h⟩)
      · exact ⟨0, by simp, h⟩
      · exact ⟨k + 1, by simpa using hk, by simpa using h⟩
    · rintro ⟨k, hk, h⟩
      rcases k with _ | k
      · exact .inl h
      · exact .inr ⟨k, by simpa using hk, by simpa using h⟩
/-- Are all bytes stars? -/
def stars (p : B) : Bool := p.all (· == 42)
theorem M_end : ∀ (p : B), matchL p [] = stars p
  | [] => by rw [M_nil]; rfl
  | a :: r => by
    by_cases h : a = 42
    · subst h
      rw [M_star, M_end r]
      simp [stars]
    · rw [M_one_nil h]
      simp [stars, h]
/-- From R, x on to p, s: so many bytes by as many parts, none of them a star. -/
inductive Adv (R x : B) : Nat → B → B → Prop
  | refl : Adv R x 0 R x
  | step {m : Nat} {a : UInt8} {r : B} {c : UInt8} {s : B} (h : Adv R x m (a :: r) (c :: s)) (ha : a ≠ 42) (hp : (partL (a :: r) c).1 = true) : Adv R x (m + 1) (partL (a :: r) c).2 s
theorem Adv.M {R x p s : B} {m : Nat} (h : Adv R x m p s) : matchL R x = matchL p s := by
  induction h with
  | refl => rfl
  | step h ha hp ih => rw [ih, M_one ha, hp, Bool.true_and]
theorem Adv.len {R x p s : B} {m : Nat} (h : Adv R x m p s) : x.length = m + s.length ∧ s = x.drop m := by
  induction h with
  | refl => simp
  | @step m a r c s h ha hp ih =>
    obtain ⟨i1, i2⟩ := ih
    simp only [List.length_cons] at i1
    refine ⟨by omega, ?_⟩
    have : x.drop (m + 1) = (x.drop m).drop 1 := by rw [List.drop_drop]
    rw [this, ← i2]
    rfl
theorem Adv.any {R x p s : B} {m : Nat} (h : Adv R x m p s) : ∀ y, matchL R y = true → m ≤ y.length ∧ matchL p (y.drop m) = true := by
  induction h with
  | refl => intro y hy; exact ⟨Nat.zero_le _, hy⟩
  | @step m a r c s h ha hp ih =>
    intro y hy
    obtain ⟨i1, i2⟩ := ih y hy
    cases hd : y.drop m with
    | nil => rw [hd, M_one_nil ha] at i2; cases i2
    | cons c' y' =>
      rw [hd, M_one ha, Bool.and_eq_true] at i2
      have hl : (y.drop m).length = y'.length + 1 := by rw [hd]; simp
      rw [List.length_drop] at hl
      refine ⟨by omega, ?_⟩
      have : y.drop (m + 1) = (y.drop m).drop 1 := by rw [List.drop_drop]
      rw [this, hd, partL_rest _ c c']
      exact i2.2
/-- A new star: what was ahead is settled. -/
theorem Adv.star {R x R' s : B} {m : Nat} (h : Adv R x m (42 :: R') s) : matchL (42 :: R) x = matchL (42 :: R') s := by
  rw [Bool.eq_iff_iff]
  constructor
  · intro hx
    obtain ⟨k, hk, hx⟩ := (M_star_iff x).1 hx
    obtain ⟨h1, h2⟩ := h.any _ hx
    obtain ⟨l1, l2⟩ := h.len
    have e : s = (s.take k) ++ (x.drop k).drop m := by
      rw [List.drop_drop]
      conv => lhs; rw [← List.take_append_drop k s]
      congr 1
      rw [l2, List.drop_drop, Nat.add_comm]
    rw [e]
    exact M_more _ _ h2
  · intro hs
    rw [M_star, h.M, hs]
    rfl
/-- A miss: the star takes one byte more. -/
theorem Adv.miss {R p s : B} {c : UInt8} {x : B} {m : Nat} (h : Adv R (c :: x) m p s) (hf : matchL p s = false) : matchL (42 :: R) (c :: x) = matchL (42 :: R) x := by
  rw [M_star, h.M, hf]
  rfl
/-- The text's end. -/
theorem Adv.end_ {R x p : B} {m : Nat} (h : Adv R x m p []) : matchL (42 :: R) x = stars p := by
  rw [← M_end p, Bool.eq_iff_iff]
  constructor
  · intro hx
    obtain ⟨k, hk, hx⟩ := (M_star_iff x).1 hx
    obtain ⟨h1, h2⟩ := h.any _ hx
    obtain ⟨l1, l2⟩ := h.len
    have e : (x.drop k).drop m = [] := by
      rw [List.drop_drop]
      apply List.drop_eq_nil_of_le
      simp only [List.length_nil] at l1
      omega
    rwa [e] at h2
  · intro hs
    rw [M_star, h.M, hs]
    rfl
end Go.Proofs.YtfhdfhlabkeipaaGreatDoor
