/- Format: where a pattern's parts begin, and a pattern's meaning from its end on. No program in sight. -/
import Derived.Test.YtfhdfhlabkeipaaGreatDoorF4
namespace Go.Proofs.YtfhdfhlabkeipaaGreatDoor
set_option linter.unusedSimpArgs false
set_option linter.unusedVariables false

theorem xIn_suf (c : UInt8) : ∀ (f : Nat) (first : Bool) (s : B) (is : Bool) (x : Bool × B), classIn c f first s is = some x → ∃ k, x.2 = s.drop k
  | 0, _, _, _, _, h => by simp [classIn] at h
  | f + 1, first, s, is, x, h => by
    cases s with
    | nil => simp [classIn] at h
    | cons a r =>
      rw [classIn] at h
      try dsimp only at h
      split at h
      · injection h with h
        subst h
        exact ⟨1, rfl⟩
      · split at h
        · obtain ⟨k, hk⟩ := xIn_suf c f _ _ _ _ h
          exact ⟨k + 3, by rw [hk, ← List.drop_one, ← List.drop_one, List.drop_drop, List.drop_drop]; rw [show k + 3 = (1 + (1 + k)) + 1 by omega]; rfl⟩
        · obtain ⟨k, hk⟩ := xIn_suf c f _ _ _ _ h
          exact ⟨k + 1, hk⟩
theorem xL_suf {s : B} {c : UInt8} {x : Bool × B} (h : classL s c = some x) : ∃ k, x.2 = s.drop k := by
  unfold classL at h
  try dsimp only at h
  rw [Option.map_eq_some_iff] at h
  obtain ⟨y, hy, rfl⟩ := h
  obtain ⟨k, hk⟩ := xIn_suf c _ _ _ _ _ hy
  dsimp only
  rw [hk]
  have key : ∀ b : Bool, ∃ k', (if b = true then s.tail else s).drop k = s.drop k' := fun b => by
    cases b with
    | false => exact ⟨k, rfl⟩
    | true => exact ⟨1 + k, by rw [if_pos rfl, ← List.drop_one, List.drop_drop]⟩
  exact key _
theorem xP_suf (p : B) (c : UInt8) : ∃ k, (partL p c).2 = p.drop k := by
  cases p with
  | nil => exact ⟨0, rfl⟩
  | cons a r =>
    unfold partL
    try dsimp only
    split
    · exact ⟨1, rfl⟩
    · split
      · cases hc : classL r c with
        | none => exact ⟨1, rfl⟩
        | some x =>
          obtain ⟨k, hk⟩ := xL_suf hc
          exact ⟨k + 1, hk⟩
      · split
        · cases r with
          | nil => exact ⟨1, rfl⟩
          | cons b r' => exact ⟨2, rfl⟩
        · exact ⟨1, rfl⟩
/-- Where the part behind the one at i begins. -/
def nxt (P : B) (i : Nat) : Nat := P.length - (partL (P.drop i) 0).2.length
theorem nxt_drop {P : B} {i : Nat} (c : UInt8) (hi : i < P.length) : (partL (P.drop i) c).2 = P.drop (nxt P i) ∧ i < nxt P i ∧ nxt P i ≤ P.length := by
  have h0 : (partL (P.drop i) c).2 = (partL (P.drop i) 0).2 := partL_rest _ _ _
  obtain ⟨k, hk⟩ := xP_suf (P.drop i) 0
  have hl := partL_len (p := P.drop i) 0 (by intro h; have := congrArg List.length h; rw [List.length_drop] at this; simp at this; omega)
  unfold nxt
  rw [h0]
  rw [hk, List.drop_drop] at hl ⊢
  simp only [List.length_drop] at hl ⊢
  refine ⟨?_, by omega, by omega⟩
  by_cases h : i + k ≤ P.length
  · rw [show P.length - (P.length - (i + k)) = i + k by omega]
  · rw [List.drop_eq_nil_of_le (by omega), List.drop_eq_nil_of_le (by omega)]
/-- Where the parts begin, from i on. -/
def begF (P : B) : Nat → Nat → List Nat
  | 0, _ => []
  | f + 1, i => if i < P.length then i :: begF P f (nxt P i) else []
theorem begF_fuel (P : B) : ∀ (f g i : Nat), P.length ≤ f + i → P.length ≤ g + i → begF P f i = begF P g i
  | 0, 0, _, _, _ => rfl
  | 0, g + 1, i, h, _ => by unfold begF; rw [if_neg (by omega)]
  | f + 1, 0, i, _, h => by unfold begF; rw [if_neg (by omega)]
  | f + 1, g + 1, i, h1, h2 => by
    unfold begF
    split
    · rename_i h
      have := nxt_drop 0 h
      rw [begF_fuel P f g (nxt P i) (by omega) (by omega)]
    · rfl
def beg (P : B) (i : Nat) : List Nat := begF P P.length i
theorem beg_end {P : B} {i : Nat} (h : P.length ≤ i) : beg P i = [] := by
  unfold beg
  cases hl : P.length with
  | zero => rfl
  | succ n => unfold begF; rw [if_neg (by omega)]
theorem beg_cons {P : B} {i : Nat} (h : i < P.length) : beg P i = i :: beg P (nxt P i) := by
  unfold beg
  cases hl : P.length with
  | zero => omega
  | succ n =>
    have := nxt_drop 0 h
    conv => lhs; unfold begF
    rw [if_pos (by omega), ← hl, begF_fuel P n P.length (nxt P i) (by omega) (by omega)]
theorem beg_len (P : B) : ∀ (m i : Nat), P.length - i ≤ m → (beg P i).length ≤ P.length - i
  | 0, i, h => by rw [beg_end (by omega)]; simp
  | m + 1, i, h => by
    by_cases hi : i < P.length
    · have := nxt_drop 0 hi
      have := beg_len P m (nxt P i) (by omega)
      rw [beg_cons hi]
      simp only [List.length_cons]
      omega
    · rw [beg_end (by omega)]; simp
/-- Behind the x-th part is the next one, or the pattern's end. -/
theorem beg_at (P : B) : ∀ (m i : Nat), P.length - i ≤ m → ∀ (x b : Nat), (beg P i)[x]? = some b → i ≤ b ∧ b < P.length ∧ nxt P b = ((beg P i)[x + 1]?).getD P.length
  | 0, i, h, x, b, hx => by rw [beg_end (by omega)] at hx; simp at hx
  | m + 1, i, h, x, b, hx => by
    by_cases hi : i < P.length
    · obtain ⟨n1, n2, n3⟩ := nxt_drop 0 hi
      rw [beg_cons hi] at hx ⊢
      rcases x with _ | x
      · simp at hx
        subst hx
        refine ⟨Nat.le_refl _, hi, ?_⟩
        rw [List.getElem?_cons_succ]
        by_cases hj : nxt P i < P.length
        · rw [beg_cons hj]; rfl
        · rw [beg_end (by omega)]
          simp
          omega
      · rw [List.getElem?_cons_succ] at hx
        obtain ⟨h1, h2, h3⟩ := beg_at P m (nxt P i) (by omega) x b hx
        rw [List.getElem?_cons_succ]
        exact ⟨by omega, h2, h3⟩
    · rw [beg_end (by omega)] at hx; simp at hx
/-- The row of a pattern from b on: does it mean what is left of s from j on? -/
def rowM (P s : B) (b : Nat) : List Bool := (List.range (s.length + 1)).map fun j => matchL (P.drop b) (s.drop j)
theorem rowM_at {P s : B} {b j : Nat} (hj : j ≤ s.length) : (rowM P s b)[j]? = some (matchL (P.drop b) (s.drop j)) := by
  unfold rowM
  rw [List.getElem?_map, List.getElem?_range (by omega)]
  rfl
theorem rowM_len (P s : B) (b : Nat) : (rowM P s b).length = s.length + 1 := by simp [rowM]
theorem match_end (P s : B) {b j : Nat} (hb : P.length ≤ b) (hj : j ≤ s.length) : matchL (P.drop b) (s.drop j) = decide (j = s.length) := by
  rw [List.drop_eq_nil_of_le hb, M_nil, Bool.eq_iff_iff, beq_iff_eq, decide_eq_true_eq]
  constructor
  · intro h
    have := congrArg List.length h
    rw [List.length_drop] at this
    simp at this
    omega
  · rintro rfl
    exact List.drop_length
theorem match_one {P s : B} {b j : Nat} {a c : UInt8} (ha : P[b]? = some a) (h42 : a ≠ 42) (hj : s[j]? = some c) :
    matchL (P.drop b) (s.drop j) = (matchL (P.drop (nxt P b)) (s.drop (j + 1)) && (partL (P.drop b) c).1) := by
  have hb := (List.getElem?_eq_some_iff.1 ha).1
  have h := (nxt_drop c hb).1
  rw [drop_at ha] at h ⊢
  rw [drop_at hj, M_one h42, h, Bool.and_comm]
theorem match_one_end {P s : B} {b j : Nat} {a : UInt8} (ha : P[b]? = some a) (h42 : a ≠ 42) (hj : s.length ≤ j) : matchL (P.drop b) (s.drop j) = false := by
  rw [drop_at ha, List.drop_eq_nil_of_le hj, M_one_nil h42]
theorem nxt_star {P : B} {b : Nat} (ha : P[b]? = some 42) : nxt P b = b + 1 := by
  have hb := (List.getElem?_eq_some_iff.1 ha).1
  unfold nxt
  rw [drop_at ha]
  unfold partL
  dsimp only
  rw [if_neg (by decide), if_neg (by decide), if_neg (by decide), List.length_drop]
  omega
theorem match_star {P s : B} {b j : Nat} (ha : P[b]? = some 42) (hj : j < s.length) :
    matchL (P.drop b) (s.drop j) = (matchL (P.drop b) (s.drop (j + 1)) || matchL (P.drop (nxt P b)) (s.drop j)) := by
  rw [nxt_star ha, drop_at ha, M_star]
  obtain ⟨c, hc⟩ : ∃ c, s[j]? = some c := ⟨s[j], List.getElem?_eq_getElem _⟩
  rw [drop_at hc, Bool.or_comm]
theorem match_star_end {P s : B} {b j : Nat} (ha : P[b]? = some 42) (hj : j = s.length) :
    matchL (P.drop b) (s.drop j) = matchL (P.drop (nxt P b)) (s.drop j) := by
  have hd : s.drop j = [] := List.drop_eq_nil_of_le (by omega)
  rw [nxt_star ha, drop_at ha, M_star, hd]
  simp
end Go.Proofs.YtfhdfhlabkeipaaGreatDoor
