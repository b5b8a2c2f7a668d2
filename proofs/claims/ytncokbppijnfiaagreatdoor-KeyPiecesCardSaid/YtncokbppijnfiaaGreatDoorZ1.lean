/- Key: bytes fed in pieces read as the whole. No walk. -/
import Derived.Test.YtncokbppijnfiaaGreatDoorG6
namespace Go.Proofs.YtncokbppijnfiaaGreatDoor
set_option linter.unusedSimpArgs false
set_option linter.unusedVariables false

theorem bareLp_more : ∀ (l : List UInt8) (i : Nat) (d : Dc) (c : List UInt8) (p : Int × Nat), bareLp i d l = some p → bareLp i d (l ++ c) = some p
  | [], _, _, _, _, h => by cases h
  | x :: r, i, d, c, p, h => by
    rw [List.cons_append]
    rw [bareLp] at h ⊢
    cases e : (feedL d (x.toNat : Int)).1 with
    | nil =>
      rw [e] at h
      exact bareLp_more r _ _ c p h
    | cons z t =>
      rw [e] at h
      exact h
theorem two0 : (2 : Int) ≠ 0 := by decide
theorem one0 : (1 : Int) ≠ 0 := by decide
theorem bareG_cons (up : Bool) (x : UInt8) (r : List UInt8) : bareG up (x :: r) = if x.toNat < 128 then (msOne (bareA x).1 (bareA x).2, 2, 1) else bareR up (x :: r).length (bareLp 0 dc0 (x :: r)) := rfl
theorem bareG_more (x : UInt8) (r c : List UInt8) (h : (bareG false (x :: r)).2.1 ≠ 0) : bareG false (x :: (r ++ c)) = bareG false (x :: r) := by
  rw [bareG_cons] at h ⊢
  rw [bareG_cons]
  by_cases hx : x.toNat < 128
  · rw [if_pos hx, if_pos hx]
  rw [if_neg hx] at h ⊢
  rw [if_neg hx]
  cases hp : bareLp 0 dc0 (x :: r) with
  | none => rw [hp] at h; exact absurd rfl h
  | some p =>
    have := bareLp_more (x :: r) 0 dc0 c p hp
    rw [List.cons_append] at this
    rw [this]
    rfl
theorem tw_more {α : Type} (p : α → Bool) : ∀ (l c : List α), (l.takeWhile p).length < l.length → (l ++ c).takeWhile p = l.takeWhile p
  | [], _, h => by simp at h
  | x :: r, c, h => by
    rw [List.cons_append, List.takeWhile_cons, List.takeWhile_cons]
    by_cases hx : p x = true
    · rw [if_pos hx, if_pos hx, tw_more p r c (by rw [List.takeWhile_cons, if_pos hx] at h; simpa using h)]
    · rw [if_neg hx, if_neg hx]
theorem brK_more (l c : List UInt8) (h2 : 2 ≤ l.length) (h : 32 < brK l ∨ brK l < l.length) : brK (l ++ c) = brK l := by
  unfold brK at h ⊢
  rw [List.drop_append_of_le_length h2]
  obtain ⟨x, hx⟩ : ∃ x, x = l.drop 2 := ⟨_, rfl⟩
  have hxl : x.length = l.length - 2 := by rw [hx, List.length_drop]
  rw [← hx] at h ⊢
  have hle := (tw_facts parB (x.take 31)).2.1
  have ht : (x.take 31).length = min 31 x.length := List.length_take
  rw [List.take_append]
  by_cases h31 : 31 ≤ x.length
  · rw [show 31 - x.length = 0 by omega, List.take_zero, List.append_nil]
  · rw [tw_more parB (x.take 31) _ (by omega)]
theorem bracketL_eq (b : List UInt8) (up : Bool) : bracketL b up = if 32 < brK b then ((msOne 91 2, 2, 2) : Ms × Int × Nat)
  else match b[brK b]? with
    | none => if up then (msOne 91 2, 2, 2) else (msNone, 0, 0)
    | some z => if 64 ≤ z.toNat ∧ z.toNat ≤ 126 then (if (sequenceL ((b.take (brK b)).drop 2) z).2 then ((sequenceL ((b.take (brK b)).drop 2) z).1, 2, brK b + 1) else (msNone, 1, brK b + 1)) else (msOne 91 2, 2, 2) := rfl
theorem bracketL_more (l c : List UInt8) (h2 : 2 ≤ l.length) (h : (bracketL l false).2.1 ≠ 0) : bracketL (l ++ c) false = bracketL l false := by
  rw [bracketL_eq] at h
  rw [bracketL_eq, bracketL_eq]
  by_cases h32 : 32 < brK l
  · rw [brK_more l c h2 (.inl h32), if_pos h32, if_pos h32]
  rw [if_neg h32] at h
  cases hz : l[brK l]? with
  | none => rw [hz] at h; exact absurd rfl h
  | some z =>
    have hk := (List.getElem?_eq_some_iff.1 hz).1
    rw [brK_more l c h2 (.inr hk), if_neg h32, if_neg h32, List.getElem?_append_left hk, hz, List.take_append_of_le_length (by omega)]
theorem oL_more (l c : List UInt8) (h2 : 2 ≤ l.length) (h : (oL l false).2.1 ≠ 0) : oL (l ++ c) false = oL l false := by
  unfold oL at h ⊢
  by_cases hl : l.length = 2
  · rw [if_pos ⟨hl, rfl⟩] at h; exact absurd rfl h
  have hl2 : ¬ ((l ++ c).length = 2 ∧ false = false) := fun h => by
    have := h.1
    rw [List.length_append] at this; omega
  have hl3 : ¬ (l.length = 2 ∧ false = false) := fun h => hl h.1
  rw [if_neg hl2, if_neg hl3, List.getElem?_append_left (by omega)]
theorem metaF_how {R : Ms × Int × Nat} (h : (metaF R).2.1 ≠ 0) : R.2.1 ≠ 0 := fun e => h (by
  unfold metaF
  rw [e, if_pos (by decide)])
/-- Once front answers, more bytes behind change nothing. -/
theorem frG_more : ∀ (l c : List UInt8), (frG false l).2.1 ≠ 0 → frG false (l ++ c) = frG false l
  | [], _, h => absurd rfl h
  | x :: r, c, h => by
    rw [List.cons_append]
    by_cases hx : x ≠ 27
    · rw [frG, if_pos hx] at h
      rw [frG, if_pos hx, frG, if_pos hx]
      exact bareG_more x r c h
    by_cases hr : r = []
    · subst hr
      rw [frG, if_neg hx, if_neg (by rintro (h | h) <;> simp at h), if_pos rfl] at h
      exact absurd rfl h
    have hrl : 0 < r.length := List.length_pos_iff.2 hr
    have e0 : (r ++ c)[0]? = r[0]? := List.getElem?_append_left hrl
    have hrc : r ++ c ≠ [] := fun e => hr (List.append_eq_nil_iff.1 e).1
    by_cases h3 : r[0]? = some 27 ∧ r[1]? = some 27
    · have h1 := (List.getElem?_eq_some_iff.1 h3.2).1
      rw [frG, if_neg hx, if_pos (.inr ⟨by rw [e0]; exact h3.1, by rw [List.getElem?_append_left h1]; exact h3.2⟩), frG, if_neg hx, if_pos (.inr h3)]
    have hn3 : ¬ ((r = [] ∧ false = true) ∨ (r[0]? = some 27 ∧ r[1]? = some 27)) := fun h => h.elim (fun h => hr h.1) h3
    by_cases hsh : r[0]? = some 27 ∧ r.length = 1
    · obtain ⟨y, rfl⟩ : ∃ y, r = [y] := List.length_eq_one_iff.1 hsh.2
      have : y = 27 := by simpa using hsh.1
      subst this
      refine absurd ?_ h
      rw [frG, if_neg hx, if_neg hn3, if_neg hr, if_neg (by decide), if_neg (by decide)]
      rfl
    have hc3 : ¬ ((r ++ c = [] ∧ false = true) ∨ ((r ++ c)[0]? = some 27 ∧ (r ++ c)[1]? = some 27)) := by
      rintro (h | ⟨h, h'⟩)
      · exact hrc h.1
      · rw [e0] at h
        have h1 : 1 < r.length := by
          have : r.length ≠ 1 := fun e => hsh ⟨h, e⟩
          omega
        rw [List.getElem?_append_left h1] at h'
        exact h3 ⟨h, h'⟩
    rw [frG, if_neg hx, if_neg hn3, if_neg hr] at h
    rw [frG, if_neg hx, if_neg hc3, if_neg hrc, e0, frG, if_neg hx, if_neg hn3, if_neg hr]
    have hl2 : 2 ≤ (x :: r).length := by rw [List.length_cons]; omega
    by_cases h91 : r[0]? = some 91
    · rw [if_pos h91] at h ⊢
      rw [if_pos h91, ← List.cons_append]
      exact bracketL_more _ c hl2 h
    rw [if_neg h91] at h ⊢
    rw [if_neg h91]
    by_cases h79 : r[0]? = some 79
    · rw [if_pos h79] at h ⊢
      rw [if_pos h79, ← List.cons_append]
      exact oL_more _ c hl2 h
    rw [if_neg h79] at h ⊢
    rw [if_neg h79, frG_more r c (metaF_how h)]
/-- Which answers front gives. -/
def HowOk (R : Ms × Int × Nat) : Prop := R.2.1 = 0 ∨ ((R.2.1 = 1 ∨ R.2.1 = 2) ∧ 1 ≤ R.2.2)
theorem bareLp_pos : ∀ (l : List UInt8) (i : Nat) (d : Dc) (p : Int × Nat), (d.have' = 0 ∨ 1 ≤ i) → bareLp i d l = some p → 1 ≤ p.2
  | [], _, _, _, _, h => by cases h
  | x :: r, i, d, p, hd, h => by
    unfold bareLp at h
    split at h
    · exact bareLp_pos r (i + 1) _ p (.inr (by omega)) h
    · injection h with h
      subst h
      dsimp only
      split <;> omega
theorem bareG_how (up : Bool) (x : UInt8) (r : List UInt8) : HowOk (bareG up (x :: r)) ∧ (up = true → (bareG up (x :: r)).2.1 ≠ 0) := by
  rw [bareG_cons]
  split
  · exact ⟨.inr ⟨.inr rfl, Nat.le_refl _⟩, fun _ => two0⟩
  cases h : bareLp 0 dc0 (x :: r) with
  | none =>
    unfold bareR
    cases up
    · exact ⟨.inl rfl, fun h => by cases h⟩
    · exact ⟨.inr ⟨.inr rfl, by rw [List.length_cons]; exact Nat.le_add_left _ _⟩, fun _ => two0⟩
  | some p =>
    have hp := bareLp_pos _ _ _ p (.inl rfl) h
    unfold bareR
    refine ⟨.inr ⟨?_, hp⟩, fun _ => ?_⟩
    · dsimp only; split
      · exact .inl rfl
      · exact .inr rfl
    · dsimp only; split
      · exact one0
      · exact two0
theorem bracketL_how (b : List UInt8) (up : Bool) : HowOk (bracketL b up) ∧ (up = true → (bracketL b up).2.1 ≠ 0) := by
  rw [bracketL_eq]
  split
  · exact ⟨.inr ⟨.inr rfl, Nat.le_add_left 1 _⟩, fun _ => two0⟩
  split
  · cases up
    · exact ⟨.inl rfl, fun h => by cases h⟩
    · exact ⟨.inr ⟨.inr rfl, Nat.le_add_left 1 _⟩, fun _ => two0⟩
  · split
    · split
      · exact ⟨.inr ⟨.inr rfl, Nat.le_add_left _ _⟩, fun _ => two0⟩
      · exact ⟨.inr ⟨.inl rfl, Nat.le_add_left _ _⟩, fun _ => one0⟩
    · exact ⟨.inr ⟨.inr rfl, Nat.le_add_left 1 _⟩, fun _ => two0⟩
theorem oL_how (b : List UInt8) (up : Bool) : HowOk (oL b up) ∧ (up = true → (oL b up).2.1 ≠ 0) := by
  unfold oL
  split
  · rename_i h
    exact ⟨.inl rfl, fun e => by rw [h.2] at e; cases e⟩
  split
  · split
    · exact ⟨.inr ⟨.inr rfl, Nat.le_add_left 1 _⟩, fun _ => two0⟩
    · exact ⟨.inr ⟨.inr rfl, Nat.le_add_left 1 _⟩, fun _ => two0⟩
  · exact ⟨.inr ⟨.inr rfl, Nat.le_add_left 1 _⟩, fun _ => two0⟩
theorem metaF_ok {R : Ms × Int × Nat} (h : HowOk R) : HowOk (metaF R) ∧ (R.2.1 ≠ 0 → (metaF R).2.1 ≠ 0) := by
  unfold metaF
  split
  · refine ⟨?_, fun h => h⟩
    rcases h with h | ⟨h, h'⟩
    · exact .inl h
    · exact .inr ⟨h, Nat.le_add_left _ _⟩
  split
  · exact ⟨.inr ⟨.inr rfl, Nat.le_refl _⟩, fun _ => two0⟩
  · exact ⟨.inr ⟨.inr rfl, Nat.le_add_left _ _⟩, fun _ => two0⟩
theorem frG_how (up : Bool) : ∀ l : List UInt8, HowOk (frG up l) ∧ (up = true → l ≠ [] → (frG up l).2.1 ≠ 0)
  | [] => ⟨.inl rfl, fun _ h => absurd rfl h⟩
  | x :: r => by
    unfold frG
    split
    · obtain ⟨a, b⟩ := bareG_how up x r
      exact ⟨a, fun h _ => b h⟩
    split
    · exact ⟨.inr ⟨.inr rfl, Nat.le_refl _⟩, fun _ _ => two0⟩
    rename_i h1
    split
    · rename_i h2
      exact ⟨.inl rfl, fun h _ => absurd (.inl ⟨h2, h⟩) h1⟩
    rename_i hr
    split
    · obtain ⟨a, b⟩ := bracketL_how (x :: r) up
      exact ⟨a, fun h _ => b h⟩
    split
    · obtain ⟨a, b⟩ := oL_how (x :: r) up
      exact ⟨a, fun h _ => b h⟩
    · obtain ⟨a, b⟩ := frG_how up r
      obtain ⟨a', b'⟩ := metaF_ok a
      exact ⟨a', fun h _ => b' (b h hr)⟩
/-- Whatever the bytes, take ends. -/
theorem took_ex (up : Bool) : ∀ (n : Nat) (l : List UInt8), l.length ≤ n → ∃ o r, Took (frG up) l o r ∧ r.length ≤ l.length ∧ o.length + r.length ≤ l.length ∧ (up = true → r = [])
  | n, [], _ => ⟨[], [], .nil, Nat.le_refl _, Nat.le_refl _, fun _ => rfl⟩
  | 0, x :: r, h => by simp at h
  | n + 1, x :: r, h => by
    obtain ⟨a, b⟩ := frG_how up (x :: r)
    have hle := (frG_ok up (x :: r)).2.2
    have hne : x :: r ≠ [] := by simp
    by_cases h0 : (frG up (x :: r)).2.1 = 0
    · exact ⟨[], x :: r, .waits _ hne h0, Nat.le_refl _, by simp, fun e => absurd h0 (b e hne)⟩
    obtain ⟨h12, h1⟩ := a.resolve_left h0
    have hd : ((x :: r).drop (frG up (x :: r)).2.2).length = (x :: r).length - (frG up (x :: r)).2.2 := List.length_drop
    obtain ⟨o, s, t, t1, t2, t3⟩ := took_ex up n ((x :: r).drop (frG up (x :: r)).2.2) (by omega)
    rcases h12 with hi | hi
    · exact ⟨o, s, .skip _ _ _ hne hi h1 hle t, by omega, by omega, t3⟩
    · exact ⟨_, s, .is _ _ _ hne hi h1 hle t, by omega, by rw [List.length_cons]; omega, t3⟩
theorem took_det {F : List UInt8 → Ms × Int × Nat} {l : List UInt8} {o : List Ms} {r : List UInt8} (h : Took F l o r) : ∀ {o' : List Ms} {r' : List UInt8}, Took F l o' r' → o = o' ∧ r = r' := by
  induction h with
  | nil =>
    intro o' r' h'
    cases h' with
    | nil => exact ⟨rfl, rfl⟩
    | waits _ h _ => exact absurd rfl h
    | is _ _ _ h => exact absurd rfl h
    | skip _ _ _ h => exact absurd rfl h
  | waits l h hw =>
    intro o' r' h'
    cases h' with
    | nil => exact absurd rfl h
    | waits => exact ⟨rfl, rfl⟩
    | is _ _ _ _ hi => rw [hw] at hi; cases hi
    | skip _ _ _ _ hi => rw [hw] at hi; cases hi
  | is l o r h hi h1 hn hr ih =>
    intro o' r' h'
    cases h' with
    | nil => exact absurd rfl h
    | waits _ _ hw => rw [hw] at hi; cases hi
    | is _ _ _ _ _ _ _ hr' =>
      obtain ⟨a, b⟩ := ih hr'
      exact ⟨by rw [a], b⟩
    | skip _ _ _ _ hi' => rw [hi] at hi'; cases hi'
  | skip l o r h hi h1 hn hr ih =>
    intro o' r' h'
    cases h' with
    | nil => exact absurd rfl h
    | waits _ _ hw => rw [hw] at hi; cases hi
    | is _ _ _ _ hi' => rw [hi] at hi'; cases hi'
    | skip _ _ _ _ _ _ _ hr' => exact ih hr'
/-- What comes first is taken first. -/
theorem took_app {l : List UInt8} {o : List Ms} {r : List UInt8} (h : Took (frG false) l o r) (c : List UInt8) {o' : List Ms} {r' : List UInt8} (h' : Took (frG false) (r ++ c) o' r') : Took (frG false) (l ++ c) (o ++ o') r' := by
  induction h with
  | nil => exact h'
  | waits l h hw => exact h'
  | is l o r h hi h1 hn hr ih =>
    have e := frG_more l c (by rw [hi]; decide)
    have := ih h'
    have hne : l ++ c ≠ [] := fun e => h (List.append_eq_nil_iff.1 e).1
    have t := Took.is (F := frG false) (l ++ c) (o ++ o') r' hne (by rw [e]; exact hi) (by rw [e]; exact h1) (by rw [e, List.length_append]; omega) (by rw [e, List.drop_append_of_le_length hn]; exact this)
    rw [e] at t
    exact t
  | skip l o r h hi h1 hn hr ih =>
    have e := frG_more l c (by rw [hi]; decide)
    have := ih h'
    have hne : l ++ c ≠ [] := fun e => h (List.append_eq_nil_iff.1 e).1
    exact Took.skip (F := frG false) (l ++ c) (o ++ o') r' hne (by rw [e]; exact hi) (by rw [e]; exact h1) (by rw [e, List.length_append]; omega) (by rw [e, List.drop_append_of_le_length hn]; exact this)
end Go.Proofs.YtncokbppijnfiaaGreatDoor
