/- Calc: Less is an order. No program in sight. -/
import Derived.Test.YtmoofecphpknfaaGreatDoorOrd
namespace Go.Proofs.YtmoofecphpknfaaGreatDoor
open Ieee
set_option linter.unusedVariables false
set_option linter.unusedSimpArgs false

theorem cmp_cases (p q : Int × Int) : (cmpP p q = .lt ∧ (p.1 < q.1 ∨ (p.1 = q.1 ∧ p.2 < q.2))) ∨ (cmpP p q = .eq ∧ p.1 = q.1 ∧ p.2 = q.2) ∨ (cmpP p q = .gt ∧ (q.1 < p.1 ∨ (p.1 = q.1 ∧ q.2 < p.2))) := by
  unfold cmpP
  split
  · rename_i h; exact .inl ⟨rfl, h⟩
  split
  · rename_i h; exact .inr (.inl ⟨rfl, h⟩)
  · exact .inr (.inr ⟨rfl, by omega⟩)
theorem cmp_lt {p q : Int × Int} : cmpP p q = .lt ↔ (p.1 < q.1 ∨ (p.1 = q.1 ∧ p.2 < q.2)) := by
  rcases cmp_cases p q with ⟨h, k⟩ | ⟨h, k⟩ | ⟨h, k⟩ <;> rw [h]
  · exact ⟨fun _ => k, fun _ => rfl⟩
  · exact ⟨fun e => (by cases e), fun e => by omega⟩
  · exact ⟨fun e => (by cases e), fun e => by omega⟩
theorem cmp_eq {p q : Int × Int} : cmpP p q = .eq ↔ p = q := by
  rcases cmp_cases p q with ⟨h, k⟩ | ⟨h, k⟩ | ⟨h, k⟩ <;> rw [h]
  · exact ⟨fun e => (by cases e), fun e => by rw [e] at k; omega⟩
  · exact ⟨fun _ => Prod.ext k.1 k.2, fun _ => rfl⟩
  · exact ⟨fun e => (by cases e), fun e => by rw [e] at k; omega⟩
theorem cmp_gt {p q : Int × Int} : cmpP p q = .gt ↔ cmpP q p = .lt := by
  rw [cmp_lt]
  rcases cmp_cases p q with ⟨h, k⟩ | ⟨h, k⟩ | ⟨h, k⟩ <;> rw [h]
  · exact ⟨fun e => (by cases e), fun e => by omega⟩
  · exact ⟨fun e => (by cases e), fun e => by omega⟩
  · exact ⟨fun _ => by omega, fun _ => rfl⟩
theorem cmp_self (p : Int × Int) : cmpP p p = .eq := cmp_eq.2 rfl
/-- calc.Less. -/
def lessB (a b : Nat) : Bool :=
  if (ordO (ky a) (ky a) != some .eq) = true then false else if (ordO (ky b) (ky b) != some .eq) = true then true
  else if (ordO (ky a) (ky b) == some .eq) = true then negB a && !negB b else (ordO (ky a) (ky b) == some .lt)
def belowB (f : Nat) : Bool := (ordO (ky f) (ky 0) == some .lt) || ((ordO (ky f) (ky 0) == some .eq) && negB f)
/-- mullionref2.Same. -/
def sameB (a b : Nat) : Bool := ((ordO (ky a) (ky a) != some .eq) && (ordO (ky b) (ky b) != some .eq)) || ((ordO (ky a) (ky b) == some .eq) && (belowB a == belowB b))
theorem oss (p q : Int × Int) : ordO (some p) (some q) = some (cmpP p q) := rfl
theorem ons (o : Option (Int × Int)) : ordO none o = none := rfl
theorem osn (p : Int × Int) : ordO (some p) none = none := rfl
theorem below_neg (f : Nat) (p : Int × Int) (h : ky f = some p) : belowB f = negB f := by
  obtain ⟨h1, h2⟩ := key_neg f p h
  unfold belowB
  rw [h, key_zero, oss]
  rcases cmp_cases p (0, 0) with ⟨q, _⟩ | ⟨q, _⟩ | ⟨q, _⟩
  · rw [q, h1 q]; rfl
  · rw [q]; cases negB f <;> rfl
  · rw [q, h2 q]; rfl
theorem less_some {a b : Nat} {p q : Int × Int} (ha : ky a = some p) (hb : ky b = some q) : lessB a b = if p = q then negB a && !negB b else (cmpP p q == .lt) := by
  unfold lessB
  rw [ha, hb, oss, oss, oss, cmp_self, cmp_self, if_neg (by decide), if_neg (by decide)]
  by_cases h : p = q
  · rw [if_pos (by rw [h, cmp_self]; rfl), if_pos h]
  · rw [if_neg h]
    rcases cmp_cases p q with ⟨e, _⟩ | ⟨e, _⟩ | ⟨e, _⟩
    · rw [e]; rfl
    · exact absurd (cmp_eq.1 e) h
    · rw [e]; rfl
theorem less_none_l {a b : Nat} (ha : ky a = none) : lessB a b = false := by
  unfold lessB
  rw [ha, ons]
  rfl
theorem less_none_r {a b : Nat} {p : Int × Int} (ha : ky a = some p) (hb : ky b = none) : lessB a b = true := by
  unfold lessB
  rw [ha, hb, oss, ons, cmp_self]
  rfl
theorem less_not_both (a b : Nat) : (lessB a b && lessB b a) = false := by
  cases ha : ky a with
  | none => rw [less_none_l ha]; rfl
  | some p =>
    cases hb : ky b with
    | none => rw [less_none_l hb, Bool.and_false]
    | some q =>
      rw [less_some ha hb, less_some hb ha]
      by_cases h : p = q
      · rw [if_pos h, if_pos h.symm]
        cases negB a <;> cases negB b <;> rfl
      · rw [if_neg h, if_neg (fun e => h e.symm)]
        rcases cmp_cases p q with ⟨e, k⟩ | ⟨e, k⟩ | ⟨e, k⟩
        · rcases cmp_cases q p with ⟨e2, k2⟩ | ⟨e2, k2⟩ | ⟨e2, k2⟩
          · omega
          · rw [e, e2]; rfl
          · rw [e, e2]; rfl
        · rw [e]; rfl
        · rw [e]; rfl
theorem same_less (a b : Nat) : sameB a b = (!lessB a b && !lessB b a) := by
  unfold sameB
  cases ha : ky a with
  | none =>
    rw [less_none_l ha]
    cases hb : ky b with
    | none => rw [less_none_l hb]; rfl
    | some q =>
      rw [less_none_r hb ha, oss, cmp_self]
      rfl
  | some p =>
    cases hb : ky b with
    | none =>
      rw [less_none_r ha hb, oss, cmp_self]
      rfl
    | some q =>
      rw [less_some ha hb, less_some hb ha, below_neg a p ha, below_neg b q hb, oss, oss, oss, cmp_self, cmp_self]
      by_cases h : p = q
      · rw [if_pos h, if_pos h.symm, h, cmp_self]
        cases negB a <;> cases negB b <;> rfl
      · rw [if_neg h, if_neg (fun e => h e.symm)]
        rcases cmp_cases p q with ⟨e, k⟩ | ⟨e, k⟩ | ⟨e, k⟩
        · rw [e]; rfl
        · exact absurd (cmp_eq.1 e) h
        · rw [e, cmp_gt.1 e]; rfl
theorem less_trans (a b c : Nat) (h1 : lessB a b = true) (h2 : lessB b c = true) : lessB a c = true := by
  cases ha : ky a with
  | none => rw [less_none_l ha] at h1; cases h1
  | some p =>
    cases hb : ky b with
    | none => rw [less_none_l hb] at h2; cases h2
    | some q =>
      cases hc : ky c with
      | none => exact less_none_r ha hc
      | some r =>
        rw [less_some ha hb] at h1
        rw [less_some hb hc] at h2
        rw [less_some ha hc]
        have lt_of : ∀ p q : Int × Int, (cmpP p q == .lt) = true → cmpP p q = .lt := fun p q h => by
          cases e : cmpP p q with
          | lt => rfl
          | eq => rw [e] at h; cases h
          | gt => rw [e] at h; cases h
        by_cases e1 : p = q
        · rw [if_pos e1] at h1
          by_cases e2 : q = r
          · rw [if_pos e2] at h2
            cases hn : negB b <;> rw [hn] at h1 h2
            · cases h2
            · cases hm : negB a <;> rw [hm] at h1 <;> cases h1
          · rw [if_neg e2] at h2
            rw [if_neg (fun e => e2 (by rw [← e1, e])), e1]
            exact h2
        · rw [if_neg e1] at h1
          by_cases e2 : q = r
          · rw [if_neg (fun e => e1 (by rw [e, e2])), ← e2]
            exact h1
          · rw [if_neg e2] at h2
            have k1 := cmp_lt.1 (lt_of _ _ h1)
            have k2 := cmp_lt.1 (lt_of _ _ h2)
            rw [if_neg (fun e => by rw [e] at k1; omega), cmp_lt.2 (by omega)]
            rfl
theorem lt_less (a b : Nat) : (ordO (ky a) (ky b) == some .lt) = (lessB a b && (ordO (ky a) (ky b) != some .eq) && (ordO (ky a) (ky a) == some .eq) && (ordO (ky b) (ky b) == some .eq)) := by
  cases ha : ky a with
  | none => rw [less_none_l ha]; rfl
  | some p =>
    cases hb : ky b with
    | none => rw [less_none_r ha hb, oss, cmp_self]; rfl
    | some q =>
      rw [less_some ha hb, oss, oss, oss, cmp_self, cmp_self]
      by_cases h : p = q
      · rw [h, cmp_self, if_pos rfl]
        cases negB a <;> cases negB b <;> rfl
      · rw [if_neg h]
        rcases cmp_cases p q with ⟨e, k⟩ | ⟨e, k⟩ | ⟨e, k⟩
        · rw [e]; rfl
        · exact absurd (cmp_eq.1 e) h
        · rw [e]; rfl
/-- One by a nought. -/
theorem one_by (f : Nat) (h : ky f = some (0, 0)) : ∃ r, double.div 4607182418800017408 f = some r ∧ (double.order r 0 == some .lt) = negB f := by
  have hn : (f / double.signWeight % 2 == 1) = negB f := rfl
  have hr : double.read f = .number (negB f) 0 double.leastPlace ∨ ∃ i, double.read f = .number (negB f) 0 i := by
    unfold ky Format.read at h
    unfold Format.read
    dsimp only at h ⊢
    rw [hn] at h ⊢
    split at h
    · rename_i h1
      injection h with h
      have h2 : signed (negB f) (f % double.signWeight) (double.leastPlace - double.leastPlace).toNat = 0 := congrArg Prod.snd h
      rw [signed_pos.2.2] at h2
      rw [if_pos h1, h2]
      exact .inl rfl
    · rename_i h1
      split at h
      · rename_i h3
        injection h with h
        have h2 := congrArg Prod.snd h
        dsimp only at h2
        rw [signed_pos.2.2] at h2
        have : 0 < double.binade := Nat.two_pow_pos _
        omega
      · split at h
        · injection h with h
          have h2 := congrArg Prod.fst h
          exfalso
          generalize negB f = s at h2
          cases s <;> exact absurd h2 (by decide)
        · cases h
  have hr2 : ∃ i, double.read f = .number (negB f) 0 i := hr.elim (fun h => ⟨_, h⟩) id
  obtain ⟨i, hi⟩ := hr2
  have ho : double.read 4607182418800017408 = .number false 4503599627370496 (-52) := by decide
  refine ⟨double.word (negB f) double.infRung, ?_, ?_⟩
  · unfold Format.div
    rw [ho, hi]
    show Option.map double.write (some (.infinity (false ^^ negB f))) = _
    rw [Bool.false_xor]
    rfl
  · cases negB f
    · decide
    · decide
end Go.Proofs.YtmoofecphpknfaaGreatDoor
