/- Format: a class of a pattern, step by step. No program in sight. Format: where an expression closes, where a sign stands outside: step by step. No program in sight. -/
import Derived.Test.YtfhdfhlabkeipaaGreatDoorF2
namespace Go.Proofs.YtfhdfhlabkeipaaGreatDoor
set_option linter.unusedSimpArgs false
set_option linter.unusedVariables false

theorem drop_at {l : B} {k : Nat} {a : UInt8} (h : l[k]? = some a) : l.drop k = a :: l.drop (k + 1) := by
  obtain ⟨h1, h2⟩ := List.getElem?_eq_some_iff.1 h
  rw [List.drop_eq_getElem_cons h1, h2]
theorem head_at {l : B} {k : Nat} {a : UInt8} (h : l[k]? = some a) : (l.drop k).headD 0 = a := by rw [drop_at h]; rfl
theorem take_at {l : B} {k : Nat} {a : UInt8} (h : l[k]? = some a) : l.take (k + 1) = l.take k ++ [a] := by
  rw [List.take_add_one, h]; rfl
theorem classIn_fuel (c : UInt8) : ∀ (f g : Nat) (first : Bool) (s : B) (is : Bool), s.length < f → s.length < g → classIn c f first s is = classIn c g first s is
  | 0, _, _, _, _, h, _ => absurd h (by omega)
  | _ + 1, 0, _, _, _, _, h => absurd h (by omega)
  | f + 1, g + 1, first, s, is, hf, hg => by
    cases s with
    | nil => rfl
    | cons a r =>
      rw [classIn, classIn]
      simp only [List.length_cons] at hf hg
      split
      · rfl
      · split
        · exact classIn_fuel c f g _ _ _ (by simp only [List.length_tail]; omega) (by simp only [List.length_tail]; omega)
        · exact classIn_fuel c f g _ _ _ (by omega) (by omega)
def classI (c : UInt8) (first : Bool) (s : B) (is : Bool) : Option (Bool × B) := classIn c (s.length + 1) first s is
theorem classI_nil (c : UInt8) (first is : Bool) : classI c first [] is = none := rfl
theorem classI_cons (c : UInt8) (first is : Bool) (a : UInt8) (r : B) : classI c first (a :: r) is =
    if a = 93 ∧ first = false then some (is, r)
    else if 2 ≤ r.length ∧ r.headD 0 = 45 ∧ r.tail.headD 0 ≠ 93 then classI c false r.tail.tail (is || (decide (a.toNat ≤ c.toNat) && decide (c.toNat ≤ (r.tail.headD 0).toNat)))
    else classI c false r (is || a == c) := by
  unfold classI
  rw [List.length_cons, classIn]
  split
  · rfl
  · split
    · exact classIn_fuel c _ _ _ _ _ (by simp only [List.length_tail]; omega) (by simp only [List.length_tail]; omega)
    · rfl
section
variable {c : UInt8} {first is : Bool} {P : B} {k : Nat} {a e1 e2 : UInt8}
theorem cls_out (h : P.length ≤ k) : classI c first (P.drop k) is = none := by
  rw [List.drop_eq_nil_of_le h]; rfl
theorem cls_end (h0 : P[k]? = some a) (ha : a = 93) (hf : first = false) : classI c first (P.drop k) is = some (is, P.drop (k + 1)) := by
  rw [drop_at h0, classI_cons, if_pos ⟨ha, hf⟩]
theorem cls_range (h0 : P[k]? = some a) (hn : ¬ (a = 93 ∧ first = false)) (h1 : P[k + 1]? = some e1) (h2 : P[k + 2]? = some e2) (he1 : e1 = 45) (he2 : e2 ≠ 93) :
    classI c first (P.drop k) is = classI c false (P.drop (k + 3)) (is || (decide (a.toNat ≤ c.toNat) && decide (c.toNat ≤ e2.toNat))) := by
  have hl := (List.getElem?_eq_some_iff.1 h2).1
  rw [drop_at h0, classI_cons, if_neg hn, drop_at h1, List.tail_cons, head_at h2, List.headD_cons, if_pos ⟨by simp only [List.length_cons, List.length_drop]; omega, he1, he2⟩, drop_at h2, List.tail_cons]
theorem cls_one (h0 : P[k]? = some a) (hn : ¬ (a = 93 ∧ first = false)) (h : P.length ≤ k + 2 ∨ (∃ e, P[k + 1]? = some e ∧ e ≠ 45) ∨ P[k + 2]? = some 93) :
    classI c first (P.drop k) is = classI c false (P.drop (k + 1)) (is || a == c) := by
  rw [drop_at h0, classI_cons, if_neg hn, if_neg ?_]
  rintro ⟨q1, q2, q3⟩
  rw [List.length_drop] at q1
  rcases h with h | ⟨e, h, he⟩ | h
  · omega
  · rw [head_at h] at q2; exact he q2
  · have : (P.drop (k + 1)).tail = P.drop (k + 2) := by rw [List.tail_drop]
    rw [this, head_at h] at q3
    exact q3 rfl
end
/-- What the program hands back for a class. -/
def classV (P : B) (x : Option (Bool × B)) : Nat × Bool := match x with | some x => (P.length - x.2.length, x.1) | none => (0, false)
theorem classL_neg {P : B} {i : Nat} {a c : UInt8} (h : P[i]? = some a) (ha : a = 33 ∨ a = 94) : classL (P.drop i) c = (classI c true (P.drop (i + 1)) false).map fun p => (p.1 != true, p.2) := by
  rw [drop_at h]
  unfold classL
  have e : (a == 33 || a == 94) = true := by rcases ha with h | h <;> simp [h]
  simp only [e, if_true, List.tail_cons]
  rfl
theorem classL_pos {P : B} {i : Nat} {c : UInt8} (h : P.length ≤ i ∨ ∃ a, P[i]? = some a ∧ ¬ (a = 33 ∨ a = 94)) : classL (P.drop i) c = (classI c true (P.drop i) false).map fun p => (p.1 != false, p.2) := by
  rcases h with h | ⟨a, h, ha⟩
  · rw [List.drop_eq_nil_of_le h]; rfl
  · rw [drop_at h]
    unfold classL
    have e : (a == 33 || a == 94) = false := by
      rw [Bool.or_eq_false_iff]
      exact ⟨beq_eq_false_iff_ne.2 fun q => ha (.inl q), beq_eq_false_iff_ne.2 fun q => ha (.inr q)⟩
    simp only [e]
    rfl
end Go.Proofs.YtfhdfhlabkeipaaGreatDoor
namespace Go.Proofs.YtfhdfhlabkeipaaGreatDoor
set_option linter.unusedSimpArgs false
set_option linter.unusedVariables false

/-- A sign behind a # that stands for itself. -/
def pairC (e : UInt8) : Prop := e = 35 ∨ e = 44 ∨ e = 125
instance (e : UInt8) : Decidable (pairC e) := by unfold pairC; infer_instance
theorem closeL_cons (c : UInt8) (r : B) (d k : Nat) : closeL (c :: r) d k =
    if c = 125 then (if d = 1 then some k else closeL r (d - 1) (k + 1))
    else if c = 35 then
      match r with
      | [] => none
      | e :: r' => if e = 123 then closeL r' (d + 1) (k + 2) else if pairC e then closeL r' d (k + 2) else closeL (e :: r') d (k + 1)
    else closeL r d (k + 1) := by
  cases r <;> rfl
theorem outL_cons (sign c : UInt8) (r : B) (d k : Nat) : outL sign (c :: r) d k =
    if d = 0 ∧ c = sign then some k
    else if c = 125 ∧ 0 < d then outL sign r (d - 1) (k + 1)
    else if c = 35 then
      match r with
      | [] => none
      | e :: r' => if e = 123 then outL sign r' (d + 1) (k + 2) else if pairC e then outL sign r' d (k + 2) else outL sign (e :: r') d (k + 1)
    else outL sign r d (k + 1) := by
  cases r <;> rfl
section
variable {P : B} {k d : Nat} {c e sign : UInt8}
theorem cl_out (h : P.length ≤ k) : closeL (P.drop k) d k = none := by rw [List.drop_eq_nil_of_le h]; rfl
theorem cl_end (h0 : P[k]? = some c) (hc : c = 125) : closeL (P.drop k) 1 k = some k := by rw [drop_at h0, closeL_cons, if_pos hc, if_pos rfl]
theorem cl_less (h0 : P[k]? = some c) (hc : c = 125) (hd : d ≠ 1) : closeL (P.drop k) d k = closeL (P.drop (k + 1)) (d - 1) (k + 1) := by rw [drop_at h0, closeL_cons, if_pos hc, if_neg hd]
theorem cl_open (h0 : P[k]? = some c) (hc : c = 35) (h1 : P[k + 1]? = some e) (he : e = 123) : closeL (P.drop k) d k = closeL (P.drop (k + 2)) (d + 1) (k + 2) := by
  rw [drop_at h0, closeL_cons, if_neg (by rw [hc]; decide), if_pos hc, drop_at h1]
  simp only [if_pos he]
theorem cl_pair (h0 : P[k]? = some c) (hc : c = 35) (h1 : P[k + 1]? = some e) (he : e ≠ 123) (hp : pairC e) : closeL (P.drop k) d k = closeL (P.drop (k + 2)) d (k + 2) := by
  rw [drop_at h0, closeL_cons, if_neg (by rw [hc]; decide), if_pos hc, drop_at h1]
  simp only [if_neg he, if_pos hp]
theorem cl_one (h0 : P[k]? = some c) (hc : c ≠ 125) (h : c ≠ 35 ∨ P.length ≤ k + 1 ∨ ∃ e, P[k + 1]? = some e ∧ e ≠ 123 ∧ ¬ pairC e) : closeL (P.drop k) d k = closeL (P.drop (k + 1)) d (k + 1) := by
  rw [drop_at h0, closeL_cons, if_neg hc]
  by_cases h35 : c = 35
  · rw [if_pos h35]
    rcases h with h | h | ⟨e, h1, h2, h3⟩
    · exact absurd h35 h
    · rw [List.drop_eq_nil_of_le h]; rfl
    · rw [drop_at h1]
      simp only [if_neg h2, if_neg h3]
  · rw [if_neg h35]
theorem ol_out (h : P.length ≤ k) : outL sign (P.drop k) d k = none := by rw [List.drop_eq_nil_of_le h]; rfl
theorem ol_end (h0 : P[k]? = some c) (hd : d = 0) (hc : c = sign) : outL sign (P.drop k) d k = some k := by rw [drop_at h0, outL_cons, if_pos ⟨hd, hc⟩]
theorem ol_less (h0 : P[k]? = some c) (hn : ¬ (d = 0 ∧ c = sign)) (hc : c = 125) (hd : 0 < d) : outL sign (P.drop k) d k = outL sign (P.drop (k + 1)) (d - 1) (k + 1) := by rw [drop_at h0, outL_cons, if_neg hn, if_pos ⟨hc, hd⟩]
theorem ol_open (h0 : P[k]? = some c) (hn : ¬ (d = 0 ∧ c = sign)) (hc : c = 35) (h1 : P[k + 1]? = some e) (he : e = 123) : outL sign (P.drop k) d k = outL sign (P.drop (k + 2)) (d + 1) (k + 2) := by
  rw [drop_at h0, outL_cons, if_neg hn, if_neg (by rw [hc]; rintro ⟨h, _⟩; cases h), if_pos hc, drop_at h1]
  simp only [if_pos he]
theorem ol_pair (h0 : P[k]? = some c) (hn : ¬ (d = 0 ∧ c = sign)) (hc : c = 35) (h1 : P[k + 1]? = some e) (he : e ≠ 123) (hp : pairC e) : outL sign (P.drop k) d k = outL sign (P.drop (k + 2)) d (k + 2) := by
  rw [drop_at h0, outL_cons, if_neg hn, if_neg (by rw [hc]; rintro ⟨h, _⟩; cases h), if_pos hc, drop_at h1]
  simp only [if_neg he, if_pos hp]
theorem ol_one (h0 : P[k]? = some c) (hn : ¬ (d = 0 ∧ c = sign)) (hc : ¬ (c = 125 ∧ 0 < d)) (h : c ≠ 35 ∨ P.length ≤ k + 1 ∨ ∃ e, P[k + 1]? = some e ∧ e ≠ 123 ∧ ¬ pairC e) : outL sign (P.drop k) d k = outL sign (P.drop (k + 1)) d (k + 1) := by
  rw [drop_at h0, outL_cons, if_neg hn, if_neg hc]
  by_cases h35 : c = 35
  · rw [if_pos h35]
    rcases h with h | h | ⟨e, h1, h2, h3⟩
    · exact absurd h35 h
    · rw [List.drop_eq_nil_of_le h]; rfl
    · rw [drop_at h1]
      simp only [if_neg h2, if_neg h3]
  · rw [if_neg h35]
end
/-- As the program says it: -1 for none. -/
def idx (o : Option Nat) : Int := match o with | some k => k | none => -1
end Go.Proofs.YtfhdfhlabkeipaaGreatDoor
