/- Key: front in general. -/
import Derived.Test.YtncokbppijnfiaaGreatDoorG5
import Derived.Test.YtncokbppijnfiaaGreatDoorF3
import Derived.Test.YtncokbppijnfiaaGreatDoorL1
import Derived.Test.YtncokbppijnfiaaGreatDoorG2
namespace Go.Proofs.YtncokbppijnfiaaGreatDoor
open Go.RowKit
set_option linter.unusedSimpArgs false
set_option linter.unusedVariables false

/-- front. -/
def frG (up : Bool) : List UInt8 → Ms × Int × Nat
  | [] => (msNone, 0, 0)
  | x :: r =>
    if x ≠ 27 then bareG up (x :: r)
    else if (r = [] ∧ up = true) ∨ (r[0]? = some 27 ∧ r[1]? = some 27) then (msOne 1114135 0, 2, 1)
    else if r = [] then (msNone, 0, 0)
    else if r[0]? = some 91 then bracketL (x :: r) up
    else if r[0]? = some 79 then oL (x :: r) up
    else metaF (frG up r)
/-- What holds of front's answers: modifiers are three bits, the count is within the bytes. -/
def FrOk (R : Ms × Int × Nat) (n : Nat) : Prop := (0 ≤ R.1.m ∧ R.1.m ≤ 7) ∧ (0 ≤ R.1.c ∧ R.1.c ≤ 2097151) ∧ R.2.2 ≤ n
theorem mk_ok {c m a : Int} {k n : Nat} (hm : 0 ≤ m ∧ m ≤ 7) (hc : 0 ≤ c ∧ c ≤ 2097151) (h : k ≤ n) : FrOk (msOne c m, a, k) n := ⟨hm, hc, h⟩
theorem none_ok {a : Int} {k n : Nat} (h : k ≤ n) : FrOk (msNone, a, k) n := ⟨⟨Int.le_refl 0, by show (0 : Int) ≤ 7; decide⟩, ⟨Int.le_refl 0, by show (0 : Int) ≤ 2097151; decide⟩, h⟩
theorem bareLp_ok : ∀ (l : List UInt8) (i : Nat) (d : Dc) (p : Int × Nat), d.ok2 → bareLp i d l = some p → (0 ≤ p.1 ∧ p.1 ≤ 2097151) ∧ p.2 ≤ i + l.length
  | [], _, _, _, _, h => by cases h
  | x :: r, i, d, p, hd, h => by
    have hx := x.toNat_lt
    obtain ⟨h1, h2, h3⟩ := feed_ok d (x.toNat : Int) (by omega) (by omega) hd
    unfold bareLp at h
    split at h
    · obtain ⟨a, b⟩ := bareLp_ok r (i + 1) _ p h1 h
      exact ⟨a, by rw [List.length_cons]; omega⟩
    · rename_i z t e
      injection h with h
      subst h
      refine ⟨h3 z (by rw [e]; exact List.mem_cons_self), ?_⟩
      dsimp only
      rw [List.length_cons]
      split <;> omega
theorem bareA_ok (c : UInt8) (hc : c.toNat < 128) : (0 ≤ (bareA c).2 ∧ (bareA c).2 ≤ 7) ∧ (0 ≤ (bareA c).1 ∧ (bareA c).1 ≤ 2097151) := by
  unfold bareA
  split
  · exact ⟨⟨by decide, by decide⟩, by decide, by decide⟩
  split
  · dsimp only; omega
  split
  · dsimp only; omega
  · dsimp only; omega
theorem bareG_ok (up : Bool) (l : List UInt8) : FrOk (bareG up l) l.length := by
  unfold bareG
  split
  · exact none_ok (Nat.zero_le _)
  rename_i c hc
  have hl : 1 ≤ l.length := by
    have := (List.getElem?_eq_some_iff.1 hc).1; omega
  split
  · rename_i h
    obtain ⟨a, b⟩ := bareA_ok c h
    exact mk_ok a b hl
  cases h : bareLp 0 dc0 l with
  | none =>
    unfold bareR
    dsimp only
    split
    · exact mk_ok (by decide) (by decide) (Nat.le_refl _)
    · exact none_ok (Nat.zero_le _)
  | some p =>
    obtain ⟨a, b⟩ := bareLp_ok l 0 dc0 p (.inl rfl) h
    unfold bareR
    dsimp only
    exact mk_ok (by decide) a (by omega)
theorem tildeL_ok (n : Int) : 0 ≤ tildeL n ∧ tildeL n ≤ 2097151 := by
  unfold tildeL
  split
  · omega
  split
  · omega
  split
  · omega
  split
  · omega
  split
  · omega
  split
  · rename_i h
    have : numbersL.idxOf n < 16 := List.idxOf_lt_length_of_mem h.2
    omega
  · omega
theorem seq_ok (p : List UInt8) (z : UInt8) : (0 ≤ (sequenceL p z).1.m ∧ (sequenceL p z).1.m ≤ 7) ∧ (0 ≤ (sequenceL p z).1.c ∧ (sequenceL p z).1.c ≤ 2097151) := by
  have hz := letteredL_in z
  have hN : (0 ≤ msNone.m ∧ msNone.m ≤ 7) ∧ (0 ≤ msNone.c ∧ msNone.c ≤ 2097151) := by decide
  unfold sequenceL
  split
  · unfold pointedL
    split
    · split
      · exact hN
      dsimp only
      split
      · dsimp only
        refine ⟨by omega, ?_⟩
        split <;> omega
      split
      · dsimp only; omega
      split
      · dsimp only; omega
      split
      · dsimp only; omega
      · exact hN
    · exact hN
  split
  · exact by decide
  split
  · show (0 ≤ (0 : Int) ∧ (0 : Int) ≤ 7) ∧ (0 ≤ letteredL z ∧ letteredL z ≤ 2097151)
    omega
  split
  · exact hN
  rename_i l _
  split
  · exact hN
  rename_i hl
  have hm : 0 ≤ (if l.length = 2 then l.getD 1 0 - 1 else 0) ∧ (if l.length = 2 then l.getD 1 0 - 1 else 0) ≤ 7 := by
    split
    · rename_i h2
      have : ¬ (l.getD 1 0 < 2 ∨ 8 < l.getD 1 0) := fun h => hl (.inr ⟨h2, h⟩)
      omega
    · omega
  dsimp only
  split
  · exact ⟨hm, tildeL_ok _⟩
  · refine ⟨hm, ?_⟩
    show 0 ≤ letteredL z ∧ letteredL z ≤ 2097151
    omega
theorem br_ok (l : List UInt8) (up : Bool) (h2 : 2 ≤ l.length) : FrOk (bracketL l up) l.length := by
  unfold bracketL
  dsimp only
  split
  · exact mk_ok (by decide) (by decide) h2
  split
  · split
    · exact mk_ok (by decide) (by decide) h2
    · exact none_ok (Nat.zero_le _)
  · rename_i z hz
    have hk := (List.getElem?_eq_some_iff.1 hz).1
    split
    · split
      · obtain ⟨a, b⟩ := seq_ok ((l.take (2 + (((l.drop 2).take 31).takeWhile parB).length)).drop 2) z
        exact ⟨a, b, hk⟩
      · exact none_ok hk
    · exact mk_ok (by decide) (by decide) h2
theorem o_ok (l : List UInt8) (up : Bool) (h2 : 2 ≤ l.length) : FrOk (oL l up) l.length := by
  unfold oL
  split
  · exact none_ok (Nat.zero_le _)
  split
  · rename_i z hz
    have hk := (List.getElem?_eq_some_iff.1 hz).1
    have hl := letteredL_in z
    split
    · exact mk_ok (by decide) (by omega) hk
    · exact mk_ok (by decide) (by decide) h2
  · exact mk_ok (by decide) (by decide) h2
theorem meta_ok (R : Ms × Int × Nat) (n : Nat) (h : FrOk R n) : FrOk (metaF R) (n + 1) := by
  obtain ⟨h1, h2, h3⟩ := h
  unfold metaF
  split
  · exact ⟨h1, h2, by dsimp only; omega⟩
  split
  · exact mk_ok (by decide) (by decide) (by omega)
  · rename_i h
    have : ¬ R.1.m / 2 % 2 = 1 := fun e => h (.inl e)
    exact mk_ok (by omega) h2 (by omega)
theorem frG_ok (up : Bool) : ∀ l, FrOk (frG up l) l.length
  | [] => none_ok (Nat.le_refl _)
  | x :: r => by
    unfold frG
    split
    · exact bareG_ok up _
    split
    · exact mk_ok (by decide) (by decide) (by simp)
    split
    · exact none_ok (Nat.zero_le _)
    rename_i hne
    have h2 : 2 ≤ (x :: r).length := by
      rw [List.length_cons]
      have : 0 < r.length := List.length_pos_iff.2 hne
      omega
    split
    · exact br_ok _ up h2
    split
    · exact o_ok _ up h2
    · exact meta_ok _ _ (frG_ok up r)
theorem seqAt_any (l : List UInt8) (h : 2 ≤ l.length) : SeqAt l := fun z _ _ _ W hW => sequence_any _ z (by
  have := (brK_facts l h).2.2.1
  rw [List.length_drop, List.length_take]; omega) W hW
theorem front_G (up : Bool) : ∀ (l : List UInt8), l ≠ [] → l.length ≤ 1000000 → ∀ (A : Option Addr) (n c : Nat) (W : World), Wd W → n = l.length → n ≤ c → Rd W A (bs l) →
    Calls Tryz.prog 46 #[.slice A n c, .bool up] W fun e w' => e = .returned (.tuple #[msV (frG up l).1, .int .i64 (frG up l).2.1, .int .i64 (frG up l).2.2]) ∧ W.grownBy w' none
  | [], h => absurd rfl h
  | x :: r, _ => fun hl A n c W hW hn hc hR => by
    rw [List.length_cons] at hl hn
    by_cases hx : x = 27
    rotate_left
    · have hF : frG up (x :: r) = bareG up (x :: r) := by rw [frG, if_pos hx]
      rw [hF]
      refine front_bare (x :: r) x A n c up _ W (by simpa using hn) hR rfl hx fun W' g => ?_
      by_cases h128 : x.toNat < 128
      · have hb : bareG up (x :: r) = (msOne (bareA x).1 (bareA x).2, 2, 1) := by
          show (if x.toNat < 128 then _ else _) = _
          rw [if_pos h128]
        rw [hb]
        exact bare_ctl (x :: r) x A n c up W' (by simpa using hn) hc (hR.grown g (.inl rfl)) rfl h128
      · exact bare_high (x :: r) x A n c up W' (by simpa using hn) (by omega) hc (hR.grown g (.inl rfl)) rfl h128
    subst hx
    rw [frG, if_neg (fun h => h rfl)]
    by_cases hr : r = []
    · subst hr
      have hn1 : n = 1 := by simpa using hn
      subst hn1
      refine (front_esc A c up W hR).mono ?_
      rintro e w' ⟨rfl, hg⟩
      refine ⟨?_, hg⟩
      cases up <;> rfl
    have hrl : 0 < r.length := List.length_pos_iff.2 hr
    obtain ⟨y, hy⟩ : ∃ y, r[0]? = some y := ⟨r[0]'hrl, List.getElem?_eq_getElem _⟩
    by_cases h3 : r[0]? = some 27 ∧ r[1]? = some 27
    · rw [if_pos (.inr h3)]
      have := (List.getElem?_eq_some_iff.1 h3.2).1
      exact front_esc3 (27 :: r) A n c up W (by simpa using hn) (by omega) hc hR rfl (by simpa using h3.1) (by simpa using h3.2)
    rw [if_neg (fun h => h.elim (fun h => hr h.1) h3), if_neg hr]
    by_cases h91 : r[0]? = some 91
    · rw [if_pos h91]
      exact front_br (27 :: r) A n c up W hW (by simpa using hn) (by omega) (by omega) hc hR rfl (by simpa using h91) (fun W' hW' hR' => bracket_any (27 :: r) A n c up W' hW' (by simpa using hn) (by omega) (by omega) hc hR' (seqAt_any _ (by rw [List.length_cons]; omega)))
    rw [if_neg h91]
    by_cases h79 : r[0]? = some 79
    · rw [if_pos h79]
      exact front_o (27 :: r) A n c up W hW (by simpa using hn) (by omega) hc hR rfl (by simpa using h79)
    rw [if_neg h79]
    obtain ⟨k1, k2, k3⟩ := frG_ok up r
    refine front_meta (27 :: r) y A n c up (frG up r) W hW (by simpa using hn) (by omega) hc hR rfl (by simpa using hy) (fun e => h91 (by rw [hy, e])) (fun e => h79 (by rw [hy, e])) ?_ k1 ⟨by omega, by omega⟩ (by omega) fun A' W' hW' hR' => ?_
    · rintro ⟨_, e1, e2⟩
      exact h3 ⟨by rw [hy, e1], by simpa using e2⟩
    · exact front_G up r hr (by omega) A' (n - 1) (c - 1) W' hW' (by omega) (by omega) hR'
theorem frontAt_G (up : Bool) (xs : List UInt8) (hl : xs.length ≤ 1000000) : FrontAt (frG up) up xs := by
  intro l hne hle hk A n c W hW hn hc hR
  exact front_G up l hne (by omega) A n c W hW hn hc hR
end Go.Proofs.YtncokbppijnfiaaGreatDoor
