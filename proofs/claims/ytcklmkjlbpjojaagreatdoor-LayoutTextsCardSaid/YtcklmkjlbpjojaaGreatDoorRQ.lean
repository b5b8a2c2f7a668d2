/- Layout: Apply's answer, exactly. No walk. -/
import Derived.Test.YtcklmkjlbpjojaaGreatDoorR12
import Derived.Test.YtcklmkjlbpjojaaGreatDoorRO
namespace Go.Proofs.YtcklmkjlbpjojaaGreatDoor
open Go.RowKit
set_option linter.unusedSimpArgs false
set_option linter.unusedVariables false

/-- A text's form. -/
def Formed (s : List UInt8) : Prop := 5 ≤ s.length ∧ s[4]? = some 44 ∧ Lib.trimS (s.take 4) hexSigns = []
open Classical in
/-- What Apply answers, of a text, in a tree of k panes. -/
noncomputable def appC (s : List UInt8) (k : Nat) : Int :=
  if 4096 < s.length then 2
  else if ¬ Formed s then 4
  else if s.take 4 ≠ fourB (sumB (s.drop 5)) then 15
  else if ¬ ∃ t0, AppAt s t0 then 4
  else if ¬ ∃ t0, AppAt s t0 ∧ t0.leaves.length = k then 3
  else 0
theorem appC_long {s : List UInt8} {k : Nat} (h : 4096 < s.length) : appC s k = 2 := by unfold appC; rw [if_pos h]
theorem appC_form {s : List UInt8} {k : Nat} (h : s.length ≤ 4096) (h2 : ¬ Formed s) : appC s k = 4 := by
  unfold appC; rw [if_neg (by omega), if_pos h2]
theorem appC_sum {s : List UInt8} {k : Nat} (h : s.length ≤ 4096) (h2 : Formed s) (h3 : s.take 4 ≠ fourB (sumB (s.drop 5))) : appC s k = 15 := by
  unfold appC; rw [if_neg (by omega), if_neg (not_not_intro h2), if_pos h3]
theorem appC_bad {s : List UInt8} {k : Nat} (h : s.length ≤ 4096) (h2 : Formed s) (h3 : s.take 4 = fourB (sumB (s.drop 5))) (h4 : ∀ t0, AppAt s t0 → False) : appC s k = 4 := by
  unfold appC; rw [if_neg (by omega), if_neg (not_not_intro h2), if_neg (not_not_intro h3), if_pos (fun ⟨t0, h⟩ => h4 t0 h)]
theorem appC_many {s : List UInt8} {k : Nat} {t0 : T} (h : AppAt s t0) (h2 : t0.leaves.length ≠ k) : appC s k = 3 := by
  unfold appC
  rw [if_neg (by have := h.l1; omega), if_neg (not_not_intro ⟨h.l2, h.c, h.tr⟩), if_neg (not_not_intro h.su), if_neg (not_not_intro ⟨t0, h⟩), if_pos]
  rintro ⟨t1, h1, e⟩
  exact h2 (by rw [← e]; exact leaves_len_congr (h.same h1))
theorem appC_ok {s : List UInt8} {k : Nat} {t0 : T} (h : AppAt s t0) (h2 : t0.leaves.length = k) : appC s k = 0 := by
  unfold appC
  rw [if_neg (by have := h.l1; omega), if_neg (not_not_intro ⟨h.l2, h.c, h.tr⟩), if_neg (not_not_intro h.su), if_neg (not_not_intro ⟨t0, h⟩), if_neg (not_not_intro ⟨t0, h, h2⟩)]
theorem appC_cases (s : List UInt8) (k : Nat) : appC s k = 0 ∨ appC s k = 2 ∨ appC s k = 3 ∨ appC s k = 4 ∨ appC s k = 15 := by
  unfold appC
  repeat' split
  all_goals simp
/-- What Apply leaves. -/
def AppPost2 (base tr : Nat) (t : T) (s : List UInt8) (w : World) (e : Ending) (w' : World) : Prop :=
  ∃ t' : T, e = .returned (.int .i64 (appC s t.leaves.length)) ∧ Tr base w' tr t' ∧ Off [tr] w w' ∧
    ((appC s t.leaves.length ≠ 0 ∧ t' = t) ∨
     (appC s t.leaves.length = 0 ∧ ∃ (t0 : T) (f : Nat → Int), AppAt s t0 ∧ t0.leaves.length = t.leaves.length ∧ t' = t0.reg f ∧ t'.leaves.map (fun s => s.n.p) = t.leaves.map (fun s => s.n.p) ∧ ∀ b ∈ t'.bl, w.heap.size ≤ b))
theorem app_no2 {base tr : Nat} {t : T} {s : List UInt8} {w w' : World} (hT : Tr base w tr t) (err : Int) (he : err ≠ 0) (hg : w.grownBy w' none) (hn : appC s t.leaves.length = err) : AppPost2 base tr t s w (.returned (.int .i64 err)) w' :=
  ⟨t, by rw [hn], hT.grown hg, Off.of_grown hg, .inl ⟨by rw [hn]; exact he, rfl⟩⟩
theorem app_yes2 {base tr : Nat} {t : T} {s : List UInt8} {w w' : World} (h : AppPost base tr t s w (.returned (.int .i64 0)) w') : AppPost2 base tr t s w (.returned (.int .i64 0)) w' := by
  obtain ⟨err, t', he, h1, h2, h3⟩ := h
  injection he with he; injection he with _ he
  subst he
  rcases h3 with ⟨h3, _⟩ | ⟨_, t0, f, h4, h5, h6⟩
  · exact absurd rfl h3
  · have h0 := appC_ok h4 h5
    exact ⟨t', by rw [h0], h1, h2, .inr ⟨h0, t0, f, h4, h5, h6⟩⟩
/-- Given anew, alike stays alike. -/
theorem reg_pt2 {f g : Nat → Int} : ∀ t u : T, t.pt = u.pt → (t.reg f).leaves.map (fun s => s.n.p) = (u.reg g).leaves.map (fun s => s.n.p) → (t.reg f).pt = (u.reg g).pt := by
  intro t
  induction t using T.ind with
  | h n ks ih =>
    intro u hp h
    obtain ⟨n', ks'⟩ := u
    obtain ⟨h1, h2, h3, h4, h5, h6, h7⟩ := pt_inj hp
    have hlen := pt_len h7
    rw [T.reg_mk, T.reg_mk] at h ⊢
    rw [T.pt_mk, T.pt_mk]
    by_cases hk : ks.length = 0
    · have hk' : ks'.length = 0 := by omega
      have := List.eq_nil_of_length_eq_zero hk
      have := List.eq_nil_of_length_eq_zero hk'
      subst ks; subst ks'
      rw [if_pos hk, regL] at h ⊢
      rw [if_pos hk, regL] at h ⊢
      rw [T.leaves_mk, T.leaves_mk, leavesL_nil] at h
      simp [T.n] at h
      simp [h, h2, h3, h4, h5, h6, ptL]
    · have hk' : ¬ ks'.length = 0 := by omega
      rw [if_neg hk] at h ⊢
      rw [if_neg hk'] at h ⊢
      rw [T.leaves_mk, T.leaves_mk, regL_len, regL_len, if_neg hk, if_neg hk', List.nil_append, List.nil_append] at h
      have key : ∀ l l' : List T, (∀ k ∈ l, k ∈ ks) → l.map T.pt = l'.map T.pt → (leavesL (regL f l)).map (fun s => s.n.p) = (leavesL (regL g l')).map (fun s => s.n.p) → ptL (regL f l) = ptL (regL g l') := by
        intro l
        induction l with
        | nil => intro l' _ e _; have := (pt_len e).symm; simp at this; subst this; rw [regL, regL]
        | cons k l ih2 =>
          intro l' hl e h
          cases l' with
          | nil => simp at e
          | cons k' l' =>
            simp only [List.map_cons, List.cons.injEq] at e
            rw [regL, regL, leavesL_cons, leavesL_cons, List.map_append, List.map_append] at h
            obtain ⟨q1, q2⟩ := List.append_inj h (by rw [T.reg_leaves, T.reg_leaves]; simp; exact leaves_len_congr e.1)
            rw [regL, regL, ptL, ptL, ih k (hl k (by simp)) k' e.1 q1, ih2 l' (fun j hj => hl j (by simp [hj])) e.2 q2]
      rw [key ks ks' (fun _ h => h) h7 h, h1, h2, h3, h4, h5, h6]
end Go.Proofs.YtcklmkjlbpjojaaGreatDoor
