/- The plain law of pieces: what bytes mean, laid behind one another. -/
import Derived.Test.YtdbjphabmdmjcaaF1
namespace Go.Proofs.Ytdbjphabmdmjcaa
open Go.RowKit
set_option linter.unusedSimpArgs false
set_option linter.unusedVariables false

theorem Take.cat {a : List UInt8} {f : Fm} {r : List UInt8} (h : Take a f r) (b : List UInt8) : Take (a ++ b) f (r ++ b) := by
  obtain ⟨x, y, u, rfl, n1, n2, n3, hb, rfl⟩ := h
  refine ⟨x, y, u ++ b, rfl, n1, n2, by rw [List.length_append]; omega, ?_, ?_⟩
  · rw [List.take_append_of_le_length n3]; exact hb
  · rw [List.drop_append_of_le_length n3]
theorem Bad.cat {a : List UInt8} (h : Bad a) (b : List UInt8) : Bad (a ++ b) := by
  obtain ⟨x, y, u, rfl, h⟩ := h
  refine ⟨x, y, u ++ b, rfl, ?_⟩
  rcases h with h | h | ⟨h1, h2⟩
  · exact .inl h
  · exact .inr (.inl h)
  · exact .inr (.inr ⟨by rw [List.length_append]; omega, by rw [List.take_append_of_le_length h1]; exact h2⟩)
theorem Run.cat {a : List UInt8} {hs : List Fm} {r : List UInt8} {ok : Bool} (h : Run a hs r ok) (b : List UInt8) :
    (ok = true → ∀ fs t ok', Run (r ++ b) fs t ok' → Run (a ++ b) (hs ++ fs) t ok') ∧ (ok = false → ∃ t, Run (a ++ b) hs t false) := by
  induction h with
  | wait l h => exact ⟨fun _ fs t ok' h => h, fun e => by cases e⟩
  | bad l h => exact ⟨fun e => (by cases e), fun _ => ⟨_, .bad _ (h.cat b)⟩⟩
  | take l f r fs rest ok h hr ih =>
    refine ⟨fun e gs t ok' k => ?_, fun e => ?_⟩
    · exact .take _ f (r ++ b) _ _ _ (h.cat b) (ih.1 e gs t ok' k)
    · obtain ⟨t, k⟩ := ih.2 e
      exact ⟨t, .take _ f (r ++ b) _ _ _ (h.cat b) k⟩
theorem Take.shorter {l : List UInt8} {f : Fm} {r : List UInt8} (h : Take l f r) : r.length < l.length := by
  obtain ⟨x, y, u, rfl, n1, n2, n3, _, rfl⟩ := h
  rw [List.length_drop]; simp; omega
theorem Run.total : ∀ (n : Nat) (l : List UInt8), l.length ≤ n → ∃ fs r ok, Run l fs r ok := by
  intro n
  induction n with
  | zero =>
    intro l hl
    exact ⟨[], l, true, .wait l (.inl (by omega))⟩
  | succ n ih =>
    intro l hl
    by_cases hw : Wait l
    · exact ⟨[], l, true, .wait l hw⟩
    by_cases hb : Bad l
    · exact ⟨[], l, false, .bad l hb⟩
    · rcases l with _ | ⟨x, _ | ⟨y, r⟩⟩
      · exact absurd (.inl (by simp)) hw
      · exact absurd (.inl (by simp)) hw
      · have h1 : ¬ (x.toNat * 256 + y.toNat < 3) := fun h => hb ⟨x, y, r, rfl, .inl h⟩
        have h2 : ¬ (16384 < x.toNat * 256 + y.toNat) := fun h => hb ⟨x, y, r, rfl, .inr (.inl h)⟩
        have h3 : x.toNat * 256 + y.toNat ≤ r.length := by
          rcases Nat.lt_or_ge r.length (x.toNat * 256 + y.toNat) with h | h
          · exact absurd (.inr ⟨x, y, r, rfl, by omega, by omega, h⟩) hw
          · exact h
        have h4 : ∃ f, Body (r.take (x.toNat * 256 + y.toNat)) f := by
          rcases Classical.em (∃ f, Body (r.take (x.toNat * 256 + y.toNat)) f) with h | h
          · exact h
          · exact absurd ⟨x, y, r, rfl, .inr (.inr ⟨h3, h⟩)⟩ hb
        obtain ⟨f, hf⟩ := h4
        have hT : Take (x :: y :: r) f (r.drop (x.toNat * 256 + y.toNat)) := ⟨x, y, r, rfl, by omega, by omega, h3, hf, rfl⟩
        obtain ⟨fs, t, ok, hr⟩ := ih (r.drop (x.toNat * 256 + y.toNat)) (by have := hT.shorter; simp at this hl; simp; omega)
        exact ⟨f :: fs, t, ok, .take _ f _ fs t ok hT hr⟩
theorem Run.rest_wait {l : List UInt8} {fs : List Fm} {r : List UInt8} {ok : Bool} (h : Run l fs r ok) : ok = true → Wait r := by
  induction h with
  | wait l h => exact fun _ => h
  | bad l h => exact fun h => by cases h
  | take l f r fs rest ok h hr ih => exact ih
/-- A piece, out of bytes that are frames. -/
theorem Run.piece {a b : List UInt8} {F hs : List Fm} {r : List UInt8} {ok : Bool} (hF : Run (a ++ b) F [] true) (h : Run a hs r ok) : ok = true ∧ ∃ F', F = hs ++ F' ∧ Run (r ++ b) F' [] true := by
  obtain ⟨c1, c2⟩ := h.cat b
  cases ok
  · obtain ⟨t, k⟩ := c2 rfl
    obtain ⟨_, _, e⟩ := k.det hF
    cases e
  · obtain ⟨fs, t, ok', k⟩ := Run.total _ (r ++ b) (Nat.le_refl _)
    obtain ⟨e1, e2, e3⟩ := (c1 rfl fs t ok' k).det hF
    subst e2; subst e3
    exact ⟨rfl, fs, e1.symm, k⟩
theorem Run.done {l : List UInt8} {F : List Fm} (hw : Wait l) (h : Run l F [] true) : F = [] ∧ l = [] := by
  obtain ⟨e1, e2, _⟩ := h.det (.wait l hw)
  exact ⟨e1, e2.symm⟩
theorem run_wires : ∀ {fs : List Fm}, (∀ f ∈ fs, f.right = true ∧ f.enc.length ≤ 16384) → Run (wires fs) fs [] true
  | [], _ => .wait [] (.inl (by decide))
  | f :: fs, h => by
    obtain ⟨h1, h2⟩ := h f (by simp)
    exact .take _ f (wires fs) fs [] true (take_wire f h1 h2 _) (run_wires fun g hg => h g (by simp [hg]))
theorem wires_len {n : Nat} : ∀ {fs : List Fm}, (∀ f ∈ fs, f.right = true ∧ f.enc.length ≤ 16384) → fs.length ≤ n → (wires fs).length ≤ n * 16386
  | [], _, _ => by simp [wires]
  | f :: fs, h, hn => by
    obtain ⟨_, h2⟩ := h f (by simp)
    simp only [List.length_cons] at hn
    have := wires_len (n := n - 1) (fs := fs) (fun g hg => h g (by simp [hg])) (by omega)
    have e : n * 16386 = (n - 1) * 16386 + 16386 := by
      obtain ⟨m, rfl⟩ : ∃ m, n = m + 1 := ⟨n - 1, by omega⟩
      rw [Nat.add_sub_cancel, Nat.succ_mul]
    simp only [wires, wire, List.length_append, List.length_cons]
    omega
end Go.Proofs.Ytdbjphabmdmjcaa
