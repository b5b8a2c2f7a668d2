/- The plain law of frames: what bytes mean is determined; the bytes of a frame. -/
import Derived.Test.YtdbjphabmdmjcaaE1
namespace Go.Proofs.Ytdbjphabmdmjcaa
open Go.RowKit
set_option linter.unusedSimpArgs false
set_option linter.unusedVariables false

theorem Fm.ext' {f g : Fm} (h1 : f.k = g.k) (h2 : f.a = g.a) (h3 : f.b = g.b) (h4 : f.ws = g.ws) (h5 : f.d = g.d) : f = g := by
  cases f; cases g; simp_all

theorem enc_form {f : Fm} (h : f.right = true) : ∃ zk za zb : UInt8, f.k = zk.toNat ∧ f.a = za.toNat ∧ f.b = zb.toNat ∧ f.enc = zk :: za :: zb :: f.pay := by
  have h1 := Fm.enc_eq (f := f) (zk := c8 f.k) (za := c8 f.a) (zb := c8 f.b) (pl := f.pay) rfl h
  exact ⟨_, _, _, h1.1, h1.2.1, h1.2.2.1, rfl⟩

theorem enc_inj {f g : Fm} (hf : f.right = true) (hg : g.right = true) (h : f.enc = g.enc) : f = g := by
  obtain ⟨zk, za, zb, k1, k2, k3, k4⟩ := enc_form hg
  rw [k4] at h
  obtain ⟨e1, e2, e3, e4⟩ := Fm.enc_eq h hf
  obtain ⟨_, _, _, f2, f3, _⟩ := right_bounds hf
  obtain ⟨_, _, _, g2, g3, _⟩ := right_bounds hg
  have hk : f.k = g.k := by rw [e1, k1]
  have nil_of : ∀ {α : Type} {l : List α}, l.length = 0 → l = [] := fun h => List.eq_nil_of_length_eq_zero h
  by_cases h2 : g.k = 2
  · have h2' : f.k = 2 := by rw [hk, h2]
    obtain ⟨_, fd, fl⟩ := f2 h2'
    obtain ⟨_, gd, gl⟩ := g2 h2
    simp only [Fm.pay, h2, h2', if_true] at e4
    exact Fm.ext' hk (by rw [e2, k2]) (by rw [e3, k3]) (wb_inj _ _ (longs_small gl) (longs_small fl) e4) (by rw [nil_of fd, nil_of gd])
  · have h2' : f.k ≠ 2 := by rw [hk]; exact h2
    simp only [Fm.pay, h2, h2', if_false] at e4
    exact Fm.ext' hk (by rw [e2, k2]) (by rw [e3, k3]) (by rw [nil_of (f3 h2'), nil_of (g3 h2)]) e4

theorem Take.det {l : List UInt8} {f g : Fm} {r s : List UInt8} (h : Take l f r) (k : Take l g s) : f = g ∧ r = s := by
  obtain ⟨x, y, u, e, n1, n2, n3, hb, e2⟩ := h
  obtain ⟨x', y', u', e', m1, m2, m3, kb, e2'⟩ := k
  rw [e] at e'
  simp only [List.cons.injEq] at e'
  obtain ⟨rfl, rfl, rfl⟩ := e'
  exact ⟨enc_inj hb.1 kb.1 (by rw [hb.2, kb.2]), by rw [e2, e2']⟩
theorem Take.not_wait {l : List UInt8} {f : Fm} {r : List UInt8} (h : Take l f r) : ¬ Wait l := by
  obtain ⟨x, y, u, rfl, n1, n2, n3, _⟩ := h
  rintro (h | ⟨x', y', u', e, h1, h2, h3⟩)
  · simp at h; omega
  · simp only [List.cons.injEq] at e
    obtain ⟨rfl, rfl, rfl⟩ := e
    omega
theorem Take.not_bad {l : List UInt8} {f : Fm} {r : List UInt8} (h : Take l f r) : ¬ Bad l := by
  obtain ⟨x, y, u, rfl, n1, n2, n3, hb, _⟩ := h
  rintro ⟨x', y', u', e, h⟩
  simp only [List.cons.injEq] at e
  obtain ⟨rfl, rfl, rfl⟩ := e
  rcases h with h | h | ⟨_, h⟩
  · omega
  · omega
  · exact h ⟨f, hb⟩
theorem Wait.not_bad {l : List UInt8} (h : Wait l) : ¬ Bad l := by
  rintro ⟨x', y', u', e, k⟩
  rcases h with h | ⟨x, y, u, rfl, h1, h2, h3⟩
  · rw [e] at h; simp at h; omega
  · simp only [List.cons.injEq] at e
    obtain ⟨rfl, rfl, rfl⟩ := e
    rcases k with k | k | ⟨k, _⟩ <;> omega

theorem Run.det {l : List UInt8} {fs : List Fm} {r : List UInt8} {ok : Bool} (h : Run l fs r ok) : ∀ {gs : List Fm} {s : List UInt8} {ok' : Bool}, Run l gs s ok' → fs = gs ∧ r = s ∧ ok = ok' := by
  induction h with
  | wait l h =>
    intro gs s ok' k
    cases k with
    | wait => exact ⟨rfl, rfl, rfl⟩
    | bad _ k => exact absurd k h.not_bad
    | take _ f r fs _ _ k _ => exact absurd h k.not_wait
  | bad l h =>
    intro gs s ok' k
    cases k with
    | wait _ k => exact absurd h k.not_bad
    | bad => exact ⟨rfl, rfl, rfl⟩
    | take _ f r fs _ _ k _ => exact absurd h k.not_bad
  | take l f r fs rest ok h hr ih =>
    intro gs s ok' k
    cases k with
    | wait _ k => exact absurd k h.not_wait
    | bad _ k => exact absurd k h.not_bad
    | take _ g u gs' _ _ k kr =>
      obtain ⟨rfl, rfl⟩ := h.det k
      obtain ⟨rfl, rfl, rfl⟩ := ih kr
      exact ⟨rfl, rfl, rfl⟩

/-- The bytes of a frame on the wire. -/
def wire (f : Fm) : List UInt8 := hi8 f.enc.length :: lo8 f.enc.length :: f.enc

theorem hilo_back (n : Nat) (h : n < 65536) : (hi8 n).toNat * 256 + (lo8 n).toNat = n := by
  unfold hi8 lo8; simp only [UInt8.toNat_ofNat']; omega
theorem enc_ge (f : Fm) : 3 ≤ f.enc.length := by simp [Fm.enc, encB]

theorem take_wire (f : Fm) (h : f.right = true) (hl : f.enc.length ≤ 16384) (r : List UInt8) : Take (wire f ++ r) f r := by
  have hb := hilo_back f.enc.length (by omega)
  have h3 := enc_ge f
  refine ⟨_, _, f.enc ++ r, rfl, by omega, by omega, ?_, ⟨h, ?_⟩, ?_⟩
  · rw [hb, List.length_append]; omega
  · rw [hb]; simp
  · rw [hb]; simp
/-- What is taken are the bytes of the frame. -/
theorem take_is (l : List UInt8) (f : Fm) (r : List UInt8) (h : Take l f r) : l = wire f ++ r ∧ f.right = true ∧ f.enc.length ≤ 16384 := by
  obtain ⟨x, y, u, rfl, n1, n2, n3, ⟨hf, he⟩, rfl⟩ := h
  have e : f.enc.length = x.toNat * 256 + y.toNat := by rw [he, List.length_take]; omega
  refine ⟨?_, hf, by omega⟩
  unfold wire
  rw [e, (hilo x y).1, (hilo x y).2, he]
  simp
end Go.Proofs.Ytdbjphabmdmjcaa
