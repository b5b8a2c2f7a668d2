/- Layout: what Close behind a Split leaves is the tree before. No walk. -/
import Derived.Test.YtcklmkjlbpjojaaDoorH9
namespace Go.Proofs.YtcklmkjlbpjojaaDoor
open Go.RowKit
set_option linter.unusedSimpArgs false
set_option linter.unusedVariables false

theorem ok_ctx : ∀ (c : List Fr) (t : T), (plug c t).er.ok → t.er.ok
  | [], t, h => h
  | f :: c, t, h => by
    have h1 := ok_ctx c (.mk f.n (f.L ++ t :: f.R)) h
    rw [T.er_mk] at h1
    exact (h1.kid (k := t.er) (by rw [erL_map]; simp)).1
theorem Nd.add_rest (n : Nd) (way z : Int) : (n.add way z).p = n.p ∧ (n.add way z).way = n.way := by
  unfold Nd.add
  split <;> exact ⟨rfl, rfl⟩
theorem shut_er {t : T} {c c0 c' : List Fr} {l : T} {f : Fr} {L' R' : List T} {n2 hn : Nd} {way z : Int} (hok : t.er.ok) (ht : t = plug c l) (hlk : l.ks = [])
    (h2 : n2.p = f.n.p ∧ n2.a = f.n.a ∧ n2.b = f.n.b ∧ n2.way = f.n.way) (hp : hn.p = l.n.p) (hw : hn.way = l.n.way ∨ hn.way = 0) (hz : (hn.add way z).a = l.n.a ∧ (hn.add way z).b = l.n.b)
    (hc : c = f :: c0 ∨ (c0 = c ∧ f.L = [] ∧ f.R = [])) (her : ∀ s, (plug c' s).er = (plug c0 s).er) (hL : erL L' = erL f.L) (hR : erL R' = erL f.R) :
    (if L'.length = 0 ∧ R'.length = 0 then plug c' (.mk (hn.add way z) []) else plug c' (.mk n2 (L' ++ .mk (hn.add way z) [] :: R'))).er = t.er := by
  cases l with | mk ln lk =>
  replace hlk : lk = [] := hlk
  subst hlk
  replace hp : hn.p = ln.p := hp
  replace hw : hn.way = ln.way ∨ hn.way = 0 := hw
  replace hz : (hn.add way z).a = ln.a ∧ (hn.add way z).b = ln.b := hz
  have hol : (T.mk ln []).er.ok := ok_ctx c _ (ht ▸ hok)
  have hlw : ln.way = 0 := by
    rw [T.er_mk, erL_nil] at hol
    rcases hol.inv with h | h
    · exact h.2.1
    · have := h.2.2.2.1; simp at this
  have hkid : (T.mk (hn.add way z) []).er = (T.mk ln []).er := by
    rw [T.er_mk, T.er_mk, hz.1, hz.2, (Nd.add_rest hn way z).1, (Nd.add_rest hn way z).2, hp]
    have : hn.way = ln.way := by rcases hw with h | h <;> omega
    rw [this]
  have hl1 : L'.length = f.L.length := by rw [← erL_len, hL, erL_len]
  have hr1 : R'.length = f.R.length := by rw [← erL_len, hR, erL_len]
  rcases hc with rfl | ⟨rfl, hfl, hfr⟩
  · have hne : ¬ (L'.length = 0 ∧ R'.length = 0) := by
      intro h
      have h1 := ok_ctx c0 (.mk f.n (f.L ++ .mk ln [] :: f.R)) (ht ▸ hok)
      rw [T.er_mk] at h1
      rcases h1.inv with h2 | h2
      · have := congrArg List.length h2.1; rw [erL_len] at this; simp at this
      · have := h2.2.2.2.1; rw [erL_len] at this; simp at this; omega
    rw [if_neg hne, her, ht]
    refine er_plug ?_ c0
    rw [T.er_mk, T.er_mk, erL_app, erL_app, erL_cons, erL_cons, hL, hR, hkid, h2.1, h2.2.1, h2.2.2.1, h2.2.2.2]
  · rw [if_pos ⟨by rw [hl1, hfl]; rfl, by rw [hr1, hfr]; rfl⟩, her, ht]
    exact er_plug hkid _
end Go.Proofs.YtcklmkjlbpjojaaDoor
