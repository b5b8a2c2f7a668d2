/- Layout: a placed plug is a plug of placed parts. No walk. -/
import Derived.Test.YtcklmkjlbpjojaaDoorG9
namespace Go.Proofs.YtcklmkjlbpjojaaDoor
open Go.RowKit
set_option linter.unusedSimpArgs false
set_option linter.unusedVariables false

theorem placeL_app (way : Int) : ∀ (A B : List T) (x y : Int), ∃ x' y', placeL way (A ++ B) x y = placeL way A x y ++ placeL way B x' y'
  | [], B, x, y => ⟨x, y, by rw [placeL_nil]; rfl⟩
  | k :: A, B, x, y => by
    obtain ⟨x', y', h⟩ := placeL_app way A B (nx way k.n x) (ny way k.n y)
    exact ⟨x', y', by rw [List.cons_append, placeL_cons, h, placeL_cons]; rfl⟩
theorem placeL_er' (way : Int) (ks : List T) (x y : Int) : erL (placeL way ks x y) = erL ks := placeL_er way (fun k x y => T.place_er k x y) ks x y
theorem erL_app (A B : List T) : erL (A ++ B) = erL A ++ erL B := by rw [erL_map, erL_map, erL_map, List.map_append]
theorem place_plug : ∀ (c : List Fr) (t : T) (x y : Int), ∃ c' x' y', (plug c t).place x y = plug c' (t.place x' y') ∧ c'.length = c.length ∧ ∀ s, (plug c' s).er = (plug c s).er
  | [], t, x, y => ⟨[], x, y, rfl, rfl, fun _ => rfl⟩
  | f :: d, t, x, y => by
    obtain ⟨d', x1, y1, h1, h2, h3⟩ := place_plug d (.mk f.n (f.L ++ t :: f.R)) x y
    rw [T.place_mk] at h1
    obtain ⟨x2, y2, h4⟩ := placeL_app f.n.way f.L (t :: f.R) x1 y1
    rw [h4, placeL_cons] at h1
    refine ⟨⟨{ f.n with x := x1, y := y1 }, placeL f.n.way f.L x1 y1, placeL f.n.way f.R (nx f.n.way t.n x2) (ny f.n.way t.n y2)⟩ :: d', x2, y2, h1, by simp [h2], fun s => ?_⟩
    refine (h3 _).trans (er_plug ?_ d)
    rw [T.er_mk, T.er_mk, erL_app, erL_app, erL_cons, erL_cons, placeL_er', placeL_er']
/-- A split with two leaves, placed. -/
theorem place_two (c : List Fr) (n l m : Nd) (L R : List T) : ∃ (c' : List Fr) (n' hn ln : Nd) (L' R' : List T),
    (plug c (.mk n (L ++ .mk l [] :: .mk m [] :: R))).place 0 0 = plug c' (.mk n' (L' ++ .mk hn [] :: .mk ln [] :: R')) ∧ c'.length = c.length ∧ L'.length = L.length ∧ R'.length = R.length ∧
    (n'.p = n.p ∧ n'.a = n.a ∧ n'.b = n.b ∧ n'.way = n.way) ∧ (hn.p = l.p ∧ hn.a = l.a ∧ hn.b = l.b ∧ hn.way = l.way) ∧ (ln.p = m.p ∧ ln.a = m.a ∧ ln.b = m.b ∧ ln.way = m.way) ∧
    (∀ s, (plug c' s).er = (plug c s).er) ∧ erL L' = erL L ∧ erL R' = erL R := by
  obtain ⟨c', x1, y1, h1, h2, h3⟩ := place_plug c (.mk n (L ++ .mk l [] :: .mk m [] :: R)) 0 0
  rw [T.place_mk] at h1
  obtain ⟨x2, y2, h4⟩ := placeL_app n.way L (.mk l [] :: .mk m [] :: R) x1 y1
  rw [h4, placeL_cons, placeL_cons, T.place_mk, T.place_mk, placeL_nil, placeL_nil] at h1
  exact ⟨c', _, _, _, _, _, h1, h2, placeL_len _ _ _ _, placeL_len _ _ _ _, ⟨rfl, rfl, rfl, rfl⟩, ⟨rfl, rfl, rfl, rfl⟩, ⟨rfl, rfl, rfl, rfl⟩, h3, placeL_er' _ _ _ _, placeL_er' _ _ _ _⟩
end Go.Proofs.YtcklmkjlbpjojaaDoor
