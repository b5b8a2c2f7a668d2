/- Layout: what Close keeps. No walk. Layout: presets, plain: a frame of panes, laid evenly in a size. No program in sight. -/
import Derived.Test.YtcklmkjlbpjojaaDoorM7
import Derived.Test.YtcklmkjlbpjojaaDoorL1
import Derived.Test.YtcklmkjlbpjojaaDoorMA
import Derived.Test.YtcklmkjlbpjojaaDoorXD
namespace Go.Proofs.YtcklmkjlbpjojaaDoor
open Go.RowKit
set_option linter.unusedSimpArgs false
set_option linter.unusedVariables false

theorem grow_ks (t : T) (way z : Int) : (t.grow way z).ks.length = t.ks.length := by
  cases t; rw [T.grow_mk]; exact growR_len _ _ _ _
theorem grow_ks_nil (t : T) (way z : Int) : (t.grow way z).ks = [] ↔ t.ks = [] := by
  rw [← List.length_eq_zero_iff, grow_ks, List.length_eq_zero_iff]
theorem grow_way (t : T) (way z : Int) : (t.grow way z).n.way = t.n.way := by rw [T.grow_n]; exact (Nd.gr_g _ _ _).2.2.2.2.1
theorem grow_alt (t : T) (way : Int) : ∀ z, t.er.alt → (t.grow way z).er.alt := by
  induction t using T.ind with
  | h n ks ih =>
    intro z h
    obtain ⟨h1, h2⟩ := alt_T.1 h
    rw [T.grow_mk]
    have key := fun (i : Nat) (k' : T) => growR_all (Q := fun k k' => (k'.ks = [] ↔ k.ks = []) ∧ k'.n.way = k.n.way ∧ (k.er.alt → k'.er.alt)) way n.way z (fun _ => ⟨Iff.rfl, rfl, id⟩) ks
      (fun k hk z => ⟨grow_ks_nil _ _ _, grow_way _ _ _, ih k hk z⟩) i k'
    refine alt_T.2 ⟨fun k' hk' => ?_, fun k' hk' => ?_⟩
    · obtain ⟨i, hi⟩ := List.mem_iff_getElem?.1 hk'
      obtain ⟨k, e, q1, q2, _⟩ := key i k' hi
      rw [(Nd.gr_g n way z).2.2.2.2.1, q1, q2]
      exact h1 k (List.mem_of_getElem? e)
    · obtain ⟨i, hi⟩ := List.mem_iff_getElem?.1 hk'
      obtain ⟨k, e, _, _, q3⟩ := key i k' hi
      exact q3 (h2 k (List.mem_of_getElem? e))
/-- A split and its neighbours. -/
theorem ps_cons {n : Nd} {ks : List T} (h : ks ≠ []) : (T.mk n ks).er.ps = (ks.map fun k => k.er.ps).flatten := by
  rw [ps_node n ks h, psL_flat, erL_map, List.map_map]; rfl
theorem closed_ok {c0 : List Fr} {n : Nd} {ks L R : List T} {l h h' t2 : T} {z : Int} (hok : (plug c0 (.mk n ks)).er.ok) (halt : (plug c0 (.mk n ks)).er.alt) (hks : ks = L ++ h :: l :: R ∨ (L = [] ∧ ks = l :: h :: R)) (hlk : l.ks = [])
    (hz : z = l.n.sz n.way) (hh' : h' = h.grow n.way (z + 1)) (hc : Closed c0 n L R h' t2) :
    t2.er.ok ∧ t2.er.alt ∧ t2.n.a = (plug c0 (.mk n ks)).n.a ∧ t2.n.b = (plug c0 (.mk n ks)).n.b ∧ (plug c0 (.mk n ks)).er.ps.Perm (l.n.p :: t2.er.ps) := by
  have hnok := (ok_plug c0 (.mk n ks) (.mk n ks) hok).1
  obtain ⟨hnalt, hnf, _⟩ := alt_plug c0 (.mk n ks) (.mk n ks) halt
  have hmem : ∀ x, x ∈ ks ↔ x ∈ L ∨ x = h ∨ x = l ∨ x ∈ R := by
    intro x
    rcases hks with e | ⟨e1, e2⟩
    · rw [e]; simp
    · rw [e1, e2]; simp; constructor
      · rintro (h | h | h) <;> simp [h]
      · rintro (h | h | h) <;> simp [h]
  have hne : ks ≠ [] := by intro e; have := (hmem h).2 (by simp); rw [e] at this; cases this
  obtain ⟨hp, ha, hb, h2, hway, hcr, hsum, hkok⟩ : n.p = 0 ∧ 1 ≤ n.a ∧ 1 ≤ n.b ∧ 2 ≤ ks.length ∧ (n.way = 0 ∨ n.way = 1) ∧ (∀ k ∈ ks, k.sz (1 - n.way) = n.sz (1 - n.way)) ∧ (ks.map fun k => k.sz n.way + 1).sum = n.sz n.way + 1 ∧ ∀ k ∈ ks, k.er.ok := by
    rcases ok_T.1 hnok with h | h
    · exact absurd h.1 hne
    · exact h
  obtain ⟨hal, hka⟩ := alt_T.1 hnalt
  have hhm := (hmem h).2 (by simp)
  have hlm := (hmem l).2 (by simp)
  have hhok := hkok h hhm
  have hl1 := least_le hway l (hkok l hlm)
  have hzl : z = l.sz n.way := hz
  have hG := grow_ok hway h (z + 1) hhok (by have := least_le hway h hhok; omega)
  rw [← hh'] at hG
  have hsum2 : ((L ++ h' :: R).map fun k => k.sz n.way + 1).sum = n.sz n.way + 1 := by
    rw [← hsum]
    have := hG.sz
    rcases hks with e | ⟨e1, e2⟩
    · rw [e]; simp only [List.map_append, List.map_cons, List.sum_append, List.sum_cons]; omega
    · rw [e1, e2]; simp only [List.map_append, List.map_cons, List.sum_append, List.sum_cons, List.nil_append]; omega
  have hcr2 : ∀ k ∈ L ++ h' :: R, k.sz (1 - n.way) = n.sz (1 - n.way) := by
    intro k hk
    simp only [List.mem_append, List.mem_cons] at hk
    rcases hk with h | rfl | h
    · exact hcr k ((hmem k).2 (by simp [h]))
    · rw [hG.sz']; exact hcr _ hhm
    · exact hcr k ((hmem k).2 (by simp [h]))
  have hok2 : ∀ k ∈ L ++ h' :: R, k.er.ok := by
    intro k hk
    simp only [List.mem_append, List.mem_cons] at hk
    rcases hk with h | rfl | h
    · exact hkok k ((hmem k).2 (by simp [h]))
    · exact hG.ok
    · exact hkok k ((hmem k).2 (by simp [h]))
  have hh'k : h'.ks = [] ↔ h.ks = [] := by rw [hh']; exact grow_ks_nil _ _ _
  have hh'w : h'.n.way = h.n.way := by rw [hh']; exact grow_way _ _ _
  have hh'a : h'.er.alt := by rw [hh']; exact grow_alt _ _ _ (hka h hhm)
  have hh'n : h'.ks = [] ∨ h'.n.way ≠ n.way := by rw [hh'k, hh'w]; exact hal h hhm
  have hh'p : h'.er.ps = h.er.ps := by rw [hh']; exact T.grow_ps _ _ _
  have hlp : l.er.ps = [l.n.p] := by cases l with | mk m ks => cases hlk; exact ps_leaf m
  obtain ⟨PA, PB, hPP⟩ := ps_ctx c0
  have hpsn : (T.mk n ks).er.ps.Perm (l.n.p :: ((L.map fun k => k.er.ps).flatten ++ (h'.er.ps ++ (R.map fun k => k.er.ps).flatten))) := by
    rw [ps_cons hne, hh'p]
    rcases hks with e | ⟨e1, e2⟩
    · rw [e]
      simp only [List.map_append, List.map_cons, List.flatten_append, List.flatten_cons, hlp]
      refine List.perm_iff_count.2 fun a => ?_
      simp only [List.count_append, List.count_cons, List.count_nil]
      omega
    · rw [e1, e2]
      simp only [List.map_cons, List.map_nil, List.flatten_cons, List.flatten_nil, hlp, List.nil_append]
      exact List.Perm.refl _
  have hps2 : ∀ X : List Int, X.Perm ((L.map fun k => k.er.ps).flatten ++ (h'.er.ps ++ (R.map fun k => k.er.ps).flatten)) → (plug c0 (.mk n ks)).er.ps.Perm (l.n.p :: (PA ++ X ++ PB)) := by
    intro X hX
    rw [hPP]
    refine List.perm_iff_count.2 fun a => ?_
    have q1 := List.perm_iff_count.1 hpsn a
    have q2 := List.perm_iff_count.1 hX a
    simp only [List.count_append, List.count_cons] at q1 q2 ⊢
    omega
  have hsame : L.length = 0 → R.length = 0 → h'.n.a = n.a ∧ h'.n.b = n.b := by
    intro e1 e2
    have e1' := List.eq_nil_of_length_eq_zero e1
    have e2' := List.eq_nil_of_length_eq_zero e2
    rw [e1', e2'] at hsum2
    simp only [List.nil_append, List.map_cons, List.map_nil, List.sum_cons, List.sum_nil] at hsum2
    have q1 := hcr2 h' (by simp)
    have q2 : h'.sz n.way = n.sz n.way := by omega
    rcases hway with e | e
    · rw [e] at q1 q2; simp [T.sz, Nd.sz] at q1 q2; exact ⟨q2, q1⟩
    · rw [e] at q1 q2; simp [T.sz, Nd.sz] at q1 q2; exact ⟨q1, q2⟩
  rcases hc with ⟨c1, c2, c3, rfl⟩ | ⟨c1, c2, f, d, f', c3, c4, c5, rfl⟩ | ⟨c1, rfl⟩
  · obtain ⟨s1, s2⟩ := hsame c1 c2
    obtain ⟨_, q⟩ := ok_plug c0 (.mk n ks) h' hok
    obtain ⟨q1, q2, q3⟩ := q hG.ok s1 s2
    obtain ⟨_, _, qa⟩ := alt_plug c0 (.mk n ks) h' halt
    refine ⟨q1, qa hh'a (fun f d e => ?_), q2, q3, ?_⟩
    · rcases c3 with h | h
      · rw [h] at e; cases e
      · exact .inl h
    · rw [hPP h']
      refine hps2 _ ?_
      rw [List.eq_nil_of_length_eq_zero c1, List.eq_nil_of_length_eq_zero c2]
      simp
  · obtain ⟨s1, s2⟩ := hsame c1 c2
    subst c3
    obtain ⟨_, q⟩ := ok_plug d (.mk f.n (f.L ++ .mk n ks :: f.R)) (.mk f' (f.L ++ h'.ks ++ f.R)) hok
    have hfok := (ok_plug d (.mk f.n (f.L ++ .mk n ks :: f.R)) (.mk f.n []) hok).1
    obtain ⟨hfalt, hff, qa⟩ := alt_plug d (.mk f.n (f.L ++ .mk n ks :: f.R)) (.mk f' (f.L ++ h'.ks ++ f.R)) halt
    obtain ⟨w1, w2⟩ := alt_T.1 hfalt
    have hnf2 : n.way ≠ f.n.way := by
      rcases w1 (.mk n ks) (by simp) with h | h
      · exact absurd h hne
      · exact h
    obtain ⟨fp, fa, fb, f2, fway, fcr, fsum, fok⟩ : f.n.p = 0 ∧ 1 ≤ f.n.a ∧ 1 ≤ f.n.b ∧ 2 ≤ (f.L ++ .mk n ks :: f.R).length ∧ (f.n.way = 0 ∨ f.n.way = 1) ∧ (∀ k ∈ f.L ++ .mk n ks :: f.R, k.sz (1 - f.n.way) = f.n.sz (1 - f.n.way)) ∧ ((f.L ++ .mk n ks :: f.R).map fun k => k.sz f.n.way + 1).sum = f.n.sz f.n.way + 1 ∧ ∀ k ∈ f.L ++ .mk n ks :: f.R, k.er.ok := by
      rcases ok_T.1 hfok with h | h
      · exact absurd h.1 (by simp)
      · exact h
    have hhw : h'.n.way ≠ n.way := by
      rcases hh'n with h | h
      · exact absurd h c4
      · exact h
    obtain ⟨hn', ks', hhe⟩ : ∃ m q, h' = .mk m q := ⟨h'.n, h'.ks, by cases h'; rfl⟩
    have hks' : h'.ks = ks' := by rw [hhe]; rfl
    have hhn' : h'.n = hn' := by rw [hhe]; rfl
    rw [hks'] at c4 q qa ⊢
    obtain ⟨gp, ga, gb, g2, gway, gcr, gsum, gok⟩ : hn'.p = 0 ∧ 1 ≤ hn'.a ∧ 1 ≤ hn'.b ∧ 2 ≤ ks'.length ∧ (hn'.way = 0 ∨ hn'.way = 1) ∧ (∀ k ∈ ks', k.sz (1 - hn'.way) = hn'.sz (1 - hn'.way)) ∧ (ks'.map fun k => k.sz hn'.way + 1).sum = hn'.sz hn'.way + 1 ∧ ∀ k ∈ ks', k.er.ok := by
      have := hG.ok
      rw [hhe] at this
      rcases ok_T.1 this with h | h
      · exact absurd h.1 c4
      · exact h
    rw [hhn'] at hhw s1 s2
    have hwf : hn'.way = f.n.way := by omega
    have hsz : ∀ way, hn'.sz way = n.sz way := fun way => by unfold Nd.sz; rw [s1, s2]
    have hnew : (T.mk f' (f.L ++ ks' ++ f.R)).er.ok := by
      have hfs : ∀ way, f'.sz way = f.n.sz way := fun way => by unfold Nd.sz; rw [c5.2.1, c5.2.2.1]
      refine ok_T.2 (.inr ⟨by rw [c5.1]; exact fp, by rw [c5.2.1]; exact fa, by rw [c5.2.2.1]; exact fb, by simp; omega, by rw [c5.2.2.2]; exact fway, ?_, ?_, ?_⟩)
      · intro k hk
        rw [c5.2.2.2, hfs]
        simp only [List.mem_append] at hk
        rcases hk with (h | h) | h
        · exact fcr k (by simp [h])
        · have q1 := gcr k h
          rw [hwf, hsz] at q1
          rw [q1]
          exact fcr (.mk n ks) (by simp)
        · exact fcr k (by simp [h])
      · rw [c5.2.2.2, hfs, ← fsum]
        rw [hwf, hsz] at gsum
        simp only [List.map_append, List.map_cons, List.sum_append, List.sum_cons, gsum]
        have : (T.mk n ks).sz f.n.way = n.sz f.n.way := rfl
        rw [this]; omega
      · intro k hk
        simp only [List.mem_append] at hk
        rcases hk with (h | h) | h
        · exact fok k (by simp [h])
        · exact gok k h
        · exact fok k (by simp [h])
    obtain ⟨q1, q2, q3⟩ := q hnew c5.2.1 c5.2.2.1
    refine ⟨q1, qa ?_ ?_, q2, q3, ?_⟩
    · rw [hhe] at hh'a
      obtain ⟨x1, x2⟩ := alt_T.1 hh'a
      refine alt_T.2 ⟨fun k hk => ?_, fun k hk => ?_⟩
      · rw [c5.2.2.2]
        simp only [List.mem_append] at hk
        rcases hk with (h | h) | h
        · exact w1 k (by simp [h])
        · have := x1 k h; rwa [hwf] at this
        · exact w1 k (by simp [h])
      · simp only [List.mem_append] at hk
        rcases hk with (h | h) | h
        · exact w2 k (by simp [h])
        · exact x2 k h
        · exact w2 k (by simp [h])
    · intro g e he
      rw [show (T.mk f' (f.L ++ ks' ++ f.R)).n.way = f.n.way from c5.2.2.2]
      rcases hff g e he with h | h
      · exact absurd h (by simp [T.ks])
      · exact .inr h
    · obtain ⟨A, B, hAB⟩ := ps_ctx d
      have hk'ps : h'.er.ps = (ks'.map fun k => k.er.ps).flatten := by rw [hhe, ps_cons c4]
      show (plug d (.mk f.n (f.L ++ .mk n ks :: f.R))).er.ps.Perm (l.n.p :: (plug d (.mk f' (f.L ++ ks' ++ f.R))).er.ps)
      rw [hAB, hAB, ps_cons (by simp), ps_cons (by simp [c4])]
      refine List.perm_iff_count.2 fun a => ?_
      have q5 := List.perm_iff_count.1 hpsn a
      rw [List.eq_nil_of_length_eq_zero c1, List.eq_nil_of_length_eq_zero c2, hk'ps] at q5
      simp only [List.map_append, List.map_cons, List.map_nil, List.flatten_append, List.flatten_cons, List.flatten_nil, List.count_append, List.count_cons, List.count_nil] at q5 ⊢
      omega
  · obtain ⟨_, q⟩ := ok_plug c0 (.mk n ks) (.mk n (L ++ h' :: R)) hok
    have hl2 : 2 ≤ (L ++ h' :: R).length := by
      simp only [List.length_append, List.length_cons]; omega
    obtain ⟨q1, q2, q3⟩ := q (ok_T.2 (.inr ⟨hp, ha, hb, hl2, hway, hcr2, hsum2, hok2⟩)) rfl rfl
    obtain ⟨_, _, qa⟩ := alt_plug c0 (.mk n ks) (.mk n (L ++ h' :: R)) halt
    refine ⟨q1, qa (alt_T.2 ⟨fun k hk => ?_, fun k hk => ?_⟩) ?_, q2, q3, ?_⟩
    · simp only [List.mem_append, List.mem_cons] at hk
      rcases hk with h | rfl | h
      · exact hal k ((hmem k).2 (by simp [h]))
      · exact hh'n
      · exact hal k ((hmem k).2 (by simp [h]))
    · simp only [List.mem_append, List.mem_cons] at hk
      rcases hk with h | rfl | h
      · exact hka k ((hmem k).2 (by simp [h]))
      · exact hh'a
      · exact hka k ((hmem k).2 (by simp [h]))
    · intro f d e
      rcases hnf f d e with h | h
      · exact absurd h hne
      · exact .inr h
    · rw [hPP (.mk n (L ++ h' :: R))]
      refine hps2 _ ?_
      rw [ps_cons (by simp)]
      simp
end Go.Proofs.YtcklmkjlbpjojaaDoor
namespace Go.Proofs.YtcklmkjlbpjojaaDoor.X
open Go.RowKit
set_option linter.unusedSimpArgs false
set_option linter.unusedVariables false

/-- How much the kid at place i has along, of n in a size z. -/
def own (z : Int) (n i : Nat) : Int := (z - (n - 1)).tdiv n + if (i : Int) < (z - (n - 1)).tmod n then 1 else 0
def ownA (way a : Int) (n i : Nat) : Int := if way = 0 then own a n i else a
def ownB (way b : Int) (n i : Nat) : Int := if way = 0 then b else own b n i
mutual
/-- A frame laid in a size. -/
def _root_.Go.Proofs.YtcklmkjlbpjojaaDoor.E.even : E → Int → Int → E
  | .mk p _ _ way ks, a, b => if ks.length = 0 then .mk p a b way [] else .mk 0 a b way (evenL way a b ks.length 0 ks)
def evenL (way a b : Int) (n : Nat) : Nat → List E → List E
  | _, [] => []
  | i, k :: ks => k.even (ownA way a n i) (ownB way b n i) :: evenL way a b n (i + 1) ks
end
theorem even_mk (p x y way a b : Int) (ks : List E) : (E.mk p x y way ks).even a b = if ks.length = 0 then .mk p a b way [] else .mk 0 a b way (evenL way a b ks.length 0 ks) := by rw [E.even]
theorem evenL_nil (way a b : Int) (n i : Nat) : evenL way a b n i [] = [] := by rw [evenL]
theorem evenL_cons (way a b : Int) (n i : Nat) (k : E) (ks : List E) : evenL way a b n i (k :: ks) = k.even (ownA way a n i) (ownB way b n i) :: evenL way a b n (i + 1) ks := by rw [evenL]
theorem evenL_app (way a b : Int) (n : Nat) : ∀ (l r : List E) (i : Nat), evenL way a b n i (l ++ r) = evenL way a b n i l ++ evenL way a b n (i + l.length) r
  | [], r, i => by rw [evenL_nil]; rfl
  | k :: l, r, i => by rw [List.cons_append, evenL_cons, evenL_cons, evenL_app way a b n l r (i + 1), List.cons_append, List.length_cons, show i + 1 + l.length = i + (l.length + 1) by omega]
theorem evenL_len (way a b : Int) (n : Nat) : ∀ (l : List E) (i : Nat), (evenL way a b n i l).length = l.length
  | [], i => by rw [evenL_nil]
  | k :: l, i => by rw [evenL_cons]; simp [evenL_len way a b n l]
theorem even_a (e : E) (a b : Int) : (e.even a b).a = a ∧ (e.even a b).b = b := by
  cases e; rw [even_mk]; split <;> exact ⟨rfl, rfl⟩
theorem even_way (e : E) (a b : Int) : (e.even a b).way = e.way := by
  cases e; rw [even_mk]; split <;> rfl
theorem even_ks (e : E) (a b : Int) : (e.even a b).ks = [] ↔ e.ks = [] := by
  cases e with | mk p x y way ks =>
    rw [even_mk]
    split
    · rename_i h; exact ⟨fun _ => List.eq_nil_of_length_eq_zero h, fun _ => rfl⟩
    · rename_i h
      constructor
      · intro e
        have : (evenL way a b ks.length 0 ks).length = 0 := by rw [show evenL way a b ks.length 0 ks = [] from e]; rfl
        rw [evenL_len] at this; exact absurd this h
      · intro e; exact absurd (by rw [show ks = [] from e]; rfl) h
theorem even_ps (e : E) : ∀ a b, (e.even a b).ps = e.ps := by
  induction e using E.ind with
  | h p x y way ks ih =>
    intro a b
    rw [even_mk, E.ps_mk]
    split
    · rename_i h; rw [E.ps_mk, List.eq_nil_of_length_eq_zero h]; simp
    · rename_i h
      rw [E.ps_mk, evenL_len, if_neg h]
      have : ∀ (l : List E) (i : Nat), (∀ k ∈ l, ∀ a b, (k.even a b).ps = k.ps) → psL (evenL way a b ks.length i l) = psL l := by
        intro l
        induction l with
        | nil => intro i _; rw [evenL_nil]
        | cons k l ih2 => intro i hl; rw [evenL_cons, psL_cons, psL_cons, hl k (by simp), ih2 _ fun k hk => hl k (by simp [hk])]
      rw [this ks 0 ih]
theorem mem_evenL {way a b : Int} {n : Nat} {e : E} : ∀ (l : List E) (i : Nat), e ∈ evenL way a b n i l → ∃ k ∈ l, ∃ j, e = k.even (ownA way a n j) (ownB way b n j)
  | [], i, h => by rw [evenL_nil] at h; cases h
  | k :: l, i, h => by
    rw [evenL_cons] at h
    rcases List.mem_cons.1 h with rfl | h
    · exact ⟨k, by simp, i, rfl⟩
    · obtain ⟨k', hk, j, e⟩ := mem_evenL l (i + 1) h
      exact ⟨k', by simp [hk], j, e⟩
theorem even_alt (e : E) : e.alt → ∀ a b, (e.even a b).alt := by
  induction e using E.ind with
  | h p x y way ks ih =>
    intro h a b
    cases h with
    | mk h1 h2 =>
      rw [even_mk]
      split
      · exact .mk (by simp) (by simp)
      · refine .mk (fun e he => ?_) fun e he => ?_
        · obtain ⟨k, hk, j, rfl⟩ := mem_evenL ks 0 he
          rw [even_ks, even_way]
          exact h1 k hk
        · obtain ⟨k, hk, j, rfl⟩ := mem_evenL ks 0 he
          exact ih k hk (h2 k hk) _ _
/-- A frame: panes, or two or more frames. -/
inductive Frm : E → Prop
  | leaf {p a b : Int} (hp : 1 ≤ p ∧ p ≤ 999) : Frm (.mk p a b 0 [])
  | node {p a b way : Int} {ks : List E} (hw : way = 0 ∨ way = 1) (hl : 2 ≤ ks.length) (hk : ∀ k ∈ ks, Frm k) : Frm (.mk p a b way ks)
mutual
/-- All panes have a place at least. -/
def _root_.Go.Proofs.YtcklmkjlbpjojaaDoor.E.pos : E → Prop
  | .mk _ a b _ ks => (ks.length = 0 → 1 ≤ a ∧ 1 ≤ b) ∧ posL ks
def posL : List E → Prop
  | [] => True
  | k :: ks => k.pos ∧ posL ks
end
theorem pos_mk (p a b way : Int) (ks : List E) : (E.mk p a b way ks).pos ↔ (ks.length = 0 → 1 ≤ a ∧ 1 ≤ b) ∧ ∀ k ∈ ks, k.pos := by
  rw [E.pos]
  have : ∀ l : List E, posL l ↔ ∀ k ∈ l, k.pos := by
    intro l
    induction l with
    | nil => rw [posL]; simp
    | cons k l ih => rw [posL, ih]; simp
  rw [this]
theorem own_sum (z : Int) (n : Nat) (hn : 1 ≤ n) (hz : 0 ≤ z - (n - 1)) : ∀ m, m ≤ n → ((List.range m).map fun i => own z n i + 1).sum = (z - (n - 1)).tdiv n * m + min (m : Int) ((z - (n - 1)).tmod n) + m := by
  intro m
  induction m with
  | zero =>
    intro _
    have := Int.tmod_nonneg (n : Int) hz
    simp only [List.range_zero, List.map_nil, List.sum_nil, Int.ofNat_zero, Int.mul_zero]
    omega
  | succ m ih =>
    intro hm
    rw [List.range_succ, List.map_append, List.sum_append, ih (by omega)]
    simp only [List.map_cons, List.map_nil, List.sum_cons, List.sum_nil]
    unfold own
    generalize (z - (n - 1)).tmod n = r
    generalize (z - (n - 1)).tdiv n = q
    have : q * ((m + 1 : Nat) : Int) = q * m + q := by push_cast; rw [Int.mul_add, Int.mul_one]
    rw [this]
    push_cast
    split <;> omega
theorem own_all (z : Int) (n : Nat) (hn : 1 ≤ n) (hz : 0 ≤ z - (n - 1)) : ((List.range n).map fun i => own z n i + 1).sum = z + 1 := by
  rw [own_sum z n hn hz n (Nat.le_refl _)]
  have h1 := Int.tmod_lt_of_pos (z - (n - 1)) (show (0 : Int) < n by omega)
  have h2 := Int.mul_tdiv_add_tmod (z - (n - 1)) n
  have h3 : (z - (n - 1)).tdiv n * n = n * (z - (n - 1)).tdiv n := Int.mul_comm _ _
  omega
theorem own_pos {z : Int} {n : Nat} (hn : 1 ≤ n) (h : 1 ≤ own z n (n - 1)) : 0 ≤ z - (n - 1) := by
  rcases Int.lt_or_le (z - (n - 1)) 0 with h1 | h1
  · exfalso
    unfold own at h
    have h2 : (z - (n - 1)).tdiv n ≤ 0 := by
      have := Int.tdiv_nonneg (a := -(z - (n - 1))) (b := n) (by omega) (by omega)
      rw [Int.neg_tdiv] at this; omega
    have h3 : (z - (n - 1)).tmod n ≤ 0 := by
      have := Int.tmod_nonneg (n : Int) (a := -(z - (n - 1))) (by omega)
      rw [Int.neg_tmod] at this; omega
    split at h <;> omega
  · exact h1
theorem evenL_map (way a b : Int) (n : Nat) (f : E → Int) (g : Nat → Int) : ∀ (l : List E) (i : Nat), (∀ k ∈ l, ∀ j, f (k.even (ownA way a n j) (ownB way b n j)) = g j) → (evenL way a b n i l).map f = (List.range l.length).map fun j => g (i + j)
  | [], i, _ => by rw [evenL_nil]; rfl
  | k :: l, i, h => by
    rw [evenL_cons, List.map_cons, h k (by simp), evenL_map way a b n f g l (i + 1) fun k hk => h k (by simp [hk]), List.length_cons, List.range_succ_eq_map, List.map_cons, List.map_map]
    congr 1
    refine List.map_congr_left fun j _ => ?_
    show g (i + 1 + j) = g (i + (j + 1))
    rw [show i + 1 + j = i + (j + 1) by omega]
/-- A frame whose panes all have a place is filled. -/
theorem even_pos (e : E) : Frm e → ∀ a b, (e.even a b).pos → 1 ≤ a ∧ 1 ≤ b := by
  induction e using E.ind with
  | h p x y way ks ih =>
    intro hF a b hp
    rw [even_mk] at hp
    cases hF with
    | leaf h => exact ((pos_mk _ _ _ _ _).1 hp).1 rfl
    | node hw hl hk =>
      rw [if_neg (by omega)] at hp
      have hp2 := ((pos_mk _ _ _ _ _).1 hp).2
      have hkid : ∀ (l : List E) (i : Nat), (∀ k ∈ l, k ∈ ks) → (∀ e ∈ evenL way a b ks.length i l, e.pos) → ∀ j k, l[j]? = some k → 1 ≤ ownA way a ks.length (i + j) ∧ 1 ≤ ownB way b ks.length (i + j) := by
        intro l
        induction l with
        | nil => intro i _ _ j k h; simp at h
        | cons c l ihl =>
          intro i hm hq j k hj
          rw [evenL_cons] at hq
          rcases j with _ | j
          · simp only [List.getElem?_cons_zero, Option.some.injEq] at hj
            exact ih c (hm c (by simp)) (hk c (hm c (by simp))) _ _ (hq _ (by simp))
          · have := ihl (i + 1) (fun k hk => hm k (by simp [hk])) (fun e he => hq e (by simp [he])) j k (by simpa using hj)
            rwa [show i + 1 + j = i + (j + 1) by omega] at this
      obtain ⟨k, hkl⟩ : ∃ k, ks[ks.length - 1]? = some k := ⟨ks[ks.length - 1]'(by omega), List.getElem?_eq_getElem _⟩
      have := hkid ks 0 (fun _ h => h) hp2 (ks.length - 1) k hkl
      rw [Nat.zero_add] at this
      unfold ownA ownB at this
      rcases hw with rfl | rfl
      · simp only [if_true] at this
        have := own_pos (by omega) this.1
        omega
      · simp only [Int.reduceEq, if_false] at this
        have := own_pos (by omega) this.2
        omega
theorem even_ok (e : E) : Frm e → ∀ a b, (e.even a b).pos → (e.even a b).ok := by
  induction e using E.ind with
  | h p x y way ks ih =>
    intro hF a b hp
    have hab := even_pos _ hF a b hp
    rw [even_mk] at hp ⊢
    cases hF with
    | leaf h => exact .leaf h hab.1 hab.2
    | node hw hl hk =>
      rw [if_neg (by omega)] at hp ⊢
      have hp2 := ((pos_mk _ _ _ _ _).1 hp).2
      refine .node hab.1 hab.2 (by rw [evenL_len]; exact hl) ?_ fun k' hk' => ?_
      · have hlast : ∀ (l : List E) (i : Nat), (∀ k ∈ l, k ∈ ks) → (∀ e ∈ evenL way a b ks.length i l, e.pos) → ∀ j k, l[j]? = some k → 1 ≤ ownA way a ks.length (i + j) ∧ 1 ≤ ownB way b ks.length (i + j) := by
          intro l
          induction l with
          | nil => intro i _ _ j k h; simp at h
          | cons c l ihl =>
            intro i hm hq j k hj
            rw [evenL_cons] at hq
            rcases j with _ | j
            · exact even_pos c (hk c (hm c (by simp))) _ _ (hq _ (by simp))
            · have := ihl (i + 1) (fun k hk => hm k (by simp [hk])) (fun e he => hq e (by simp [he])) j k (by simpa using hj)
              rwa [show i + 1 + j = i + (j + 1) by omega] at this
        obtain ⟨k, hkl⟩ : ∃ k, ks[ks.length - 1]? = some k := ⟨ks[ks.length - 1]'(by omega), List.getElem?_eq_getElem _⟩
        have hL := hlast ks 0 (fun _ h => h) hp2 (ks.length - 1) k hkl
        rw [Nat.zero_add] at hL
        unfold ownA ownB at hL
        rcases hw with rfl | rfl
        · simp only [if_true] at hL
          refine .inl ⟨rfl, fun k' hk' => ?_, ?_⟩
          · obtain ⟨k, _, j, rfl⟩ := mem_evenL ks 0 hk'
            rw [(even_a _ _ _).2]; rfl
          · rw [evenL_map 0 a b ks.length (fun k => k.a + 1) (fun j => own a ks.length j + 1) ks 0 (fun k _ j => by rw [(even_a _ _ _).1]; rfl)]
            simp only [Nat.zero_add]
            exact own_all a ks.length (by omega) (own_pos (by omega) hL.1)
        · simp only [Int.reduceEq, if_false] at hL
          refine .inr ⟨rfl, fun k' hk' => ?_, ?_⟩
          · obtain ⟨k, _, j, rfl⟩ := mem_evenL ks 0 hk'
            rw [(even_a _ _ _).1]; rfl
          · rw [evenL_map 1 a b ks.length (fun k => k.b + 1) (fun j => own b ks.length j + 1) ks 0 (fun k _ j => by rw [(even_a _ _ _).2]; rfl)]
            simp only [Nat.zero_add]
            exact own_all b ks.length (by omega) (own_pos (by omega) hL.2)
      · obtain ⟨k, hk1, j, rfl⟩ := mem_evenL ks 0 hk'
        exact ih k hk1 (hk k hk1) _ _ (hp2 _ hk')
/-- pos is said of the leaves. -/
theorem pos_leaves (t : T) : t.er.pos ↔ ∀ s ∈ t.leaves, 1 ≤ s.n.a ∧ 1 ≤ s.n.b := by
  induction t using T.ind with
  | h n ks ih =>
    rw [T.er_mk, pos_mk, T.leaves_mk, erL_len]
    constructor
    · rintro ⟨h1, h2⟩ s hs
      rcases List.mem_append.1 hs with hs | hs
      · split at hs
        · rename_i h; simp at hs; subst hs; exact h1 h
        · cases hs
      · obtain ⟨k, hk, hs⟩ := mem_leavesL.1 hs
        exact (ih k hk).1 (h2 k.er (by rw [erL_map]; exact List.mem_map_of_mem hk)) s hs
    · intro h
      refine ⟨fun h0 => h (.mk n ks) (by simp [h0]), fun e he => ?_⟩
      rw [erL_map] at he
      obtain ⟨k, hk, rfl⟩ := List.mem_map.1 he
      exact (ih k hk).2 fun s hs => h s (List.mem_append_right _ (mem_leavesL.2 ⟨k, hk, hs⟩))
theorem own_bd {z : Int} {n : Nat} (hn : 2 ≤ n) (hn2 : n ≤ 1000) (hz : -2000 ≤ z ∧ z ≤ 2000) (i : Nat) : -2000 ≤ own z n i ∧ own z n i ≤ 2000 ∧ -2000 ≤ (z - (n - 1)).tdiv n ∧ (z - (n - 1)).tdiv n ≤ 1999 := by
  have key : -2000 ≤ (z - (n - 1)).tdiv n ∧ (z - (n - 1)).tdiv n ≤ 1999 := by
    rcases Int.lt_or_le (z - (n - 1)) 0 with h1 | h1
    · have e : (z - (n - 1)).tdiv n = -((-(z - (n - 1))).tdiv n) := by rw [Int.neg_tdiv]; omega
      rw [e, Int.tdiv_eq_ediv_of_nonneg (by omega)]
      have h2 : -(z - ((n : Int) - 1)) / n ≤ -(z - ((n : Int) - 1)) / 2 := by
        have h4 := Int.ediv_le_ediv (a := -(z - ((n : Int) - 1))) (b := 3000) (c := 2) (by omega) (by omega)
        have h5 := Int.mul_ediv_self_le (x := -(z - ((n : Int) - 1))) (k := n) (by omega)
        have h6 := Int.ediv_nonneg (a := -(z - ((n : Int) - 1))) (b := n) (by omega) (by omega)
        have h7 : 2 * (-(z - ((n : Int) - 1)) / n) ≤ n * (-(z - ((n : Int) - 1)) / n) := Int.mul_le_mul_of_nonneg_right (by omega) h6
        omega
      have h3 := Int.ediv_nonneg (a := -(z - ((n : Int) - 1))) (b := n) (by omega) (by omega)
      omega
    · rw [Int.tdiv_eq_ediv_of_nonneg h1]
      have h5 := Int.mul_ediv_self_le (x := z - ((n : Int) - 1)) (k := n) (by omega)
      have h6 := Int.ediv_nonneg (a := z - ((n : Int) - 1)) (b := n) (by omega) (by omega)
      have h7 : 2 * ((z - ((n : Int) - 1)) / n) ≤ n * ((z - ((n : Int) - 1)) / n) := Int.mul_le_mul_of_nonneg_right (by omega) h6
      omega
  unfold own
  refine ⟨?_, ?_, key.1, key.2⟩ <;> split <;> omega
end Go.Proofs.YtcklmkjlbpjojaaDoor.X
