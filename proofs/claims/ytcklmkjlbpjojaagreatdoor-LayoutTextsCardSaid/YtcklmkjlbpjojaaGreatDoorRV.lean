/- Layout: the panes of LayoutTexts: the first leaf split by turns. No walk. Layout: the two trees side by side: apart in memory, alike. No walk. -/
import Derived.Test.YtcklmkjlbpjojaaGreatDoorRT
import Derived.Test.YtcklmkjlbpjojaaGreatDoorH2
namespace Go.Proofs.YtcklmkjlbpjojaaGreatDoor
open Go.RowKit
set_option linter.unusedSimpArgs false
set_option linter.unusedVariables false

def E.setL : E → E → E
  | .mk _ _ _ _ [], u => u
  | .mk p a b w (k :: ks), u => .mk p a b w (k.setL u :: ks)
def E.lm : E → E
  | .mk p a b w [] => .mk p a b w []
  | .mk _ _ _ _ (k :: _) => k.lm
/-- The way of what the first leaf stands in. -/
def E.pw : E → Int
  | .mk _ _ _ _ [] => 2
  | .mk _ _ _ w (k :: _) => if k.ks.length = 0 then w else k.pw
theorem setL_er (t u : T) : (t.setL u).er = t.er.setL u.er := by
  induction t using T.ind with
  | h n ks ih =>
    cases ks with
    | nil => rw [setL_nil, T.er_mk, erL_nil, E.setL]
    | cons k ks => rw [setL_cons, T.er_mk, T.er_mk, erL_cons, erL_cons, E.setL, ih k (by simp)]
theorem lm_er (t : T) : t.lm.er = t.er.lm := by
  induction t using T.ind with
  | h n ks ih =>
    cases ks with
    | nil => rw [T.lm_nil, T.er_mk, erL_nil, E.lm]
    | cons k ks => rw [T.lm_cons, T.er_mk, erL_cons, E.lm, ih k (by simp)]
theorem plug_app2 : ∀ (a b : List Fr) (t : T), plug (a ++ b) t = plug b (plug a t)
  | [], b, t => rfl
  | f :: a, b, t => by rw [List.cons_append, plug, plug, plug_app2 a b]
theorem er_klen (t : T) : t.er.ks.length = t.ks.length := by cases t; rw [T.er_mk]; exact erL_len _
/-- The first leaf's context. -/
theorem lm_ctx (t : T) : ∃ c, plug c t.lm = t ∧ (∀ X, plug c X = t.setL X) ∧ (c = [] ↔ t.ks.length = 0) ∧ ∀ g d, c = g :: d → g.n.way = t.er.pw := by
  induction t using T.ind with
  | h n ks ih =>
    cases ks with
    | nil => exact ⟨[], by rw [T.lm_nil]; rfl, fun X => by rw [setL_nil]; rfl, by simp [T.ks], fun g d h => by cases h⟩
    | cons k ks =>
      obtain ⟨c, h1, h2, h3, h4⟩ := ih k (by simp)
      refine ⟨c ++ [⟨n, [], ks⟩], ?_, fun X => ?_, by simp [T.ks], fun g d h => ?_⟩
      · rw [plug_app2, T.lm_cons, h1]; rfl
      · rw [plug_app2, h2, setL_cons]; rfl
      · rw [T.er_mk, erL_cons, E.pw, er_klen]
        by_cases hk : k.ks.length = 0
        · rw [if_pos hk]
          rw [h3.2 hk] at h
          simp at h
          rw [← h.1]
        · rw [if_neg hk]
          cases c with
          | nil => exact absurd (h3.1 rfl) hk
          | cons g' d' =>
            simp at h
            rw [← h.1]
            exact h4 g' d' rfl
theorem spine_pw (t : T) : ∀ s, 1 < t.spine.length → t.spine[t.spine.length - 2]? = some s → s.n.way = t.er.pw ∧ s.ks.length ≠ 0 := by
  induction t using T.ind with
  | h n ks ih =>
    cases ks with
    | nil => intro s h; rw [T.spine] at h; simp at h
    | cons k ks =>
      intro s h hs
      rw [T.spine] at h hs
      rw [T.er_mk, erL_cons, E.pw, er_klen]
      by_cases hk : k.ks.length = 0
      · have e : k.spine.length = 1 := by
          cases k with
          | mk n' ks' =>
            have : ks' = [] := List.eq_nil_of_length_eq_zero hk
            subst this
            rw [T.spine]; rfl
        rw [List.length_cons, e] at hs
        simp at hs
        subst hs
        rw [if_pos hk]
        exact ⟨rfl, by simp [T.ks]⟩
      · have e : 1 < k.spine.length := by
          cases k with
          | mk n' ks' =>
            cases ks' with
            | nil => exact absurd rfl hk
            | cons k' ks' =>
              rw [T.spine, List.length_cons]
              have := spine_pos k'
              omega
        rw [if_neg hk]
        refine ih k (by simp) s e ?_
        rw [List.length_cons, show k.spine.length + 1 - 2 = (k.spine.length - 2) + 1 by omega, List.getElem?_cons_succ] at hs
        exact hs
theorem spine_len (t : T) : t.spine.length ≤ t.nds.length := by
  induction t using T.ind with
  | h n ks ih =>
    cases ks with
    | nil => rw [T.spine, T.nds_mk, ndsL_nil]; simp
    | cons k ks =>
      have := ih k (by simp)
      rw [T.spine, T.nds_mk, ndsL_cons]
      simp only [List.length_cons, List.length_append]; omega
theorem leaves_lm (t : T) : ∃ r, t.leaves = t.lm :: r := by
  induction t using T.ind with
  | h n ks ih =>
    cases ks with
    | nil => exact ⟨[], by rw [T.leaves_mk, T.lm_nil, leavesL_nil]; rfl⟩
    | cons k ks =>
      obtain ⟨r, hr⟩ := ih k (by simp)
      exact ⟨r ++ leavesL ks, by rw [T.leaves_mk, T.lm_cons, leavesL_cons, hr]; rfl⟩
theorem lm_find {t : T} {p : Int} (h : t.lm.n.p = p) : t.find p = some t.lm := by
  obtain ⟨r, hr⟩ := leaves_lm t
  unfold T.find
  rw [hr, List.find?_cons]
  simp [h]
theorem lm_ks (t : T) : t.lm.ks = [] := by
  induction t using T.ind with
  | h n ks ih =>
    cases ks with
    | nil => rw [T.lm_nil]; rfl
    | cons k ks => rw [T.lm_cons]; exact ih k (by simp)
/-- Two trees alike but for their blocks and places, placed alike, are the same text. -/
theorem place_pt : ∀ (t u : T) (x y : Int), t.er = u.er → (t.place x y).pt = (u.place x y).pt := by
  intro t
  induction t using T.ind with
  | h n ks ih =>
    intro u x y h
    obtain ⟨n', ks'⟩ := u
    rw [T.er_mk, T.er_mk, erL_map, erL_map] at h
    injection h with h1 h2 h3 h4 h5
    rw [T.place_mk, T.place_mk, T.pt_mk, T.pt_mk]
    have key : ∀ (l l' : List T) (x y : Int), (∀ k ∈ l, k ∈ ks) → l.map T.er = l'.map T.er → ptL (placeL n.way l x y) = ptL (placeL n.way l' x y) := by
      intro l
      induction l with
      | nil =>
        intro l' x y _ e
        have := congrArg List.length e
        simp at this
        have : l' = [] := List.eq_nil_of_length_eq_zero this.symm
        subst this; rfl
      | cons k l ih2 =>
        intro l' x y hl e
        cases l' with
        | nil => simp at e
        | cons k' l' =>
          simp only [List.map_cons, List.cons.injEq] at e
          have ea : k.n.a = k'.n.a := by rw [← T.er_a, ← T.er_a, e.1]
          have eb : k.n.b = k'.n.b := by rw [← T.er_b, ← T.er_b, e.1]
          have e1 : nx n.way k.n x = nx n.way k'.n x := by unfold nx; rw [ea]
          have e2 : ny n.way k.n y = ny n.way k'.n y := by unfold ny; rw [eb]
          rw [placeL_cons, placeL_cons, ptL, ptL, ih k (hl k (by simp)) k' x y e.1, e1, e2, ih2 l' _ _ (fun j hj => hl j (by simp [hj])) e.2]
    rw [show n'.way = n.way from h4.symm]
    rw [key ks ks' x y (fun _ h => h) h5]
    simp [h1, h2, h3, h4]
/-- The split of a leaf of a by b. -/
def spE (a b : Int) (bd : Bool) (o : Int) : E := .mk 0 a b (if bd = true then 0 else 1) [.mk 1 (if bd = true then a - 2 else a) (if bd = true then b else b - 2) 0 [], .mk o (if bd = true then 1 else a) (if bd = true then b else 1) 0 []]
/-- The tree behind j splits. -/
def EK : Nat → E
  | 0 => .mk 1 60 40 0 []
  | j + 1 => (EK j).setL (spE (EK j).lm.a (EK j).lm.b (j % 2 == 0) (j + 2))
theorem EK_facts : ∀ j, j ≤ 4 → ∃ a b : Int, (EK j).lm = .mk 1 a b 0 [] ∧ (3 ≤ a ∧ a ≤ 60) ∧ (3 ≤ b ∧ b ≤ 40) ∧ (EK j).pw ≠ (if (j % 2 == 0) = true then 0 else 1) ∧ ((EK j).pw = 0 ∨ (EK j).pw = 1 ∨ (EK j).pw = 2) ∧ (EK j).a = 60 ∧ (EK j).b = 40 := by
  intro j hj
  rcases (by omega : j = 0 ∨ j = 1 ∨ j = 2 ∨ j = 3 ∨ j = 4) with rfl | rfl | rfl | rfl | rfl
  all_goals
    simp [EK, E.setL, E.lm, E.pw, spE, E.a, E.b, E.ks]
    exact ⟨_, _, ⟨rfl, rfl⟩, by omega⟩
end Go.Proofs.YtcklmkjlbpjojaaGreatDoor
namespace Go.Proofs.YtcklmkjlbpjojaaGreatDoor
open Go.RowKit
set_option linter.unusedSimpArgs false
set_option linter.unusedVariables false

/-- What stands in a block. -/
def tag (w : World) (b : Nat) : Option TypeId := match w.heap[b]? with | some (.cells _ e _) => some e | _ => none
theorem tag_of {w : World} {b : Nat} {c : Array Value} {e : TypeId} {z : Nat × Nat} (h : w.heap[b]? = some (.cells c e z)) : tag w b = some e := by unfold tag; rw [h]
theorem row_tag {w : World} {base size m : Nat} {e : TypeId} {A : Option Nat} {n c : Nat} {xs : List Value} (h : w.ownsRow base e size (.slice (adr A) n c) m xs) {b : Nat} (hb : A = some b) : tag w b = some e := by
  subst hb
  rcases h.2 with ⟨h, _⟩ | ⟨g, cap, cur, hv, _, hg, _⟩
  · cases h
  · injection hv with hv _ _
    injection hv with hv
    injection hv with hv
    subst hv
    exact tag_of hg
theorem TP_tag : ∀ (t : T) (up : Option Nat) (w : World), TP w up t → ∀ b ∈ t.bl, tag w b = some 66 ∨ tag w b = some 58 := by
  intro t
  induction t using T.ind with
  | h n ks ih =>
    intro up w h b hb
    rw [T.bl_mk] at hb
    simp only [List.mem_cons, List.mem_append] at hb
    rcases hb with rfl | hb | hb
    · exact .inl (tag_of h.at_.h)
    · exact .inr (row_tag h.at_.r (by simpa [eq_comm] using hb))
    · obtain ⟨k, hk, hb⟩ := mem_blL.1 hb
      exact ih k hk _ w (TPs_iff.1 h.kids k hk) b hb
theorem RP_tag : ∀ (t : T) (w : World), RP w t → ∀ b ∈ t.bl, tag w b = some 55 ∨ tag w b = some 52 := by
  intro t
  induction t using T.ind with
  | h n ks ih =>
    intro w h b hb
    rw [T.bl_mk] at hb
    simp only [List.mem_cons, List.mem_append] at hb
    rcases hb with rfl | hb | hb
    · exact .inl (tag_of h.at_.h)
    · exact .inr (row_tag h.at_.r (by simpa [eq_comm] using hb))
    · obtain ⟨k, hk, hb⟩ := mem_blL.1 hb
      exact ih k hk w (RPs_iff.1 h.kids k hk) b hb
/-- The two trees share no block. -/
theorem apart2 {base tr tr2 : Nat} {t u : T} {w : World} (h1 : Tr base w tr t) (h2 : RTr w tr2 u) : ∀ b ∈ tr :: t.bl, b ∉ tr2 :: u.bl := by
  intro b hb hb2
  have e1 : tag w b = some 73 ∨ tag w b = some 66 ∨ tag w b = some 58 := by
    rcases List.mem_cons.1 hb with rfl | hb
    · exact .inl (tag_of h1.h)
    · exact .inr (TP_tag t _ w h1.p b hb)
  have e2 : tag w b = some 57 ∨ tag w b = some 55 ∨ tag w b = some 52 := by
    rcases List.mem_cons.1 hb2 with rfl | hb2
    · exact .inl (tag_of h2.h)
    · exact .inr (RP_tag u w h2.p b hb2)
  rcases e1 with e | e | e <;> rw [e] at e2 <;> revert e2 <;> decide
theorem RTr.past {base tr tr2 : Nat} {t u : T} {w w' : World} (h2 : RTr w tr2 u) (h1 : Tr base w tr t) (o : Off (tr :: t.bl) w w') : RTr w' tr2 u :=
  h2.off o (fun h => apart2 h1 h2 tr2 h (by simp)) (fun b hb h => apart2 h1 h2 b h (by simp [hb]))
theorem Tr.past {base tr tr2 : Nat} {t u : T} {w w' : World} (h1 : Tr base w tr t) (h2 : RTr w tr2 u) (o : Off (tr2 :: u.bl) w w') : Tr base w' tr t :=
  h1.off o (fun h => apart2 h1 h2 tr (by simp) h) (fun b hb h => apart2 h1 h2 b (by simp [hb]) h)

/-- A tree whose numbers are small. -/
structure Nice (t : T) : Prop where
  sm : ∀ m ∈ t.nds, m.sm
  w : t.w01
  lv : t.leaves.length ≤ 5000
  nd : t.nds.length ≤ 10000
theorem Nice.rg {t : T} (h : Nice t) : t.rg := fun m hm => by
  obtain ⟨⟨a1, a2⟩, ⟨b1, b2⟩, ⟨c1, c2⟩, ⟨d1, d2⟩, ⟨e1, e2⟩⟩ := h.sm m hm
  unfold Nd.rg I64
  omega
theorem body_len3 (t : T) : (∀ m ∈ t.nds, m.sm) → t.body.length + 1 ≤ 90 * t.nds.length := by
  induction t using T.ind with
  | h n ks ih =>
    intro h
    rw [T.nds_mk] at h
    obtain ⟨s1, s2, s3, s4, s5⟩ := h n (by simp)
    have l1 := itoa_len18 n.a s4
    have l2 := itoa_len18 n.b s5
    have l3 := itoa_len18 n.x s2
    have l4 := itoa_len18 n.y s3
    have l5 := itoa_len18 n.p s1
    rw [T.body_mk, T.nds_mk, List.length_cons]
    have hh : (headB n).length ≤ 75 := by unfold headB; simp only [List.length_append, List.length_cons, List.length_nil]; omega
    split
    · have : (headB n).length ≤ 75 := hh
      have hh2 : (headB n).length + (Lib.itoa n.p).length + 2 ≤ 90 * ((ndsL ks).length + 1) := by
        have : (headB n).length ≤ 4 * 18 + 3 := by unfold headB; simp only [List.length_append, List.length_cons, List.length_nil]; omega
        have l6 : (Lib.itoa n.p).length ≤ 9 := by
          have e : Lib.itoa n.p = Lib.decDigits n.p.toNat := by unfold Lib.itoa; rw [if_neg (by omega)]
          rw [e]
          exact (dd_facts n.p.toNat).2.2.2.2.2 8 (by have : (10 : Nat) ^ (8 + 1) = 1000000000 := rfl; omega)
        omega
      simp only [List.length_append, List.length_cons, List.length_nil]; omega
    · have key : ∀ l : List T, (∀ k ∈ l, k ∈ ks) → ((bodyL l).map fun b => b.length + 1).sum ≤ 90 * (ndsL l).length := by
        intro l
        induction l with
        | nil => intro _; rw [bodyL_nil]; simp
        | cons k l ih2 =>
          intro hl
          have h1 := ih k (hl k (by simp)) fun m hm => h m (by simp [mem_ndsL.2 ⟨k, hl k (by simp), hm⟩])
          have h2 := ih2 fun j hj => hl j (by simp [hj])
          rw [bodyL_cons, ndsL_cons, List.map_cons, List.sum_cons, List.length_append]; omega
      have h1 := key ks fun _ h => h
      have h2 := join_len (bodyL ks)
      simp only [List.length_append, List.length_cons, List.length_nil]
      omega
theorem Nice.bd {t : T} (h : Nice t) : t.body.length ≤ 900000 := by
  have := body_len3 t h.sm
  have := h.nd
  omega
theorem Fine.nice {t : T} {k : Int} (h : Fine t k) (hl : t.leaves.length ≤ 32) : Nice t := by
  have hn := h.nd
  have := nds_len t h.ok
  refine ⟨fun m hm => ?_, ok_w01 h.ok, by omega, by omega⟩
  have := hn m hm
  unfold Nd.sm; omega
theorem right_nds : ∀ (t : T) (x y : Int), t.right x y = true → t.nds.length + 1 ≤ 2 * t.leaves.length := by
  intro t
  induction t using T.ind with
  | h n ks ih =>
    intro x y h
    rw [T.right_mk, Bool.and_eq_true, Bool.or_eq_true, Bool.and_eq_true] at h
    rw [T.nds_mk, T.leaves_mk]
    rcases h.2 with h | ⟨h1, h2⟩
    · have := of_decide_eq_true h
      have := List.eq_nil_of_length_eq_zero this
      subst this
      rw [ndsL_nil, leavesL_nil]; simp
    · have h3 := (of_decide_eq_true h2).1
      have key : ∀ (l : List T) (x y : Int), (∀ k ∈ l, k ∈ ks) → rightL n l x y = true → (ndsL l).length + l.length ≤ 2 * (leavesL l).length := by
        intro l
        induction l with
        | nil => intro x y _ _; rw [ndsL_nil]; simp
        | cons k l ih2 =>
          intro x y hl hr
          rw [rightL_cons, Bool.and_eq_true, Bool.and_eq_true, Bool.and_eq_true] at hr
          have q1 := ih k (hl k (by simp)) x y hr.1.1.1
          have q2 := ih2 _ _ (fun j hj => hl j (by simp [hj])) hr.2
          rw [ndsL_cons, leavesL_cons]
          simp only [List.length_append, List.length_cons]; omega
      have := key ks x y (fun _ h => h) h1
      rw [if_neg (by omega)]
      simp only [List.nil_append, List.length_cons, List.length_append]; omega
theorem reg_nds {f : Nat → Int} : ∀ t : T, (∀ m ∈ t.nds, m.sm) → (∀ p ∈ (t.reg f).leaves.map (fun s => s.n.p), 0 ≤ p ∧ p < 1000000000) → t.w01 → (∀ m ∈ (t.reg f).nds, m.sm) ∧ (t.reg f).w01 ∧ (t.reg f).nds.length = t.nds.length := by
  intro t
  induction t using T.ind with
  | h n ks ih =>
    intro hs hp hw
    rw [T.reg_mk] at hp ⊢
    have hsn := hs n (by rw [T.nds_mk]; simp)
    have hwn := hw n (by rw [T.nds_mk]; simp)
    by_cases hk : ks.length = 0
    · have := List.eq_nil_of_length_eq_zero hk
      subst this
      rw [if_pos hk, regL] at hp ⊢
      rw [T.leaves_mk, leavesL_nil] at hp
      simp [T.n] at hp
      unfold T.w01
      rw [T.nds_mk, T.nds_mk, ndsL_nil]
      refine ⟨?_, ?_, by simp⟩
      · intro m hm
        simp at hm
        subst hm
        obtain ⟨s1, s2, s3, s4, s5⟩ := hsn
        exact ⟨hp, s2, s3, s4, s5⟩
      · intro m hm
        simp at hm
        subst hm
        exact hwn
    · rw [if_neg hk] at hp ⊢
      rw [T.leaves_mk, regL_len, if_neg hk, List.nil_append] at hp
      have key : ∀ l : List T, (∀ k ∈ l, k ∈ ks) → (∀ p ∈ (leavesL (regL f l)).map (fun s => s.n.p), 0 ≤ p ∧ p < 1000000000) → (∀ m ∈ ndsL (regL f l), m.sm ∧ (m.way = 0 ∨ m.way = 1)) ∧ (ndsL (regL f l)).length = (ndsL l).length := by
        intro l
        induction l with
        | nil => intro _ _; rw [regL, ndsL_nil]; simp
        | cons k l ih2 =>
          intro hl hp2
          rw [regL, leavesL_cons, List.map_append] at hp2
          have hkm := hl k (by simp)
          obtain ⟨q1, q2, q3⟩ := ih k hkm (fun m hm => hs m (by rw [T.nds_mk]; simp [mem_ndsL.2 ⟨k, hkm, hm⟩])) (fun p hp => hp2 p (List.mem_append_left _ hp)) (fun m hm => hw m (by rw [T.nds_mk]; simp [mem_ndsL.2 ⟨k, hkm, hm⟩]))
          obtain ⟨r1, r2⟩ := ih2 (fun j hj => hl j (by simp [hj])) (fun p hp => hp2 p (List.mem_append_right _ hp))
          rw [regL, ndsL_cons, ndsL_cons, List.length_append, List.length_append, q3, r2]
          refine ⟨fun m hm => ?_, rfl⟩
          rcases List.mem_append.1 hm with hm | hm
          · exact ⟨q1 m hm, q2 m hm⟩
          · exact r1 m hm
      obtain ⟨k1, k2⟩ := key ks (fun _ h => h) hp
      unfold T.w01
      rw [T.nds_mk, T.nds_mk]
      refine ⟨fun m hm => ?_, fun m hm => ?_, by simp [k2]⟩
      · rcases List.mem_cons.1 hm with rfl | hm
        · exact hsn
        · exact (k1 m hm).1
      · rcases List.mem_cons.1 hm with rfl | hm
        · exact hwn
        · exact (k1 m hm).2
theorem lm_sm {t s : T} (h : ∀ m ∈ t.nds, m.sm) (hs : s ∈ t.leaves) : 0 ≤ s.n.p ∧ s.n.p < 1000000000 := by
  obtain ⟨c, rfl⟩ := leaf_plug t s hs
  obtain ⟨A, hA⟩ := nds_ctx c
  exact (h s.n ((hA s s.n).2 (.inr (by cases s; rw [T.nds_mk]; simp [T.n])))).1
/-- What an Apply makes of a tree that is nice. -/
theorem app_nice {s : List UInt8} {t t0 : T} {f : Nat → Int} (hN : Nice t) (hA : AppAt s t0) (hl : t0.leaves.length = t.leaves.length) (hp : (t0.reg f).leaves.map (fun s => s.n.p) = t.leaves.map (fun s => s.n.p)) : Nice (t0.reg f) := by
  obtain ⟨hb, hb2⟩ := hA.bd
  have hn := right_nds t0 0 0 hA.rt
  have h := hN.lv
  obtain ⟨r1, r2, r3⟩ := reg_nds (f := f) t0 (fun m hm => by
    obtain ⟨q1, q2, q3, q4, q5⟩ := hb m hm
    exact ⟨hb2 m hm, q1, q2, q3, q4⟩) (fun p hp' => by
      rw [hp] at hp'
      obtain ⟨s', hs', rfl⟩ := List.mem_map.1 hp'
      exact lm_sm hN.sm hs') (fun m hm => (hb m hm).2.2.2.2)
  refine ⟨r1, r2, ?_, by rw [r3]; omega⟩
  rw [T.reg_leaves, List.length_map]; omega
/-- Two trees that are alike stay alike. -/
theorem app_alike {s : List UInt8} {t u t' u' : T} (hp : t.pt = u.pt) (Nt : Nice t) (Nu : Nice u)
    (h1 : (appC s t.leaves.length ≠ 0 ∧ t' = t) ∨ (appC s t.leaves.length = 0 ∧ ∃ (t0 : T) (f : Nat → Int), AppAt s t0 ∧ t0.leaves.length = t.leaves.length ∧ t' = t0.reg f ∧ t'.leaves.map (fun s => s.n.p) = t.leaves.map (fun s => s.n.p)))
    (h2 : (appC s u.leaves.length ≠ 0 ∧ u' = u) ∨ (appC s u.leaves.length = 0 ∧ ∃ (t0 : T) (f : Nat → Int), AppAt s t0 ∧ t0.leaves.length = u.leaves.length ∧ u' = t0.reg f ∧ u'.leaves.map (fun s => s.n.p) = u.leaves.map (fun s => s.n.p))) :
    t'.pt = u'.pt ∧ Nice t' ∧ Nice u' := by
  have hl := leaves_len_congr hp
  rw [← hl] at h2
  rcases h1 with ⟨e1, rfl⟩ | ⟨e1, t0, f, a1, a2, rfl, a4⟩
  · rcases h2 with ⟨e2, rfl⟩ | ⟨e2, _⟩
    · exact ⟨hp, Nt, Nu⟩
    · exact absurd e2 e1
  · rcases h2 with ⟨e2, rfl⟩ | ⟨e2, u0, g, b1, b2, rfl, b4⟩
    · exact absurd e1 e2
    · refine ⟨reg_pt2 t0 u0 (a1.same b1) ?_, app_nice Nt a1 a2 a4, app_nice Nu b1 (by rw [b2, hl]) b4⟩
      rw [a4, b4]
      have := congrArg (List.map Prod.fst) (leaves_congr t u hp)
      rw [List.map_map, List.map_map] at this
      exact this
theorem boxes_congr {t u : T} (h : t.pt = u.pt) : t.leaves.map (fun t => (t.n.p, t.n.x, t.n.y, t.n.a, t.n.b)) = u.leaves.map (fun t => (t.n.p, t.n.x, t.n.y, t.n.a, t.n.b)) := leaves_congr t u h
end Go.Proofs.YtcklmkjlbpjojaaGreatDoor
