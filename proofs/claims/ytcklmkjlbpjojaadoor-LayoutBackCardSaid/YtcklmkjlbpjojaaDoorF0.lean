/- Layout: a tree without its blocks: what it is written as, what it fills, its panes. No program in sight. -/
import Derived.Test.YtcklmkjlbpjojaaDoorC9
import Derived.Test.YtcklmkjlbpjojaaDoorD4
namespace Go.Proofs.YtcklmkjlbpjojaaDoor
open Go.RowKit
set_option linter.unusedSimpArgs false
set_option linter.unusedVariables false

inductive E where
  | mk (p a b way : Int) (ks : List E)
def E.p : E → Int | .mk p _ _ _ _ => p
def E.a : E → Int | .mk _ a _ _ _ => a
def E.b : E → Int | .mk _ _ b _ _ => b
def E.way : E → Int | .mk _ _ _ w _ => w
def E.ks : E → List E | .mk _ _ _ _ ks => ks
theorem E.ind {P : E → Prop} (h : ∀ p a b way ks, (∀ k ∈ ks, P k) → P (.mk p a b way ks)) (t : E) : P t :=
  E.rec (motive_1 := P) (motive_2 := fun ks => ∀ k ∈ ks, P k) (fun p a b way ks ih => h p a b way ks ih) (fun _ hk => by cases hk)
    (fun k ks h1 h2 j hj => by rcases List.mem_cons.1 hj with rfl | hj; exact h1; exact h2 j hj) t
mutual
/-- A tree, its blocks and places apart. -/
def T.er : T → E
  | .mk n ks => .mk n.p n.a n.b n.way (erL ks)
def erL : List T → List E
  | [] => []
  | k :: ks => k.er :: erL ks
end
theorem T.er_mk (n : Nd) (ks : List T) : (T.mk n ks).er = .mk n.p n.a n.b n.way (erL ks) := by rw [T.er]
theorem erL_nil : erL [] = [] := by rw [erL]
theorem erL_cons (k : T) (ks : List T) : erL (k :: ks) = k.er :: erL ks := by rw [erL]
theorem erL_map : ∀ (ks : List T), erL ks = ks.map T.er
  | [] => by rw [erL_nil]; rfl
  | k :: ks => by rw [erL_cons, erL_map ks]; rfl
theorem erL_len (ks : List T) : (erL ks).length = ks.length := by rw [erL_map]; simp
theorem T.er_a (t : T) : t.er.a = t.n.a := by cases t; rw [T.er_mk]; rfl
theorem T.er_b (t : T) : t.er.b = t.n.b := by cases t; rw [T.er_mk]; rfl
theorem T.er_p (t : T) : t.er.p = t.n.p := by cases t; rw [T.er_mk]; rfl
theorem T.er_way (t : T) : t.er.way = t.n.way := by cases t; rw [T.er_mk]; rfl
theorem placeL_er (way : Int) (h : ∀ k : T, ∀ x y, (k.place x y).er = k.er) : ∀ (ks : List T) (x y : Int), erL (placeL way ks x y) = erL ks
  | [], x, y => by rw [placeL_nil]
  | k :: ks, x, y => by rw [placeL_cons, erL_cons, erL_cons, h, placeL_er way h ks]
theorem T.place_er (t : T) : ∀ x y, (t.place x y).er = t.er := by
  induction t using T.ind with
  | h n ks ih =>
    intro x y
    rw [T.place_mk, T.er_mk, T.er_mk]
    have : ∀ (l : List T) (x y : Int), (∀ k ∈ l, ∀ x y, (k.place x y).er = k.er) → erL (placeL n.way l x y) = erL l := by
      intro l
      induction l with
      | nil => intro x y _; rw [placeL_nil]
      | cons k l ih2 => intro x y h; rw [placeL_cons, erL_cons, erL_cons, h k (by simp), ih2 _ _ fun k hk => h k (by simp [hk])]
    rw [this ks x y ih]
theorem er_plug {t t' : T} (h : t.er = t'.er) : ∀ c : List Fr, (plug c t).er = (plug c t').er := by
  intro c
  induction c generalizing t t' with
  | nil => exact h
  | cons f c ih =>
    rw [plug, plug]
    apply ih
    rw [T.er_mk, T.er_mk, erL_map, erL_map]
    simp [h]

/-- The next place, behind a tree. -/
def nxE (way a x : Int) : Int := if way = 0 then wr64 (x + wr64 (a + 1)) else x
def nyE (way b y : Int) : Int := if way = 0 then y else wr64 (y + wr64 (b + 1))
def hdB (a b x y : Int) : List UInt8 := Lib.itoa a ++ [120] ++ Lib.itoa b ++ [44] ++ Lib.itoa x ++ [44] ++ Lib.itoa y
mutual
/-- What a tree at a place is written as. -/
def E.body : E → Int → Int → List UInt8
  | .mk p a b way ks, x, y => if ks.length = 0 then hdB a b x y ++ [44] ++ Lib.itoa p else hdB a b x y ++ [if way = 0 then 123 else 91] ++ Lib.join (bodyE way ks x y) [44] ++ [if way = 0 then 125 else 93]
def bodyE : Int → List E → Int → Int → List (List UInt8)
  | _, [], _, _ => []
  | way, k :: ks, x, y => k.body x y :: bodyE way ks (nxE way k.a x) (nyE way k.b y)
end
theorem E.body_mk (p a b way : Int) (ks : List E) (x y : Int) : (E.mk p a b way ks).body x y = if ks.length = 0 then hdB a b x y ++ [44] ++ Lib.itoa p else hdB a b x y ++ [if way = 0 then 123 else 91] ++ Lib.join (bodyE way ks x y) [44] ++ [if way = 0 then 125 else 93] := by rw [E.body]
theorem bodyE_nil (way x y : Int) : bodyE way [] x y = [] := by rw [bodyE]
theorem bodyE_cons (way : Int) (k : E) (ks : List E) (x y : Int) : bodyE way (k :: ks) x y = k.body x y :: bodyE way ks (nxE way k.a x) (nyE way k.b y) := by rw [bodyE]
theorem T.place_body (t : T) : ∀ x y, (t.place x y).body = t.er.body x y := by
  induction t using T.ind with
  | h n ks ih =>
    intro x y
    rw [T.place_mk, T.er_mk, T.body_mk, E.body_mk, placeL_len, erL_len]
    have : ∀ (l : List T) (x y : Int), (∀ k ∈ l, ∀ x y, (k.place x y).body = k.er.body x y) → bodyL (placeL n.way l x y) = bodyE n.way (erL l) x y := by
      intro l
      induction l with
      | nil => intro x y _; rw [placeL_nil, erL_nil, bodyL_nil, bodyE_nil]
      | cons k l ih2 =>
        intro x y h
        rw [placeL_cons, erL_cons, bodyL_cons, bodyE_cons, h k (by simp), ih2 _ _ fun k hk => h k (by simp [hk]), T.er_a, T.er_b]
        rfl
    rw [this ks x y ih]
    rfl
/-- What a tree is written as, with its sum. -/
def E.print (e : E) : List UInt8 := fourB (sumB (e.body 0 0)) ++ [44] ++ e.body 0 0
theorem T.place_print (t : T) : (t.place 0 0).print = t.er.print := by unfold T.print E.print; rw [T.place_body]

mutual
/-- The panes, in order. -/
def E.ps : E → List Int
  | .mk p _ _ _ ks => (if ks.length = 0 then [p] else []) ++ psL ks
def psL : List E → List Int
  | [] => []
  | k :: ks => k.ps ++ psL ks
end
theorem E.ps_mk (p a b way : Int) (ks : List E) : (E.mk p a b way ks).ps = (if ks.length = 0 then [p] else []) ++ psL ks := by rw [E.ps]
theorem psL_nil : psL [] = [] := by rw [psL]
theorem psL_cons (k : E) (ks : List E) : psL (k :: ks) = k.ps ++ psL ks := by rw [psL]
theorem T.leaves_ps (t : T) : t.leaves.map (fun s => s.n.p) = t.er.ps := by
  induction t using T.ind with
  | h n ks ih =>
    rw [T.leaves_mk, T.er_mk, E.ps_mk, erL_len, List.map_append]
    have : ∀ l : List T, (∀ k ∈ l, k.leaves.map (fun s => s.n.p) = k.er.ps) → (leavesL l).map (fun s => s.n.p) = psL (erL l) := by
      intro l
      induction l with
      | nil => intro _; rw [leavesL_nil, erL_nil, psL_nil]; rfl
      | cons k l ih2 => intro h; rw [leavesL_cons, erL_cons, psL_cons, List.map_append, h k (by simp), ih2 fun k hk => h k (by simp [hk])]
    rw [this ks ih]
    split <;> simp [T.n]
theorem leaves_ctx (c : List Fr) : ∃ A B, ∀ t : T, (plug c t).leaves = A ++ t.leaves ++ B := by
  induction c with
  | nil => exact ⟨[], [], fun t => by simp [plug]⟩
  | cons f c ih =>
    obtain ⟨A, B, h⟩ := ih
    refine ⟨A ++ leavesL f.L, leavesL f.R ++ B, fun t => ?_⟩
    rw [plug, h, T.leaves_mk, if_neg (by simp), leavesL_app, leavesL_cons]
    simp
theorem leaves_ne (t : T) : t.leaves ≠ [] := by
  induction t using T.ind with
  | h n ks ih =>
    rw [T.leaves_mk]
    rcases ks with _ | ⟨k, ks⟩
    · simp
    · rw [leavesL_cons]
      have := ih k (by simp)
      simp [this]

/-- What a split's kids fill. -/
def fills (a b way : Int) (ks : List E) : Prop :=
  (way = 0 ∧ (∀ k ∈ ks, k.b = b) ∧ (ks.map fun k => k.a + 1).sum = a + 1) ∨ (way = 1 ∧ (∀ k ∈ ks, k.a = a) ∧ (ks.map fun k => k.b + 1).sum = b + 1)
/-- A tree whose splits are filled. -/
inductive E.ok : E → Prop
  | leaf {p a b : Int} (hp : 1 ≤ p ∧ p ≤ 999) (ha : 1 ≤ a) (hb : 1 ≤ b) : E.ok (.mk p a b 0 [])
  | node {a b way : Int} {ks : List E} (ha : 1 ≤ a) (hb : 1 ≤ b) (hl : 2 ≤ ks.length) (hf : fills a b way ks) (hk : ∀ k ∈ ks, k.ok) : E.ok (.mk 0 a b way ks)
theorem E.ok.ge {e : E} (h : e.ok) : 1 ≤ e.a ∧ 1 ≤ e.b := by cases h with | leaf _ h1 h2 => exact ⟨h1, h2⟩ | node h1 h2 => exact ⟨h1, h2⟩
theorem E.ok.inv {p a b way : Int} {ks : List E} (h : (E.mk p a b way ks).ok) : (ks = [] ∧ way = 0 ∧ (1 ≤ p ∧ p ≤ 999) ∧ 1 ≤ a ∧ 1 ≤ b) ∨ (p = 0 ∧ 1 ≤ a ∧ 1 ≤ b ∧ 2 ≤ ks.length ∧ fills a b way ks ∧ ∀ k ∈ ks, k.ok) := by
  cases h with
  | leaf h1 h2 h3 => exact .inl ⟨rfl, rfl, h1, h2, h3⟩
  | node h1 h2 h3 h4 h5 => exact .inr ⟨rfl, h1, h2, h3, h4, h5⟩
theorem sum_ge (f : E → Int) : ∀ (ks : List E), (∀ k ∈ ks, 0 ≤ f k) → 0 ≤ (ks.map f).sum ∧ ∀ k ∈ ks, f k ≤ (ks.map f).sum
  | [], _ => by simp
  | k :: ks, h => by
    obtain ⟨h1, h2⟩ := sum_ge f ks fun j hj => h j (by simp [hj])
    have h3 := h k (by simp)
    rw [List.map_cons, List.sum_cons]
    refine ⟨by omega, fun j hj => ?_⟩
    rcases List.mem_cons.1 hj with rfl | hj
    · omega
    · have := h2 j hj; omega
theorem E.ok.kid {p a b way : Int} {ks : List E} (h : (E.mk p a b way ks).ok) {k : E} (hk : k ∈ ks) : k.ok ∧ k.a ≤ a ∧ k.b ≤ b := by
  cases h with
  | leaf => cases hk
  | node ha hb hl hf hks =>
    refine ⟨hks k hk, ?_⟩
    rcases hf with ⟨_, h1, h2⟩ | ⟨_, h1, h2⟩
    · have := (sum_ge (fun k => k.a + 1) ks (fun j hj => by have := (hks j hj).ge; omega)).2 k hk
      have h3 := h1 k hk
      omega
    · have := (sum_ge (fun k => k.b + 1) ks (fun j hj => by have := (hks j hj).ge; omega)).2 k hk
      have h3 := h1 k hk
      omega
/-- All nodes of a filled tree are of its size at most. -/
theorem nds_ok (t : T) : t.er.ok → ∀ m ∈ t.nds, 0 ≤ m.p ∧ m.p ≤ 999 ∧ 1 ≤ m.a ∧ m.a ≤ t.n.a ∧ 1 ≤ m.b ∧ m.b ≤ t.n.b ∧ (m.way = 0 ∨ m.way = 1) := by
  induction t using T.ind with
  | h n ks ih =>
    intro h m hm
    rw [T.nds_mk] at hm
    rw [T.er_mk] at h
    rcases List.mem_cons.1 hm with rfl | hm
    · have hg := h.ge
      have hw : m.way = 0 ∨ m.way = 1 := by
        rcases h.inv with ⟨_, h, _⟩ | ⟨_, _, _, _, hf, _⟩
        · exact .inl h
        · rcases hf with ⟨h, _⟩ | ⟨h, _⟩ <;> simp [h]
      have hp : 0 ≤ m.p ∧ m.p ≤ 999 := by
        rcases h.inv with ⟨_, _, hp, _⟩ | ⟨hp, _⟩ <;> omega
      exact ⟨hp.1, hp.2, hg.1, Int.le_refl _, hg.2, Int.le_refl _, hw⟩
    · obtain ⟨k, hk, hm⟩ := mem_ndsL.1 hm
      have hke : k.er ∈ erL ks := by rw [erL_map]; exact List.mem_map_of_mem hk
      obtain ⟨h1, h2, h3⟩ := h.kid hke
      have := ih k hk h1 m hm
      rw [T.er_a] at h2; rw [T.er_b] at h3
      refine ⟨this.1, this.2.1, this.2.2.1, ?_, this.2.2.2.2.1, ?_, this.2.2.2.2.2.2⟩
      · show m.a ≤ n.a; omega
      · show m.b ≤ n.b; omega
theorem ok_w01 {t : T} (h : t.er.ok) : t.w01 := fun m hm => (nds_ok t h m hm).2.2.2.2.2.2
theorem fills_swap {a b way : Int} {L R : List E} {e e' : E} (h : fills a b way (L ++ e :: R)) (ha : e'.a = e.a) (hb : e'.b = e.b) : fills a b way (L ++ e' :: R) := by
  rcases h with ⟨h0, h1, h2⟩ | ⟨h0, h1, h2⟩
  · refine .inl ⟨h0, fun k hk => ?_, ?_⟩
    · simp only [List.mem_append, List.mem_cons] at hk
      rcases hk with hk | rfl | hk
      · exact h1 k (by simp [hk])
      · rw [hb]; exact h1 e (by simp)
      · exact h1 k (by simp [hk])
    · simpa [ha] using h2
  · refine .inr ⟨h0, fun k hk => ?_, ?_⟩
    · simp only [List.mem_append, List.mem_cons] at hk
      rcases hk with hk | rfl | hk
      · exact h1 k (by simp [hk])
      · rw [ha]; exact h1 e (by simp)
      · exact h1 k (by simp [hk])
    · simpa [hb] using h2
theorem ok_plug : ∀ (c : List Fr) (t t' : T), (plug c t).er.ok → t.er.ok ∧ (t'.er.ok → t'.n.a = t.n.a → t'.n.b = t.n.b → (plug c t').er.ok ∧ (plug c t').n.a = (plug c t).n.a ∧ (plug c t').n.b = (plug c t).n.b)
  | [], t, t', h => ⟨h, fun h1 h2 h3 => ⟨h1, h2, h3⟩⟩
  | f :: c, t, t', h => by
    obtain ⟨h1, h2⟩ := ok_plug c (.mk f.n (f.L ++ t :: f.R)) (.mk f.n (f.L ++ t' :: f.R)) h
    rw [T.er_mk, erL_map] at h1
    have h3 := (h1.kid (k := t.er) (by simp)).1
    refine ⟨h3, fun h4 h5 h6 => ?_⟩
    refine h2 ?_ rfl rfl
    rw [T.er_mk, erL_map]
    simp only [List.map_append, List.map_cons] at h1 ⊢
    rcases h1.inv with ⟨h, _⟩ | ⟨hp, ha, hb, hl, hf, hk⟩
    · simp at h
    · rw [hp]
      refine .node ha hb (by simpa using hl) (fills_swap hf (by rw [T.er_a, T.er_a, h5]) (by rw [T.er_b, T.er_b, h6])) fun k hk' => ?_
      simp only [List.mem_append, List.mem_cons] at hk'
      rcases hk' with h | rfl | h
      · exact hk k (by simp [h])
      · exact h4
      · exact hk k (by simp [h])
end Go.Proofs.YtcklmkjlbpjojaaDoor
