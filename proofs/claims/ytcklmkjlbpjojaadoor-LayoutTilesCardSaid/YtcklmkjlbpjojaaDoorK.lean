/- Layout: a tree without its blocks: what it is written as, what it fills, its panes. No program in sight. A law for a region that draws its order: loads that a condition on the world gives; then operations in a row, behind the first of which the condition still holds; then operations that wait for all. No program in sight. -/
import Derived.Test.YtcklmkjlbpjojaaDoorC9
import Derived.Test.YtcklmkjlbpjojaaDoorD6
import Derived.OrdersHeld
import Derived.StillTail
import Derived.Deep.RegionHeld
namespace Go.Proofs.YtcklmkjlbpjojaaDoor
open Go.RowKit
set_option linter.unusedSimpArgs false
set_option linter.unusedVariables false

inductive E where
  | mk (p a b way : Int) (ks : List E)
def E.p : E → Int | .mk p _ _ _ _ => p
def E.a : E → Int | .mk _ a _ _ _ => a
def E.b : E → Int | .mk _ _ b _ _ => b
def E.way : E → Int | .mk _ _ _ w _ => w
def E.ks : E → List E | .mk _ _ _ _ ks => ks
theorem E.ind {P : E → Prop} (h : ∀ p a b way ks, (∀ k ∈ ks, P k) → P (.mk p a b way ks)) (t : E) : P t :=
  E.rec (motive_1 := P) (motive_2 := fun ks => ∀ k ∈ ks, P k) (fun p a b way ks ih => h p a b way ks ih) (fun _ hk => by cases hk)
    (fun k ks h1 h2 j hj => by rcases List.mem_cons.1 hj with rfl | hj; exact h1; exact h2 j hj) t
mutual
/-- A tree, its blocks and places apart. -/
def T.er : T → E
  | .mk n ks => .mk n.p n.a n.b n.way (erL ks)
def erL : List T → List E
  | [] => []
  | k :: ks => k.er :: erL ks
end
theorem T.er_mk (n : Nd) (ks : List T) : (T.mk n ks).er = .mk n.p n.a n.b n.way (erL ks) := by rw [T.er]
theorem erL_nil : erL [] = [] := by rw [erL]
theorem erL_cons (k : T) (ks : List T) : erL (k :: ks) = k.er :: erL ks := by rw [erL]
theorem erL_map : ∀ (ks : List T), erL ks = ks.map T.er
  | [] => by rw [erL_nil]; rfl
  | k :: ks => by rw [erL_cons, erL_map ks]; rfl
theorem erL_len (ks : List T) : (erL ks).length = ks.length := by rw [erL_map]; simp
theorem T.er_a (t : T) : t.er.a = t.n.a := by cases t; rw [T.er_mk]; rfl
theorem T.er_b (t : T) : t.er.b = t.n.b := by cases t; rw [T.er_mk]; rfl
theorem T.er_p (t : T) : t.er.p = t.n.p := by cases t; rw [T.er_mk]; rfl
theorem T.er_way (t : T) : t.er.way = t.n.way := by cases t; rw [T.er_mk]; rfl
theorem placeL_er (way : Int) (h : ∀ k : T, ∀ x y, (k.place x y).er = k.er) : ∀ (ks : List T) (x y : Int), erL (placeL way ks x y) = erL ks
  | [], x, y => by rw [placeL_nil]
  | k :: ks, x, y => by rw [placeL_cons, erL_cons, erL_cons, h, placeL_er way h ks]
theorem T.place_er (t : T) : ∀ x y, (t.place x y).er = t.er := by
  induction t using T.ind with
  | h n ks ih =>
    intro x y
    rw [T.place_mk, T.er_mk, T.er_mk]
    have : ∀ (l : List T) (x y : Int), (∀ k ∈ l, ∀ x y, (k.place x y).er = k.er) → erL (placeL n.way l x y) = erL l := by
      intro l
      induction l with
      | nil => intro x y _; rw [placeL_nil]
      | cons k l ih2 => intro x y h; rw [placeL_cons, erL_cons, erL_cons, h k (by simp), ih2 _ _ fun k hk => h k (by simp [hk])]
    rw [this ks x y ih]
theorem er_plug {t t' : T} (h : t.er = t'.er) : ∀ c : List Fr, (plug c t).er = (plug c t').er := by
  intro c
  induction c generalizing t t' with
  | nil => exact h
  | cons f c ih =>
    rw [plug, plug]
    apply ih
    rw [T.er_mk, T.er_mk, erL_map, erL_map]
    simp [h]

/-- The next place, behind a tree. -/
def nxE (way a x : Int) : Int := if way = 0 then wr64 (x + wr64 (a + 1)) else x
def nyE (way b y : Int) : Int := if way = 0 then y else wr64 (y + wr64 (b + 1))
def hdB (a b x y : Int) : List UInt8 := Lib.itoa a ++ [120] ++ Lib.itoa b ++ [44] ++ Lib.itoa x ++ [44] ++ Lib.itoa y
mutual
/-- What a tree at a place is written as. -/
def E.body : E → Int → Int → List UInt8
  | .mk p a b way ks, x, y => if ks.length = 0 then hdB a b x y ++ [44] ++ Lib.itoa p else hdB a b x y ++ [if way = 0 then 123 else 91] ++ Lib.join (bodyE way ks x y) [44] ++ [if way = 0 then 125 else 93]
def bodyE : Int → List E → Int → Int → List (List UInt8)
  | _, [], _, _ => []
  | way, k :: ks, x, y => k.body x y :: bodyE way ks (nxE way k.a x) (nyE way k.b y)
end
theorem E.body_mk (p a b way : Int) (ks : List E) (x y : Int) : (E.mk p a b way ks).body x y = if ks.length = 0 then hdB a b x y ++ [44] ++ Lib.itoa p else hdB a b x y ++ [if way = 0 then 123 else 91] ++ Lib.join (bodyE way ks x y) [44] ++ [if way = 0 then 125 else 93] := by rw [E.body]
theorem bodyE_nil (way x y : Int) : bodyE way [] x y = [] := by rw [bodyE]
theorem bodyE_cons (way : Int) (k : E) (ks : List E) (x y : Int) : bodyE way (k :: ks) x y = k.body x y :: bodyE way ks (nxE way k.a x) (nyE way k.b y) := by rw [bodyE]
theorem T.place_body (t : T) : ∀ x y, (t.place x y).body = t.er.body x y := by
  induction t using T.ind with
  | h n ks ih =>
    intro x y
    rw [T.place_mk, T.er_mk, T.body_mk, E.body_mk, placeL_len, erL_len]
    have : ∀ (l : List T) (x y : Int), (∀ k ∈ l, ∀ x y, (k.place x y).body = k.er.body x y) → bodyL (placeL n.way l x y) = bodyE n.way (erL l) x y := by
      intro l
      induction l with
      | nil => intro x y _; rw [placeL_nil, erL_nil, bodyL_nil, bodyE_nil]
      | cons k l ih2 =>
        intro x y h
        rw [placeL_cons, erL_cons, bodyL_cons, bodyE_cons, h k (by simp), ih2 _ _ fun k hk => h k (by simp [hk]), T.er_a, T.er_b]
        rfl
    rw [this ks x y ih]
    rfl
/-- What a tree is written as, with its sum. -/
def E.print (e : E) : List UInt8 := fourB (sumB (e.body 0 0)) ++ [44] ++ e.body 0 0
theorem T.place_print (t : T) : (t.place 0 0).print = t.er.print := by unfold T.print E.print; rw [T.place_body]

mutual
/-- The panes, in order. -/
def E.ps : E → List Int
  | .mk p _ _ _ ks => (if ks.length = 0 then [p] else []) ++ psL ks
def psL : List E → List Int
  | [] => []
  | k :: ks => k.ps ++ psL ks
end
theorem E.ps_mk (p a b way : Int) (ks : List E) : (E.mk p a b way ks).ps = (if ks.length = 0 then [p] else []) ++ psL ks := by rw [E.ps]
theorem psL_nil : psL [] = [] := by rw [psL]
theorem psL_cons (k : E) (ks : List E) : psL (k :: ks) = k.ps ++ psL ks := by rw [psL]
theorem T.leaves_ps (t : T) : t.leaves.map (fun s => s.n.p) = t.er.ps := by
  induction t using T.ind with
  | h n ks ih =>
    rw [T.leaves_mk, T.er_mk, E.ps_mk, erL_len, List.map_append]
    have : ∀ l : List T, (∀ k ∈ l, k.leaves.map (fun s => s.n.p) = k.er.ps) → (leavesL l).map (fun s => s.n.p) = psL (erL l) := by
      intro l
      induction l with
      | nil => intro _; rw [leavesL_nil, erL_nil, psL_nil]; rfl
      | cons k l ih2 => intro h; rw [leavesL_cons, erL_cons, psL_cons, List.map_append, h k (by simp), ih2 fun k hk => h k (by simp [hk])]
    rw [this ks ih]
    split <;> simp [T.n]
theorem leaves_ctx (c : List Fr) : ∃ A B, ∀ t : T, (plug c t).leaves = A ++ t.leaves ++ B := by
  induction c with
  | nil => exact ⟨[], [], fun t => by simp [plug]⟩
  | cons f c ih =>
    obtain ⟨A, B, h⟩ := ih
    refine ⟨A ++ leavesL f.L, leavesL f.R ++ B, fun t => ?_⟩
    rw [plug, h, T.leaves_mk, if_neg (by simp), leavesL_app, leavesL_cons]
    simp
theorem leaves_ne (t : T) : t.leaves ≠ [] := by
  induction t using T.ind with
  | h n ks ih =>
    rw [T.leaves_mk]
    rcases ks with _ | ⟨k, ks⟩
    · simp
    · rw [leavesL_cons]
      have := ih k (by simp)
      simp [this]

/-- What a split's kids fill. -/
def fills (a b way : Int) (ks : List E) : Prop :=
  (way = 0 ∧ (∀ k ∈ ks, k.b = b) ∧ (ks.map fun k => k.a + 1).sum = a + 1) ∨ (way = 1 ∧ (∀ k ∈ ks, k.a = a) ∧ (ks.map fun k => k.b + 1).sum = b + 1)
/-- A tree whose splits are filled. -/
inductive E.ok : E → Prop
  | leaf {p a b : Int} (hp : 1 ≤ p ∧ p ≤ 999) (ha : 1 ≤ a) (hb : 1 ≤ b) : E.ok (.mk p a b 0 [])
  | node {a b way : Int} {ks : List E} (ha : 1 ≤ a) (hb : 1 ≤ b) (hl : 2 ≤ ks.length) (hf : fills a b way ks) (hk : ∀ k ∈ ks, k.ok) : E.ok (.mk 0 a b way ks)
theorem E.ok.ge {e : E} (h : e.ok) : 1 ≤ e.a ∧ 1 ≤ e.b := by cases h with | leaf _ h1 h2 => exact ⟨h1, h2⟩ | node h1 h2 => exact ⟨h1, h2⟩
theorem E.ok.inv {p a b way : Int} {ks : List E} (h : (E.mk p a b way ks).ok) : (ks = [] ∧ way = 0 ∧ (1 ≤ p ∧ p ≤ 999) ∧ 1 ≤ a ∧ 1 ≤ b) ∨ (p = 0 ∧ 1 ≤ a ∧ 1 ≤ b ∧ 2 ≤ ks.length ∧ fills a b way ks ∧ ∀ k ∈ ks, k.ok) := by
  cases h with
  | leaf h1 h2 h3 => exact .inl ⟨rfl, rfl, h1, h2, h3⟩
  | node h1 h2 h3 h4 h5 => exact .inr ⟨rfl, h1, h2, h3, h4, h5⟩
theorem sum_ge (f : E → Int) : ∀ (ks : List E), (∀ k ∈ ks, 0 ≤ f k) → 0 ≤ (ks.map f).sum ∧ ∀ k ∈ ks, f k ≤ (ks.map f).sum
  | [], _ => by simp
  | k :: ks, h => by
    obtain ⟨h1, h2⟩ := sum_ge f ks fun j hj => h j (by simp [hj])
    have h3 := h k (by simp)
    rw [List.map_cons, List.sum_cons]
    refine ⟨by omega, fun j hj => ?_⟩
    rcases List.mem_cons.1 hj with rfl | hj
    · omega
    · have := h2 j hj; omega
theorem E.ok.kid {p a b way : Int} {ks : List E} (h : (E.mk p a b way ks).ok) {k : E} (hk : k ∈ ks) : k.ok ∧ k.a ≤ a ∧ k.b ≤ b := by
  cases h with
  | leaf => cases hk
  | node ha hb hl hf hks =>
    refine ⟨hks k hk, ?_⟩
    rcases hf with ⟨_, h1, h2⟩ | ⟨_, h1, h2⟩
    · have := (sum_ge (fun k => k.a + 1) ks (fun j hj => by have := (hks j hj).ge; omega)).2 k hk
      have h3 := h1 k hk
      omega
    · have := (sum_ge (fun k => k.b + 1) ks (fun j hj => by have := (hks j hj).ge; omega)).2 k hk
      have h3 := h1 k hk
      omega
/-- All nodes of a filled tree are of its size at most. -/
theorem nds_ok (t : T) : t.er.ok → ∀ m ∈ t.nds, 0 ≤ m.p ∧ m.p ≤ 999 ∧ 1 ≤ m.a ∧ m.a ≤ t.n.a ∧ 1 ≤ m.b ∧ m.b ≤ t.n.b ∧ (m.way = 0 ∨ m.way = 1) := by
  induction t using T.ind with
  | h n ks ih =>
    intro h m hm
    rw [T.nds_mk] at hm
    rw [T.er_mk] at h
    rcases List.mem_cons.1 hm with rfl | hm
    · have hg := h.ge
      have hw : m.way = 0 ∨ m.way = 1 := by
        rcases h.inv with ⟨_, h, _⟩ | ⟨_, _, _, _, hf, _⟩
        · exact .inl h
        · rcases hf with ⟨h, _⟩ | ⟨h, _⟩ <;> simp [h]
      have hp : 0 ≤ m.p ∧ m.p ≤ 999 := by
        rcases h.inv with ⟨_, _, hp, _⟩ | ⟨hp, _⟩ <;> omega
      exact ⟨hp.1, hp.2, hg.1, Int.le_refl _, hg.2, Int.le_refl _, hw⟩
    · obtain ⟨k, hk, hm⟩ := mem_ndsL.1 hm
      have hke : k.er ∈ erL ks := by rw [erL_map]; exact List.mem_map_of_mem hk
      obtain ⟨h1, h2, h3⟩ := h.kid hke
      have := ih k hk h1 m hm
      rw [T.er_a] at h2; rw [T.er_b] at h3
      refine ⟨this.1, this.2.1, this.2.2.1, ?_, this.2.2.2.2.1, ?_, this.2.2.2.2.2.2⟩
      · show m.a ≤ n.a; omega
      · show m.b ≤ n.b; omega
theorem ok_w01 {t : T} (h : t.er.ok) : t.w01 := fun m hm => (nds_ok t h m hm).2.2.2.2.2.2
theorem fills_swap {a b way : Int} {L R : List E} {e e' : E} (h : fills a b way (L ++ e :: R)) (ha : e'.a = e.a) (hb : e'.b = e.b) : fills a b way (L ++ e' :: R) := by
  rcases h with ⟨h0, h1, h2⟩ | ⟨h0, h1, h2⟩
  · refine .inl ⟨h0, fun k hk => ?_, ?_⟩
    · simp only [List.mem_append, List.mem_cons] at hk
      rcases hk with hk | rfl | hk
      · exact h1 k (by simp [hk])
      · rw [hb]; exact h1 e (by simp)
      · exact h1 k (by simp [hk])
    · simpa [ha] using h2
  · refine .inr ⟨h0, fun k hk => ?_, ?_⟩
    · simp only [List.mem_append, List.mem_cons] at hk
      rcases hk with hk | rfl | hk
      · exact h1 k (by simp [hk])
      · rw [ha]; exact h1 e (by simp)
      · exact h1 k (by simp [hk])
    · simpa [hb] using h2
theorem ok_plug : ∀ (c : List Fr) (t t' : T), (plug c t).er.ok → t.er.ok ∧ (t'.er.ok → t'.n.a = t.n.a → t'.n.b = t.n.b → (plug c t').er.ok ∧ (plug c t').n.a = (plug c t).n.a ∧ (plug c t').n.b = (plug c t).n.b)
  | [], t, t', h => ⟨h, fun h1 h2 h3 => ⟨h1, h2, h3⟩⟩
  | f :: c, t, t', h => by
    obtain ⟨h1, h2⟩ := ok_plug c (.mk f.n (f.L ++ t :: f.R)) (.mk f.n (f.L ++ t' :: f.R)) h
    rw [T.er_mk, erL_map] at h1
    have h3 := (h1.kid (k := t.er) (by simp)).1
    refine ⟨h3, fun h4 h5 h6 => ?_⟩
    refine h2 ?_ rfl rfl
    rw [T.er_mk, erL_map]
    simp only [List.map_append, List.map_cons] at h1 ⊢
    rcases h1.inv with ⟨h, _⟩ | ⟨hp, ha, hb, hl, hf, hk⟩
    · simp at h
    · rw [hp]
      refine .node ha hb (by simpa using hl) (fills_swap hf (by rw [T.er_a, T.er_a, h5]) (by rw [T.er_b, T.er_b, h6])) fun k hk' => ?_
      simp only [List.mem_append, List.mem_cons] at hk'
      rcases hk' with h | rfl | h
      · exact hk k (by simp [h])
      · exact h4
      · exact hk k (by simp [h])
end Go.Proofs.YtcklmkjlbpjojaaDoor
namespace Go.Proofs.YtcklmkjlbpjojaaDoor
open Go
set_option linter.unusedVariables false

section
variable {P : Program} {ops : Array Oper} {Q : Exit → Act → World → Prop} {md : Region.Mode} {S : World → Prop}

/-- Whatever order is picked, S holds behind each operation ahead of number n. -/
def wpK (P : Program) (md : Region.Mode) (ops : Array Oper) (Q : Exit → Act → World → Prop) (S : World → Prop) (n : Nat) : Nat → Array Bool → Act → World → Prop
  | 0, listed, a, w => Region.ready md ops listed = [] ∧ Q .normal a w
  | f + 1, listed, a, w =>
    (Region.ready md ops listed = [] → Q .normal a w) ∧
    ∀ i ∈ Region.ready md ops listed, wpOp P ops Q i (fun a' w' => (i < n → S w') ∧ wpK P md ops Q S n f (listed.setIfInBounds i true) a' w') a w
theorem wpAny_of_K {n : Nat} : ∀ (f : Nat) (listed : Array Bool) (a : Act) (w : World), wpK P md ops Q S n f listed a w → wpAny P md ops Q f listed a w
  | 0, _, _, _, h => h
  | f + 1, _, _, _, h => ⟨h.1, fun i hi => wpOp_mono (fun a' w' h' => wpAny_of_K f _ a' w' h'.2) (h.2 i hi)⟩
theorem wpK_first {n i : Nat} {oi : Oper} {v : Value} (hi : ops[i]? = some oi) (hsel : ∀ (j : Nat) (o : Oper) cs b, ops[j]? = some o → o.op ≠ .select cs b)
    (hQ : ∀ c a w, Q (.panic c) (a.put oi.dst v) w → Q (.panic c) a w) (hs : Region.sinkB md ops n = true) (hc : Region.chainB md ops n = true) (hn : n < ops.size) (hin : i < n) :
    ∀ (f : Nat) (listed : Array Bool) (a : Act) (w : World), HeadInv md ops n listed →
      (∀ j oj, ops[j]? = some oj → j ≠ i → listed.getD j true = false → (∀ e ∈ oj.after, Region.binds md e = true → e.on ≠ i) → oi.apart ops oj = true) →
      i ∈ Region.ready md ops listed → YieldsIf P ops S oi v a → S w →
      wpK P md ops Q S n f (listed.setIfInBounds i true) (a.put oi.dst v) w → wpK P md ops Q S n (f + 1) listed a w := by
  intro f
  induction f with
  | zero =>
    intro listed a w _ _ hr hy hS H
    refine ⟨fun h => (by rw [h] at hr; cases hr), fun j hj => ?_⟩
    by_cases hji : j = i
    · subst hji; exact hy.wpOp hi hS ⟨fun _ => hS, H⟩
    · have := ready_mono hj hji
      rw [H.1] at this
      cases this
  | succ f ih =>
    intro listed a w inv hfree hr hy hS H
    refine ⟨fun h => (by rw [h] at hr; cases hr), fun j hj => ?_⟩
    by_cases hji : j = i
    · subst hji; exact hy.wpOp hi hS ⟨fun _ => hS, H⟩
    have hjn : j < n := by
      rcases Nat.lt_or_ge j n with h | h
      · exact h
      · exact absurd hj (tail_waits hs hc hn inv (n - i) i rfl hin (mem_ready.1 hr).1 j h)
    have h1 := H.2 j (ready_mono hj hji)
    obtain ⟨hjun, oj, hoj, hall⟩ := mem_ready.1 hj
    have hnot : ∀ e ∈ oj.after, Region.binds md e = true → e.on ≠ i := fun e he hb heq => by
      have h2 := hall e he hb
      rw [heq, getD_both (mem_ready.1 hr).1] at h2
      cases h2
    have h2 := wpOp_putIf hoj (hfree j oj hoj hji hjun hnot) (fun cs b => hsel i oi cs b hi) (fun cs b => hsel j oj cs b hoj) hQ hy h1
    refine wpOp_mono (fun a' w' h3 => ⟨h3.2.1, ih (listed.setIfInBounds j true) a' w' (inv.set hj hjn) (fun k ok hk hki hun hno => ?_) (ready_mono hr (Ne.symm hji)) h3.1 (h3.2.1 hjn) ?_⟩) h2
    · refine hfree k ok hk hki ?_ hno
      by_cases hjk : j = k
      · subst hjk; exact hjun
      · rw [getD_set_ne true hjk] at hun; exact hun
    · rw [Array.setIfInBounds_comm _ _ hji]
      exact h3.2.2

/-- The loads at the head, in the order of the text: each yields in every world that meets S. -/
def wpHeld (P : Program) (ops : Array Oper) (S : World → Prop) (R : Act → Prop) : List Oper → Act → Prop
  | [], a => R a
  | o :: rest, a => ∃ v, YieldsIf P ops S o v a ∧ wpHeld P ops S R rest (a.put o.dst v)
theorem wpHeld_nil {R : Act → Prop} {a : Act} (h : R a) : wpHeld P ops S R [] a := h
theorem wpHeld_cons {R : Act → Prop} {a : Act} {o : Oper} {rest : List Oper} {v : Value} (hw : Region.wanted o (yielded ops a.tmps) = true)
    (hy : ∀ w, S w → (execOp a.eval o).run P w = .ok (.value v) w) (h : wpHeld P ops S R rest (a.put o.dst v)) : wpHeld P ops S R (o :: rest) a := ⟨v, .inl ⟨hw, hy⟩, h⟩
/-- The row behind them: S is shown behind each of the first k. -/
def wpRow (P : Program) (ops : Array Oper) (Q : Exit → Act → World → Prop) (S : World → Prop) : Nat → List Oper → Act → World → Prop
  | 0, l, a, w => wpList P ops Q l a w
  | _ + 1, [], a, w => Q .normal a w
  | k + 1, o :: l, a, w => ∀ K' : Act → World → Prop, Shut (∀ a w, S w → wpRow P ops Q S k l a w → K' a w) → if Region.wanted o (yielded ops a.tmps) = true then Oper.wp P o a w K' Q else K' (a.put o.dst undef) w
theorem wpRow_zero {l : List Oper} {a : Act} {w : World} (h : wpList P ops Q l a w) : wpRow P ops Q S 0 l a w := by unfold wpRow; exact h
theorem wpRow_succ {k : Nat} {o : Oper} {l : List Oper} {a : Act} {w : World} (h : ∀ K' : Act → World → Prop, Shut (∀ a w, S w → wpRow P ops Q S k l a w → K' a w) → if Region.wanted o (yielded ops a.tmps) = true then Oper.wp P o a w K' Q else K' (a.put o.dst undef) w) : wpRow P ops Q S (k + 1) (o :: l) a w := by unfold wpRow; exact h
theorem wpK_row {n : Nat} : ∀ (l : List Oper) (k pos : Nat) (listed : Array Bool) (a : Act) (w : World), (∀ j, l[j]? = ops[pos + j]?) → (pos + k = n ∨ (k = 0 ∧ n ≤ pos)) →
    Region.seqB md ops l.length pos listed = true → wpRow P ops Q S k l a w → wpK P md ops Q S n l.length listed a w
  | [], k, _, _, a, w, _, _, hB, h => by
    refine ⟨by simpa [Region.seqB] using hB, ?_⟩
    cases k with
    | zero => unfold wpRow at h; exact h
    | succ k => unfold wpRow at h; exact h
  | o :: l, k, pos, listed, a, w, hl, hk, hB, h => by
    have h0 : ops[pos]? = some o := by simpa using (hl 0).symm
    simp only [List.length_cons, Region.seqB, Bool.and_eq_true, decide_eq_true_eq] at hB
    have hl' : ∀ j, l[j]? = ops[pos + 1 + j]? := fun j => by have := hl (j + 1); simpa [Nat.add_assoc, Nat.add_comm 1 j] using this
    refine ⟨fun h1 => (by rw [hB.1] at h1; cases h1), fun i hi => ?_⟩
    rw [hB.1] at hi
    have hik : i = pos := by simpa using hi
    subst hik
    cases k with
    | zero =>
      unfold wpRow at h
      have hw : wpOp P ops Q i (wpList P ops Q l) a w := by unfold wpOp; simp only [h0]; exact h
      exact wpOp_mono (fun a' w' h' => ⟨fun hlt => absurd hlt (by omega), wpK_row l 0 (i + 1) _ a' w' hl' (.inr ⟨rfl, by omega⟩) hB.2 (wpRow_zero h')⟩) hw
    | succ k =>
      unfold wpRow at h
      exact wpOp_step h0 (fun K' hK => h K' (fun a' w' hS hL => hK a' w' ⟨fun _ => hS, wpK_row l k (i + 1) _ a' w' hl' (by omega) hB.2 hL⟩))
theorem wpK_lex {m n g : Nat} (hsel : Region.noSelect ops = true) (hs : Region.sinkB md ops n = true) (hc : Region.chainB md ops n = true) (hn : n < ops.size) (hmn : m ≤ n)
    (hQ : ∀ c a d v w, Q (.panic c) (Act.put a d v) w → Q (.panic c) a w) (t : List Oper) (ht : ∀ j, t[j]? = ops[m + j]?) (htl : t.length = g) :
    ∀ (l : List Oper) (pos : Nat) (listed : Array Bool) (a : Act) (w : World), (∀ j, j < l.length → l[j]? = ops[pos + j]?) → pos + l.length = m → HeadInv md ops n listed →
    Region.lexHead md ops g l.length pos listed = true → S w → wpHeld P ops S (fun a' => wpRow P ops Q S (n - m) t a' w) l a → wpK P md ops Q S n (l.length + g) listed a w
  | [], pos, listed, a, w, _, hk, _, hB, _, h => by
    have : pos = m := by simpa using hk
    subst this
    subst htl
    rw [List.length_nil, Nat.zero_add]
    exact wpK_row t (n - pos) pos listed a w ht (.inl (by omega)) (by simpa [Region.lexHead] using hB) h
  | o :: l, pos, listed, a, w, hl, hk, inv, hB, hS, h => by
    have h0 : ops[pos]? = some o := by simpa using (hl 0 (by simp)).symm
    simp only [List.length_cons, Region.lexHead, Bool.and_eq_true] at hB
    obtain ⟨⟨hr, hf⟩, hB'⟩ := hB
    simp only [List.length_cons] at hk
    have hkn : pos < n := by omega
    have hr' : pos ∈ Region.ready md ops listed := by simpa using hr
    obtain ⟨v, hy, hK⟩ := h
    have := wpK_lex hsel hs hc hn hmn hQ t ht htl l (pos + 1) _ _ w (fun j hj => by have := hl (j + 1) (by simp; omega); simpa [Nat.add_assoc, Nat.add_comm 1 j] using this) (by omega) (inv.set hr' hkn) hB' hS hK
    have h2 := wpK_first h0 (Region.noSelect_spec hsel) (fun c a w => hQ c a o.dst v w) hs hc hn hkn (l.length + g) listed a w inv (Region.free_spec h0 hf) hr' hy hS this
    rw [List.length_cons, show l.length + 1 + g = l.length + g + 1 by omega]
    exact h2
/-- What the kernel is asked of such a region. -/
def rowB (md : Region.Mode) (ops : Array Oper) (m n : Nat) : Bool :=
  Region.noSelect ops && decide (n < ops.size) && decide (m ≤ n) && Region.sinkB md ops n && Region.chainB md ops n && Region.lexHead md ops (ops.size - m) m 0 (Array.replicate ops.size false)
theorem wp_region_row {id : Nat} {a : Act} {w : World} {l : List Oper} (m n : Nat) (hm : P.follows .mixedOrders = true) (hB : rowB .any l.toArray m n = true)
    (hQ : ∀ c a d v w, Q (.panic c) (Act.put a d v) w → Q (.panic c) a w) (hS : S w.drew)
    (h : wpHeld P l.toArray S (fun a' => wpRow P l.toArray Q S (n - m) (l.drop m) a' w.drew) (l.take m) a) : (Code.region id l.toArray true).wp P Q a w := by
  simp only [rowB, Bool.and_eq_true, decide_eq_true_eq] at hB
  obtain ⟨⟨⟨⟨⟨hsel, hn⟩, hmn⟩, hs⟩, hc⟩, hlex⟩ := hB
  have hn' : n < l.length := by simpa using hn
  have htl : (l.take m).length = m := by simp; omega
  have hdl : (l.drop m).length = l.toArray.size - m := by simp
  have inv0 : HeadInv .any l.toArray n (Array.replicate l.toArray.size false) :=
    ⟨by simp, fun j oj _ hl => (by rw [getD_replicate_false] at hl; cases hl), fun t _ ht => getD_in (by simpa using ht) (getD_replicate_false _ _)⟩
  refine wp_region_any hm ?_
  have H := wpK_lex (md := .any) (g := l.toArray.size - m) hsel hs hc hn hmn hQ (l.drop m) (fun j => by simp [List.getElem?_drop]) hdl (l.take m) 0 _ a w.drew (fun j hj => by
    have hj' : j < m := by rw [htl] at hj; exact hj
    simp [hj']) (by rw [htl]; omega) inv0 (by rw [htl]; exact hlex) hS h
  have := wpAny_of_K _ _ _ _ H
  rw [htl, show m + (l.toArray.size - m) = l.toArray.size by have : l.toArray.size = l.length := by simp
                                                             omega] at this
  exact this
end
end Go.Proofs.YtcklmkjlbpjojaaDoor
