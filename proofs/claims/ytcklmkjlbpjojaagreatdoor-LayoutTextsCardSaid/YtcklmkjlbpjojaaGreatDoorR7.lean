/- Layout: right. Layout: what is read, told by its parts alone; the panes of a tree given anew. No walk. -/
import Derived.Test.YtcklmkjlbpjojaaGreatDoorR5b
import Derived.Test.YtcklmkjlbpjojaaGreatDoorR5c
import Derived.Test.YtcklmkjlbpjojaaGreatDoorR3b
namespace Go.Proofs.YtcklmkjlbpjojaaGreatDoor
open Go.RowKit
set_option linter.unusedSimpArgs false
set_option linter.unusedVariables false

set_option maxHeartbeats 4000000 in
set_option maxRecDepth 100000 in
theorem right_bad (n : Nd) (ks : List T) (up : Option Nat) (x y : Int) (w : World) (hT : TP w up (.mk n ks)) (hbd : (T.mk n ks).bd) (hb : ¬ (n.x = x ∧ n.y = y ∧ 1 ≤ n.a ∧ 1 ≤ n.b)) :
    Calls Tryz.prog 45 #[ptr n.g, .agg #[.int .i64 x, .int .i64 y]] w fun e w' => e = .returned (.bool false) ∧ w.grownBy w' none := by
  have hAt := hT.at_
  have c1 := hAt.c1; have c2 := hAt.c2; have c3 := hAt.c3; have c4 := hAt.c4
  obtain ⟨b1, b2, b3, b4, b5⟩ := hbd n (by rw [T.nds_mk]; simp)
  have hgl : n.g < w.heap.size := hAt.lt _ (by simp)
  unfold ptr
  obtain ⟨W1, hW1⟩ : ∃ W1, W1 = w.alloc (.cells #[.int .i64 x, .int .i64 y] 64) := ⟨_, rfl⟩
  have g1 : w.grownBy W1 none := by rw [hW1]; exact World.grownBy_alloc _ _ _
  obtain ⟨bx, hbx⟩ : ∃ bx, bx = w.heap.size := ⟨_, rfl⟩
  have hb1 : W1.heap[bx]? = some (.cells #[.int .i64 x, .int .i64 y] 64 (0, 0)) := by rw [hW1, hbx]; exact heap_alloc_new w _
  have v0 : W1.cell? ⟨bx, 0, none⟩ = some (.int .i64 x) := by rw [cell_of_heap hb1]; rfl
  have v1 : W1.cell? ⟨bx, 1, none⟩ = some (.int .i64 y) := by rw [cell_of_heap hb1]; rfl
  have d1 := g1.cell c1 (by simp); have d2 := g1.cell c2 (by simp); have d3 := g1.cell c3 (by simp); have d4 := g1.cell c4 (by simp)
  replace hW1 := Lib.hid hW1; replace hbx := Lib.hid hbx; replace hb1 := Lib.hid hb1; replace g1 := Lib.hid g1; replace hAt := Lib.hid hAt; replace hT := Lib.hid hT; replace hbd := Lib.hid hbd
  replace b5 := Lib.hid b5
  by_cases hxy : n.x = x ∧ n.y = y
  · obtain ⟨rfl, rfl⟩ := hxy
    have hm : min n.a n.b < 1 := by have : ¬ (1 ≤ n.a ∧ 1 ≤ n.b) := fun h => hb ⟨rfl, rfl, h⟩; omega
    have hm' : decide (min n.a n.b < 1) = true := decide_eq_true hm
    replace hb := Lib.hid hb
    go_enter Tryz.func45, Tryz.ntmps45
    go_upto_region 1 with fail
    rw [← hW1.out, ← hbx.out]
    clear c1 c2 c3 c4
    go_quiet (skip)
    go_wp2_with fail
    all_goals (go_ret; exact ⟨rfl, g_drewN g1.out _⟩)
  · have hm : (n.x == x && n.y == y) = false := by
      rcases Bool.eq_false_or_eq_true (n.x == x && n.y == y) with h | h
      · simp at h; exact absurd h hxy
      · exact h
    replace hb := Lib.hid hb; replace hxy := Lib.hid hxy
    go_enter Tryz.func45, Tryz.ntmps45
    go_upto_region 1 with fail
    rw [← hW1.out, ← hbx.out]
    clear c1 c2 c3 c4
    go_quiet (skip)
    go_wp2_with fail
    all_goals (go_ret; exact ⟨rfl, g_drewN g1.out _⟩)

theorem right_any : ∀ (t : T) (up : Option Nat) (x y : Int) (w : World), TP w up t → t.bd → 0 ≤ x ∧ x ≤ 3000000000 → 0 ≤ y ∧ y ≤ 3000000000 →
    Calls Tryz.prog 45 #[ptr t.g, .agg #[.int .i64 x, .int .i64 y]] w fun e w' => e = .returned (.bool (t.right x y)) ∧ w.grownBy w' none := by
  intro t
  induction t using T.ind with
  | h n ks ih =>
    intro up x y w hT hbd hx hy
    rw [T.right_mk]
    by_cases hg : n.x = x ∧ n.y = y ∧ 1 ≤ n.a ∧ 1 ≤ n.b
    · rw [decide_eq_true hg, Bool.true_and]
      obtain ⟨h1, h2, h3, h4⟩ := hg
      rcases (hbd n (by rw [T.nds_mk]; simp)).2.2.2.2 with hw | hw
      · exact right_good0 n ks hw ih up x y w hT hbd h1 h2 h3 h4
      · exact right_good1 n ks hw ih up x y w hT hbd h1 h2 h3 h4
    · rw [decide_eq_false hg, Bool.false_and]
      exact right_bad n ks up x y w hT hbd hg
end Go.Proofs.YtcklmkjlbpjojaaGreatDoor
namespace Go.Proofs.YtcklmkjlbpjojaaGreatDoor
open Go.RowKit
set_option linter.unusedSimpArgs false
set_option linter.unusedVariables false

mutual
/-- The panes given anew, by their blocks. -/
def T.reg (f : Nat → Int) : T → T
  | .mk n ks => .mk (if ks.length = 0 then { n with p := f n.g } else n) (regL f ks)
def regL (f : Nat → Int) : List T → List T
  | [] => []
  | k :: ks => k.reg f :: regL f ks
end
section
variable {f : Nat → Int}
theorem T.reg_mk (n : Nd) (ks : List T) : (T.mk n ks).reg f = .mk (if ks.length = 0 then { n with p := f n.g } else n) (regL f ks) := by rw [T.reg]
theorem regL_map : ∀ ks : List T, regL f ks = ks.map (T.reg f)
  | [] => by rw [regL]; rfl
  | k :: ks => by rw [regL, regL_map ks]; rfl
theorem regL_len (ks : List T) : (regL f ks).length = ks.length := by rw [regL_map]; simp
theorem T.reg_g (t : T) : (t.reg f).g = t.g := by
  cases t; rw [T.reg_mk]; simp only [T.g, T.n]; split <;> rfl
theorem T.reg_bl (t : T) : (t.reg f).bl = t.bl := by
  induction t using T.ind with
  | h n ks ih =>
    rw [T.reg_mk, T.bl_mk, T.bl_mk]
    have : ∀ l : List T, (∀ k ∈ l, (k.reg f).bl = k.bl) → blL (regL f l) = blL l := by
      intro l
      induction l with
      | nil => intro _; rw [regL]
      | cons k l ih2 => intro h; rw [regL, blL_cons, blL_cons, h k (by simp), ih2 fun k hk => h k (by simp [hk])]
    rw [this ks ih]
    split <;> rfl
theorem regL_ptrs (ks : List T) : ptrs (regL f ks) = ptrs ks := by
  rw [regL_map]; simp [ptrs, T.reg_g]
theorem T.reg_leaves (t : T) : (t.reg f).leaves = t.leaves.map (T.reg f) := by
  induction t using T.ind with
  | h n ks ih =>
    rw [T.reg_mk, T.leaves_mk, T.leaves_mk, regL_len, List.map_append]
    have : ∀ l : List T, (∀ k ∈ l, (k.reg f).leaves = k.leaves.map (T.reg f)) → leavesL (regL f l) = (leavesL l).map (T.reg f) := by
      intro l
      induction l with
      | nil => intro _; rw [regL, leavesL_nil]; rfl
      | cons k l ih2 => intro h; rw [regL, leavesL_cons, leavesL_cons, List.map_append, h k (by simp), ih2 fun k hk => h k (by simp [hk])]
    rw [this ks ih]
    split
    · rename_i h; simp [T.reg_mk, h]
    · rfl
theorem leaf_reg {t s : T} {w : World} {up : Option Nat} (hT : TP w up t) (hs : s ∈ t.leaves) : (s.reg f).n.p = f s.g := by
  obtain ⟨_, _, h, _⟩ := mem_leaves t w up hT s hs
  cases s with | mk n ks => cases h; rw [T.reg_mk]; simp [T.n, T.g]
theorem TP_reg : ∀ (t : T) (up : Option Nat) (w w' : World), TP w up t → t.bl.Nodup →
    (∀ s ∈ t.leaves, ∀ c e z, w.heap[s.g]? = some (.cells c e z) → w'.heap[s.g]? = some (.cells (c.setIfInBounds 0 (.int .i64 (f s.g))) e z)) →
    (∀ b ∈ t.bl, (∀ s ∈ t.leaves, s.g ≠ b) → w'.heap[b]? = w.heap[b]?) → TP w' up (t.reg f) := by
  intro t
  induction t using T.ind with
  | h n ks ih =>
    intro up w w' hT hN h1 h2
    have hA := hT.at_
    rw [T.bl_mk] at hN h2
    have hgA : ∀ b, n.A = some b → b ≠ n.g := fun b hb e => (List.nodup_cons.1 hN).1 (by subst e; simp [hb])
    rw [T.reg_mk]
    by_cases hk : ks.length = 0
    · have := List.eq_nil_of_length_eq_zero hk
      subst this
      rw [if_pos hk, regL]
      have hlv : (T.mk n []).leaves = [.mk n []] := by rw [T.leaves_mk, leavesL_nil]; rfl
      rw [hlv] at h1 h2
      refine .mk ⟨?_, ?_⟩ (by rw [TPs]; trivial)
      · exact h1 (.mk n []) (by simp) _ _ _ hA.h
      · refine own_same hA.r fun b hb => ?_
        rw [ownBlock_row] at hb
        replace hb : n.A = some b := hb
        exact h2 b (by simp [hb]) (by intro s hs; simp at hs; subst hs; exact fun e => hgA b hb e.symm)
    · rw [if_neg hk]
      have hlv : (T.mk n ks).leaves = leavesL ks := by rw [T.leaves_mk, if_neg hk]; rfl
      rw [hlv] at h1 h2
      have hsb : ∀ s ∈ leavesL ks, s.g ∈ blL ks := fun s hs => by
        obtain ⟨k, hk, hs⟩ := mem_leavesL.1 hs
        obtain ⟨_, _, _, h⟩ := mem_leaves k w _ (TPs_iff.1 hT.kids k hk) s hs
        exact mem_blL.2 ⟨k, hk, h _ s.g_mem⟩
      have hn1 := (List.nodup_cons.1 hN)
      have hn2 := List.nodup_append.1 hn1.2
      refine .mk ⟨?_, ?_⟩ (TPs_iff.2 fun k' hk' => ?_)
      · rw [regL_len, h2 n.g (by simp) (fun s hs e => hn1.1 (by rw [← e]; simp [hsb s hs]))]; exact hA.h
      · rw [regL_len, regL_ptrs]
        refine own_same hA.r fun b hb => ?_
        rw [ownBlock_row] at hb
        exact h2 b (by simp [hb]) (fun s hs e => hn2.2.2 b (by simp [hb]) _ (hsb s hs) e.symm)
      · rw [regL_map] at hk'
        obtain ⟨k, hk, rfl⟩ := List.mem_map.1 hk'
        have hsub : ∀ s ∈ k.leaves, s ∈ leavesL ks := fun s hs => mem_leavesL.2 ⟨k, hk, hs⟩
        have hkT := TPs_iff.1 hT.kids k hk
        obtain ⟨L, R, rfl⟩ := List.append_of_mem hk
        rw [blL_app, blL_cons] at hn2
        have hn3 := List.nodup_append.1 hn2.2.1
        have hn4 := List.nodup_append.1 hn3.2.1
        refine ih k hk _ w w' hkT hn4.1 (fun s hs => h1 s (hsub s hs)) fun b hb hs => h2 b ?_ ?_
        · simp [blL_app, blL_cons, hb]
        · intro s hs' e
          rw [leavesL_app, leavesL_cons] at hs'
          simp only [List.mem_append] at hs'
          have hx : ∀ l : List T, (∀ k ∈ l, k ∈ L ++ k :: R ∨ True) → s ∈ leavesL l → (∀ j ∈ l, TP w (some n.g) j) → s.g ∈ blL l := fun l _ hs hj => by
            obtain ⟨j, hjl, hs⟩ := mem_leavesL.1 hs
            obtain ⟨_, _, _, h⟩ := mem_leaves j w _ (hj j hjl) s hs
            exact mem_blL.2 ⟨j, hjl, h _ s.g_mem⟩
          rcases hs' with h | h | h
          · have := hx L (fun _ _ => .inr trivial) h (fun j hj => TPs_iff.1 hT.kids j (by simp [hj]))
            rw [e] at this
            exact hn3.2.2 b this b (by simp [hb]) rfl
          · exact hs s h e
          · have := hx R (fun _ _ => .inr trivial) h (fun j hj => TPs_iff.1 hT.kids j (by simp [hj]))
            rw [e] at this
            exact hn4.2.2 b hb b this rfl
end

theorem pt_inj {n n' : Nd} {ks ks' : List T} (h : (T.mk n ks).pt = (T.mk n' ks').pt) : n.p = n'.p ∧ n.x = n'.x ∧ n.y = n'.y ∧ n.a = n'.a ∧ n.b = n'.b ∧ n.way = n'.way ∧ ks.map T.pt = ks'.map T.pt := by
  rw [T.pt_mk, T.pt_mk] at h
  injection h with h1 h2 h3 h4 h5 h6 h7
  rw [ptL_map, ptL_map] at h7
  exact ⟨h1, h2, h3, h4, h5, h6, h7⟩
theorem pt_len {ks ks' : List T} (h : ks.map T.pt = ks'.map T.pt) : ks.length = ks'.length := by
  have := congrArg List.length h; simpa using this
theorem pt_n {t t' : T} (h : t.pt = t'.pt) : t.n.p = t'.n.p ∧ t.n.x = t'.n.x ∧ t.n.y = t'.n.y ∧ t.n.a = t'.n.a ∧ t.n.b = t'.n.b ∧ t.n.way = t'.n.way ∧ t.ks.length = t'.ks.length := by
  cases t; cases t'
  obtain ⟨h1, h2, h3, h4, h5, h6, h7⟩ := pt_inj h
  exact ⟨h1, h2, h3, h4, h5, h6, pt_len h7⟩
theorem sz_pt {m m' : Nd} (ha : m.a = m'.a) (hb : m.b = m'.b) (way : Int) : m.sz way = m'.sz way := by unfold Nd.sz; rw [ha, hb]
theorem right_congr : ∀ (t t' : T) (x y : Int), t.pt = t'.pt → t.right x y = t'.right x y := by
  intro t
  induction t using T.ind with
  | h n ks ih =>
    intro t' x y h
    obtain ⟨n', ks'⟩ := t'
    obtain ⟨h1, h2, h3, h4, h5, h6, h7⟩ := pt_inj h
    rw [T.right_mk, T.right_mk, h2, h3, h4, h5, pt_len h7]
    have hs : ∀ l l' : List T, l.map T.pt = l'.map T.pt → (l.map fun k => k.sz n.way + 1).sum = (l'.map fun k => k.sz n'.way + 1).sum := by
      intro l
      induction l with
      | nil => intro l' e; have := (pt_len e).symm; simp at this; subst this; rfl
      | cons k l ih2 =>
        intro l' e
        cases l' with
        | nil => simp at e
        | cons k' l' =>
          simp only [List.map_cons, List.cons.injEq] at e
          obtain ⟨_, _, _, q4, q5, _, _⟩ := pt_n e.1
          simp only [List.map_cons, List.sum_cons]
          rw [ih2 l' e.2, show k.sz n.way = k'.sz n'.way by unfold T.sz; rw [h6]; exact sz_pt q4 q5 _]
    have hr : ∀ (l l' : List T) (x y : Int), (∀ k ∈ l, ∀ (t' : T) (x y : Int), k.pt = t'.pt → k.right x y = t'.right x y) → l.map T.pt = l'.map T.pt → rightL n l x y = rightL n' l' x y := by
      intro l
      induction l with
      | nil => intro l' x y _ e; have := (pt_len e).symm; simp at this; subst this; rw [rightL_nil, rightL_nil]
      | cons k l ih2 =>
        intro l' x y hk e
        cases l' with
        | nil => simp at e
        | cons k' l' =>
          simp only [List.map_cons, List.cons.injEq] at e
          obtain ⟨_, _, _, q4, q5, q6, q7⟩ := pt_n e.1
          rw [rightL_cons, rightL_cons, hk k (by simp) k' x y e.1, q7, q6, h6]
          have z1 : k.sz (1 - n'.way) = k'.sz (1 - n'.way) := sz_pt q4 q5 _
          have z2 : k.sz n'.way = k'.sz n'.way := sz_pt q4 q5 _
          have z3 : n.sz (1 - n'.way) = n'.sz (1 - n'.way) := sz_pt h4 h5 _
          rw [z1, z2, z3, ih2 l' _ _ (fun k hk' => hk k (by simp [hk'])) e.2]
    rw [hr ks ks' x y ih h7, hs ks ks' h7, h6, sz_pt h4 h5 n'.way]
def box6 (t : T) : Int × Int × Int × Int × Int := (t.n.p, t.n.x, t.n.y, t.n.a, t.n.b)
theorem leaves_congr : ∀ (t t' : T), t.pt = t'.pt → t.leaves.map box6 = t'.leaves.map box6 := by
  intro t
  induction t using T.ind with
  | h n ks ih =>
    intro t' h
    obtain ⟨n', ks'⟩ := t'
    obtain ⟨h1, h2, h3, h4, h5, h6, h7⟩ := pt_inj h
    have hl : ∀ l l' : List T, (∀ k ∈ l, ∀ t' : T, k.pt = t'.pt → k.leaves.map box6 = t'.leaves.map box6) → l.map T.pt = l'.map T.pt → (leavesL l).map box6 = (leavesL l').map box6 := by
      intro l
      induction l with
      | nil => intro l' _ e; have := (pt_len e).symm; simp at this; subst this; rfl
      | cons k l ih2 =>
        intro l' hk e
        cases l' with
        | nil => simp at e
        | cons k' l' =>
          simp only [List.map_cons, List.cons.injEq] at e
          rw [leavesL_cons, leavesL_cons, List.map_append, List.map_append, hk k (by simp) k' e.1, ih2 l' (fun k hk' => hk k (by simp [hk'])) e.2]
    rw [T.leaves_mk, T.leaves_mk, List.map_append, List.map_append, hl ks ks' ih h7, pt_len h7]
    congr 1
    split
    · simp [box6, T.n, h1, h2, h3, h4, h5]
    · rfl
theorem leaves_len_congr {t t' : T} (h : t.pt = t'.pt) : t.leaves.length = t'.leaves.length := by
  have := congrArg List.length (leaves_congr t t' h); simpa using this
mutual
def P.ok : P → Prop
  | .mk p x y a b way ks => (0 ≤ x ∧ x < 1000000000) ∧ (0 ≤ y ∧ y < 1000000000) ∧ (0 ≤ a ∧ a < 1000000000) ∧ (0 ≤ b ∧ b < 1000000000) ∧ (way = 0 ∨ way = 1) ∧ (0 ≤ p ∧ p < 1000000000) ∧ okPL ks
def okPL : List P → Prop
  | [] => True
  | k :: ks => k.ok ∧ okPL ks
end
theorem P.ok_mk {p x y a b way : Int} {ks : List P} : (P.mk p x y a b way ks).ok ↔ (0 ≤ x ∧ x < 1000000000) ∧ (0 ≤ y ∧ y < 1000000000) ∧ (0 ≤ a ∧ a < 1000000000) ∧ (0 ≤ b ∧ b < 1000000000) ∧ (way = 0 ∨ way = 1) ∧ (0 ≤ p ∧ p < 1000000000) ∧ okPL ks := by rw [P.ok]
theorem okPL_iff : ∀ {l : List P}, okPL l ↔ ∀ k ∈ l, k.ok
  | [] => by simp [okPL]
  | k :: ks => by rw [okPL, okPL_iff]; simp
theorem bd_of_ok : ∀ t : T, t.pt.ok → t.bd ∧ ∀ m ∈ t.nds, 0 ≤ m.p ∧ m.p < 1000000000 := by
  intro t
  induction t using T.ind with
  | h n ks ih =>
    intro h
    rw [T.pt_mk, P.ok_mk, ptL_map] at h
    obtain ⟨h1, h2, h3, h4, h5, h6, h7⟩ := h
    refine ⟨fun m hm => ?_, fun m hm => ?_⟩
    all_goals
      rw [T.nds_mk] at hm
      rcases List.mem_cons.1 hm with rfl | hm
    · exact ⟨h1, h2, h3, h4, h5⟩
    · obtain ⟨k, hk, hm⟩ := mem_ndsL.1 hm
      exact (ih k hk (okPL_iff.1 h7 _ (List.mem_map_of_mem hk))).1 m hm
    · exact h6
    · obtain ⟨k, hk, hm⟩ := mem_ndsL.1 hm
      exact (ih k hk (okPL_iff.1 h7 _ (List.mem_map_of_mem hk))).2 m hm
theorem numP_int (s : List UInt8) (bad : Bool) : (0 : Int) ≤ ((numP s bad).1 : Int) ∧ ((numP s bad).1 : Int) < 1000000000 := by
  have := numP_lt s bad; omega
theorem hdP_ok (s : List UInt8) (bad : Bool) : ((0 : Int) ≤ ((hdP s bad).x : Int) ∧ ((hdP s bad).x : Int) < 1000000000) ∧ ((0 : Int) ≤ ((hdP s bad).y : Int) ∧ ((hdP s bad).y : Int) < 1000000000) ∧ ((0 : Int) ≤ ((hdP s bad).a : Int) ∧ ((hdP s bad).a : Int) < 1000000000) ∧ ((0 : Int) ≤ ((hdP s bad).b : Int) ∧ ((hdP s bad).b : Int) < 1000000000) := by
  unfold hdP
  dsimp only
  generalize h1 : numP s bad = r1
  generalize h2 : nextP [120] r1.2.1 r1.2.2 = r2
  generalize h3 : numP r2.2.1 r2.2.2 = r3
  generalize h4 : nextP [44] r3.2.1 r3.2.2 = r4
  generalize h5 : numP r4.2.1 r4.2.2 = r5
  generalize h6 : nextP [44] r5.2.1 r5.2.2 = r6
  generalize h7 : numP r6.2.1 r6.2.2 = r7
  have a1 := numP_int s bad
  have a3 := numP_int r2.2.1 r2.2.2
  have a5 := numP_int r4.2.1 r4.2.2
  have a7 := numP_int r6.2.1 r6.2.2
  rw [h1] at a1; rw [h3] at a3; rw [h5] at a5; rw [h7] at a7
  exact ⟨a5, a7, a1, a3⟩
theorem nodeP_ok : ∀ n : Nat, (∀ s bad, (nodeP n s bad).1.ok) ∧ ∀ way s bad, okPL (kidsP n way s bad).1 := by
  intro n
  induction n with
  | zero => exact ⟨fun s bad => by rw [nodeP, P.ok_mk, okPL]; simp, fun way s bad => by rw [kidsP, okPL]; trivial⟩
  | succ n ih =>
    obtain ⟨i1, i2⟩ := ih
    constructor
    · intro s bad
      have H := hdP_ok s bad
      rw [nodeP_succ]
      generalize hdP s bad = hd at H ⊢
      have h1 := H.1
      have h2 := H.2.1
      have h3 := H.2.2.1
      have h4 := H.2.2.2
      have h5 := numP_int hd.s hd.bad
      have h6 := i2 0 hd.s hd.bad
      have h7 := i2 1 hd.s hd.bad
      unfold nodeH
      generalize numP hd.s hd.bad = r1 at h5
      generalize kidsP n 0 hd.s hd.bad = r2 at h6
      generalize kidsP n 1 hd.s hd.bad = r3 at h7
      by_cases c1 : hd.c = 44
      · rw [if_pos c1]; exact P.ok_mk.2 ⟨h1, h2, h3, h4, .inl rfl, h5, by rw [okPL]; trivial⟩
      · rw [if_neg c1]
        by_cases c2 : hd.c = 123
        · rw [if_pos c2]; exact P.ok_mk.2 ⟨h1, h2, h3, h4, .inl rfl, by decide, h6⟩
        · rw [if_neg c2]
          by_cases c3 : hd.c = 91
          · rw [if_pos c3]; exact P.ok_mk.2 ⟨h1, h2, h3, h4, .inr rfl, by decide, h7⟩
          · rw [if_neg c3]; exact P.ok_mk.2 ⟨h1, h2, h3, h4, .inl rfl, by decide, by rw [okPL]; trivial⟩
    · intro way s bad
      rw [kidsP_succ]
      unfold kidsH
      split
      · rw [okPL]; exact ⟨i1 _ _, i2 _ _ _⟩
      · rw [okPL, okPL]; exact ⟨i1 _ _, trivial⟩
mutual
def P.lv : P → Nat
  | .mk _ _ _ _ _ _ ks => (if ks.length = 0 then 1 else 0) + lvL ks
def lvL : List P → Nat
  | [] => 0
  | k :: ks => k.lv + lvL ks
end
theorem P.lv_mk (p x y a b way : Int) (ks : List P) : (P.mk p x y a b way ks).lv = (if ks.length = 0 then 1 else 0) + lvL ks := by rw [P.lv]
theorem lvL_nil : lvL [] = 0 := by rw [lvL]
theorem lvL_cons (k : P) (ks : List P) : lvL (k :: ks) = k.lv + lvL ks := by rw [lvL]
theorem lv_pt : ∀ t : T, t.leaves.length = t.pt.lv := by
  intro t
  induction t using T.ind with
  | h n ks ih =>
    have : ∀ l : List T, (∀ k ∈ l, k.leaves.length = k.pt.lv) → (leavesL l).length = lvL (l.map T.pt) := by
      intro l
      induction l with
      | nil => intro _; rw [leavesL_nil, List.map_nil, lvL_nil]; rfl
      | cons k l ih2 => intro h; rw [leavesL_cons, List.length_append, List.map_cons, lvL_cons, h k (by simp), ih2 fun k hk => h k (by simp [hk])]
    rw [T.leaves_mk, List.length_append, this ks ih, T.pt_mk, P.lv_mk, ptL_map, List.length_map]
    split <;> rfl
theorem nodeP_lv : ∀ n : Nat, (∀ s bad, (nodeP n s bad).1.lv + (nodeP n s bad).2.1.length ≤ 1 + s.length) ∧ ∀ way s bad, lvL (kidsP n way s bad).1 + (kidsP n way s bad).2.1.length ≤ 1 + s.length := by
  intro n
  induction n with
  | zero => exact ⟨fun s bad => by rw [nodeP, P.lv_mk, lvL]; simp, fun way s bad => by rw [kidsP, lvL]; simp⟩
  | succ n ih =>
    obtain ⟨i1, i2⟩ := ih
    constructor
    · intro s bad
      obtain ⟨h1, h2⟩ := hdP_len s bad
      rw [nodeP_succ]
      generalize hdP s bad = hd at h1 h2
      unfold nodeH
      split
      · have := numP_len hd.s hd.bad
        rw [P.lv_mk, lvL_nil]
        simp only [List.length_nil, if_true]
        omega
      · split
        · rename_i hc
          have := i2 0 hd.s hd.bad
          have h3 := h2 (by rw [hc]; decide)
          rw [P.lv_mk]
          show (if _ then 1 else 0) + lvL _ + _ ≤ _
          split
          · rename_i h0
            have e := List.eq_nil_of_length_eq_zero h0
            rw [e, lvL_nil] at this ⊢
            show 1 + 0 + (kidsP n 0 hd.s hd.bad).2.1.length ≤ _
            omega
          · show 0 + lvL _ + (kidsP n 0 hd.s hd.bad).2.1.length ≤ _
            omega
        · split
          · rename_i _ hc
            have := i2 1 hd.s hd.bad
            have h3 := h2 (by rw [hc]; decide)
            rw [P.lv_mk]
            show (if _ then 1 else 0) + lvL _ + _ ≤ _
            split
            · rename_i h0
              have e := List.eq_nil_of_length_eq_zero h0
              rw [e, lvL_nil] at this ⊢
              show 1 + 0 + (kidsP n 1 hd.s hd.bad).2.1.length ≤ _
              omega
            · show 0 + lvL _ + (kidsP n 1 hd.s hd.bad).2.1.length ≤ _
              omega
          · rw [P.lv_mk, lvL_nil]
            simp only [List.length_nil, if_true]
            omega
    · intro way s bad
      rw [kidsP_succ]
      have a1 := i1 s bad
      generalize nodeP n s bad = r at a1
      obtain ⟨a2, a3⟩ := nextP_len [44, endB way] r.2.1 r.2.2
      generalize nextP [44, endB way] r.2.1 r.2.2 = e at a2 a3
      unfold kidsH
      split
      · rename_i hc
        have a4 := i2 way e.2.1 e.2.2
        have a5 := a3 (by rw [hc]; decide)
        rw [lvL_cons]
        show r.1.lv + lvL _ + (kidsP n way e.2.1 e.2.2).2.1.length ≤ _
        omega
      · rw [lvL_cons, lvL_nil]
        show r.1.lv + 0 + e.2.1.length ≤ _
        omega
end Go.Proofs.YtcklmkjlbpjojaaGreatDoor
