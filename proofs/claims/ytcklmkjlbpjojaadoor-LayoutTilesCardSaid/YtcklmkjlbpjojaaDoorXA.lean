/- Layout: Swap. Layout: trees whose rows may share a block: whose each cell is is a ghost word. No program in sight. -/
import Derived.Test.YtcklmkjlbpjojaaDoorE2c
import Derived.Test.YtcklmkjlbpjojaaDoorK
namespace Go.Proofs.YtcklmkjlbpjojaaDoor
open Go.RowKit
set_option linter.unusedSimpArgs false
set_option linter.unusedVariables false

theorem map4_any (z : Int) (w : World) (h0 : 0 ≤ z) (h1 : z ≤ 255) : Calls Tryd.prog 17 #[.int .u8 z] w fun e w' => e = .returned (.int .u8 (if z = 76 then 82 else if z = 82 then 76 else if z = 85 then 68 else if z = 68 then 85 else 0)) ∧ w = w' := by
  by_cases a : z = 76
  · subst a; go_enter Tryd.func17, Tryd.ntmps17; go_wp2; go_ret; exact ⟨rfl, rfl⟩
  by_cases b : z = 82
  · subst b; go_enter Tryd.func17, Tryd.ntmps17; go_wp2; go_ret; exact ⟨rfl, rfl⟩
  by_cases c : z = 85
  · subst c; go_enter Tryd.func17, Tryd.ntmps17; go_wp2; go_ret; exact ⟨rfl, rfl⟩
  by_cases d : z = 68
  · subst d; go_enter Tryd.func17, Tryd.ntmps17; go_wp2; go_ret; exact ⟨rfl, rfl⟩
  rw [if_neg a, if_neg b, if_neg c, if_neg d]
  go_enter Tryd.func17, Tryd.ntmps17
  go_wp2
  go_ret; exact ⟨rfl, rfl⟩

set_option maxHeartbeats 1000000 in
theorem swap_run (base tr : Nat) (t s1 s2 : T) (a b : Int) (w : World) (hT : Tr base w tr t) (hl : t.leaves.length ≤ 100000) (h1 : t.find a = some s1) (h2 : t.find b = some s2) :
    Calls Tryd.prog 15 #[ptr tr, .int .i64 a, .int .i64 b] w fun e w' => e = .returned (.int .i64 0) ∧ ∃ w1, w.grownBy w1 none ∧ w' = ((w1.setCell ⟨s1.g, 0, none⟩ (.int .i64 s2.n.p)).setCell ⟨s2.g, 0, none⟩ (.int .i64 s1.n.p)).drew := by
  have CA := Lib.hid (leaf_any base tr t a w hT hl)
  have CB : Hid (∀ W, w.grownBy W none → Calls Tryd.prog 29 #[ptr tr, .int .i64 b] W fun e w' => e = .returned (uptr ((t.find b).map T.g)) ∧ W.grownBy w' none) := Lib.hid (fun W hg => leaf_any base tr t b W (hT.grown hg) hl)
  rw [h1] at CA
  rw [h2] at CB
  simp only [Option.map_some, uptr] at CA CB
  have m1 := (leaf_c0 hT.p (List.mem_of_find?_eq_some h1))
  have m2 := (leaf_c0 hT.p (List.mem_of_find?_eq_some h2))
  have fz : ∀ (W : World) (s : T), w.grownBy W none → s ∈ t.leaves → W.frozen? ⟨s.g, 0, none⟩ = false := fun W s hg hs => by
    obtain ⟨up', h, _, _⟩ := mem_leaves t W none (hT.p.grown hg) s hs
    cases s with | mk n ks => exact h.at_.free 0
  have e1 := List.mem_of_find?_eq_some h1
  have e2 := List.mem_of_find?_eq_some h2
  replace fz := Lib.hid fz
  replace hT := Lib.hid hT; replace h1 := Lib.hid h1; replace h2 := Lib.hid h2; replace e1 := Lib.hid e1; replace e2 := Lib.hid e2
  unfold ptr at *
  go_enter Tryd.func15, Tryd.ntmps15
  go_wp2_with fail
  refine CA.out.mono ?_
  rintro e w1 ⟨rfl, G1⟩
  go_wp2_with fail
  refine (CB.out _ G1).mono ?_
  rintro e w2 ⟨rfl, G2⟩
  have G := G1.trans G2
  have q1 := G.cell m1 (by simp)
  have q2 := G.cell m2 (by simp)
  have z1 := fz.out w2 s1 G e1.out
  have z2 := fz.out w2 s2 G e2.out
  replace G := Lib.hid G; replace G1 := Lib.hid G1; replace G2 := Lib.hid G2
  clear m1 m2 CA CB fz
  by_cases hne : s1.g = s2.g
  · rw [hne] at q1 z1 ⊢
    go_wp2_with fail
    go_region
    all_goals
      go_wp2_with fail
      go_ret
      exact ⟨rfl, _, G.out, by
        have e : s1.n.p = s2.n.p := by rw [q1] at q2; injection q2 with q2; injection q2 with _ q2
        rw [hne, e]⟩
  · have hne2 : s2.g ≠ s1.g := fun e => hne e.symm
    go_wp2_with fail
    go_region
    all_goals
      go_wp2_with fail
      go_ret
      exact ⟨rfl, _, G.out, rfl⟩
mutual
/-- The panes renamed. -/
def T.re (σ : Int → Int) : T → T
  | .mk n ks => .mk (if ks.length = 0 then { n with p := σ n.p } else n) (reL σ ks)
def reL (σ : Int → Int) : List T → List T
  | [] => []
  | k :: ks => k.re σ :: reL σ ks
end
section
variable {σ : Int → Int}
theorem T.re_mk (n : Nd) (ks : List T) : (T.mk n ks).re σ = .mk (if ks.length = 0 then { n with p := σ n.p } else n) (reL σ ks) := by rw [T.re]
theorem reL_map : ∀ ks : List T, reL σ ks = ks.map (T.re σ)
  | [] => by rw [reL]; rfl
  | k :: ks => by rw [reL, reL_map ks]; rfl
theorem reL_len (ks : List T) : (reL σ ks).length = ks.length := by rw [reL_map]; simp
theorem T.re_re (hσ : ∀ x, σ (σ x) = x) (t : T) : (t.re σ).re σ = t := by
  induction t using T.ind with
  | h n ks ih =>
    rw [T.re_mk, T.re_mk, reL_len, reL_map, reL_map, List.map_map]
    have : ks.map (T.re σ ∘ T.re σ) = ks := by
      conv => rhs; rw [← List.map_id ks]
      exact List.map_congr_left fun k hk => ih k hk
    rw [this]
    split
    · simp [hσ]
    · rfl
theorem T.re_g (t : T) : (t.re σ).g = t.g := by
  cases t; rw [T.re_mk]; simp only [T.g, T.n]; split <;> rfl
theorem T.re_bl (t : T) : (t.re σ).bl = t.bl := by
  induction t using T.ind with
  | h n ks ih =>
    rw [T.re_mk, T.bl_mk, T.bl_mk]
    have : ∀ l : List T, (∀ k ∈ l, (k.re σ).bl = k.bl) → blL (reL σ l) = blL l := by
      intro l
      induction l with
      | nil => intro _; rw [reL]
      | cons k l ih2 => intro h; rw [reL, blL_cons, blL_cons, h k (by simp), ih2 fun k hk => h k (by simp [hk])]
    rw [this ks ih]
    split <;> rfl
theorem reL_ptrs (ks : List T) : ptrs (reL σ ks) = ptrs ks := by
  rw [reL_map]; simp [ptrs, T.re_g]
theorem T.re_leaves (t : T) : (t.re σ).leaves = t.leaves.map (T.re σ) := by
  induction t using T.ind with
  | h n ks ih =>
    rw [T.re_mk, T.leaves_mk, T.leaves_mk, reL_len, List.map_append]
    have : ∀ l : List T, (∀ k ∈ l, (k.re σ).leaves = k.leaves.map (T.re σ)) → leavesL (reL σ l) = (leavesL l).map (T.re σ) := by
      intro l
      induction l with
      | nil => intro _; rw [reL, leavesL_nil]; rfl
      | cons k l ih2 => intro h; rw [reL, leavesL_cons, leavesL_cons, List.map_append, h k (by simp), ih2 fun k hk => h k (by simp [hk])]
    rw [this ks ih]
    split
    · rename_i h; simp [T.re_mk, h]
    · rfl
theorem leaf_re {t s : T} {w : World} {up : Option Nat} (hT : TP w up t) (hs : s ∈ t.leaves) : (s.re σ).n.p = σ s.n.p := by
  obtain ⟨_, _, h, _⟩ := mem_leaves t w up hT s hs
  cases s with | mk n ks => cases h; rw [T.re_mk]; simp [T.n]
theorem find_re {t : T} {w : World} {up : Option Nat} (hT : TP w up t) (hσ : ∀ x, σ (σ x) = x) (p : Int) : (t.re σ).find p = (t.find (σ p)).map (T.re σ) := by
  unfold T.find
  rw [T.re_leaves, List.find?_map]
  congr 1
  have : ∀ l : List T, (∀ s ∈ l, (s.re σ).n.p = σ s.n.p) → l.find? ((fun s => s.n.p == p) ∘ T.re σ) = l.find? (fun s => s.n.p == σ p) := by
    intro l
    induction l with
    | nil => intro _; rfl
    | cons a l ih =>
      intro h
      have e : ((fun s => s.n.p == p) ∘ T.re σ) a = (a.n.p == σ p) := by
        simp only [Function.comp, h a (by simp)]
        rw [Bool.eq_iff_iff]
        simp only [beq_iff_eq]
        constructor
        · intro e; rw [← e, hσ]
        · intro e; rw [e, hσ]
      rw [List.find?_cons, List.find?_cons, e]
      split
      · rfl
      · exact ih fun s hs => h s (by simp [hs])
  exact this _ fun s hs => leaf_re hT hs
theorem TP_re : ∀ (t : T) (up : Option Nat) (w w' : World), TP w up t → t.bl.Nodup →
    (∀ s ∈ t.leaves, ∀ c e f, w.heap[s.g]? = some (.cells c e f) → w'.heap[s.g]? = some (.cells (c.setIfInBounds 0 (.int .i64 (σ s.n.p))) e f)) →
    (∀ b ∈ t.bl, (∀ s ∈ t.leaves, s.g ≠ b) → w'.heap[b]? = w.heap[b]?) → TP w' up (t.re σ) := by
  intro t
  induction t using T.ind with
  | h n ks ih =>
    intro up w w' hT hN h1 h2
    have hA := hT.at_
    rw [T.bl_mk] at hN h2
    have hgA : ∀ b, n.A = some b → b ≠ n.g := fun b hb e => (List.nodup_cons.1 hN).1 (by subst e; simp [hb])
    rw [T.re_mk]
    by_cases hk : ks.length = 0
    · have := List.eq_nil_of_length_eq_zero hk
      subst this
      rw [if_pos hk, reL]
      have hlv : (T.mk n []).leaves = [.mk n []] := by rw [T.leaves_mk, leavesL_nil]; rfl
      rw [hlv] at h1 h2
      refine .mk ⟨?_, ?_⟩ (by rw [TPs]; trivial)
      · exact h1 (.mk n []) (by simp) _ _ _ hA.h
      · refine own_same hA.r fun b hb => ?_
        rw [ownBlock_row] at hb
        replace hb : n.A = some b := hb
        exact h2 b (by simp [hb]) (by intro s hs; simp at hs; subst hs; exact fun e => hgA b hb e.symm)
    · rw [if_neg hk]
      have hlv : (T.mk n ks).leaves = leavesL ks := by rw [T.leaves_mk, if_neg hk]; rfl
      rw [hlv] at h1 h2
      have hsb : ∀ s ∈ leavesL ks, s.g ∈ blL ks := fun s hs => by
        obtain ⟨k, hk, hs⟩ := mem_leavesL.1 hs
        obtain ⟨_, _, _, h⟩ := mem_leaves k w _ (TPs_iff.1 hT.kids k hk) s hs
        exact mem_blL.2 ⟨k, hk, h _ s.g_mem⟩
      have hn1 := (List.nodup_cons.1 hN)
      have hn2 := List.nodup_append.1 hn1.2
      refine .mk ⟨?_, ?_⟩ (TPs_iff.2 fun k' hk' => ?_)
      · rw [reL_len, h2 n.g (by simp) (fun s hs e => hn1.1 (by rw [← e]; simp [hsb s hs]))]; exact hA.h
      · rw [reL_len, reL_ptrs]
        refine own_same hA.r fun b hb => ?_
        rw [ownBlock_row] at hb
        exact h2 b (by simp [hb]) (fun s hs e => hn2.2.2 b (by simp [hb]) _ (hsb s hs) e.symm)
      · rw [reL_map] at hk'
        obtain ⟨k, hk, rfl⟩ := List.mem_map.1 hk'
        have hsub : ∀ s ∈ k.leaves, s ∈ leavesL ks := fun s hs => mem_leavesL.2 ⟨k, hk, hs⟩
        have hkT := TPs_iff.1 hT.kids k hk
        obtain ⟨L, R, rfl⟩ := List.append_of_mem hk
        rw [blL_app, blL_cons] at hn2
        have hn3 := List.nodup_append.1 hn2.2.1
        have hn4 := List.nodup_append.1 hn3.2.1
        refine ih k hk _ w w' hkT hn4.1 (fun s hs => h1 s (hsub s hs)) fun b hb hs => h2 b ?_ ?_
        · simp [blL_app, blL_cons, hb]
        · intro s hs' e
          rw [leavesL_app, leavesL_cons] at hs'
          simp only [List.mem_append] at hs'
          have hx : ∀ l : List T, (∀ k ∈ l, k ∈ L ++ k :: R ∨ True) → s ∈ leavesL l → (∀ j ∈ l, TP w (some n.g) j) → s.g ∈ blL l := fun l _ hs hj => by
            obtain ⟨j, hjl, hs⟩ := mem_leavesL.1 hs
            obtain ⟨_, _, _, h⟩ := mem_leaves j w _ (hj j hjl) s hs
            exact mem_blL.2 ⟨j, hjl, h _ s.g_mem⟩
          rcases hs' with h | h | h
          · have := hx L (fun _ _ => .inr trivial) h (fun j hj => TPs_iff.1 hT.kids j (by simp [hj]))
            rw [e] at this
            exact hn3.2.2 b this b (by simp [hb]) rfl
          · exact hs s h e
          · have := hx R (fun _ _ => .inr trivial) h (fun j hj => TPs_iff.1 hT.kids j (by simp [hj]))
            rw [e] at this
            exact hn4.2.2 b hb b this rfl
end
def sw (a b x : Int) : Int := if x = a then b else if x = b then a else x
theorem sw_sw (a b x : Int) : sw a b (sw a b x) = x := by unfold sw; repeat' split <;> simp_all
theorem nodup_inj {l : List T} (h : (l.map fun s => s.n.p).Nodup) {s s' : T} (hs : s ∈ l) (hs' : s' ∈ l) (e : s.n.p = s'.n.p) : s = s' := by
  induction l with
  | nil => cases hs
  | cons a l ih =>
    rw [List.map_cons, List.nodup_cons] at h
    rcases List.mem_cons.1 hs with h1 | h1 <;> rcases List.mem_cons.1 hs' with h2 | h2
    · rw [h1, h2]
    · exact absurd (show a.n.p ∈ l.map (fun s => s.n.p) from List.mem_map.2 ⟨s', h2, by rw [← e, h1]⟩) h.1
    · exact absurd (show a.n.p ∈ l.map (fun s => s.n.p) from List.mem_map.2 ⟨s, h1, by rw [e, h2]⟩) h.1
    · exact ih h.2 h1 h2
theorem swap_any (base tr : Nat) (t s1 s2 : T) (a b : Int) (w : World) (hT : Tr base w tr t) (hbase : base ≤ w.heap.size) (hl : t.leaves.length ≤ 100000) (hn : (t.leaves.map fun s => s.n.p).Nodup) (h1 : t.find a = some s1) (h2 : t.find b = some s2) :
    Calls Tryd.prog 15 #[ptr tr, .int .i64 a, .int .i64 b] w fun e w' => e = .returned (.int .i64 0) ∧ Tr base w' tr (t.re (sw a b)) ∧ Below base w w' ∧ Off t.bl w w' := by
  refine (swap_run base tr t s1 s2 a b w hT hl h1 h2).mono ?_
  rintro e w' ⟨rfl, w1, hg, rfl⟩
  have m1 := List.mem_of_find?_eq_some h1
  have m2 := List.mem_of_find?_eq_some h2
  have p1 : s1.n.p = a := by simpa using List.find?_some h1
  have p2 : s2.n.p = b := by simpa using List.find?_some h2
  have hT1 := hT.grown hg
  have hin : ∀ s ∈ t.leaves, s.g ∈ t.bl := fun s hs => by
    obtain ⟨_, _, _, h⟩ := mem_leaves t w _ hT.p s hs
    exact h _ s.g_mem
  have o2 : Off [s1.g, s2.g] w1 ((w1.setCell ⟨s1.g, 0, none⟩ (.int .i64 s2.n.p)).setCell ⟨s2.g, 0, none⟩ (.int .i64 s1.n.p)).drew :=
    (((Off.set w1 ⟨s1.g, 0, none⟩ (.int .i64 s2.n.p)).sub (S' := [s1.g, s2.g]) (by simp)).trans (Off.set _ ⟨s2.g, 0, none⟩ _) (by simp)).trans (Off.drew (S := []) _) (by simp)
  have hne : ∀ s ∈ t.leaves, s.g ≠ tr := fun s hs e => hT.nt (by rw [← e]; exact hin s hs)
  refine ⟨rfl, ⟨?_, ?_, by rw [T.re_bl]; exact hT.nd, by rw [T.re_bl]; exact hT.nt, by rw [T.re_bl]; exact hT.lo⟩, ?_, (Off.of_grown (S := t.bl) hg).trans o2 (by intro b hb; simp at hb; rcases hb with rfl | rfl; exact .inl (hin _ m1); exact .inl (hin _ m2))⟩
  · rw [T.re_g, o2.block tr hT1.lt (by simp; exact ⟨fun e => hne s1 m1 e.symm, fun e => hne s2 m2 e.symm⟩)]; exact hT1.h
  · refine TP_re t none w1 _ hT1.p hT.nd ?_ ?_
    · intro s hs c e f hc
      have c0 := leaf_c0 hT1.p hs
      have hs0 : c[0]? = some (Value.int .i64 s.n.p) := by
        have := c0
        unfold World.cell? at this
        rw [hc] at this
        simpa using this
      have c1 := leaf_c0 hT1.p m1
      have c2 := leaf_c0 hT1.p m2
      show ((w1.setCell ⟨s1.g, 0, none⟩ (.int .i64 s2.n.p)).setCell ⟨s2.g, 0, none⟩ (.int .i64 s1.n.p)).heap[s.g]? = _
      by_cases e2 : s.g = s2.g
      · have hp : s.n.p = b := by
          rw [e2, c2] at c0; injection c0 with c0; injection c0 with _ c0; rw [← c0]; exact p2
        have hσ : sw a b s.n.p = a := by rw [hp]; unfold sw; split <;> simp_all
        rw [hσ]
        by_cases e1 : s.g = s1.g
        · have := heap_set (j := 0) (heap_set (j := 0) hc (.int .i64 s2.n.p)) (.int .i64 s1.n.p)
          rw [← e1, ← e2, this, p1]
          simp
        · rw [← e2]
          have h3 : (w1.setCell ⟨s1.g, 0, none⟩ (.int .i64 s2.n.p)).heap[s.g]? = some (.cells c e f) := by rw [Below.heap_setCell _ _ _ _ (by exact e1)]; exact hc
          rw [heap_set (j := 0) h3, p1]
      · rw [Below.heap_setCell _ _ _ _ (by exact e2)]
        by_cases e1 : s.g = s1.g
        · have hp : s.n.p = a := by
            rw [e1, c1] at c0; injection c0 with c0; injection c0 with _ c0; rw [← c0]; exact p1
          have hσ : sw a b s.n.p = b := by rw [hp]; unfold sw; simp
          rw [hσ, ← e1, heap_set (j := 0) hc, p2]
        · rw [Below.heap_setCell _ _ _ _ (by exact e1), hc]
          have hσ : sw a b s.n.p = s.n.p := by
            unfold sw
            rw [if_neg (fun e => e1 (by rw [nodup_inj hn hs m1 (by rw [e, p1])])), if_neg (fun e => e2 (by rw [nodup_inj hn hs m2 (by rw [e, p2])]))]
          rw [hσ]
          congr 2
          rw [Array.ext_iff]
          refine ⟨by simp, fun i h1 h2 => ?_⟩
          rw [Array.getElem_setIfInBounds]
          split
          · rename_i h; subst h; rw [Array.getElem?_eq_getElem h1] at hs0; exact Option.some.inj hs0
          · rfl
    · intro b' hb' hs
      exact o2.block b' (hT1.p.lt _ _ b' hb') (by simp; exact ⟨fun e => hs s1 m1 e.symm, fun e => hs s2 m2 e.symm⟩)
  · have b1 : Below base w w1 := ⟨hg.os, hg.tape, hg.output, hg.size, fun k hk => hg.block k (by omega) (by simp)⟩
    exact b1.trans (o2.below (by intro b hb; simp at hb; rcases hb with rfl | rfl; exact hT.lo.2 _ (hin _ m1); exact hT.lo.2 _ (hin _ m2)) (by have := hg.size; omega))
end Go.Proofs.YtcklmkjlbpjojaaDoor
namespace Go.Proofs.YtcklmkjlbpjojaaDoor.X
open Go.RowKit
set_option linter.unusedSimpArgs false
set_option linter.unusedVariables false

/-- Whose each cell is (a block's own, but in a block that rows share), and where each row begins. -/
structure Gh where
  κ : Nat → Nat → Nat
  α : Nat → Nat × Nat
  m : Nat
  lo : Nat
  ok : ∀ k o, κ k o = k ∨ (κ k o < m ∧ k < m)
  ol : ∀ k o, κ k o = k ∨ (lo ≤ κ k o ∧ lo ≤ k)
  fa : ∀ k, m ≤ k → α k = (k, 0)
structure Gh.wh (G : Gh) (k : Nat) : Prop where
  κ : ∀ o, G.κ k o = k
  α : G.α k = (k, 0)
theorem Gh.fresh (G : Gh) {k : Nat} (h : G.m ≤ k) : G.wh k := ⟨fun o => by rcases G.ok k o with e | e; exact e; omega, G.fa k h⟩
theorem Gh.below (G : Gh) {k : Nat} (h : k < G.lo) (o : Nat) : G.κ k o = k := by rcases G.ol k o with e | e; exact e; omega
/-- No row shares a block. -/
def gh0 (lo : Nat) : Gh := ⟨fun k _ => k, fun k => (k, 0), 0, lo, fun _ _ => .inl rfl, fun _ _ => .inl rfl, fun _ _ => rfl⟩
theorem gh0_wh (lo k : Nat) : (gh0 lo).wh k := ⟨fun _ => rfl, rfl⟩

def adr (G : Gh) (A : Option Nat) : Option Addr := A.map fun b => ⟨(G.α b).1, (G.α b).2, none⟩
def row (G : Gh) (n : Nd) (k : Nat) : Value := .slice (adr G n.A) k n.c

/-- n words lie in block B from place o on, with room for c. -/
structure PRow (w : World) (B o c n : Nat) (xs : List Value) (cur : List Value) : Prop where
  h : w.heap[B]? = some (.cells cur.toArray 55 (0, 0))
  nc : n ≤ c
  cm : c ≤ 9223372036854775807
  oc : o + c ≤ cur.length
  xs : (cur.drop o).take n = xs
theorem PRow.cell {w : World} {B o c n : Nat} {xs cur : List Value} (h : PRow w B o c n xs cur) {j : Nat} {v : Value} (hj : xs[j]? = some v) : w.cell? ⟨B, o + j, none⟩ = some v := by
  have h1 := h.xs
  subst h1
  rw [List.getElem?_take] at hj
  split at hj
  · rw [List.getElem?_drop] at hj
    unfold World.cell?; rw [h.h]; simpa using hj
  · cases hj
theorem PRow.some {w : World} {B o c n : Nat} {xs cur : List Value} (h : PRow w B o c n xs cur) {j : Nat} (hj : j < c) : ∃ v, w.cell? ⟨B, o + j, none⟩ = some v := by
  have := h.oc
  refine ⟨cur[o + j]'(by omega), ?_⟩
  unfold World.cell?; rw [h.h]; simp
theorem PRow.free {w : World} {B o c n : Nat} {xs cur : List Value} (h : PRow w B o c n xs cur) (j : Nat) : w.frozen? ⟨B, j, none⟩ = false := by
  unfold World.frozen?; rw [h.h]; simp
theorem PRow.len {w : World} {B o c n : Nat} {xs cur : List Value} (h : PRow w B o c n xs cur) : xs.length = n := by
  have := h.nc; have := h.oc
  rw [← h.xs, List.length_take, List.length_drop]; omega
/-- A row of a tree's. -/
def RowAt (G : Gh) (w : World) (A : Option Nat) (c n : Nat) (xs : List Value) : Prop :=
  xs.length = n ∧ ((A = none ∧ c = 0 ∧ n = 0) ∨ ∃ b cur, A = some b ∧ b < w.heap.size ∧ (∃ o, G.κ (G.α b).1 o = b) ∧ PRow w (G.α b).1 (G.α b).2 c n xs cur ∧ ∀ j, j < c → G.κ (G.α b).1 ((G.α b).2 + j) = b)

/-- A node in memory. -/
structure At (G : Gh) (w : World) (up : Option Nat) (n : Nd) (ks : List T) : Prop where
  h : w.heap[n.g]? = some (.cells #[.int .i64 n.p, .int .i64 n.x, .int .i64 n.y, .int .i64 n.a, .int .i64 n.b, .int .i64 n.way, row G n ks.length, uptr up] 58 (0, 0))
  q : G.wh n.g
  r : RowAt G w n.A n.c ks.length (ptrs ks)
  m : G.m ≤ w.heap.size
mutual
/-- The tree t lies in memory, below 'up'. -/
def TP (G : Gh) (w : World) : Option Nat → T → Prop
  | up, .mk n ks => At G w up n ks ∧ TPs G w (some n.g) ks
def TPs (G : Gh) (w : World) : Option Nat → List T → Prop
  | _, [] => True
  | up, k :: ks => TP G w up k ∧ TPs G w up ks
end
section
variable {G : Gh}
theorem TPs_iff {w : World} {up : Option Nat} : ∀ {ks : List T}, TPs G w up ks ↔ ∀ k ∈ ks, TP G w up k
  | [] => by simp [TPs]
  | k :: ks => by rw [TPs, TPs_iff]; simp
theorem TPs_app {w : World} {up : Option Nat} {l r : List T} : TPs G w up (l ++ r) ↔ TPs G w up l ∧ TPs G w up r := by
  simp only [TPs_iff, List.mem_append]
  exact ⟨fun h => ⟨fun k hk => h k (.inl hk), fun k hk => h k (.inr hk)⟩, fun h k hk => hk.elim (h.1 k) (h.2 k)⟩
theorem TP.mk {w : World} {up : Option Nat} {n : Nd} {ks : List T} (h : At G w up n ks) (hk : TPs G w (some n.g) ks) : TP G w up (.mk n ks) := by rw [TP]; exact ⟨h, hk⟩
theorem TP.at_ {w : World} {up : Option Nat} {n : Nd} {ks : List T} (h : TP G w up (.mk n ks)) : At G w up n ks := by rw [TP] at h; exact h.1
theorem TP.kids {w : World} {up : Option Nat} {n : Nd} {ks : List T} (h : TP G w up (.mk n ks)) : TPs G w (some n.g) ks := by rw [TP] at h; exact h.2
theorem TP.atn {w : World} {up : Option Nat} {t : T} (h : TP G w up t) : At G w up t.n t.ks := by cases t; exact h.at_
theorem TP.m {w : World} {up : Option Nat} {t : T} (h : TP G w up t) : G.m ≤ w.heap.size := h.atn.m

/-- The cells of b are as they were. -/
def Kp (G : Gh) (w w' : World) (b : Nat) : Prop :=
  ∀ k c e, (∃ o, G.κ k o = b) → w.heap[k]? = some (.cells c e (0, 0)) → ∃ c', w'.heap[k]? = some (.cells c' e (0, 0)) ∧ c'.size = c.size ∧ ∀ o, G.κ k o = b → c'[o]? = c[o]?
theorem Kp.of_heap {w w' : World} (h : ∀ k, k < w.heap.size → w'.heap[k]? = w.heap[k]?) (b : Nat) : Kp G w w' b := fun k c e _ hk => ⟨c, (h k (lt_of_heap hk)).trans hk, rfl, fun _ _ => rfl⟩
theorem Kp.node {w w' : World} {b : Nat} {c : Array Value} {e : TypeId} (h : Kp G w w' b) (q : G.wh b) (hk : w.heap[b]? = some (.cells c e (0, 0))) : w'.heap[b]? = some (.cells c e (0, 0)) := by
  obtain ⟨c', h1, h2, h3⟩ := h b c e ⟨0, q.κ 0⟩ hk
  have : c' = c := by
    apply Array.ext h2
    intro i hi hj
    have := h3 i (q.κ i)
    rw [Array.getElem?_eq_getElem hi, Array.getElem?_eq_getElem hj] at this
    exact Option.some.inj this
  rw [h1, this]

/-- What w' and w agree on: all but what is S's. -/
structure Off (G : Gh) (S : List Nat) (w w' : World) : Prop where
  os : w'.os = w.os
  tape : w'.tape = w.tape
  output : w'.output = w.output
  size : w.heap.size ≤ w'.heap.size
  block : ∀ k, k < w.heap.size → (∀ o, G.κ k o ∉ S) → w'.heap[k]? = w.heap[k]?
  part : ∀ k c e, w.heap[k]? = some (.cells c e (0, 0)) → ∃ c', w'.heap[k]? = some (.cells c' e (0, 0)) ∧ c'.size = c.size ∧ ∀ o, G.κ k o ∉ S → c'[o]? = c[o]?
  m : G.m ≤ w.heap.size
variable {w w' w'' : World} {S S' : List Nat}
theorem Off.refl (S : List Nat) (w : World) (hm : G.m ≤ w.heap.size) : Off G S w w := ⟨rfl, rfl, rfl, Nat.le_refl _, fun _ _ _ => rfl, fun _ c _ h => ⟨c, h, rfl, fun _ _ => rfl⟩, hm⟩
theorem Off.trans (h : Off G S w w') (k : Off G S' w' w'') (hs : ∀ b ∈ S', b ∈ S ∨ w.heap.size ≤ b) : Off G S w w'' := by
  have key : ∀ j, j < w.heap.size → ∀ o, G.κ j o ∉ S → G.κ j o ∉ S' := fun j hj o hn hm => by
    rcases hs _ hm with h1 | h1
    · exact hn h1
    · have := h.m
      rcases G.ok j o with e | e <;> omega
  refine ⟨k.os.trans h.os, k.tape.trans h.tape, k.output.trans h.output, Nat.le_trans h.size k.size, fun b hb hn => ?_, fun j c e hj => ?_, h.m⟩
  · exact (k.block b (Nat.lt_of_lt_of_le hb h.size) fun o => key b hb o (hn o)).trans (h.block b hb hn)
  · obtain ⟨c1, h1, h2, h3⟩ := h.part j c e hj
    obtain ⟨c2, k1, k2, k3⟩ := k.part j c1 e h1
    exact ⟨c2, k1, k2.trans h2, fun o ho => (k3 o (key j (lt_of_heap hj) o ho)).trans (h3 o ho)⟩
theorem Off.sub (h : Off G S w w') (hs : ∀ b ∈ S, b ∈ S' ∨ w.heap.size ≤ b) : Off G S' w w' := (Off.refl S' w h.m).trans h hs
theorem Off.of_grown (hm : G.m ≤ w.heap.size) (h : w.grownBy w' none) : Off G S w w' :=
  ⟨h.os, h.tape, h.output, h.size, fun k hk _ => h.block k hk (by simp), fun k c e hk => ⟨c, (h.block k (lt_of_heap hk) (by simp)).trans hk, rfl, fun _ _ => rfl⟩, hm⟩
theorem Off.grown (h : Off G S w w') (hs : ∀ b ∈ S, w.heap.size ≤ b) : w.grownBy w' none := ⟨h.os, h.tape, h.output, h.size, fun k hk _ => h.block k hk fun o hm => by
  have := hs _ hm; have := h.m
  rcases G.ok k o with e | e <;> omega⟩
theorem Off.below {B : Nat} (h : Off G S w w') (hs : ∀ b ∈ S, B ≤ b) (hB : B ≤ w.heap.size) (hl : B ≤ G.lo) : Below B w w' := ⟨h.os, h.tape, h.output, h.size, fun k hk => h.block k (by omega) fun o hm => by
  have := hs _ hm
  rw [G.below (Nat.lt_of_lt_of_le hk hl) o] at this; omega⟩
theorem Off.wh (h : Off G S w w') {k : Nat} (q : G.wh k) (hk : k < w.heap.size) (hn : k ∉ S) : w'.heap[k]? = w.heap[k]? := h.block k hk fun o => by rw [q.κ]; exact hn
theorem Off.kp (h : Off G S w w') {b : Nat} (hb : b ∉ S) : Kp G w w' b := fun k c e _ hk => by
  obtain ⟨c', h1, h2, h3⟩ := h.part k c e hk
  exact ⟨c', h1, h2, fun o ho => h3 o (by rw [ho]; exact hb)⟩
theorem Off.set (hm : G.m ≤ w.heap.size) (a : Addr) (v : Value) : Off G [G.κ a.block a.off] w (w.setCell a v) := by
  refine ⟨rfl, rfl, rfl, by simp, fun k hk hn => ?_, fun k c e hk => ?_, hm⟩
  · have hne : a.block ≠ k := by
      rintro rfl
      exact hn a.off (by simp)
    unfold World.setCell
    simp only [Array.getElem?_modify]
    rw [if_neg hne]
  · unfold World.setCell
    simp only [Array.getElem?_modify]
    by_cases hne : a.block = k
    · rw [if_pos hne, hk]
      refine ⟨_, rfl, by split <;> simp, fun o ho => ?_⟩
      split
      · rfl
      · rw [Array.getElem?_setIfInBounds]
        split
        · rename_i e2
          exact absurd (by rw [← e2, hne]; simp) ho
        · rfl
    · rw [if_neg hne]
      exact ⟨c, hk, rfl, fun _ _ => rfl⟩
theorem Off.setw (hm : G.m ≤ w.heap.size) {k : Nat} (q : G.wh k) (o : Nat) (v : Value) : Off G [k] w (w.setCell ⟨k, o, none⟩ v) := by
  have := Off.set (G := G) hm ⟨k, o, none⟩ v
  rwa [show G.κ (⟨k, o, none⟩ : Addr).block (⟨k, o, none⟩ : Addr).off = k from q.κ o] at this
theorem Off.alloc (hm : G.m ≤ w.heap.size) (o : Obj) : Off G S w (w.alloc o) := Off.of_grown hm (World.grownBy_alloc w o none)
theorem Off.drew (hm : G.m ≤ w.heap.size) : Off G S w w.drew := ⟨rfl, rfl, rfl, Nat.le_refl _, fun _ _ _ => rfl, fun _ c _ h => ⟨c, h, rfl, fun _ _ => rfl⟩, hm⟩
theorem Off.m' (h : Off G S w w') : G.m ≤ w'.heap.size := Nat.le_trans h.m h.size
/-- The like of an elder word about whole blocks, where nothing of S has cells in shared blocks. -/
theorem Off.congr_heap (h : Off G S w w') {v : World} (e : v.heap = w.heap) (e2 : v.os = w.os) (e3 : v.tape = w.tape) (e4 : v.output = w.output) : Off G S v w' := by
  refine ⟨h.os.trans e2.symm, h.tape.trans e3.symm, h.output.trans e4.symm, by rw [e]; exact h.size, fun k => ?_, fun k c d => ?_, by rw [e]; exact h.m⟩
  · rw [e]; exact h.block k
  · rw [e]; exact h.part k c d
theorem Off.undrew (h : Off G S w.drew w') : Off G S w w' := ⟨h.os, h.tape, h.output, h.size, h.block, h.part, h.m⟩

variable {up : Option Nat} {n : Nd} {ks : List T}
theorem At.lt (h : At G w up n ks) : ∀ b ∈ n.g :: n.A.toList, b < w.heap.size := by
  intro b hb
  rcases List.mem_cons.1 hb with rfl | hb
  · exact lt_of_heap h.h
  · rcases h.r.2 with ⟨h1, _⟩ | ⟨b', cur, h1, h2, _⟩
    · rw [h1] at hb; simp at hb
    · rw [h1] at hb; simp at hb; rw [hb]; exact h2
theorem RowAt.same {A : Option Nat} {c k : Nat} {xs : List Value} (h : RowAt G w A c k xs) (hsz : w.heap.size ≤ w'.heap.size) (hs : ∀ b, A = some b → Kp G w w' b) : RowAt G w' A c k xs := by
  refine ⟨h.1, ?_⟩
  rcases h.2 with h1 | ⟨b, cur, h1, h2, h3, h4, h5⟩
  · exact .inl h1
  · refine .inr ⟨b, ?_⟩
    obtain ⟨c', q1, q2, q3⟩ := hs b h1 (G.α b).1 cur.toArray 55 h3 h4.h
    have hoc := h4.oc
    have hnc := h4.nc
    have q2' : c'.size = cur.length := by simpa using q2
    refine ⟨c'.toList, h1, Nat.lt_of_lt_of_le h2 hsz, h3, ⟨by simpa using q1, h4.nc, h4.cm, by simp; omega, ?_⟩, h5⟩
    rw [← h4.xs]
    refine List.ext_getElem? fun j => ?_
    rw [List.getElem?_take, List.getElem?_take]
    split
    · rename_i hj
      rw [List.getElem?_drop, List.getElem?_drop]
      have := q3 ((G.α b).2 + j) (h5 j (by omega))
      simpa using this
    · rfl
theorem At.same (h : At G w up n ks) (hsz : w.heap.size ≤ w'.heap.size) (hs : ∀ b ∈ n.g :: n.A.toList, Kp G w w' b) : At G w' up n ks :=
  ⟨(hs n.g (by simp)).node h.q h.h, h.q, h.r.same hsz fun b hb => hs b (by simp [hb]), Nat.le_trans h.m hsz⟩
theorem At.off (h : At G w up n ks) (ho : Off G S w w') (hn : ∀ b ∈ n.g :: n.A.toList, b ∉ S) : At G w' up n ks := h.same ho.size fun b hb => ho.kp (hn b hb)
theorem At.drew (h : At G w up n ks) : At G w.drew up n ks := h.same (Nat.le_refl _) fun _ _ => Kp.of_heap (fun _ _ => rfl) _
theorem TP.same : ∀ (t : T) (up : Option Nat), TP G w up t → w.heap.size ≤ w'.heap.size → (∀ b ∈ t.bl, Kp G w w' b) → TP G w' up t := by
  intro t
  induction t using T.ind with
  | h n ks ih =>
    intro up h hsz hs
    rw [T.bl_mk] at hs
    refine .mk (h.at_.same hsz fun b hb => hs b ?_) (TPs_iff.2 fun k hk => ih k hk _ (TPs_iff.1 h.kids k hk) hsz fun b hb => hs b ?_)
    · rcases List.mem_cons.1 hb with rfl | hb
      · simp
      · simp [List.mem_append, Option.mem_toList.1 hb]
    · simp only [List.mem_cons, List.mem_append]
      exact .inr (.inr (mem_blL.2 ⟨k, hk, hb⟩))
theorem TP.lt : ∀ (t : T) (up : Option Nat), TP G w up t → ∀ b ∈ t.bl, b < w.heap.size := by
  intro t
  induction t using T.ind with
  | h n ks ih =>
    intro up h b hb
    rw [T.bl_mk] at hb
    simp only [List.mem_cons, List.mem_append] at hb
    rcases hb with rfl | hb | hb
    · exact h.at_.lt _ (by simp)
    · exact h.at_.lt _ (by simp [Option.mem_toList.1 hb])
    · obtain ⟨k, hk, hb⟩ := mem_blL.1 hb
      exact ih k hk _ (TPs_iff.1 h.kids k hk) b hb
theorem TP.off {t : T} (h : TP G w up t) (ho : Off G S w w') (hd : ∀ b ∈ t.bl, b ∉ S) : TP G w' up t := h.same _ _ ho.size fun b hb => ho.kp (hd b hb)
theorem TPs.off (h : TPs G w up ks) (ho : Off G S w w') (hd : ∀ b ∈ blL ks, b ∉ S) : TPs G w' up ks :=
  TPs_iff.2 fun k hk => (TPs_iff.1 h k hk).off ho fun b hb => hd b (mem_blL.2 ⟨k, hk, hb⟩)
theorem TP.grown {t : T} (h : TP G w up t) (ho : w.grownBy w' none) : TP G w' up t := h.same _ _ ho.size fun b _ => Kp.of_heap (fun k hk => ho.block k hk (by simp)) b
theorem TP.below {t : T} (h : TP G w up t) (ho : Below w.heap.size w w') : TP G w' up t := h.same _ _ ho.size fun b _ => Kp.of_heap (fun k hk => ho.block k hk) b
theorem TP.heap {t : T} (h : TP G w up t) (e : w'.heap = w.heap) : TP G w' up t := h.same _ _ (by rw [e]; exact Nat.le_refl _) fun b _ => Kp.of_heap (fun k hk => by rw [e]) b
theorem TPs.heap (h : TPs G w up ks) (e : w'.heap = w.heap) : TPs G w' up ks := TPs_iff.2 fun k hk => (TPs_iff.1 h k hk).heap e
theorem TPs.m0 (h : TPs G w up ks) : ks = [] ∨ G.m ≤ w.heap.size := by
  cases ks with
  | nil => exact .inl rfl
  | cons k ks => exact .inr (TPs_iff.1 h k (by simp)).m

-- a node's cells
theorem At.cell (h : At G w up n ks) (j : Nat) : w.cell? ⟨n.g, j, none⟩ = #[Value.int .i64 n.p, .int .i64 n.x, .int .i64 n.y, .int .i64 n.a, .int .i64 n.b, .int .i64 n.way, row G n ks.length, uptr up][j]? := by
  simp [World.cell?, h.h]
theorem At.free (h : At G w up n ks) (j : Nat) : w.frozen? ⟨n.g, j, none⟩ = false := by
  simp [World.frozen?, h.h]
theorem At.c0 (h : At G w up n ks) : w.cell? ⟨n.g, 0, none⟩ = some (.int .i64 n.p) := h.cell 0
theorem At.c1 (h : At G w up n ks) : w.cell? ⟨n.g, 1, none⟩ = some (.int .i64 n.x) := h.cell 1
theorem At.c2 (h : At G w up n ks) : w.cell? ⟨n.g, 2, none⟩ = some (.int .i64 n.y) := h.cell 2
theorem At.c3 (h : At G w up n ks) : w.cell? ⟨n.g, 3, none⟩ = some (.int .i64 n.a) := h.cell 3
theorem At.c4 (h : At G w up n ks) : w.cell? ⟨n.g, 4, none⟩ = some (.int .i64 n.b) := h.cell 4
theorem At.c5 (h : At G w up n ks) : w.cell? ⟨n.g, 5, none⟩ = some (.int .i64 n.way) := h.cell 5
theorem At.c6 (h : At G w up n ks) : w.cell? ⟨n.g, 6, none⟩ = some (.slice (adr G n.A) ks.length n.c) := h.cell 6
theorem At.c7 (h : At G w up n ks) : w.cell? ⟨n.g, 7, none⟩ = some (uptr up) := h.cell 7
/-- The row, where there is a kid. -/
theorem At.kid (h : At G w up n ks) {i : Nat} {k : T} (hk : ks[i]? = some k) : ∃ b B o cur, n.A = some b ∧ G.α b = (B, o) ∧ adr G n.A = some ⟨B, o, none⟩ ∧ PRow w B o n.c ks.length (ptrs ks) cur ∧ (∀ j, j < n.c → G.κ B (o + j) = b) ∧ w.cell? ⟨B, o + i, none⟩ = some (ptr k.g) := by
  rcases h.r.2 with ⟨_, _, h0⟩ | ⟨b, cur, h1, h2, h3, h4, h5⟩
  · have := (List.getElem?_eq_some_iff.1 hk).1; omega
  · refine ⟨b, (G.α b).1, (G.α b).2, cur, h1, rfl, by unfold adr; rw [h1]; rfl, h4, h5, h4.cell ?_⟩
    simp [ptrs, hk]
/-- Where kid i lies. -/
theorem At.kidc (h : At G w up n ks) {i : Nat} {k : T} (hk : ks[i]? = some k) : ∃ B o, adr G n.A = some ⟨B, o, none⟩ ∧ w.cell? ⟨B, o + i, none⟩ = some (ptr k.g) := by
  obtain ⟨_, B, o, _, _, _, h1, _, _, h2⟩ := h.kid hk
  exact ⟨B, o, h1, h2⟩
theorem At.rd (h : At G w up n ks) : Rd w (adr G n.A) (ptrs ks) := fun hx => by
  have hne : ks ≠ [] := by rintro rfl; exact hx rfl
  obtain ⟨k, hk⟩ : ∃ k, ks[0]? = some k := by
    cases ks with
    | nil => exact absurd rfl hne
    | cons k ks => exact ⟨k, rfl⟩
  obtain ⟨_, B, o, _, _, _, h1, h2, _, h3⟩ := h.kid hk
  refine ⟨B, o, h1, lt_of_heap h2.h, fun j u hj => h2.cell hj⟩
theorem At.small (h : At G w up n ks) : ks.length ≤ 9223372036854775807 := by
  rcases h.r.2 with ⟨_, _, h0⟩ | ⟨b, cur, h1, h2, h3, h4, h5⟩
  · omega
  · have := h4.nc; have := h4.cm; omega
theorem At.congr {ks' : List T} (h : At G w up n ks) (e : ptrs ks' = ptrs ks) : At G w up n ks' := by
  have hl : ks'.length = ks.length := by have := congrArg List.length e; simpa [ptrs] using this
  exact ⟨by rw [hl]; exact h.h, h.q, by rw [hl, e]; exact h.r, h.m⟩
/-- A node whose own cells were turned. -/
theorem At.upd {up' : Option Nat} {n' : Nd} {ks' : List T} (h : At G w up n ks) (hg : n'.g = n.g) (hA : n'.A = n.A) (hc : n'.c = n.c) (hk : ptrs ks' = ptrs ks) (ho : Off G [n.g] w w')
    (hh : w'.heap[n.g]? = some (.cells #[.int .i64 n'.p, .int .i64 n'.x, .int .i64 n'.y, .int .i64 n'.a, .int .i64 n'.b, .int .i64 n'.way, row G n' ks'.length, uptr up'] 58 (0, 0))) (hAg : n.A ≠ some n.g) : At G w' up' n' ks' := by
  have hl : ks'.length = ks.length := by have := congrArg List.length hk; simpa [ptrs] using this
  refine ⟨by rw [hg]; exact hh, by rw [hg]; exact h.q, ?_, ho.m'⟩
  rw [hA, hc, hl, hk]
  exact h.r.same ho.size fun b hb => ho.kp (by simp; rintro rfl; exact hAg hb)
theorem At.setXY (h : At G w up n ks) (hAg : n.A ≠ some n.g) (x y : Int) :
    At G ((w.setCell ⟨n.g, 1, none⟩ (.int .i64 x)).setCell ⟨n.g, 2, none⟩ (.int .i64 y)) up { n with x := x, y := y } ks :=
  h.upd rfl rfl rfl rfl ((Off.setw h.m h.q 1 _).trans (Off.setw (by simpa using h.m) h.q 2 _) (by simp)) (heap_set (heap_set h.h _) _) hAg
theorem TP.isC {t : T} (h : TP G w up t) : IsC w t.g := by
  cases t with | mk n ks => exact ⟨_, _, h.at_.h⟩
theorem TP.reup {up' : Option Nat} {t : T} (h : TP G w up t) (nd : t.bl.Nodup) : TP G (w.setCell ⟨t.g, 7, none⟩ (uptr up')) up' t ∧ Off G [t.g] w (w.setCell ⟨t.g, 7, none⟩ (uptr up')) := by
  cases t with | mk n ks =>
    rw [T.bl_mk] at nd
    have h1 := (List.nodup_cons.1 nd).1
    have o : Off G [n.g] w (w.setCell ⟨n.g, 7, none⟩ (uptr up')) := Off.setw h.m h.at_.q 7 _
    refine ⟨.mk (h.at_.upd rfl rfl rfl rfl o ?_ ?_) (h.kids.off o ?_), o⟩
    · have := heap_set (j := 7) h.at_.h (uptr up')
      exact this
    · intro e; exact h1 (by rw [e]; simp)
    · intro b hb; simp only [List.mem_singleton]; rintro rfl; exact h1 (by simp [hb])
end
end Go.Proofs.YtcklmkjlbpjojaaDoor.X
