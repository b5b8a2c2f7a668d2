/- Layout: Swap and tiles, of a tree whose rows may share a block. -/
import Derived.Test.YtcklmkjlbpjojaaDoorXD
import Derived.Test.YtcklmkjlbpjojaaDoorT2
namespace Go.Proofs.YtcklmkjlbpjojaaDoor.X
open Go.RowKit
set_option linter.unusedSimpArgs false
set_option linter.unusedVariables false
variable {G : Gh}

set_option maxHeartbeats 1000000 in
theorem swap_run (base tr : Nat) (t s1 s2 : T) (a b : Int) (w : World) (hT : Tr G base w tr t) (hl : t.leaves.length ≤ 100000) (h1 : t.find a = some s1) (h2 : t.find b = some s2) :
    Calls Tryd.prog 15 #[ptr tr, .int .i64 a, .int .i64 b] w fun e w' => e = .returned (.int .i64 0) ∧ ∃ w1, w.grownBy w1 none ∧ w' = ((w1.setCell ⟨s1.g, 0, none⟩ (.int .i64 s2.n.p)).setCell ⟨s2.g, 0, none⟩ (.int .i64 s1.n.p)).drew := by
  have CA := Lib.hid (leaf_any base tr t a w hT hl)
  have CB : Hid (∀ W, w.grownBy W none → Calls Tryd.prog 29 #[ptr tr, .int .i64 b] W fun e w' => e = .returned (uptr ((t.find b).map T.g)) ∧ W.grownBy w' none) := Lib.hid (fun W hg => leaf_any base tr t b W (hT.grown hg) hl)
  rw [h1] at CA
  rw [h2] at CB
  simp only [Option.map_some, uptr] at CA CB
  have m1 := (leaf_c0 hT.p (List.mem_of_find?_eq_some h1))
  have m2 := (leaf_c0 hT.p (List.mem_of_find?_eq_some h2))
  have fz : ∀ (W : World) (s : T), w.grownBy W none → s ∈ t.leaves → W.frozen? ⟨s.g, 0, none⟩ = false := fun W s hg hs => by
    obtain ⟨up', h, _, _⟩ := mem_leaves t W none (hT.p.grown hg) s hs
    cases s with | mk n ks => exact h.at_.free 0
  have e1 := List.mem_of_find?_eq_some h1
  have e2 := List.mem_of_find?_eq_some h2
  replace fz := Lib.hid fz
  replace hT := Lib.hid hT; replace h1 := Lib.hid h1; replace h2 := Lib.hid h2; replace e1 := Lib.hid e1; replace e2 := Lib.hid e2
  unfold ptr at *
  go_enter Tryd.func15, Tryd.ntmps15
  go_wp2_with fail
  refine CA.out.mono ?_
  rintro e w1 ⟨rfl, G1⟩
  go_wp2_with fail
  refine (CB.out _ G1).mono ?_
  rintro e w2 ⟨rfl, G2⟩
  have G := G1.trans G2
  have q1 := G.cell m1 (by simp)
  have q2 := G.cell m2 (by simp)
  have z1 := fz.out w2 s1 G e1.out
  have z2 := fz.out w2 s2 G e2.out
  replace G := Lib.hid G; replace G1 := Lib.hid G1; replace G2 := Lib.hid G2
  clear m1 m2 CA CB fz
  by_cases hne : s1.g = s2.g
  · rw [hne] at q1 z1 ⊢
    go_wp2_with fail
    go_region
    all_goals
      go_wp2_with fail
      go_ret
      exact ⟨rfl, _, G.out, by
        have e : s1.n.p = s2.n.p := by rw [q1] at q2; injection q2 with q2; injection q2 with _ q2
        rw [hne, e]⟩
  · have hne2 : s2.g ≠ s1.g := fun e => hne e.symm
    go_wp2_with fail
    go_region
    all_goals
      go_wp2_with fail
      go_ret
      exact ⟨rfl, _, G.out, rfl⟩
section
variable {σ : Int → Int}
theorem leaf_re {t s : T} {w : World} {up : Option Nat} (hT : TP G w up t) (hs : s ∈ t.leaves) : (s.re σ).n.p = σ s.n.p := by
  obtain ⟨_, _, h, _⟩ := mem_leaves t w up hT s hs
  cases s with | mk n ks => cases h; rw [T.re_mk]; simp [T.n]
theorem find_re {t : T} {w : World} {up : Option Nat} (hT : TP G w up t) (hσ : ∀ x, σ (σ x) = x) (p : Int) : (t.re σ).find p = (t.find (σ p)).map (T.re σ) := by
  unfold T.find
  rw [T.re_leaves, List.find?_map]
  congr 1
  have : ∀ l : List T, (∀ s ∈ l, (s.re σ).n.p = σ s.n.p) → l.find? ((fun s => s.n.p == p) ∘ T.re σ) = l.find? (fun s => s.n.p == σ p) := by
    intro l
    induction l with
    | nil => intro _; rfl
    | cons a l ih =>
      intro h
      have e : ((fun s => s.n.p == p) ∘ T.re σ) a = (a.n.p == σ p) := by
        simp only [Function.comp, h a (by simp)]
        rw [Bool.eq_iff_iff]
        simp only [beq_iff_eq]
        constructor
        · intro e; rw [← e, hσ]
        · intro e; rw [e, hσ]
      rw [List.find?_cons, List.find?_cons, e]
      split
      · rfl
      · exact ih fun s hs => h s (by simp [hs])
  exact this _ fun s hs => leaf_re hT hs
theorem TP_re : ∀ (t : T) (up : Option Nat) (w w' : World), TP G w up t → t.bl.Nodup →
    (∀ s ∈ t.leaves, ∀ c e f, w.heap[s.g]? = some (.cells c e f) → w'.heap[s.g]? = some (.cells (c.setIfInBounds 0 (.int .i64 (σ s.n.p))) e f)) →
    w.heap.size ≤ w'.heap.size → (∀ b ∈ t.bl, (∀ s ∈ t.leaves, s.g ≠ b) → Kp G w w' b) → TP G w' up (t.re σ) := by
  intro t
  induction t using T.ind with
  | h n ks ih =>
    intro up w w' hT hN h1 hz h2
    have hA := hT.at_
    rw [T.bl_mk] at hN h2
    have hgA : ∀ b, n.A = some b → b ≠ n.g := fun b hb e => (List.nodup_cons.1 hN).1 (by subst e; simp [hb])
    rw [T.re_mk]
    by_cases hk : ks.length = 0
    · have := List.eq_nil_of_length_eq_zero hk
      subst this
      rw [if_pos hk, reL]
      have hlv : (T.mk n []).leaves = [.mk n []] := by rw [T.leaves_mk, leavesL_nil]; rfl
      rw [hlv] at h1 h2
      refine .mk ⟨?_, hA.q, hA.r.same hz fun b hb => ?_, Nat.le_trans hA.m hz⟩ (by rw [TPs]; trivial)
      · exact h1 (.mk n []) (by simp) _ _ _ hA.h
      · replace hb : n.A = some b := hb
        exact h2 b (by simp [hb]) (by intro s hs; simp at hs; subst hs; exact fun e => hgA b hb e.symm)
    · rw [if_neg hk]
      have hlv : (T.mk n ks).leaves = leavesL ks := by rw [T.leaves_mk, if_neg hk]; rfl
      rw [hlv] at h1 h2
      have hsb : ∀ s ∈ leavesL ks, s.g ∈ blL ks := fun s hs => by
        obtain ⟨k, hk, hs⟩ := mem_leavesL.1 hs
        obtain ⟨_, _, _, h⟩ := mem_leaves k w _ (TPs_iff.1 hT.kids k hk) s hs
        exact mem_blL.2 ⟨k, hk, h _ s.g_mem⟩
      have hn1 := (List.nodup_cons.1 hN)
      have hn2 := List.nodup_append.1 hn1.2
      refine .mk ⟨?_, hA.q, ?_, Nat.le_trans hA.m hz⟩ (TPs_iff.2 fun k' hk' => ?_)
      · rw [reL_len]; exact (h2 n.g (by simp) (fun s hs e => hn1.1 (by rw [← e]; simp [hsb s hs]))).node hA.q hA.h
      · rw [reL_len, reL_ptrs]
        exact hA.r.same hz fun b hb => h2 b (by simp [hb]) (fun s hs e => hn2.2.2 b (by simp [hb]) _ (hsb s hs) e.symm)
      · rw [reL_map] at hk'
        obtain ⟨k, hk, rfl⟩ := List.mem_map.1 hk'
        have hsub : ∀ s ∈ k.leaves, s ∈ leavesL ks := fun s hs => mem_leavesL.2 ⟨k, hk, hs⟩
        have hkT := TPs_iff.1 hT.kids k hk
        obtain ⟨L, R, rfl⟩ := List.append_of_mem hk
        rw [blL_app, blL_cons] at hn2
        have hn3 := List.nodup_append.1 hn2.2.1
        have hn4 := List.nodup_append.1 hn3.2.1
        refine ih k hk _ w w' hkT hn4.1 (fun s hs => h1 s (hsub s hs)) hz fun b hb hs => h2 b ?_ ?_
        · simp [blL_app, blL_cons, hb]
        · intro s hs' e
          rw [leavesL_app, leavesL_cons] at hs'
          simp only [List.mem_append] at hs'
          have hx : ∀ l : List T, (∀ k ∈ l, k ∈ L ++ k :: R ∨ True) → s ∈ leavesL l → (∀ j ∈ l, TP G w (some n.g) j) → s.g ∈ blL l := fun l _ hs hj => by
            obtain ⟨j, hjl, hs⟩ := mem_leavesL.1 hs
            obtain ⟨_, _, _, h⟩ := mem_leaves j w _ (hj j hjl) s hs
            exact mem_blL.2 ⟨j, hjl, h _ s.g_mem⟩
          rcases hs' with h | h | h
          · have := hx L (fun _ _ => .inr trivial) h (fun j hj => TPs_iff.1 hT.kids j (by simp [hj]))
            rw [e] at this
            exact hn3.2.2 b this b (by simp [hb]) rfl
          · exact hs s h e
          · have := hx R (fun _ _ => .inr trivial) h (fun j hj => TPs_iff.1 hT.kids j (by simp [hj]))
            rw [e] at this
            exact hn4.2.2 b hb b this rfl
end
theorem swap_any (base tr : Nat) (t s1 s2 : T) (a b : Int) (w : World) (hT : Tr G base w tr t) (hbase : base ≤ w.heap.size) (hl : t.leaves.length ≤ 100000) (hn : (t.leaves.map fun s => s.n.p).Nodup) (h1 : t.find a = some s1) (h2 : t.find b = some s2) :
    Calls Tryd.prog 15 #[ptr tr, .int .i64 a, .int .i64 b] w fun e w' => e = .returned (.int .i64 0) ∧ Tr G base w' tr (t.re (sw a b)) ∧ Below base w w' ∧ Off G t.bl w w' := by
  refine (swap_run base tr t s1 s2 a b w hT hl h1 h2).mono ?_
  rintro e w' ⟨rfl, w1, hg, rfl⟩
  have m1 := List.mem_of_find?_eq_some h1
  have m2 := List.mem_of_find?_eq_some h2
  have p1 : s1.n.p = a := by simpa using List.find?_some h1
  have p2 : s2.n.p = b := by simpa using List.find?_some h2
  have hT1 := hT.grown hg
  have hin : ∀ s ∈ t.leaves, s.g ∈ t.bl := fun s hs => by
    obtain ⟨_, _, _, h⟩ := mem_leaves t w _ hT.p s hs
    exact h _ s.g_mem
  have hwh : ∀ s ∈ t.leaves, G.wh s.g := fun s hs => by
    obtain ⟨_, h, _, _⟩ := mem_leaves t w1 _ hT1.p s hs
    exact h.atn.q
  have hnb : ∀ k, (∀ s ∈ t.leaves, s.g ≠ k) → k ∉ [s1.g, s2.g] := fun k hk => by simp; exact ⟨fun e => hk s1 m1 e.symm, fun e => hk s2 m2 e.symm⟩
  have o2 : Off G [s1.g, s2.g] w1 ((w1.setCell ⟨s1.g, 0, none⟩ (.int .i64 s2.n.p)).setCell ⟨s2.g, 0, none⟩ (.int .i64 s1.n.p)).drew := by
    have q1 := (Off.setw hT1.m (hwh s1 m1) 0 (.int .i64 s2.n.p)).sub (S' := [s1.g, s2.g]) (by simp)
    have q2 := q1.trans (Off.setw q1.m' (hwh s2 m2) 0 (.int .i64 s1.n.p)) (by simp)
    exact q2.trans (Off.drew (S := []) q2.m') (by simp)
  have hne : ∀ s ∈ t.leaves, s.g ≠ tr := fun s hs e => hT.nt (by rw [← e]; exact hin s hs)
  refine ⟨rfl, ⟨?_, ?_, by rw [T.re_bl]; exact hT.nd, by rw [T.re_bl]; exact hT.nt, by rw [T.re_bl]; exact hT.lo, hT.q, hT.gl⟩, ?_, (Off.of_grown (S := t.bl) hT.m hg).trans o2 (by intro b hb; simp at hb; rcases hb with rfl | rfl; exact .inl (hin _ m1); exact .inl (hin _ m2))⟩
  · rw [T.re_g, o2.wh hT.q hT1.lt (by simp; exact ⟨fun e => hne s1 m1 e.symm, fun e => hne s2 m2 e.symm⟩)]; exact hT1.h
  · refine TP_re t none w1 _ hT1.p hT.nd ?_ o2.size ?_
    · intro s hs c e f hc
      have c0 := leaf_c0 hT1.p hs
      have hs0 : c[0]? = some (Value.int .i64 s.n.p) := by
        have := c0
        unfold World.cell? at this
        rw [hc] at this
        simpa using this
      have c1 := leaf_c0 hT1.p m1
      have c2 := leaf_c0 hT1.p m2
      show ((w1.setCell ⟨s1.g, 0, none⟩ (.int .i64 s2.n.p)).setCell ⟨s2.g, 0, none⟩ (.int .i64 s1.n.p)).heap[s.g]? = _
      by_cases e2 : s.g = s2.g
      · have hp : s.n.p = b := by
          rw [e2, c2] at c0; injection c0 with c0; injection c0 with _ c0; rw [← c0]; exact p2
        have hσ : sw a b s.n.p = a := by rw [hp]; unfold sw; split <;> simp_all
        rw [hσ]
        by_cases e1 : s.g = s1.g
        · have := heap_set (j := 0) (heap_set (j := 0) hc (.int .i64 s2.n.p)) (.int .i64 s1.n.p)
          rw [← e1, ← e2, this, p1]
          simp
        · rw [← e2]
          have h3 : (w1.setCell ⟨s1.g, 0, none⟩ (.int .i64 s2.n.p)).heap[s.g]? = some (.cells c e f) := by rw [Below.heap_setCell _ _ _ _ (by exact e1)]; exact hc
          rw [heap_set (j := 0) h3, p1]
      · rw [Below.heap_setCell _ _ _ _ (by exact e2)]
        by_cases e1 : s.g = s1.g
        · have hp : s.n.p = a := by
            rw [e1, c1] at c0; injection c0 with c0; injection c0 with _ c0; rw [← c0]; exact p1
          have hσ : sw a b s.n.p = b := by rw [hp]; unfold sw; simp
          rw [hσ, ← e1, heap_set (j := 0) hc, p2]
        · rw [Below.heap_setCell _ _ _ _ (by exact e1), hc]
          have hσ : sw a b s.n.p = s.n.p := by
            unfold sw
            rw [if_neg (fun e => e1 (by rw [nodup_inj hn hs m1 (by rw [e, p1])])), if_neg (fun e => e2 (by rw [nodup_inj hn hs m2 (by rw [e, p2])]))]
          rw [hσ]
          congr 2
          rw [Array.ext_iff]
          refine ⟨by simp, fun i h1 h2 => ?_⟩
          rw [Array.getElem_setIfInBounds]
          split
          · rename_i h; subst h; rw [Array.getElem?_eq_getElem h1] at hs0; exact Option.some.inj hs0
          · rfl
    · intro b' hb' hs
      exact o2.kp (hnb b' hs)
  · have b1 : Below base w w1 := ⟨hg.os, hg.tape, hg.output, hg.size, fun k hk => hg.block k (by omega) (by simp)⟩
    exact b1.trans (o2.below (by intro b hb; simp at hb; rcases hb with rfl | rfl; exact hT.lo.2 _ (hin _ m1); exact hT.lo.2 _ (hin _ m2)) (by have := hg.size; omega) hT.gl)
set_option maxHeartbeats 400000 in
set_option maxRecDepth 100000 in
theorem size_any (base tr : Nat) (t : T) (w : World) (hT : Tr G base w tr t) : Calls Tryd.prog 49 #[ptr tr] w fun e w' => e = .returned (.tuple #[.int .i64 t.n.a, .int .i64 t.n.b]) ∧ w.grownBy w' none := by
  have c0 := hT.c0
  have c3 : w.cell? ⟨t.g, 3, none⟩ = some (.int .i64 t.n.a) := hT.p.atn.c3
  have c4 : w.cell? ⟨t.g, 4, none⟩ = some (.int .i64 t.n.b) := hT.p.atn.c4
  replace hT := Lib.hid hT
  unfold ptr at *
  go_enter Tryd.func49, Tryd.ntmps49
  go_upto_region 1 with fail
  refine wp_region_still_tail 17 (by kernel_rfl) (by kernel_rfl) ?_
  simp only [List.take_succ_cons, List.take_zero, List.drop_succ_cons, List.drop_zero]
  repeat still_step
  refine wpStill_nil ?_
  change wpList _ _ _ _ _ w.drew
  go_wp2_with fail
  go_ret2
  exact ⟨rfl, g_drew (World.grownBy.refl w none)⟩

set_option maxHeartbeats 400000 in
set_option maxRecDepth 100000 in
theorem tiles_any (base tr : Nat) (t : T) (w : World) (hT : Tr G base w tr t) (hO : TileOk t) (hl : t.leaves.length ≤ 100) :
    Calls Tryd.prog 21 #[ptr tr] w fun e w' => e = .returned (.bool true) ∧ w.grownBy w' none := by
  have CS := size_any base tr t w hT
  obtain ⟨A0, B0, hab⟩ : ∃ A0 B0, A0 = t.n.a ∧ B0 = t.n.b := ⟨_, _, rfl, rfl⟩
  rw [← hab.1, ← hab.2] at CS
  have hsz := hO.sz
  have hinn := hO.inn
  have hcn := hO.cn
  rw [← hab.1, ← hab.2] at hsz hinn hcn
  have CB : ∀ W, w.grownBy W none → _ := fun W G => boxes_any base tr t W (hT.grown G) (by omega)
  obtain ⟨nl, hnl⟩ : ∃ nl, nl = t.leaves.length := ⟨_, rfl⟩
  rw [← hnl] at CB
  have hnl1 : nl ≤ 100 := by omega
  obtain ⟨N, hN⟩ : ∃ N : Nat, (N : Int) = A0 * B0 := by
    refine ⟨(A0 * B0).toNat, ?_⟩
    have : 0 ≤ A0 * B0 := Int.mul_nonneg (by omega) (by omega)
    omega
  have hN2 : N ≤ 30000 := by
    have : A0 * B0 ≤ 250 * 120 := Int.mul_le_mul hsz.2.1 hsz.2.2.2 (by omega) (by omega)
    omega
  have hwm : IntKind.i64.wrap (A0 * B0) = (N : Int) := by rw [← hN, IntKind.wrap_i64]; omega
  obtain ⟨sa1, sa2, sb1, sb2⟩ := hsz
  replace hT := Lib.hid hT; replace hO := Lib.hid hO; replace CS := Lib.hid CS; replace CB := Lib.hid CB; replace hN := Lib.hid hN; replace hnl := Lib.hid hnl; replace hab := Lib.hid hab; replace hinn := Lib.hid hinn; replace hcn := Lib.hid hcn
  replace hl := Lib.hid hl
  unfold ptr at *
  go_enter Tryd.func21, Tryd.ntmps21
  go_wp2_with fail
  refine CS.out.mono ?_
  rintro e w1 ⟨rfl, G1⟩
  have CB1 := CB.out w1 G1
  replace CB1 := Lib.hid CB1; replace G1 := Lib.hid G1
  clear CS CB
  go_wp2_with fail
  refine CB1.out.mono ?_
  rintro e w2 ⟨A2, c2, rfl, O2, G2⟩
  have hmk := make_grid N w2 (by omega)
  obtain ⟨A2x, c2x, e2x, hR2, _⟩ := Rd.of_own O2
  injection e2x with e2x _ e2y
  subst e2x; subst e2y
  obtain ⟨gb, hgb⟩ : ∃ gb, gb = w2.heap.size := ⟨_, rfl⟩
  rw [← hgb] at hmk
  obtain ⟨w3, hw3⟩ : ∃ w3, w3 = w2.alloc (.cells (List.replicate N (Value.int .i64 0)).toArray 3) := ⟨_, rfl⟩
  rw [← hw3] at hmk
  have hG0 : Grid gb A0 B0 (fcov (t.leaves.take 0)) w3 := by
    rw [List.take_zero]
    exact Grid.new hN.out (by rw [hw3, hgb]; exact heap_alloc_new w2 _)
  have G3 : w2.grownBy w3 none := by rw [hw3]; exact World.grownBy_alloc _ _ _
  have hR3 : Rd w3 A2 (boxes t.leaves) := hR2.grown G3 (.inl rfl)
  have hblk : ∀ b, ablk A2 = some b → b < gb ∨ boxes t.leaves = [] := fun b hb => by
    rcases Nat.lt_or_ge b gb with h | h
    · exact .inl h
    · right
      rcases hx : boxes t.leaves with _ | ⟨x, xs⟩
      · rfl
      · obtain ⟨b', off, e, hb', _⟩ := hR2 (by rw [hx]; simp)
        subst e
        simp [ablk] at hb
        omega
  replace O2 := Lib.hid O2; replace G2 := Lib.hid G2; replace hR2 := Lib.hid hR2; replace hgb := Lib.hid hgb; replace hw3 := Lib.hid hw3; replace hG0 := Lib.hid hG0; replace G3 := Lib.hid G3; replace hR3 := Lib.hid hR3; replace hblk := Lib.hid hblk
  clear CB1
  go_wp2_with (simp only [hmk])
  go_loopw [7] (fun iv wr => ∃ j : Nat, j ≤ nl ∧ iv = .int .i64 j ∧ Hid (Grid gb A0 B0 (fcov (t.leaves.take j)) wr ∧ YtcklmkjlbpjojaaDoor.Off [gb] w3 wr)) (fun iv _ => nl - (intOf iv).toNat)
  case atStart => exact ⟨0, Nat.zero_le _, rfl, Lib.hid ⟨hG0.out, YtcklmkjlbpjojaaDoor.Off.refl _ _⟩⟩
  case round =>
    obtain ⟨j, hj, rfl, hI⟩ := hrel
    by_cases hlt : j < nl
    · obtain ⟨s, hs⟩ : ∃ s, t.leaves[j]? = some s := ⟨t.leaves[j]'(by rw [← hnl.out]; exact hlt), List.getElem?_eq_getElem _⟩
      have hsm : s ∈ t.leaves := List.mem_of_getElem? hs
      have hpc : ∀ (i : Nat) (u : Value), (boxOf s.n)[i]? = some u → ∃ b off, A2 = some ⟨b, off, none⟩ ∧ wr.cell? ⟨b, off + (j * 5 + i), none⟩ = some u := fun i u hu => by
        obtain ⟨b, off, e, hb, hc⟩ := hR3.out.at_ (boxes_at hu _ _ hs)
        refine ⟨b, off, e, ?_⟩
        have hbg : b ≠ gb := by
          rcases hblk.out b (by rw [e]; rfl) with h | h
          · omega
          · have := boxes_at hu _ _ hs
            rw [h] at this; simp at this
        rw [World.cell?_of_block (hI.out.2.block b hb (by simpa using hbg))]; exact hc
      obtain ⟨b2, off2, rfl, k0⟩ := hpc 0 _ rfl
      have kk : ∀ (i : Nat) (u : Value), (boxOf s.n)[i]? = some u → wr.cell? ⟨b2, off2 + j * 5 + i, none⟩ = some u := fun i u hu => by
        obtain ⟨b, off, e, hc⟩ := hpc i u hu
        cases e
        rw [Nat.add_assoc]; exact hc
      replace k0 : wr.cell? ⟨b2, off2 + j * 5, none⟩ = some (.int .i64 s.n.p) := k0
      have k1 := kk 1 _ rfl; have k2 := kk 2 _ rfl; have k3 := kk 3 _ rfl; have k4 := kk 4 _ rfl
      obtain ⟨i1, i2, i3, i4, i5, i6, i7⟩ := hinn.out s hsm
      obtain ⟨p, hp⟩ : ∃ p, p = s.n.p := ⟨_, rfl⟩
      obtain ⟨x0, hx0⟩ : ∃ x0, x0 = s.n.x := ⟨_, rfl⟩
      obtain ⟨y0, hy0⟩ : ∃ y0, y0 = s.n.y := ⟨_, rfl⟩
      obtain ⟨a0, ha0⟩ : ∃ a0, a0 = s.n.a := ⟨_, rfl⟩
      obtain ⟨b0, hb0⟩ : ∃ b0, b0 = s.n.b := ⟨_, rfl⟩
      rw [← hp] at k0 i1; rw [← hx0] at k1 i2 i4; rw [← hy0] at k2 i5 i7; rw [← ha0] at k3 i3 i4; rw [← hb0] at k4 i6 i7
      have hap := take_apart hO.out.ap hs
      have hsn := take_succ' hs
      replace hs := Lib.hid hs; replace hsm := Lib.hid hsm; replace hp := Lib.hid hp; replace hx0 := Lib.hid hx0; replace hy0 := Lib.hid hy0; replace ha0 := Lib.hid ha0; replace hb0 := Lib.hid hb0; replace hap := Lib.hid hap; replace hsn := Lib.hid hsn
      clear hpc kk
      go_upto_region 10 with fail
      obtain ⟨W1, hW1⟩ : ∃ W1, W1 = wr.alloc (.cells #[.int .i64 p, .int .i64 x0, .int .i64 y0, .int .i64 a0, .int .i64 b0] 30) := ⟨_, rfl⟩
      rw [← hW1]
      obtain ⟨bx, hbx⟩ : ∃ bx, bx = wr.heap.size := ⟨_, rfl⟩
      rw [← hbx]
      have hb1 : W1.heap[bx]? = some (.cells #[.int .i64 p, .int .i64 x0, .int .i64 y0, .int .i64 a0, .int .i64 b0] 30 (0, 0)) := by rw [hW1, hbx]; exact heap_alloc_new wr _
      have o1 : YtcklmkjlbpjojaaDoor.Off [gb] wr W1 := by rw [hW1]; exact YtcklmkjlbpjojaaDoor.Off.alloc _ _
      have hG1 : Grid gb A0 B0 (fcov (t.leaves.take j)) W1 := hI.out.1.off (S := []) (by rw [hW1]; exact YtcklmkjlbpjojaaDoor.Off.alloc _ _) (by simp)
      have o31 : YtcklmkjlbpjojaaDoor.Off [gb] w3 W1 := hI.out.2.trans o1 (by simp)
      have hgbx : bx ≠ gb := by
        obtain ⟨_, _, h, _⟩ := hI.out.1
        have := lt_of_heap h; omega
      have v0 : W1.cell? ⟨bx, 0, none⟩ = some (.int .i64 p) := by rw [cell_of_heap hb1]; rfl
      have v1 : W1.cell? ⟨bx, 1, none⟩ = some (.int .i64 x0) := by rw [cell_of_heap hb1]; rfl
      have v2 : W1.cell? ⟨bx, 2, none⟩ = some (.int .i64 y0) := by rw [cell_of_heap hb1]; rfl
      have v3 : W1.cell? ⟨bx, 3, none⟩ = some (.int .i64 a0) := by rw [cell_of_heap hb1]; rfl
      have v4 : W1.cell? ⟨bx, 4, none⟩ = some (.int .i64 b0) := by rw [cell_of_heap hb1]; rfl
      have hb1l := lt_of_heap hb1
      have z1 : IntKind.i64.wrap (A0 - x0) = A0 - x0 := wrap_small (by omega)
      have z2 : IntKind.i64.wrap (B0 - y0) = B0 - y0 := wrap_small (by omega)
      have z3 : IntKind.i64.wrap (y0 + b0) = y0 + b0 := wrap_small (by omega)
      have z4 : IntKind.i64.wrap (x0 + a0) = x0 + a0 := wrap_small (by omega)
      replace hW1 := Lib.hid hW1; replace hbx := Lib.hid hbx; replace hb1 := Lib.hid hb1; replace o1 := Lib.hid o1; replace hG1 := Lib.hid hG1; replace o31 := Lib.hid o31; replace hgbx := Lib.hid hgbx; replace hb1l := Lib.hid hb1l
      clear k0 k1 k2 k3 k4
      go_wp2_with fail
      go_loopw [9] (fun yv wz => ∃ Y : Int, y0 ≤ Y ∧ Y ≤ y0 + b0 ∧ yv = .int .i64 Y ∧ Hid (Grid gb A0 B0 (fmid (t.leaves.take j) s x0 Y) wz ∧ YtcklmkjlbpjojaaDoor.Off [gb] W1 wz)) (fun yv _ => (y0 + b0 - intOf yv).toNat)
      case atStart =>
        refine ⟨y0, Int.le_refl _, by omega, rfl, Lib.hid ⟨hG1.out.congr fun x y _ _ _ _ => ?_, YtcklmkjlbpjojaaDoor.Off.refl _ _⟩⟩
        unfold fmid
        rw [if_neg]
        rintro ⟨h1, h2⟩
        unfold cov at h1
        rw [← hx0.out, ← hy0.out] at h1
        omega
      case round =>
        obtain ⟨Y, hY1, hY2, rfl, hIy⟩ := hrel
        have u1 : wr.cell? ⟨bx, 1, none⟩ = some (.int .i64 x0) := by rw [World.cell?_of_block (hIy.out.2.block bx hb1l.out (by simpa using hgbx.out))]; exact v1
        have u2 : wr.cell? ⟨bx, 2, none⟩ = some (.int .i64 y0) := by rw [World.cell?_of_block (hIy.out.2.block bx hb1l.out (by simpa using hgbx.out))]; exact v2
        have u4 : wr.cell? ⟨bx, 4, none⟩ = some (.int .i64 b0) := by rw [World.cell?_of_block (hIy.out.2.block bx hb1l.out (by simpa using hgbx.out))]; exact v4
        by_cases hYl : Y < y0 + b0
        · go_wp2_with fail
          go_loopw [10] (fun xv wz => ∃ X : Int, x0 ≤ X ∧ X ≤ x0 + a0 ∧ xv = .int .i64 X ∧ Hid (Grid gb A0 B0 (fmid (t.leaves.take j) s X Y) wz ∧ YtcklmkjlbpjojaaDoor.Off [gb] W1 wz)) (fun xv _ => (x0 + a0 - intOf xv).toNat)
          case atStart => exact ⟨x0, Int.le_refl _, by omega, rfl, hIy⟩
          case round =>
            obtain ⟨X, hX1, hX2, rfl, hIx⟩ := hrel
            have t0 : wr.cell? ⟨bx, 0, none⟩ = some (.int .i64 p) := by rw [World.cell?_of_block (hIx.out.2.block bx hb1l.out (by simpa using hgbx.out))]; exact v0
            have t1 : wr.cell? ⟨bx, 1, none⟩ = some (.int .i64 x0) := by rw [World.cell?_of_block (hIx.out.2.block bx hb1l.out (by simpa using hgbx.out))]; exact v1
            have t3 : wr.cell? ⟨bx, 3, none⟩ = some (.int .i64 a0) := by rw [World.cell?_of_block (hIx.out.2.block bx hb1l.out (by simpa using hgbx.out))]; exact v3
            by_cases hXl : X < x0 + a0
            · have r1 : 0 ≤ X := by omega
              have r2 : X < A0 := by omega
              have r3 : 0 ≤ Y := by omega
              have r4 : Y < B0 := by omega
              have hcv : cov s.n X Y := by unfold cov; rw [← hx0.out, ← hy0.out, ← ha0.out, ← hb0.out]; omega
              have hfs := fcov_snoc (t.leaves.take j) s hap.out
              obtain ⟨gc, gf⟩ := hIx.out.1.cell r1 r2 r3 r4
              have hval : fmid (t.leaves.take j) s X Y X Y = 0 := by
                unfold fmid
                rw [if_neg (by omega)]
                exact ((hfs X Y).1 hcv).1
              rw [hval] at gc
              obtain ⟨yw, hyw, gw1, gw2, gw3, gw4, gw5, gw6⟩ := grid_step hN.out sa2 sb2 r1 r2 r3 r4
              have gset := hIx.out.1.set r1 r2 r3 r4 p
              rw [← hyw] at gc gf gset
              have gset2 : Grid gb A0 B0 (fmid (t.leaves.take j) s (X + 1) Y) (wr.setCell ⟨gb, (yw + X).toNat, none⟩ (.int .i64 p)) := gset.congr fun x y _ _ _ _ => by
                unfold fmid
                by_cases e : x = X ∧ y = Y
                · obtain ⟨rfl, rfl⟩ := e
                  rw [if_pos ⟨rfl, rfl⟩, if_pos ⟨hcv, by omega⟩, hp.out]
                · rw [if_neg e]
                  by_cases e2 : cov s.n x y ∧ (y < Y ∨ (y = Y ∧ x < X))
                  · rw [if_pos e2, if_pos ⟨e2.1, by omega⟩]
                  · rw [if_neg e2, if_neg (fun h => e2 ⟨h.1, by omega⟩)]
              have goff : YtcklmkjlbpjojaaDoor.Off [gb] W1 (wr.setCell ⟨gb, (yw + X).toNat, none⟩ (.int .i64 p)) := hIx.out.2.trans (YtcklmkjlbpjojaaDoor.Off.set wr ⟨gb, (yw + X).toNat, none⟩ _) (by simp)
              have gi := toNat_lt gw3 gw4
              have gx1 : IntKind.i64.wrap (X + 1) = X + 1 := wrap_small (by omega)
              replace hyw := Lib.hid hyw; replace gset := Lib.hid gset; replace gset2 := Lib.hid gset2; replace goff := Lib.hid goff; replace hval := Lib.hid hval; replace hfs := Lib.hid hfs; replace hcv := Lib.hid hcv
              go_wp2_with fail
              exact ⟨⟨X + 1, by omega, by omega, rfl, Lib.hid ⟨gset2.out, goff.out⟩⟩, by simp [intOf]; omega⟩
            · obtain rfl : X = x0 + a0 := by omega
              have gy1 : IntKind.i64.wrap (Y + 1) = Y + 1 := wrap_small (by omega)
              have gnext : Grid gb A0 B0 (fmid (t.leaves.take j) s x0 (Y + 1)) wr := hIx.out.1.congr fun x y _ _ _ _ => by
                unfold fmid
                by_cases hc : cov s.n x y
                · have hc' := hc
                  unfold cov at hc'
                  rw [← hx0.out, ← hy0.out, ← ha0.out, ← hb0.out] at hc'
                  by_cases e2 : y < Y ∨ (y = Y ∧ x < x0 + a0)
                  · rw [if_pos ⟨hc, e2⟩, if_pos ⟨hc, by omega⟩]
                  · rw [if_neg (fun h => e2 h.2), if_neg (fun h => e2 (by omega))]
                · rw [if_neg (fun h => hc h.1), if_neg (fun h => hc h.1)]
              replace gnext := Lib.hid gnext
              go_wp2_with fail
              exact ⟨⟨Y + 1, by omega, by omega, rfl, Lib.hid ⟨gnext.out, hIx.out.2⟩⟩, by simp [intOf]; omega⟩
        · obtain rfl : Y = y0 + b0 := by omega
          have gnext : Grid gb A0 B0 (fcov (t.leaves.take (j + 1))) wr := hIy.out.1.congr fun x y _ _ _ _ => by
            obtain ⟨hf1, hf2⟩ := fcov_snoc (t.leaves.take j) s hap.out x y
            rw [hsn.out]
            unfold fmid
            by_cases hc : cov s.n x y
            · have hc' := hc
              unfold cov at hc'
              rw [← hx0.out, ← hy0.out, ← ha0.out, ← hb0.out] at hc'
              rw [if_pos ⟨hc, by omega⟩]
              exact (hf1 hc).2.symm
            · rw [if_neg (fun h => hc h.1)]
              exact (hf2 hc).symm
          replace gnext := Lib.hid gnext
          go_wp2_with fail
          exact ⟨⟨j + 1, by omega, by go_num, Lib.hid ⟨gnext.out, o31.out.trans hIy.out.2 (by simp)⟩⟩, by simp [intOf]; omega⟩
    · obtain rfl : j = nl := by omega
      have hgl : Grid gb A0 B0 (fcov t.leaves) wr := by
        have := hI.out.1
        rw [List.take_of_length_le (by rw [← hnl.out]; exact Nat.le_refl _)] at this; exact this
      have hgr : w.grownBy wr none := by
        have g := G1.out.trans (G2.out.trans G3.out)
        exact ⟨hI.out.2.os.trans g.os, hI.out.2.tape.trans g.tape, hI.out.2.output.trans g.output, Nat.le_trans g.size hI.out.2.size, fun q hq hn => (hI.out.2.block q (Nat.lt_of_lt_of_le hq g.size) (by have := G1.out.size; have := G2.out.size; have := hgb.out; simp; omega)).trans (g.block q hq hn)⟩
      have za : IntKind.i64.wrap (A0 - 1) = A0 - 1 := wrap_small (by omega)
      have zb : IntKind.i64.wrap (B0 - 1) = B0 - 1 := wrap_small (by omega)
      have hII : Hid (Grid gb A0 B0 (fcov t.leaves) wr ∧ w.grownBy wr none) := Lib.hid ⟨hgl, hgr⟩
      replace hgl := Lib.hid hgl; replace hgr := Lib.hid hgr
      clear hI
      go_wp2_with fail
      go_loopw [11] (fun yv wz => ∃ Y : Int, 0 ≤ Y ∧ Y ≤ B0 ∧ yv = .int .i64 Y ∧ Hid (Grid gb A0 B0 (fcov t.leaves) wz ∧ w.grownBy wz none)) (fun yv _ => (B0 - intOf yv).toNat)
      case atStart => exact ⟨0, Int.le_refl _, by omega, rfl, hII⟩
      case round =>
        obtain ⟨Y, hY1, hY2, rfl, hIy⟩ := hrel
        by_cases hYl : Y < B0
        · go_wp2_with fail
          go_loopw [12] (fun xv wz => ∃ X : Int, 0 ≤ X ∧ X ≤ A0 ∧ xv = .int .i64 X ∧ Hid (Grid gb A0 B0 (fcov t.leaves) wz ∧ w.grownBy wz none)) (fun xv _ => (A0 - intOf xv).toNat)
          case atStart => exact ⟨0, Int.le_refl _, by omega, rfl, hIy⟩
          case round =>
            obtain ⟨X, hX1, hX2, rfl, hIx⟩ := hrel
            by_cases hXl : X < A0
            · obtain ⟨gc, gf⟩ := hIx.out.1.cell hX1 hXl hY1 hYl
              obtain ⟨yw, hyw, gw1, gw2, gw3, gw4, gw5, gw6⟩ := grid_step hN.out sa2 sb2 hX1 hXl hY1 hYl
              rw [← hyw] at gc gf
              obtain ⟨v, hv⟩ : ∃ v, v = fcov t.leaves X Y := ⟨_, rfl⟩
              rw [← hv] at gc
              have gi := toNat_lt gw3 gw4
              have gx1 : IntKind.i64.wrap (X + 1) = X + 1 := wrap_small (by omega)
              have hline : v = 0 → (0 < X ∧ X < A0 - 1) ∨ (0 < Y ∧ Y < B0 - 1) := fun h0 => corner_line hX1 hXl hY1 hYl fun hc => by
                obtain ⟨s, hs, hcv⟩ := hcn.out X Y hc.1 hc.2
                exact fcov_some hs hcv (fun r hr => (hinn.out r hr).1) (by rw [← hv]; exact h0)
              replace hyw := Lib.hid hyw; replace hv := Lib.hid hv; replace hline := Lib.hid hline
              by_cases hv0 : v = 0
              · subst hv0
                have hl2 := hline.out rfl
                clear hline
                rcases Int.lt_or_le 0 X with c1 | c1
                · rcases Int.lt_or_le X (A0 - 1) with c2 | c2
                  · clear hl2
                    go_wp2_with fail
                    exact ⟨⟨X + 1, by omega, by omega, rfl, hIx⟩, by simp [intOf]; omega⟩
                  · obtain ⟨c3, c4⟩ : 0 < Y ∧ Y < B0 - 1 := by omega
                    clear hl2
                    go_wp2_with fail
                    exact ⟨⟨X + 1, by omega, by omega, rfl, hIx⟩, by simp [intOf]; omega⟩
                · obtain ⟨c3, c4⟩ : 0 < Y ∧ Y < B0 - 1 := by omega
                  clear hl2
                  go_wp2_with fail
                  exact ⟨⟨X + 1, by omega, by omega, rfl, hIx⟩, by simp [intOf]; omega⟩
              · have hvb : (v == 0) = false := beq_eq_false_iff_ne.2 hv0
                clear hline
                go_wp2_with fail
                exact ⟨⟨X + 1, by omega, by omega, rfl, hIx⟩, by simp [intOf]; omega⟩
            · obtain rfl : X = A0 := by omega
              have gy1 : IntKind.i64.wrap (Y + 1) = Y + 1 := wrap_small (by omega)
              go_wp2_with fail
              exact ⟨⟨Y + 1, by omega, by omega, rfl, hIx⟩, by simp [intOf]; omega⟩
        · obtain rfl : Y = B0 := by omega
          go_wp2_with fail
          go_ret
          exact ⟨rfl, hIy.out.2⟩
end Go.Proofs.YtcklmkjlbpjojaaDoor.X
