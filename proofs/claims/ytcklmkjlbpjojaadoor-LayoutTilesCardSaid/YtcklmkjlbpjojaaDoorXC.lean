/- Layout: leaves, of a tree whose rows may share a block. Layout: all, leaf, Has, Boxes, of a tree whose rows may share a block. -/
import Derived.Test.YtcklmkjlbpjojaaDoorXA
import Derived.Deep.DeepCutAuto
import Derived.Deep.CutBlock
import Derived.BigQuiet
import Derived.BigRegion
import Derived.Deep.QuietTactic
import Derived.Deep.RegionLaw
namespace Go.Proofs.YtcklmkjlbpjojaaDoor.X
open Go.RowKit
set_option linter.unusedSimpArgs false
set_option linter.unusedVariables false
variable {G : Gh}

set_option maxHeartbeats 1000000 in
set_option maxRecDepth 100000 in
theorem leaves_any (h B : Nat) (w0 : World) (hBe : B = w0.heap.size) : ∀ (t : T) (up : Option Nat) (xs : List Value) (w : World), TP G w0 up t → Below B w0 w → J B w h xs → xs.length + t.leaves.length ≤ 100000 →
    Calls Tryd.prog 42 #[ptr t.g, pusher h] w fun e w' => e = .returned (.tuple #[]) ∧ J B w' h (xs ++ ptrs t.leaves) ∧ Below B w w' := by
  intro t
  induction t using T.ind with
  | h n ks ih =>
    intro up xs w hT0 hBw hJ hlen
    have hT : TP G w up (.mk n ks) := hT0.below (by rw [← hBe]; exact hBw)
    have hAt := hT.at_
    have hK := hT.kids
    have c6 := hAt.c6
    have hsm := hAt.small
    have hgB : n.g < B := by rw [hBe]; exact hT0.lt _ _ _ (by rw [T.bl_mk]; simp)
    have hKT0 := TPs_iff.1 hT0.kids
    have hlv : (T.mk n ks).leaves.length = (if ks.length = 0 then 1 else 0) + (leavesL ks).length := by
      rw [T.leaves_mk, List.length_append]; split <;> simp
    have hPU := Lib.hid (fun (hx : xs.length ≤ 1000000) => push_any n.g h B xs w hJ hx)
    obtain ⟨len, hln⟩ : ∃ len, len = ks.length := ⟨_, rfl⟩
    obtain ⟨AA, hAA⟩ : ∃ AA, AA = adr G n.A := ⟨_, rfl⟩
    rw [← hln] at c6 hsm hlv
    rw [← hAA] at c6
    replace hAA := Lib.hid hAA
    have hend : (T.mk n ks).leaves = (if len = 0 then [.mk n ks] else []) ++ leavesL ks := by rw [T.leaves_mk, hln]
    replace hend := Lib.hid hend
    replace hln := Lib.hid hln; replace hAt := Lib.hid hAt; replace hK := Lib.hid hK; replace hKT0 := Lib.hid hKT0; replace hBw := Lib.hid hBw; replace hT0 := Lib.hid hT0; replace hBe := Lib.hid hBe; replace hJ := Lib.hid hJ; replace ih := Lib.hid ih
    clear hT
    show Calls Tryd.prog 42 #[ptr n.g, pusher h] w _
    unfold pusher ptr at *
    go_enter Tryd.func42, Tryd.ntmps42
    go_upto_if 11 with fail
    go_cut [] (fun wx => Hid (J B wx h (xs ++ ptrs (if len = 0 then [.mk n ks] else [])) ∧ Below B w wx))
    case first =>
      by_cases h0 : len = 0
      · subst h0
        have hx : xs.length ≤ 1000000 := by omega
        have hP := Lib.hid (hPU.out hx)
        go_wp2_with fail
        refine hP.out.mono ?_
        rintro e w1 ⟨rfl, hJ1, hB1⟩
        replace hJ1 := Lib.hid hJ1; replace hB1 := Lib.hid hB1
        go_wp2_with fail
        go_meet
        exact Lib.hid ⟨hJ1.out, hB1.out⟩
      · have hne : ¬ ((len : Int) = 0) := by omega
        have hneb : ((len : Int) == 0) = false := by simp; omega
        go_wp2_with fail
        go_meet
        rw [if_neg h0]
        exact Lib.hid ⟨by simpa [ptrs] using hJ.out, Below.refl _ _⟩
    case rest =>
      obtain ⟨hJ1, hB1⟩ := hcut.out
      have c6' := (hB1.cell (p := ⟨n.g, 6, none⟩) hgB).trans c6
      have hB0 := hB1
      replace hB1 := Lib.hid hB1; replace hJ1 := Lib.hid hJ1
      clear hcut c6
      go_wp2_with fail
      go_loopw [20] (fun iv wr => ∃ j : Nat, j ≤ len ∧ iv = .int .i64 j ∧ Hid (J B wr h (xs ++ ptrs (if len = 0 then [.mk n ks] else []) ++ ptrs (leavesL (ks.take j))) ∧ Below B w wr)) (fun iv _ => len - (intOf iv).toNat)
      case atStart => exact ⟨0, Nat.zero_le _, rfl, Lib.hid ⟨by simpa [ptrs, leavesL_nil] using hJ1.out, hB1.out⟩⟩
      case round =>
        obtain ⟨j, hj, rfl, hI⟩ := hrel
        by_cases hlt : j < len
        · obtain ⟨k, hk⟩ : ∃ k, ks[j]? = some k := ⟨ks[j]'(by rw [← hln.out]; exact hlt), List.getElem?_eq_getElem _⟩
          obtain ⟨b, off, hA, hc⟩ := (show At G w up n ks from hAt.out).kidc hk
          have hbB : b < B := by
            obtain ⟨_, B', o', cur, _, _, h1, h2, _⟩ := (show At G w0 up n ks from hT0.out.at_).kid hk
            rw [hA] at h1; injection h1 with h1; injection h1 with h1; subst h1
            rw [hBe.out]; exact lt_of_heap h2.h
          have hc2 := (hI.out.2.cell (p := ⟨b, off + j, none⟩) hbB).trans hc
          have hmem : k ∈ ks := List.mem_of_getElem? hk
          have hle : (leavesL (ks.take (j + 1))).length ≤ (leavesL ks).length := len_take_leaves _ _
          have hsn : leavesL (ks.take (j + 1)) = leavesL (ks.take j) ++ k.leaves := by rw [take_succ' hk, leavesL_app, leavesL_cons, leavesL_nil, List.append_nil]
          have hib : (xs ++ ptrs (if len = 0 then [T.mk n ks] else []) ++ ptrs (leavesL (ks.take j))).length + k.leaves.length ≤ 100000 := by
            rw [hsn, List.length_append] at hle
            simp only [List.length_append, ptrs_len]
            split <;> split at hlv <;> simp <;> omega
          have CK := Lib.hid (ih.out k hmem (some n.g) _ wr (hKT0.out k hmem) (hBw.out.trans hI.out.2) hI.out.1 hib)
          have hAb : AA = some ⟨b, off, none⟩ := by rw [hAA.out, hA]
          subst hAb
          replace hsn := Lib.hid hsn; replace hk := Lib.hid hk; replace hA := Lib.hid hA
          clear hle hib
          unfold ptr at hc2 CK
          go_wp2_with fail
          refine CK.out.mono ?_
          rintro e w1 ⟨rfl, hJ2, hB2⟩
          replace hJ2 := Lib.hid hJ2; replace hB2 := Lib.hid hB2
          go_wp2_with fail
          refine ⟨⟨j + 1, by omega, by go_num, Lib.hid ⟨?_, hI.out.2.trans hB2.out⟩⟩, by simp [intOf]; omega⟩
          rw [hsn.out]
          have := hJ2.out
          simp only [ptrs, List.map_append, List.append_assoc] at this ⊢
          exact this
        · have : j = len := by omega
          subst this
          go_wp2_with fail
          go_end0
          refine ⟨rfl, ?_, hI.out.2⟩
          rw [hend.out]
          have := hI.out.1
          rw [List.take_of_length_le (by rw [hln.out]; exact Nat.le_refl _)] at this
          simp only [ptrs, List.map_append, List.append_assoc] at this ⊢
          exact this
end Go.Proofs.YtcklmkjlbpjojaaDoor.X
namespace Go.Proofs.YtcklmkjlbpjojaaDoor.X
open Go.RowKit
set_option linter.unusedSimpArgs false
set_option linter.unusedVariables false
variable {G : Gh}

/-- A tree of the call's own, whole. -/
structure Tr (G : Gh) (base : Nat) (w : World) (tr : Nat) (t : T) : Prop where
  h : w.heap[tr]? = some (.cells #[ptr t.g] 60 (0, 0))
  p : TP G w none t
  nd : t.bl.Nodup
  nt : tr ∉ t.bl
  lo : base ≤ tr ∧ ∀ b ∈ t.bl, base ≤ b
  q : G.wh tr
  gl : base ≤ G.lo
theorem Tr.m {base tr : Nat} {w : World} {t : T} (h : Tr G base w tr t) : G.m ≤ w.heap.size := h.p.m
theorem Tr.grown {base tr : Nat} {w w' : World} {t : T} (h : Tr G base w tr t) (hg : w.grownBy w' none) : Tr G base w' tr t :=
  ⟨(hg.block tr (lt_of_heap h.h) (by simp)).trans h.h, h.p.grown hg, h.nd, h.nt, h.lo, h.q, h.gl⟩
theorem Tr.c0 {base tr : Nat} {w : World} {t : T} (h : Tr G base w tr t) : w.cell? ⟨tr, 0, none⟩ = some (ptr t.g) := by simp [World.cell?, h.h]
theorem Tr.lt {base tr : Nat} {w : World} {t : T} (h : Tr G base w tr t) : tr < w.heap.size := lt_of_heap h.h

set_option maxHeartbeats 400000 in
theorem all_any (base tr : Nat) (t : T) (w : World) (hT : Tr G base w tr t) (hl : t.leaves.length ≤ 100000) :
    Calls Tryd.prog 26 #[ptr tr] w fun e w' => ∃ A c, e = .returned (.slice A t.leaves.length c) ∧ w'.ownsRow w.heap.size 55 1 (.slice A t.leaves.length c) t.leaves.length (ptrs t.leaves) ∧ w.grownBy w' none := by
  have c0 := hT.c0
  have hlt := hT.lt
  have hJ : J w.heap.size (w.alloc (.cells #[.slice none 0 0] 53)) w.heap.size [] :=
    ⟨⟨none, 0, heap_alloc_new w _, World.ownsRow_nil _ _ _ _, by simp [ablk]⟩, Nat.le_refl _⟩
  have CL := Lib.hid (leaves_any (G := G) w.heap.size w.heap.size w rfl t none [] (w.alloc (.cells #[.slice none 0 0] 53)) hT.p (g_below (World.grownBy_alloc w _ none)) hJ (by simpa using hl))
  replace hT := Lib.hid hT
  clear hJ
  unfold pusher ptr at *
  go_enter Tryd.func26, Tryd.ntmps26
  go_wp2_with fail
  refine CL.out.mono ?_
  rintro e w1 ⟨rfl, hJ, hB⟩
  obtain ⟨A, c, hh, hO, hne⟩ := hJ.r
  have q := hh
  have q0 : w1.cell? ⟨w.heap.size, 0, none⟩ = some (.slice A ([] ++ ptrs t.leaves).length c) := by simp [World.cell?, hh]
  replace hO := Lib.hid hO; replace hB := Lib.hid hB
  clear hh q hne hJ
  go_wp2_with fail
  go_ret
  have e1 : ([] ++ ptrs t.leaves).length = t.leaves.length := by simp [ptrs]
  refine ⟨A, c, (show Ending.returned (.slice A (ptrs t.leaves).length c) = _ by rw [ptrs_len]), ?_, ?_⟩
  · have := hO.out
    rw [e1, List.nil_append] at this
    exact this
  · have g0 := World.grownBy_alloc w (.cells #[.slice none 0 0] 53) none
    exact ⟨hB.out.os, hB.out.tape, hB.out.output, Nat.le_trans g0.size hB.out.size, fun k hk _ => (hB.out.block k hk).trans (g0.block k hk (by simp))⟩

theorem mem_leaves : ∀ (t : T) (w : World) (up : Option Nat), TP G w up t → ∀ s ∈ t.leaves, ∃ up', TP G w up' s ∧ s.ks = [] ∧ ∀ b ∈ s.bl, b ∈ t.bl := by
  intro t
  induction t using T.ind with
  | h n ks ih =>
    intro w up hT s hs
    rw [T.leaves_mk] at hs
    rcases List.mem_append.1 hs with hs | hs
    · split at hs
      · simp only [List.mem_singleton] at hs
        subst hs
        exact ⟨up, hT, List.eq_nil_of_length_eq_zero (by assumption), fun b hb => hb⟩
      · cases hs
    · have := mem_leavesL.1 hs
      obtain ⟨k, hk, hs⟩ := this
      obtain ⟨up', h1, h2, h3⟩ := ih k hk w _ (TPs_iff.1 hT.kids k hk) s hs
      exact ⟨up', h1, h2, fun b hb => by rw [T.bl_mk]; simp only [List.mem_cons, List.mem_append]; exact .inr (.inr (mem_blL.2 ⟨k, hk, h3 b hb⟩))⟩
theorem leaf_c0 {t s : T} {w : World} {up : Option Nat} (hT : TP G w up t) (hs : s ∈ t.leaves) : w.cell? ⟨s.g, 0, none⟩ = some (.int .i64 s.n.p) := by
  obtain ⟨up', h, _, _⟩ := mem_leaves t w up hT s hs
  cases s
  exact h.at_.c0

set_option maxHeartbeats 400000 in
theorem leaf_any (base tr : Nat) (t : T) (pane : Int) (w : World) (hT : Tr G base w tr t) (hl : t.leaves.length ≤ 100000) :
    Calls Tryd.prog 29 #[ptr tr, .int .i64 pane] w fun e w' => e = .returned (uptr ((t.find pane).map T.g)) ∧ w.grownBy w' none := by
  have g0 := World.grownBy_alloc w (.cells #[.int .i64 pane] 3) none
  have CA := Lib.hid (all_any base tr t (w.alloc (.cells #[.int .i64 pane] 3)) (hT.grown g0) hl)
  replace hT := Lib.hid hT
  have hq : (w.alloc (.cells #[.int .i64 pane] 3)).cell? ⟨w.heap.size, 0, none⟩ = some (.int .i64 pane) := by unfold World.cell?; rw [heap_alloc_new]; rfl
  replace hq := Lib.hid hq; replace g0 := Lib.hid g0
  unfold ptr at *
  go_enter Tryd.func29, Tryd.ntmps29
  go_wp2_with fail
  refine CA.out.mono ?_
  rintro e w1 ⟨A, c, rfl, hO, hG⟩
  have hT1 := (hT.out.grown g0.out).grown hG
  have CI := Lib.hid (idxf_any A t.leaves.length c w.heap.size t.leaves pane w1 rfl hl (own_Rd hO) (fun s hs => leaf_c0 hT1.p hs) (hG.cell hq.out (by simp)))
  have hR := own_Rd hO
  replace hO := Lib.hid hO; replace hG := Lib.hid hG; replace hT1 := Lib.hid hT1; replace hR := Lib.hid hR
  clear CA
  unfold ptr at CI
  go_wp2_with fail
  refine CI.out.mono ?_
  rintro e w2 ⟨r, rfl, g2, hr⟩
  have gA := (g0.out.trans hG.out).trans g2
  replace gA := Lib.hid gA
  rcases hr with ⟨rfl, hr⟩ | ⟨j, s, rfl, hs, hp, hn⟩
  · replace hr := Lib.hid hr
    clear CI
    go_wp2_with fail
    go_ret
    refine ⟨?_, gA.out⟩
    have : t.find pane = none := by
      unfold T.find; rw [List.find?_eq_none]; intro s hs; simpa using hr.out s hs
    rw [this]; rfl
  · have hf := find_of hs hp hn
    obtain ⟨b, off, rfl, _, hcell⟩ := hR.out.at_ (j := j) (u := ptr s.g) (by simp [ptrs, hs])
    have hcell' := g2.cell hcell (by simp)
    have hlt : j < t.leaves.length := (List.getElem?_eq_some_iff.1 hs).1
    unfold ptr at hcell'
    replace hf := Lib.hid hf; replace hn := Lib.hid hn; replace g2 := Lib.hid g2; replace hs := Lib.hid hs
    clear CI hcell
    go_wp2_with fail
    go_ret
    refine ⟨?_, gA.out⟩
    unfold T.find
    rw [hf.out]; rfl
theorem has_any (base tr : Nat) (t : T) (pane : Int) (w : World) (hT : Tr G base w tr t) (hl : t.leaves.length ≤ 100000) :
    Calls Tryd.prog 13 #[ptr tr, .int .i64 pane] w fun e w' => e = .returned (.bool (t.find pane).isSome) ∧ w.grownBy w' none := by
  have CA := Lib.hid (leaf_any base tr t pane w hT hl)
  unfold ptr at *
  go_enter Tryd.func13, Tryd.ntmps13
  go_wp2_with fail
  refine CA.out.mono ?_
  rintro e w1 ⟨rfl, hG⟩
  replace hG := Lib.hid hG
  clear CA
  cases hf : t.find pane
  · have e1 := ret_bool (show false = (t.find pane).isSome by rw [hf]; rfl)
    replace e1 := Lib.hid e1
    simp only [hf, Option.map_none, uptr]
    replace hf := Lib.hid hf
    go_wp2_with fail
    go_ret
    exact ⟨e1.out, hG.out⟩
  · have e1 := ret_bool (show true = (t.find pane).isSome by rw [hf]; rfl)
    replace e1 := Lib.hid e1
    simp only [hf, Option.map_some, uptr, ptr]
    replace hf := Lib.hid hf
    go_wp2_with fail
    go_ret
    exact ⟨e1.out, hG.out⟩

set_option maxHeartbeats 1000000 in
set_option maxRecDepth 100000 in
theorem boxes_any (base tr : Nat) (t : T) (w : World) (hT : Tr G base w tr t) (hl : t.leaves.length ≤ 100000) :
    Calls Tryd.prog 10 #[ptr tr] w fun e w' => ∃ A c, e = .returned (.slice A t.leaves.length c) ∧ w'.ownsRow w.heap.size 30 5 (.slice A t.leaves.length c) t.leaves.length (boxes t.leaves) ∧ w.grownBy w' none := by
  have CA := Lib.hid (all_any base tr t w hT hl)
  replace hT := Lib.hid hT
  obtain ⟨len, hln⟩ : ∃ len, len = t.leaves.length := ⟨_, rfl⟩
  rw [← hln] at CA hl
  rw [← hln]
  replace hln := Lib.hid hln
  unfold ptr at *
  go_enter Tryd.func10, Tryd.ntmps10
  go_wp2_with fail
  refine CA.out.mono ?_
  rintro e w1 ⟨A, c, rfl, hO, hG⟩
  have hR := own_Rd hO
  have hT1 := hT.out.grown hG
  replace hO := Lib.hid hO; replace hR := Lib.hid hR; replace hT1 := Lib.hid hT1; replace hG := Lib.hid hG
  clear CA
  go_wp2_with fail
  go_loopw [3, 9] (fun sv iv wr => ∃ (j : Nat) (A3 : Option Addr) (c3 : Nat), j ≤ len ∧ iv = .int .i64 j ∧ sv = .slice A3 j c3 ∧ Hid (wr.ownsRow w1.heap.size 30 5 (.slice A3 j c3) j (boxes (t.leaves.take j)) ∧ w1.grownBy wr none)) (fun _ iv _ => len - (intOf iv).toNat)
  case atStart => exact ⟨0, none, 0, Nat.zero_le _, rfl, rfl, Lib.hid ⟨World.ownsRow_nil _ _ _ _, World.grownBy.refl _ _⟩⟩
  case round =>
    obtain ⟨j, A3, c3, hj, rfl, rfl, hI⟩ := hrel
    by_cases hlt : j < len
    · obtain ⟨s, hs⟩ : ∃ s, t.leaves[j]? = some s := ⟨t.leaves[j]'(by rw [← hln.out]; exact hlt), List.getElem?_eq_getElem _⟩
      obtain ⟨b, off, rfl, _, hcell⟩ := hR.out.at_ (j := j) (u := ptr s.g) (by simp [ptrs, hs])
      have hc2 := hI.out.2.cell hcell (by simp)
      obtain ⟨up', hsT, _, hsb⟩ := mem_leaves t wr none (hT1.out.p.grown hI.out.2) s (List.mem_of_getElem? hs)
      have hsA : At G wr up' s.n s.ks := by cases s; exact hsT.at_
      have q0 := hsA.c0; have q1 := hsA.c1; have q2 := hsA.c2; have q3 := hsA.c3; have q4 := hsA.c4
      have hsg : s.n.g = s.g := rfl
      have hsgT : s.g ∈ t.bl := hsb _ s.g_mem
      clear hsb
      rw [hsg] at q0 q1 q2 q3 q4
      have hsn : boxes (t.leaves.take (j + 1)) = boxes (t.leaves.take j) ++ boxOf s.n := by
        rw [take_succ' hs, boxes_app]; simp [boxes]
      replace hs := Lib.hid hs; replace hsA := Lib.hid hsA; replace hsT := Lib.hid hsT; replace hsn := Lib.hid hsn
      unfold ptr at hc2
      clear hcell hsg
      go_upto_region 5 with fail
      obtain ⟨i0, hi0, hz0, hz1, hz2⟩ := info_parts info30
      replace hi0 := Lib.hid hi0; replace hz0 := Lib.hid hz0; replace hz1 := Lib.hid hz1; replace hz2 := Lib.hid hz2
      have hO1 := hI.out.1
      have hsz := hI.out.2.size
      have hne : s.g ≠ wr.heap.size := by have := hsT.out.lt _ _ s.g (T.g_mem s); omega
      replace hO1 := Lib.hid hO1
      have OA := own_keep hO1.out ((g_drew (World.grownBy.refl wr none)).trans (World.grownBy_alloc wr.drew (.cells (boxOf s.n).toArray 30) none))
      have RA := Rd.newL wr.drew (boxOf s.n) 30
      have p1 : 0 < 5 := by omega
      have p2 : (boxOf s.n).length = 1 * 5 := rfl
      have p3 : j + 1 ≤ maxLen := by unfold maxLen; omega
      have p4 : (j + 1) * 40 ≤ 140737488355328 := by omega
      have p5 : w1.heap.size ≤ (wr.drew.alloc (.cells (boxOf s.n).toArray 30)).heap.size := by simp; omega
      have hrow : (Value.slice A3 j c3).ownBlock ≠ some s.g := by
        intro e
        have h1 := (hO1.out.lt _ e).1
        have h2 := (hT1.out.p.lt _ _ s.g hsgT)
        omega
      replace OA := Lib.hid OA; replace RA := Lib.hid RA; replace hrow := Lib.hid hrow
      go_region_held3 (fun w' => w'.cell? ⟨s.g, 0, none⟩ = some (.int .i64 s.n.p) ∧ w'.cell? ⟨s.g, 1, none⟩ = some (.int .i64 s.n.x) ∧ w'.cell? ⟨s.g, 2, none⟩ = some (.int .i64 s.n.y) ∧ w'.cell? ⟨s.g, 3, none⟩ = some (.int .i64 s.n.a) ∧ w'.cell? ⟨s.g, 4, none⟩ = some (.int .i64 s.n.b))
        (first | go_keep | (go_split_ands; refine ⟨?_, ?_, ?_, ?_, ?_⟩ <;> (refine G5.cell ?_ (fun e => hrow.out e.symm) <;> first | assumption | simp)) | fail)
        ((first
          | (refine step_append_rd (by rfl) (.tmp 13) (.tmp 39) 27 (by rfl) w1.heap.size 30 i0 _ 5 40 Tryd.underlying27 hi0.out hz0.out hz1.out hz2.out rfl p1 (.slice A3 j c3) j _ (by rfl) OA.out (some ⟨wr.heap.size, 0, none⟩) 1 1 (boxOf s.n) (by rfl) p2 RA.out (boxOf_one _) p3 p4 p5 ?_; intro A5 c5 w5 O5 G5 hh5)
          | fail))
      replace O5 := Lib.hid O5; replace G5 := Lib.hid G5
      clear q0 q1 q2 q3 q4
      go_wp2_with fail
      refine ⟨⟨j + 1, A5, c5, by omega, by go_num, rfl, Lib.hid ⟨?_, ?_⟩⟩, by simp [intOf]; omega⟩
      · rw [hsn.out]; exact O5.out
      · exact g_own (hI.out.2.trans ((g_drew (World.grownBy.refl wr none)).trans (World.grownBy_alloc wr.drew _ none))) OA.out (Nat.le_refl _) G5.out
    · have hje : j = len := by omega
      subst hje
      go_wp2_with fail
      go_ret
      have := hI.out.1
      rw [List.take_of_length_le (by rw [hln.out]; exact Nat.le_refl _)] at this
      exact ⟨A3, c3, rfl, own_le this hG.out.size, hG.out.trans hI.out.2⟩
end Go.Proofs.YtcklmkjlbpjojaaDoor.X
