/- Layout: the kids of an only kid laid into the split above. No walk. Layout: Close of a pane behind a neighbour that is a leaf. -/
import Derived.Test.YtcklmkjlbpjojaaDoorM4
import Derived.Test.YtcklmkjlbpjojaaDoorM5
namespace Go.Proofs.YtcklmkjlbpjojaaDoor
open Go.RowKit
set_option linter.unusedSimpArgs false
set_option linter.unusedVariables false

/-- The kids of h, j of them hung below f. -/
structure SpI (w : World) (fg : Nat) (h : T) (j : Nat) (wr : World) : Prop where
  a : At wr (some fg) h.n h.ks
  l : TPs wr (some fg) (h.ks.take j)
  r : TPs wr (some h.g) (h.ks.drop j)
  o : Off h.bl w wr
theorem SpI.start {w : World} {fg : Nat} {h : T} (hT : TP w (some fg) h) : SpI w fg h 0 w := by
  cases h with | mk n ks =>
    exact ⟨hT.at_, by rw [List.take_zero, TPs]; trivial, by rw [List.drop_zero]; exact hT.kids, Off.refl _ _⟩
theorem SpI.step {w wr : World} {fg : Nat} {h x : T} {j : Nat} (hI : SpI w fg h j wr) (hN : h.bl.Nodup) (hx : h.ks[j]? = some x) :
    SpI w fg h (j + 1) (wr.setCell ⟨x.g, 7, none⟩ (ptr fg)) := by
  cases h with | mk n ks =>
    obtain ⟨d1, d2, d3⟩ := bl_apart hN
    have hm : x ∈ ks := List.mem_of_getElem? hx
    have hxK : ∀ b ∈ x.bl, b ∈ blL ks := fun b hb => mem_blL.2 ⟨x, hm, hb⟩
    replace hx : ks[j]? = some x := hx
    have d4 := d3
    rw [split_at hx] at d4
    obtain ⟨e1, e2, e3⟩ := kid_apart d4
    have hr := hI.r
    replace hr : TPs wr (some n.g) (ks.drop j) := hr
    rw [drop_at hx, TPs] at hr
    obtain ⟨h1, o1⟩ := hr.1.reup (up' := some fg) e1
    replace h1 : TP (wr.setCell ⟨x.g, 7, none⟩ (ptr fg)) (some fg) x := h1
    replace o1 : Off [x.g] wr (wr.setCell ⟨x.g, 7, none⟩ (ptr fg)) := o1
    have hxg := hxK _ x.g_mem
    refine ⟨hI.a.same fun b hb => o1.block b (hI.a.lt b hb) ?_, ?_, ?_, hI.o.trans o1 fun b hb => .inl ?_⟩
    · rw [List.mem_singleton]
      rintro rfl
      rcases List.mem_cons.1 hb with hb | hb
      · exact d1 (hb ▸ hxg)
      · replace hb : x.g ∈ n.A.toList := hb
        exact (d2 _ (by simpa using hb)).1 hxg
    · show TPs _ _ (ks.take (j + 1))
      rw [take_succ' hx, TPs_app, TPs, TPs]
      refine ⟨TPs.off hI.l o1 fun b hb hb' => ?_, h1, trivial⟩
      rw [List.mem_singleton] at hb'
      exact e2 x.g x.g_mem (hb' ▸ hb)
    · show TPs _ _ (ks.drop (j + 1))
      refine TPs.off hr.2 o1 fun b hb hb' => ?_
      rw [List.mem_singleton] at hb'
      exact e3 x.g x.g_mem (hb' ▸ hb)
    · rw [List.mem_singleton] at hb
      rw [hb, T.bl_mk]; simp [hxg]

/-- The store that ends it. -/
theorem splice_end {base tr : Nat} {w6 wr w10 W11 : World} {f : Fr} {d : List Fr} {h : T} {bf b' tot c' : Nat}
    (hT : Tr base w6 tr (plug (f :: d) h)) (hbase : base ≤ w6.heap.size) (hbf : f.n.A = some bf) (hI : SpI w6 f.n.g h h.ks.length wr)
    (htot : tot = f.L.length + h.ks.length + f.R.length) (o10 : Off [bf] wr w10) (hO : w10.ownsRow 0 55 1 (.slice (some ⟨b', 0, none⟩) tot c') tot (ptrs (f.L ++ h.ks ++ f.R)))
    (hb' : b' = bf ∨ wr.heap.size ≤ b') (hW : W11 = w10.setCell ⟨f.n.g, 6, none⟩ (.slice (some ⟨b', 0, none⟩) tot c')) :
    Tr base W11 tr (plug d (.mk { f.n with A := some b', c := c' } (f.L ++ h.ks ++ f.R))) ∧ Below base w6 W11 := by
  have hT' : Tr base w6 tr (plug d (.mk f.n (f.L ++ h :: f.R))) := hT
  obtain ⟨nd, hin, hout⟩ := hT'.apart
  have hp := (TP_plug d _).1 hT'.p
  have hAt := hp.2.at_
  have hK := TPs_iff.1 hp.2.kids
  have hbl : (T.mk f.n (f.L ++ h :: f.R)).bl = f.n.g :: (bf :: blL (f.L ++ h :: f.R)) := by rw [T.bl_mk, hbf]; rfl
  have hbl' : (T.mk { f.n with A := some b', c := c' } (f.L ++ h.ks ++ f.R)).bl = f.n.g :: (b' :: blL (f.L ++ h.ks ++ f.R)) := by rw [T.bl_mk]; rfl
  rw [hbl] at nd
  obtain ⟨m1, m2⟩ := List.nodup_cons.1 nd
  obtain ⟨m3, m4⟩ := List.nodup_cons.1 m2
  obtain ⟨e1, e2, e3⟩ := kid_apart m4
  have hkb : (blL h.ks).Sublist h.bl := by
    cases h with | mk n ks =>
      rw [T.bl_mk]
      exact (List.sublist_append_right _ _).cons _
  have hsub : (blL (f.L ++ h.ks ++ f.R)).Sublist (blL (f.L ++ h :: f.R)) := by
    rw [blL_app, blL_app, blL_app, blL_cons, List.append_assoc]
    exact (List.Sublist.refl _).append (hkb.append (List.Sublist.refl _))
  have hfg : f.n.g ∉ blL (f.L ++ h :: f.R) := fun hm => m1 (List.mem_cons_of_mem _ hm)
  have hbfn : bf ≠ f.n.g := fun e => m1 (by rw [← e]; simp)
  have hhm : ∀ b ∈ h.bl, b ∈ blL (f.L ++ h :: f.R) := fun b hb => mem_blL.2 ⟨h, by simp, hb⟩
  have hlt : ∀ b ∈ f.n.g :: (bf :: blL (f.L ++ h :: f.R)), b < w6.heap.size ∧ b ∉ cbl d ∧ b ≠ tr ∧ base ≤ b := fun b hb => by
    have := hin b (by rw [hbl]; exact hb)
    exact ⟨this.2.2.2, this.1, this.2.1, this.2.2.1⟩
  have hsz := hI.o.size
  have hsz2 := o10.size
  have o11 : Off [f.n.g] w10 W11 := by rw [hW]; exact Off.set w10 ⟨f.n.g, 6, none⟩ _
  have hb'2 : b' ≠ f.n.g ∧ b' ∉ blL (f.L ++ h :: f.R) ∧ b' ∉ cbl d ∧ b' ≠ tr ∧ base ≤ b' := by
    rcases hb' with rfl | hge
    · have := hlt b' (by simp)
      exact ⟨hbfn, m3, this.2.1, this.2.2.1, this.2.2.2⟩
    · refine ⟨fun e => ?_, fun hm => ?_, fun hm => ?_, fun e => ?_, by omega⟩
      · have := (hlt f.n.g (by simp)).1; omega
      · have := (hlt b' (by simp [hm])).1; omega
      · have := (hout b' hm).1; omega
      · have := hT.lt; omega
  have ho : Off (h.bl ++ [bf, f.n.g]) w6 W11 := by
    have z1 : Off (h.bl ++ [bf, f.n.g]) w6 w6 := Off.refl _ _
    have z2 := z1.trans hI.o (fun b hb => .inl (by simp [hb]))
    have z3 := z2.trans o10 (by simp)
    exact z3.trans o11 (by simp)
  have hmid : ∀ b ∈ h.bl ++ [bf, f.n.g], b ∈ f.n.g :: (bf :: blL (f.L ++ h :: f.R)) := fun b hb => by
    simp at hb
    rcases hb with hb | rfl | rfl
    · simp [hhm b hb]
    · simp
    · simp
  refine ⟨hT'.focus2 (t' := .mk { f.n with A := some b', c := c' } (f.L ++ h.ks ++ f.R)) ho (fun b hb => ?_) ?_ rfl ?_ ?_, ho.below (B := base) (fun b hb => (hlt b (hmid b hb)).2.2.2) hbase⟩
  · have := hlt b (hmid b hb); exact ⟨this.2.1, this.2.2.1⟩
  · have er : wr.heap[f.n.g]? = w6.heap[f.n.g]? := hI.o.block _ (hlt _ (by simp)).1 (fun hm => hfg (hhm _ hm))
    have e10 : w10.heap[f.n.g]? = wr.heap[f.n.g]? := o10.block _ (by have := (hlt f.n.g (by simp)).1; omega) (by simp; exact fun e => hbfn e.symm)
    have h5 := heap_set (j := 6) (e10.trans (er.trans hAt.h)) (.slice (some ⟨b', 0, none⟩) tot c')
    rw [← hW] at h5
    have hlen : (f.L ++ h.ks ++ f.R).length = tot := by rw [htot, List.length_append, List.length_append]
    refine ⟨⟨?_, ?_⟩, TPs_iff.2 fun s hs => ?_⟩
    · rw [hlen]; exact h5
    · rw [hlen]
      show W11.ownsRow 0 55 1 (.slice (some ⟨b', 0, none⟩) tot c') tot _
      exact own_same hO fun b hb => by
        have e : b = b' := by
          simp [Value.ownBlock] at hb
          exact hb.symm
        subst e
        have hbl10 : b < w10.heap.size := (hO.lt b rfl).2
        exact o11.block b hbl10 (by simp; exact hb'2.1)
    · have hs3 : s ∈ f.L ∨ s ∈ h.ks ∨ s ∈ f.R := by simpa using hs
      have hsb : ∀ b ∈ s.bl, b ∈ blL (f.L ++ h :: f.R) := fun b hb => hsub.subset (mem_blL.2 ⟨s, hs, hb⟩)
      have hn2 : ∀ b ∈ s.bl, b ≠ bf ∧ b ≠ f.n.g := fun b hb => ⟨fun e => m3 (e ▸ hsb b hb), fun e => hfg (e ▸ hsb b hb)⟩
      have out : s ∈ f.L ++ h :: f.R → (∀ b ∈ s.bl, b ∉ h.bl) → TP W11 (some f.n.g) s := fun h1 h2 => (hK s h1).off ho (by
        intro b hb hm
        simp at hm
        rcases hm with e | e | e
        · exact h2 b hb e
        · exact (hn2 b hb).1 e
        · exact (hn2 b hb).2 e)
      rcases hs3 with h1 | h1 | h1
      · exact out (by simp [h1]) fun b hb e => e2 b e (mem_blL.2 ⟨s, h1, hb⟩)
      · have hl := hI.l
        rw [List.take_length] at hl
        have o12 : Off [bf, f.n.g] wr W11 := ((Off.refl [bf, f.n.g] wr).trans o10 (by simp)).trans o11 (by simp)
        exact (TPs_iff.1 hl s h1).off o12 (by
          intro b hb hm
          simp at hm
          rcases hm with e | e
          · exact (hn2 b hb).1 e
          · exact (hn2 b hb).2 e)
      · exact out (by simp [h1]) fun b hb e => e3 b e (mem_blL.2 ⟨s, h1, hb⟩)
  · rw [hbl']
    refine List.nodup_cons.2 ⟨?_, List.nodup_cons.2 ⟨fun hm => hb'2.2.1 (hsub.subset hm), m4.sublist hsub⟩⟩
    simp only [List.mem_cons, not_or]
    exact ⟨fun e => hb'2.1 e.symm, fun hm => hfg (hsub.subset hm)⟩
  · intro b hb
    rw [hbl'] at hb
    rcases List.mem_cons.1 hb with rfl | hb
    · have := hlt f.n.g (by simp); exact ⟨this.2.1, this.2.2.1, this.2.2.2⟩
    · rcases List.mem_cons.1 hb with rfl | hb
      · exact ⟨hb'2.2.2.1, hb'2.2.2.2.1, hb'2.2.2.2.2⟩
      · have := hlt b (by simp [hsub.subset hb]); exact ⟨this.2.1, this.2.2.1, this.2.2.2⟩
end Go.Proofs.YtcklmkjlbpjojaaDoor
namespace Go.Proofs.YtcklmkjlbpjojaaDoor
open Go.RowKit
set_option linter.unusedSimpArgs false
set_option linter.unusedVariables false

theorem succ_beq (k : Nat) : ((k : Int) + 1 == 0) = false := beq_eq_false_iff_ne.2 (by omega)
theorem beq_one (k : Nat) (h : k ≠ 1) : ((k : Int) == 1) = false := beq_eq_false_iff_ne.2 (by omega)
theorem ne_one {i r len m : Nat} (h1 : len = i + 2 + r) (h2 : m = len - 1) (h3 : ¬ (i = 0 ∧ r = 0)) : m ≠ 1 := by omega
theorem eq_one {i r len m : Nat} (h1 : len = i + 2 + r) (h2 : m = len - 1) (h3 : i = 0 ∧ r = 0) : m = 1 := by omega
theorem wrap_two (k : Nat) (h : k < 100000) : IntKind.i64.wrap ((k : Int) + 1 + 1) = (k : Int) + 1 + 1 := by rw [IntKind.wrap_i64]; omega
/-- What stands behind Delete. -/
structure Shut5 (base tr : Nat) (c0 : List Fr) (n h' : Nd) (L R : List T) (bb : Nat) (w W5 : World) : Prop where
  t : Tr base W5 tr (plug c0 (.mk n (L ++ .mk h' [] :: R)))
  b : Below base w W5
  A : n.A = some bb
set_option maxHeartbeats 1500000 in
set_option maxRecDepth 100000 in
theorem close_next_true (base tr : Nat) (c0 : List Fr) (n hn ln : Nd) (L R : List T) (pane : Int) (w : World) (hT : Tr base w tr (plug c0 (.mk n (L ++ .mk hn [] :: .mk ln [] :: R)))) (hbase : base ≤ w.heap.size) (hl : (plug c0 (.mk n (L ++ .mk hn [] :: .mk ln [] :: R))).leaves.length ≤ 1000)
    (hf : (plug c0 (.mk n (L ++ .mk hn [] :: .mk ln [] :: R))).find pane = some (.mk ln [])) (hway : n.way = 0) (hz : 0 ≤ ln.a ∧ ln.a ≤ 1000) (hlen : (L ++ .mk hn [] :: .mk ln [] :: R).length ≤ 1000)
    (hw01 : (plug c0 (.mk n (L ++ .mk (hn.add 0 (ln.a + 1)) [] :: R))).w01) (hw02 : (plug c0 (.mk (hn.add 0 (ln.a + 1)) [])).w01) :
    Calls Tryd.prog 14 #[ptr tr, .int .i64 pane] w fun e w' => e = .returned (.int .i64 0) ∧ Below base w w' ∧
      Tr base w' tr ((if L.length = 0 ∧ R.length = 0 then plug c0 (.mk (hn.add 0 (ln.a + 1)) []) else plug c0 (.mk n (L ++ .mk (hn.add 0 (ln.a + 1)) [] :: R))).place 0 0) := by
  obtain ⟨RR, hRR⟩ : ∃ RR, RR = (if L.length = 0 ∧ R.length = 0 then plug c0 (.mk (hn.add 0 (ln.a + 1)) []) else plug c0 (.mk n (L ++ .mk (hn.add 0 (ln.a + 1)) [] :: R))) := ⟨_, rfl⟩
  rw [← hRR]
  replace hRR := Lib.hid hRR
  obtain ⟨ks, hks⟩ : ∃ ks, ks = L ++ .mk hn [] :: .mk ln [] :: R := ⟨_, rfl⟩
  rw [← hks] at hT hl hf hlen
  have CL := Lib.hid (leaf_any base tr _ pane w hT (by omega))
  rw [hf] at CL
  simp only [Option.map_some, uptr] at CL
  replace CL : Hid (Calls Tryd.prog 29 #[ptr tr, .int .i64 pane] w fun e w' => e = .returned (ptr ln.g) ∧ w.grownBy w' none) := CL
  obtain ⟨i0, hi0⟩ : ∃ i0, i0 = L.length := ⟨_, rfl⟩
  obtain ⟨len, hlen0⟩ : ∃ len, len = ks.length := ⟨_, rfl⟩
  have hlen1 : len = i0 + 2 + R.length := by rw [hlen0, hks, hi0]; simp; omega
  replace hT := Lib.hid hT; replace hf := Lib.hid hf; replace hw01 := Lib.hid hw01; replace hw02 := Lib.hid hw02
  unfold ptr at CL ⊢
  go_enter Tryd.func14, Tryd.ntmps14
  go_wp2_with fail
  refine CL.out.mono ?_
  rintro e w1 ⟨rfl, G1⟩
  have hT1 := hT.out.grown G1
  have hp := (TP_plug c0 _).1 hT1.p
  have hA := hp.2.at_
  have hK := TPs_iff.1 hp.2.kids
  have hhA : At w1 (some n.g) hn [] := (hK (.mk hn []) (by rw [hks]; simp)).at_
  have hlA : At w1 (some n.g) ln [] := (hK (.mk ln []) (by rw [hks]; simp)).at_
  have q7 : w1.cell? ⟨ln.g, 7, none⟩ = some (.pointer (some ⟨n.g, 0, none⟩)) := hlA.c7
  have q3 : w1.cell? ⟨ln.g, 3, none⟩ = some (.int .i64 ln.a) := hlA.c3
  have e0 : ks[i0]? = some (.mk hn []) := by rw [hks, hi0]; simp
  have e1 : ks[i0 + 1]? = some (.mk ln []) := by rw [hks, hi0]; simp
  obtain ⟨bb, hbb, hb0⟩ := hA.kid e0
  have hAr : adr n.A = some ⟨bb, 0, none⟩ := by rw [hbb]; rfl
  have c6 : w1.cell? ⟨n.g, 6, none⟩ = some (.slice (some ⟨bb, 0, none⟩) len n.c) := by have := hA.c6; rw [hAr, ← hlen0] at this; exact this
  have c5 := hA.c5
  rw [hway] at c5
  have c7 := hA.c7
  have hrow : n.row len = .slice (some ⟨bb, 0, none⟩) len n.c := by unfold Nd.row; rw [hAr]
  have hO : w1.ownsRow 0 55 1 (.slice (some ⟨bb, 0, none⟩) len n.c) len (ptrs ks) := by have := hA.r; rw [← hlen0, hrow] at this; exact this
  have hR := own_Rd hO
  obtain ⟨nd, hin, hout⟩ := hT1.apart
  have hblm : (T.mk n ks).bl = n.g :: (bb :: blL ks) := by rw [T.bl_mk, hbb]; rfl
  rw [hblm] at nd hin
  obtain ⟨m1, m2⟩ := List.nodup_cons.1 nd
  obtain ⟨m3, m4⟩ := List.nodup_cons.1 m2
  have hblk : blL ks = blL L ++ ((hn.g :: hn.A.toList) ++ ((ln.g :: ln.A.toList) ++ blL R)) := by
    rw [hks, blL_app, blL_cons, blL_cons, bl_leaf, bl_leaf]
  have hsep : ∀ s ∈ ks.take (i0 + 1), s.g ≠ ln.g := by
    have h2 : ks = (L ++ [.mk hn []]) ++ .mk ln [] :: R := by rw [hks]; simp
    have h3 : ks.take (i0 + 1) = L ++ [.mk hn []] := by rw [h2]; exact List.take_left' (by rw [hi0]; simp)
    rw [h3]
    rw [h2] at m4
    exact g_sep m4
  have CI := index_any (some ⟨bb, 0, none⟩) len n.c ln.g (i0 + 1) ks (.mk ln []) w1 hlen0 (by omega) hR e1 rfl hsep (fun s hs => (hK s hs).isC)
  have hw1 : IntKind.i64.wrap (ln.a + 1) = ln.a + 1 := by rw [IntKind.wrap_i64]; omega
  have hAgh : hn.A ≠ some hn.g := by
    intro e
    have h1 := (List.nodup_append.1 (List.nodup_append.1 (hblk ▸ m4)).2.1).1
    rw [e] at h1; simp at h1
  have CG := grow_leaf (some n.g) hn 0 (ln.a + 1) w1.drew (hhA.same fun _ _ => rfl) (.inl rfl) hAgh (by omega)
  have hi1 : ((i0 + 1 : Nat) : Int) - 1 = (i0 : Int) := by omega
  have hi2 : ¬ ((i0 + 1 : Nat) : Int) = 0 := by omega
  have hi3 : (i0 : Int) < (len : Int) := by omega
  have hi4 : (0 : Int) ≤ (i0 : Int) := by omega
  have hwi : wrap64 (i0 : Int) = (i0 : Int) := wr_of (by omega)
  have hqi : ((i0 : Int) + 1 == 0) = false := succ_beq i0
  replace G1 := Lib.hid G1; replace hT1 := Lib.hid hT1; replace hp := Lib.hid hp; replace hA := Lib.hid hA; replace hK := Lib.hid hK; replace hhA := Lib.hid hhA; replace hlA := Lib.hid hlA; replace e0 := Lib.hid e0; replace e1 := Lib.hid e1; replace hbb := Lib.hid hbb; replace hAr := Lib.hid hAr; replace hrow := Lib.hid hrow; replace hO := Lib.hid hO; replace hR := Lib.hid hR
  replace nd := Lib.hid nd; replace hin := Lib.hid hin; replace hout := Lib.hid hout; replace hblm := Lib.hid hblm; replace m1 := Lib.hid m1; replace m2 := Lib.hid m2; replace m3 := Lib.hid m3; replace m4 := Lib.hid m4; replace hblk := Lib.hid hblk; replace hsep := Lib.hid hsep; replace CI := Lib.hid CI; replace CG := Lib.hid CG; replace hAgh := Lib.hid hAgh; replace hks := Lib.hid hks; replace hi0 := Lib.hid hi0; replace hlen0 := Lib.hid hlen0; replace hlen1 := Lib.hid hlen1
  replace hb0 : w1.cell? ⟨bb, i0, none⟩ = some (ptr hn.g) := hb0
  unfold ptr at hb0 CI CG
  push_cast at CI hi1 hi2
  clear CL
  go_wp2_with fail
  refine CI.out.mono ?_
  rintro e w2 ⟨rfl, rfl⟩
  clear CI
  go_upto_region 11 with fail
  go_still_tail 21, (by kernel_rfl)
  change wpList _ _ _ _ _ w2.drew
  go_wp2_with fail
  refine CG.out.mono ?_
  rintro e w3 ⟨rfl, hh3, o3⟩
  have o3' : Off [hn.g] w2 w3 := ⟨o3.os, o3.tape, o3.output, o3.size, o3.block⟩
  obtain ⟨h', hh'⟩ : ∃ h', h' = hn.add 0 (ln.a + 1) := ⟨_, rfl⟩
  rw [← hh'] at hh3
  have hg' : h'.g = hn.g ∧ h'.A = hn.A := by rw [hh']; exact ⟨(Nd.add_g hn 0 _).1, (Nd.add_g hn 0 _).2.1⟩
  obtain ⟨ks3, hks3⟩ : ∃ ks3, ks3 = L ++ .mk h' [] :: .mk ln [] :: R := ⟨_, rfl⟩
  have hp3 : ptrs ks3 = ptrs ks := by rw [hks3, hks.out]; simp [ptrs, T.g, T.n, hg'.1]
  have hmem : ∀ x ∈ blL ks, x ∈ n.g :: (bb :: blL ks) := fun x hx => by simp [hx]
  have hhm : hn.g ∈ blL ks := by rw [hblk.out]; simp
  have hnh : n.g ≠ hn.g := fun e => m1.out (by rw [e]; exact List.mem_cons_of_mem _ hhm)
  have hbh : bb ≠ hn.g := fun e => m3.out (by rw [e]; exact hhm)
  have hbn : bb ≠ n.g := fun e => m1.out (by rw [← e]; simp)
  have hA3 : At w3 (upOf c0) n ks3 := by
    refine At.congr (ks := ks) (hA.out.same fun b hb => o3'.block b (hA.out.lt b hb) ?_) hp3
    rw [hbb.out] at hb
    simp at hb ⊢
    rcases hb with rfl | rfl
    · exact hnh
    · exact hbh
  have hl1 := hlen1.out
  have hi0' := hi0.out
  have hl3 : ks3.length = len := by have := congrArg List.length hp3; simp [ptrs] at this; rw [this, hlen0.out]
  have c63 : w3.cell? ⟨n.g, 6, none⟩ = some (.slice (some ⟨bb, 0, none⟩) len n.c) := by have := hA3.c6; rw [hAr.out, hl3] at this; exact this
  have hO3 : w3.ownsRow 0 55 1 (.slice (some ⟨bb, 0, none⟩) len n.c) len (ptrs ks3) := by have := hA3.r; rw [hl3, hrow.out] at this; exact this
  obtain ⟨ks5, hks5⟩ : ∃ ks5, ks5 = L ++ .mk h' [] :: R := ⟨_, rfl⟩
  have htd : ks3.take (i0 + 1) ++ ks3.drop (i0 + 1 + 1) = ks5 := by
    have h2 : ks3 = (L ++ [.mk h' []]) ++ .mk ln [] :: R := by rw [hks3]; simp
    have h3 : (L ++ [T.mk h' []]).length = i0 + 1 := by simp [hi0.out]
    have h4 : ((L ++ [T.mk h' []]) ++ .mk ln [] :: R).drop (i0 + 1 + 1) = (((L ++ [T.mk h' []]) ++ .mk ln [] :: R).drop (i0 + 1)).drop 1 := by rw [List.drop_drop]
    rw [h2, h4, List.take_left' h3, List.drop_left' h3, hks5]
    simp
  have CD : Calls Tryd.prog 38 #[.slice (some ⟨bb, 0, none⟩) len n.c, .int .i64 ((i0 : Int) + 1), .int .i64 ((i0 : Int) + 1 + 1)] w3 (fun e w' => e = .returned (.slice (some ⟨bb, 0, none⟩) (len - 1) n.c) ∧ Hid (w'.ownsRow 0 55 1 (.slice (some ⟨bb, 0, none⟩) (len - 1) n.c) (len - 1) (ptrs ks5) ∧ Off [bb] w3 w')) := by
    have := delete_any 0 bb len n.c (i0 + 1) ks3 w3 hl3.symm (by omega) hO3
    rw [htd] at this
    push_cast at this
    exact this.mono fun e w' ⟨h1, h2, h3⟩ => ⟨h1, Lib.hid ⟨h2, h3⟩⟩
  have hkd : ∀ w4, Off [bb] w3 w4 → w4.cell? ⟨n.g, 6, none⟩ = some (.slice (some ⟨bb, 0, none⟩) len n.c) ∧ w4.frozen? ⟨n.g, 6, none⟩ = false := fun w4 h => by
    have e : w4.heap[n.g]? = w3.heap[n.g]? := h.block _ (lt_of_heap hA3.h) (by simp; exact fun e => hbn e.symm)
    exact ⟨(World.cell?_of_block (a := ⟨n.g, 6, none⟩) e).trans c63, (World.frozen?_of_block (a := ⟨n.g, 6, none⟩) e).trans (hA3.free 6)⟩
  have hwj : IntKind.i64.wrap ((i0 : Int) + 1 + 1) = (i0 : Int) + 1 + 1 := wrap_two i0 (by have := hlen0.out; omega)
  have hwk : wrap64 ((i0 : Int) + 1 + 1) = (i0 : Int) + 1 + 1 := wr_of (by have := hlen0.out; omega)
  replace hl1 := Lib.hid hl1; replace hi0' := Lib.hid hi0'
  replace hkd := Lib.hid hkd; replace hA3 := Lib.hid hA3; replace hO3 := Lib.hid hO3; replace o3 := Lib.hid o3; replace o3' := Lib.hid o3'; replace hh3 := Lib.hid hh3; replace CD := Lib.hid CD; replace hp3 := Lib.hid hp3; replace hks3 := Lib.hid hks3; replace hks5 := Lib.hid hks5; replace htd := Lib.hid htd; replace hh' := Lib.hid hh'; replace hg' := Lib.hid hg'; replace hmem := Lib.hid hmem; replace hhm := Lib.hid hhm; replace hl3 := Lib.hid hl3
  replace hnh := Lib.hid hnh; replace hbh := Lib.hid hbh; replace hbn := Lib.hid hbn
  clear CG c6 c5 c7 q3 q7 hb0
  go_wp2_with fail
  refine CD.out.mono ?_
  rintro e w4 ⟨rfl, hP4⟩
  obtain ⟨d6, d6f⟩ := hkd.out w4 hP4.out.2
  go_upto_region 13 with fail
  obtain ⟨hO4, o4⟩ := hP4.out
  obtain ⟨W5, hW5⟩ : ∃ W5, W5 = w4.setCell ⟨n.g, 6, none⟩ (.slice (some ⟨bb, 0, none⟩) (len - 1) n.c) := ⟨_, rfl⟩
  have hbase2 : base ≤ w2.heap.size := Nat.le_trans hbase G1.out.size
  obtain ⟨hT5, o5⟩ := shut_next hT1.out hbase2 hks.out hks5.out hlen0.out hbb.out o3'.out hh3.out hg'.out.1 hg'.out.2 o4 hO4 hW5
  have hB5 : Below base w W5 := by
    have b1 : Below base w w2 := ⟨G1.out.os, G1.out.tape, G1.out.output, G1.out.size, fun k hk => G1.out.block k (by omega) (by simp)⟩
    refine b1.trans (o5.below (B := base) ?_ hbase2)
    intro b hb
    simp at hb
    rcases hb with rfl | rfl | rfl
    · exact (hin.out _ (hmem.out _ hhm.out)).2.2.1
    · exact (hin.out _ (by simp)).2.2.1
    · exact (hin.out _ (by simp)).2.2.1
  have hA5 := ((TP_plug c0 _).1 hT5.p).2.at_
  have hl5 : ks5.length = len - 1 := by rw [hks5.out, hl1.out, hi0.out]; simp; omega
  have c56 : W5.cell? ⟨n.g, 6, none⟩ = some (.slice (some ⟨bb, 0, none⟩) (len - 1) n.c) := by have := hA5.c6; rw [hAr.out, hl5] at this; exact this
  rw [← hW5]
  obtain ⟨m, hm⟩ : ∃ m, m = len - 1 := ⟨_, rfl⟩
  rw [← hm] at c56
  have hh'o := hh'.out
  have hRo := hRR.out
  rw [← hh'o] at hw01 hw02 hRo
  by_cases hz1 : L.length = 0 ∧ R.length = 0
  · rw [if_pos hz1] at hRo
    have hL : L = [] := List.eq_nil_of_length_eq_zero hz1.1
    have hRn : R = [] := List.eq_nil_of_length_eq_zero hz1.2
    have hm1 : m = 1 := eq_one hl1.out hm (by rw [hi0.out]; exact hz1)
    rw [hm1] at c56
    have hk5 : ks5 = [.mk h' []] := by rw [hks5.out, hL, hRn]; rfl
    obtain ⟨b', hb', c5b⟩ := hA5.kid (i := 0) (k := .mk h' []) (by rw [hk5]; rfl)
    rw [hbb.out] at hb'
    injection hb' with hb'
    subst hb'
    replace c5b : W5.cell? ⟨bb, 0, none⟩ = some (ptr h'.g) := c5b
    rw [hk5] at hT5
    obtain ⟨uu, c57⟩ : ∃ uu, W5.cell? ⟨n.g, 7, none⟩ = some (.pointer uu) := by
      have := hA5.c7
      cases hc : upOf c0 with
      | none => rw [hc] at this; exact ⟨_, this⟩
      | some g => rw [hc] at this; exact ⟨_, this⟩
    have CPt := put_kid hT5 (Nat.le_trans hbase hB5.size)
    rw [hg'.out.1] at CPt c5b
    obtain ⟨tt, htt⟩ : ∃ tt, tt = plug c0 (.mk h' []) := ⟨_, rfl⟩
    rw [← htt] at CPt hw02 hRo
    replace hRo := Lib.hid hRo; replace hT5 := Lib.hid hT5; replace o5 := Lib.hid o5; replace hB5 := Lib.hid hB5; replace CPt := Lib.hid CPt; replace hA5 := Lib.hid hA5; replace hW5 := Lib.hid hW5; replace hm := Lib.hid hm; replace htt := Lib.hid htt; replace hl5 := Lib.hid hl5; replace hO4 := Lib.hid hO4; replace o4 := Lib.hid o4; replace hz1 := Lib.hid hz1; replace hh'o := Lib.hid hh'o; replace hL := Lib.hid hL; replace hRn := Lib.hid hRn; replace hk5 := Lib.hid hk5; replace hm1 := Lib.hid hm1
    clear CD d6 d6f c63
    unfold ptr at CPt c5b
    go_wp2_with fail
    refine CPt.out.mono ?_
    rintro e w6 ⟨rfl, hT6, hB6⟩
    have q60 := hT6.c0
    have hT6' := hT6
    rw [htt.out] at hT6'
    have c66 := ((TP_plug c0 _).1 hT6'.p).2.at_.c6
    obtain ⟨AA, hAA⟩ : ∃ AA, AA = adr h'.A := ⟨_, rfl⟩
    replace c66 : w6.cell? ⟨hn.g, 6, none⟩ = some (.slice AA 0 h'.c) := by rw [← hg'.out.1, hAA]; exact c66
    have CPl := place_any tt none 0 0 w6 hT6.p hT6.nd hw02.out
    replace hT6 := Lib.hid hT6; replace hB6 := Lib.hid hB6; replace CPl := Lib.hid CPl; replace hT6' := Lib.hid hT6'; replace hAA := Lib.hid hAA
    clear CPt c56 c5b c57
    unfold ptr at CPl q60
    have huu : uu = none ∨ ∃ a, uu = some a := by cases uu with
      | none => exact .inl rfl
      | some a => exact .inr ⟨a, rfl⟩
    rcases huu with rfl | ⟨a, rfl⟩
    all_goals
      go_wp2_with fail
      refine CPl.out.mono ?_
      rintro e w7 ⟨rfl, hT7, o7⟩
      go_wp2_with fail
      go_ret
      rw [hRo.out]
      exact ⟨rfl, (hB5.out.trans hB6.out).trans (o7.below hT6.out.lo.2 (Nat.le_trans hbase (Nat.le_trans hB5.out.size hB6.out.size))), hT6.out.placed hT7 o7⟩
  rw [if_neg hz1] at hRo
  have hq1 : ((m : Int) == 1) = false := beq_one m (ne_one hl1.out hm (by rw [hi0.out]; exact hz1))
  have hT5p : Tr base W5 tr (plug c0 (.mk n (L ++ .mk h' [] :: R))) := by rw [← hks5.out]; exact hT5
  obtain ⟨tt, htt⟩ : ∃ tt, tt = plug c0 (.mk n (L ++ .mk h' [] :: R)) := ⟨_, rfl⟩
  rw [← htt] at hT5p hw01 hRo
  replace hRo := Lib.hid hRo
  have CPl := place_any tt none 0 0 W5 hT5p.p hT5p.nd hw01.out
  have q60 := hT5p.c0
  replace hT5 := Lib.hid hT5; replace hT5p := Lib.hid hT5p; replace o5 := Lib.hid o5; replace hB5 := Lib.hid hB5; replace CPl := Lib.hid CPl; replace hA5 := Lib.hid hA5; replace hW5 := Lib.hid hW5; replace hm := Lib.hid hm; replace htt := Lib.hid htt; replace hl5 := Lib.hid hl5; replace hO4 := Lib.hid hO4; replace o4 := Lib.hid o4; replace hz1 := Lib.hid hz1; replace hh'o := Lib.hid hh'o
  clear CD d6 d6f c63
  unfold ptr at CPl q60
  go_wp2_with fail
  refine CPl.out.mono ?_
  rintro e w7 ⟨rfl, hT7, o7⟩
  go_wp2_with fail
  go_ret
  rw [hRo.out]
  exact ⟨rfl, hB5.out.trans (o7.below hT5p.out.lo.2 (Nat.le_trans hbase hB5.out.size)), hT5p.out.placed hT7 o7⟩
end Go.Proofs.YtcklmkjlbpjojaaDoor
