/- Layout: a tree from which a leaf was cut away behind its neighbour, which was grown. No walk. Layout: a single kid put in its parent's place. Layout: a row of kids from which one is cut, its neighbour turned; a single kid put in its parent's place. -/
import Derived.Test.YtcklmkjlbpjojaaDoorH4
import Derived.Test.YtcklmkjlbpjojaaDoorM3
import Derived.Test.YtcklmkjlbpjojaaDoorMA
namespace Go.Proofs.YtcklmkjlbpjojaaDoor
open Go.RowKit
set_option linter.unusedSimpArgs false
set_option linter.unusedVariables false

theorem shut_next {base tr bb len : Nat} {c0 : List Fr} {n hn h' ln : Nd} {L R ks ks5 : List T} {w2 w3 w4 W5 : World}
    (hT : Tr base w2 tr (plug c0 (.mk n ks))) (hbase : base ≤ w2.heap.size) (hks : ks = L ++ .mk hn [] :: .mk ln [] :: R) (hks5 : ks5 = L ++ .mk h' [] :: R)
    (hlen : len = ks.length) (hbb : n.A = some bb) (o3 : Off [hn.g] w2 w3) (hh : At w3 (some n.g) h' []) (hg : h'.g = hn.g) (hA : h'.A = hn.A)
    (o4 : Off [bb] w3 w4) (hO4 : w4.ownsRow 0 55 1 (.slice (some ⟨bb, 0, none⟩) (len - 1) n.c) (len - 1) (ptrs ks5))
    (hW5 : W5 = w4.setCell ⟨n.g, 6, none⟩ (.slice (some ⟨bb, 0, none⟩) (len - 1) n.c)) :
    Tr base W5 tr (plug c0 (.mk n ks5)) ∧ Off [hn.g, bb, n.g] w2 W5 := by
  have hp := (TP_plug c0 _).1 hT.p
  have hAt := hp.2.at_
  have hK := TPs_iff.1 hp.2.kids
  obtain ⟨nd, hin, hout⟩ := hT.apart
  have hblm : (T.mk n ks).bl = n.g :: (bb :: blL ks) := by rw [T.bl_mk, hbb]; rfl
  have hblk : blL ks = blL L ++ ((hn.g :: hn.A.toList) ++ ((ln.g :: ln.A.toList) ++ blL R)) := by
    rw [hks, blL_app, blL_cons, blL_cons, bl_leaf, bl_leaf]
  have hblk5 : blL ks5 = blL L ++ ((hn.g :: hn.A.toList) ++ blL R) := by
    rw [hks5, blL_app, blL_cons, bl_leaf, hg, hA]
  have hsub : (blL ks5).Sublist (blL ks) := by
    rw [hblk, hblk5]
    exact (List.Sublist.refl _).append ((List.Sublist.refl _).append (List.sublist_append_right _ _))
  have hbl5 : (T.mk n ks5).bl = n.g :: (bb :: blL ks5) := by rw [T.bl_mk, hbb]; rfl
  rw [hblm] at nd
  obtain ⟨m1, m2⟩ := List.nodup_cons.1 nd
  obtain ⟨m3, m4⟩ := List.nodup_cons.1 m2
  have hng : n.g ∉ blL ks := fun h => m1 (List.mem_cons_of_mem _ h)
  have hbn : bb ≠ n.g := fun e => m1 (by rw [← e]; simp)
  have hmh : hn.g ∈ blL ks := by rw [hblk]; simp
  have hlt : ∀ b ∈ n.g :: (bb :: blL ks), b < w2.heap.size := fun b hb => (hin b (by rw [hblm]; exact hb)).2.2.2
  have o5 : Off [n.g] w4 W5 := by rw [hW5]; exact Off.set w4 ⟨n.g, 6, none⟩ _
  have ho : Off [hn.g, bb, n.g] w2 W5 := by
    have z1 : Off [hn.g, bb, n.g] w2 w2 := Off.refl _ _
    have z2 := z1.trans o3 (by simp)
    have z3 := z2.trans o4 (by simp)
    exact z3.trans o5 (by simp)
  refine ⟨hT.focus (t' := .mk n ks5) ho ?_ ?_ rfl ?_ ?_ hbase, ho⟩
  · intro b hb
    left
    rw [hblm]
    simp at hb
    rcases hb with rfl | rfl | rfl
    · simp [hmh]
    · simp
    · simp
  · have h2 := hAt.h
    have e3 : w3.heap[n.g]? = w2.heap[n.g]? := o3.block _ (hlt _ (by simp)) (by simp; exact fun e => hng (e ▸ hmh))
    have e4 : w4.heap[n.g]? = w3.heap[n.g]? := o4.block _ (by have := hlt n.g (by simp); have := o3.size; omega) (by simp; exact fun e => hbn e.symm)
    have h5 := heap_set (j := 6) (e4.trans (e3.trans h2)) (.slice (some ⟨bb, 0, none⟩) (len - 1) n.c)
    rw [← hW5] at h5
    have hl5 : ks5.length = len - 1 := by rw [hlen, hks, hks5]; simp
    have hrow : n.row ks5.length = .slice (some ⟨bb, 0, none⟩) (len - 1) n.c := by unfold Nd.row adr; rw [hbb, hl5]; rfl
    refine ⟨⟨?_, ?_⟩, TPs_iff.2 fun s hs => ?_⟩
    · rw [hrow]; exact h5
    · rw [hrow, hl5]
      exact own_same hO4 fun b hb => by
        have e : b = bb := by
          simp [Value.ownBlock] at hb
          exact hb.symm
        subst e
        exact o5.block b (by have := hlt b (by simp); have := o3.size; have := o4.size; omega) (by simp; exact hbn)
    · have hsb : ∀ b ∈ s.bl, b ∈ blL ks5 := fun b hb => mem_blL.2 ⟨s, hs, hb⟩
      have hs2 : s ∈ L ∨ s = .mk h' [] ∨ s ∈ R := by rw [hks5] at hs; simpa using hs
      have hmid : ∀ b ∈ s.bl, b ≠ bb ∧ b ≠ n.g := fun b hb => ⟨fun e => m3 (e ▸ hsub.subset (hsb b hb)), fun e => hng (e ▸ hsub.subset (hsb b hb))⟩
      have out : s ∈ ks → (∀ b ∈ s.bl, b ≠ hn.g) → TP W5 (some n.g) s := fun h1 h2 => (hK s h1).off ho (by
        intro b hb hm
        simp at hm
        rcases hm with e | e | e
        · exact h2 b hb e
        · exact (hmid b hb).1 e
        · exact (hmid b hb).2 e)
      rw [hblk] at m4
      obtain ⟨d1, d2, d3⟩ := List.nodup_append.1 m4
      obtain ⟨d4, d5, d6⟩ := List.nodup_append.1 d2
      rcases hs2 with h1 | h1 | h1
      · exact out (by rw [hks]; simp [h1]) fun b hb e => d3 b (mem_blL.2 ⟨s, h1, hb⟩) hn.g (by simp) e
      · subst h1
        have t3 : TP w3 (some n.g) (.mk h' []) := .mk hh trivial
        have o45 : Off [bb, n.g] w3 W5 := ((Off.refl [bb, n.g] w3).trans o4 (by simp)).trans o5 (by simp)
        exact t3.off o45 (by
          intro b hb hm
          simp at hm
          rcases hm with e | e
          · exact (hmid b hb).1 e
          · exact (hmid b hb).2 e)
      · exact out (by rw [hks]; simp [h1]) fun b hb e => d6 hn.g (by simp) b (by simp [mem_blL.2 ⟨s, h1, hb⟩]) e.symm
  · rw [hbl5]
    exact nd.sublist ((hsub.cons_cons bb).cons_cons n.g)
  · intro b hb
    left
    rw [hbl5] at hb
    rw [hblm]
    exact ((hsub.cons_cons bb).cons_cons n.g).subset hb
end Go.Proofs.YtcklmkjlbpjojaaDoor
namespace Go.Proofs.YtcklmkjlbpjojaaDoor
open Go.RowKit
set_option linter.unusedSimpArgs false
set_option linter.unusedVariables false

theorem put_top {base tr : Nat} {n h' : Nd} {w : World} (hT : Tr base w tr (.mk n [.mk h' []])) (hbase : base ≤ w.heap.size) :
    Calls Tryd.prog 31 #[ptr tr, ptr n.g, ptr h'.g] w fun e w' => e = .returned (.tuple #[]) ∧ Tr base w' tr (.mk h' []) ∧ Below base w w' := by
  have hA := hT.p.at_
  have hk := TPs_iff.1 hT.p.kids (.mk h' []) (by simp)
  have hbl : (T.mk n [.mk h' []]).bl = n.g :: (n.A.toList ++ (h'.g :: h'.A.toList)) := by rw [T.bl_mk, blL_cons, blL_nil, List.append_nil, bl_leaf]
  have nd := hT.nd
  have nt := hT.nt
  have lo := hT.lo
  rw [hbl] at nd nt lo
  have hne : n.g ≠ h'.g := fun e => (List.nodup_cons.1 nd).1 (by simp [e])
  have hnt : h'.g ≠ tr := fun e => nt (by simp [e])
  have hsub : (h'.g :: h'.A.toList).Sublist (n.g :: (n.A.toList ++ (h'.g :: h'.A.toList))) := (List.sublist_append_right _ _).cons _
  have nd' : (T.mk h' []).bl.Nodup := by rw [bl_leaf]; exact nd.sublist hsub
  have htr : w.heap[tr]? = some (.cells #[ptr n.g] 60 (0, 0)) := hT.h
  refine (put_root tr n.g h'.g _ _ w hA.c7 hne hk.at_.c7 (hk.at_.free 7) hT.c0 (free_of_heap htr 0) hnt).mono ?_
  rintro e w' ⟨rfl, rfl⟩
  obtain ⟨h1, h2⟩ := hk.reup (up' := none) nd'
  have o6 : Off [tr] (w.setCell ⟨h'.g, 7, none⟩ (.pointer none)) ((w.setCell ⟨h'.g, 7, none⟩ (.pointer none)).setCell ⟨tr, 0, none⟩ (ptr h'.g)) := Off.set _ ⟨tr, 0, none⟩ _
  have hin : ∀ b ∈ (T.mk h' []).bl, b ∈ n.g :: (n.A.toList ++ (h'.g :: h'.A.toList)) := fun b hb => by rw [bl_leaf] at hb; exact hsub.subset hb
  refine ⟨rfl, ⟨?_, h1.off o6 fun b hb hm => ?_, nd', fun hm => nt (hin _ hm), lo.1, fun b hb => lo.2 b (hin b hb)⟩, ?_⟩
  · have e1 : (w.setCell ⟨h'.g, 7, none⟩ (.pointer none)).heap[tr]? = some (.cells #[ptr n.g] 60 (0, 0)) := by
      rw [Below.heap_setCell _ _ _ _ (by exact fun e => hnt e.symm)]; exact htr
    rw [heap_set e1]; rfl
  · simp at hm
    exact nt (hm ▸ hin _ hb)
  · have b5 : Below base w (w.setCell ⟨h'.g, 7, none⟩ (.pointer none)) := h2.below (B := base) (by intro x hx; rw [List.mem_singleton] at hx; rw [hx]; exact lo.2 h'.g (by simp)) hbase
    exact b5.trans (o6.below (B := base) (by simp; exact lo.1) (Nat.le_trans hbase h2.size))

theorem put_up {base tr : Nat} {f : Fr} {d : List Fr} {n h' : Nd} {w : World} (hT : Tr base w tr (plug (f :: d) (.mk n [.mk h' []]))) (hbase : base ≤ w.heap.size) :
    Calls Tryd.prog 31 #[ptr tr, ptr n.g, ptr h'.g] w fun e w' => e = .returned (.tuple #[]) ∧ Tr base w' tr (plug (f :: d) (.mk h' [])) ∧ Below base w w' := by
  have hT' : Tr base w tr (plug d (.mk f.n (f.L ++ .mk n [.mk h' []] :: f.R))) := hT
  obtain ⟨nd, hin, hout⟩ := hT'.apart
  have hp := (TP_plug d _).1 hT'.p
  have hAt := hp.2.at_
  have hK := TPs_iff.1 hp.2.kids
  have hkt := hK (.mk n [.mk h' []]) (by simp)
  have hk := TPs_iff.1 hkt.kids (.mk h' []) (by simp)
  obtain ⟨b, hb, _⟩ := hAt.kid (i := f.L.length) (k := .mk n [.mk h' []]) (by simp)
  have hbt : (T.mk n [.mk h' []]).bl = n.g :: (n.A.toList ++ (h'.g :: h'.A.toList)) := by rw [T.bl_mk, blL_cons, blL_nil, List.append_nil, bl_leaf]
  have hbl : (T.mk f.n (f.L ++ .mk n [.mk h' []] :: f.R)).bl = f.n.g :: (b :: blL (f.L ++ .mk n [.mk h' []] :: f.R)) := by rw [T.bl_mk, hb]; rfl
  have hks : blL (f.L ++ .mk n [.mk h' []] :: f.R) = blL f.L ++ ((n.g :: (n.A.toList ++ (h'.g :: h'.A.toList))) ++ blL f.R) := by rw [blL_app, blL_cons, hbt]
  have hks' : blL (f.L ++ .mk h' [] :: f.R) = blL f.L ++ ((h'.g :: h'.A.toList) ++ blL f.R) := by rw [blL_app, blL_cons, bl_leaf]
  have hbl' : (T.mk f.n (f.L ++ .mk h' [] :: f.R)).bl = f.n.g :: (b :: blL (f.L ++ .mk h' [] :: f.R)) := by rw [T.bl_mk, hb]; rfl
  have hsub : (blL (f.L ++ .mk h' [] :: f.R)).Sublist (blL (f.L ++ .mk n [.mk h' []] :: f.R)) := by
    rw [hks, hks']
    exact (List.Sublist.refl _).append (((List.sublist_append_right _ _).cons _).append (List.Sublist.refl _))
  rw [hbl] at nd
  obtain ⟨m1, m2⟩ := List.nodup_cons.1 nd
  obtain ⟨m3, m4⟩ := List.nodup_cons.1 m2
  have hng : n.g ∈ blL (f.L ++ .mk n [.mk h' []] :: f.R) := by rw [hks]; simp
  have hhg : h'.g ∈ blL (f.L ++ .mk n [.mk h' []] :: f.R) := by rw [hks]; simp
  have hfg : ∀ x ∈ blL (f.L ++ .mk n [.mk h' []] :: f.R), x ≠ f.n.g ∧ x ≠ b := fun x hx => ⟨fun e => m1 (e ▸ List.mem_cons_of_mem _ hx), fun e => m3 (e ▸ hx)⟩
  have hbf : b ≠ f.n.g := fun e => m1 (by rw [← e]; simp)
  have hd := g_sep m4
  have m5 := m4
  rw [hks] at m5
  obtain ⟨d1, d2, d3⟩ := List.nodup_append.1 m5
  obtain ⟨d4, d5, d6⟩ := List.nodup_append.1 d2
  have hhn : h'.g ≠ n.g := fun e => (List.nodup_cons.1 d4).1 (by rw [← e]; simp)
  have hLn : ∀ s ∈ f.L, ∀ x ∈ s.bl, x ≠ h'.g := fun s hs x hx e => d3 x (mem_blL.2 ⟨s, hs, hx⟩) h'.g (by simp) e
  have hRn : ∀ s ∈ f.R, ∀ x ∈ s.bl, x ≠ h'.g := fun s hs x hx e => d6 h'.g (by simp) x (mem_blL.2 ⟨s, hs, hx⟩) e.symm
  have h5 : ∀ s ∈ f.L ++ .mk n [.mk h' []] :: f.R, s.g ≠ h'.g := by
    intro s hs
    simp at hs
    rcases hs with h | rfl | h
    · exact hLn s h _ s.g_mem
    · exact fun e => hhn e.symm
    · exact hRn s h _ s.g_mem
  refine (put_in tr h'.g b _ _ f.n f.L f.R (.mk n [.mk h' []]) w hAt hb hkt.at_.c7 hk.at_.c7 (hk.at_.free 7) (fun s hs => (hK s hs).isC) hk.isC hd hhn (hfg _ hhg).1 (hfg _ hhg).2 hbf (fun e => (hfg _ hng).2 e.symm) h5).mono ?_
  rintro e w' ⟨rfl, hw'⟩
  have nd' : (T.mk h' []).bl.Nodup := by rw [bl_leaf]; exact (d4.sublist ((List.sublist_append_right _ _).cons _))
  obtain ⟨W6, hW6⟩ : ∃ W6, W6 = w.setCell ⟨h'.g, 7, none⟩ (ptr f.n.g) := ⟨_, rfl⟩
  obtain ⟨h1, h2⟩ := hk.reup (up' := some f.n.g) nd'
  replace h1 : TP W6 (some f.n.g) (.mk h' []) := by rw [hW6]; exact h1
  replace h2 : Off [h'.g] w W6 := by rw [hW6]; exact h2
  rw [← hW6] at hw'
  have o7 : Off [b] W6 w' := by
    rw [hw']
    exact (Off.set W6 ⟨b, f.L.length, none⟩ (ptr h'.g)).trans (Off.drew (S := []) _) (by simp)
  have ho : Off [h'.g, b] w w' := ((Off.refl [h'.g, b] w).trans h2 (by simp)).trans o7 (by simp)
  have hAt6 : At W6 (upOf d) f.n (f.L ++ .mk n [.mk h' []] :: f.R) := hAt.same fun x hx => h2.block x (hAt.lt x hx) (by
    rw [hb] at hx
    simp at hx ⊢
    rcases hx with rfl | rfl
    · exact fun e => (hfg _ hhg).1 e.symm
    · exact fun e => (hfg _ hhg).2 e.symm)
  have hAt7 : At w' (upOf d) f.n (f.L ++ .mk h' [] :: f.R) := by
    rw [hw']
    exact (hAt6.slot (t' := .mk h' []) (x := h'.g) hb hbf rfl).same fun _ _ => rfl
  have hTr : Tr base w' tr (plug d (.mk f.n (f.L ++ .mk h' [] :: f.R))) := by
    refine hT'.focus ho ?_ ⟨hAt7, TPs_iff.2 fun s hs => ?_⟩ rfl ?_ ?_ hbase
    · intro x hx
      left
      rw [hbl]
      simp at hx
      rcases hx with rfl | rfl
      · simp [hhg]
      · simp
    · simp at hs
      have hmid : ∀ x ∈ s.bl, x ≠ b := fun x hx => (hfg x (hsub.subset (mem_blL.2 ⟨s, by simpa using hs, hx⟩))).2
      rcases hs with h | rfl | h
      · exact (hK s (by simp [h])).off ho (by
          intro x hx hm
          simp at hm
          rcases hm with e | e
          · exact hLn s h x hx e
          · exact hmid x hx e)
      · exact h1.off o7 (by
          intro x hx hm
          simp at hm
          exact hmid x hx hm)
      · exact (hK s (by simp [h])).off ho (by
          intro x hx hm
          simp at hm
          rcases hm with e | e
          · exact hRn s h x hx e
          · exact hmid x hx e)
    · rw [hbl']
      exact nd.sublist ((hsub.cons_cons b).cons_cons f.n.g)
    · intro x hx
      left
      rw [hbl'] at hx
      rw [hbl]
      exact ((hsub.cons_cons b).cons_cons f.n.g).subset hx
  refine ⟨rfl, hTr, ho.below (B := base) ?_ hbase⟩
  intro x hx
  simp at hx
  rcases hx with rfl | rfl
  · exact (hin _ (by rw [hbl]; simp [hhg])).2.2.1
  · exact (hin _ (by rw [hbl]; simp)).2.2.1

theorem put_kid {base tr : Nat} {c0 : List Fr} {n h' : Nd} {w : World} (hT : Tr base w tr (plug c0 (.mk n [.mk h' []]))) (hbase : base ≤ w.heap.size) :
    Calls Tryd.prog 31 #[ptr tr, ptr n.g, ptr h'.g] w fun e w' => e = .returned (.tuple #[]) ∧ Tr base w' tr (plug c0 (.mk h' [])) ∧ Below base w w' := by
  cases c0 with
  | nil => exact put_top hT hbase
  | cons f d => exact put_up hT hbase
end Go.Proofs.YtcklmkjlbpjojaaDoor
namespace Go.Proofs.YtcklmkjlbpjojaaDoor
open Go.RowKit
set_option linter.unusedSimpArgs false
set_option linter.unusedVariables false

theorem blL_sub {A B : List T} (h : A.Sublist B) : (blL A).Sublist (blL B) := by
  induction h with
  | slnil => exact List.Sublist.refl _
  | cons a _ ih => rw [blL_cons]; exact ih.trans (List.sublist_append_right _ _)
  | cons_cons a _ ih => rw [blL_cons, blL_cons]; exact (List.Sublist.refl _).append ih
theorem ks_bl {t : T} {s : T} (hs : s ∈ t.ks) : ∀ b ∈ s.bl, b ∈ t.bl := by
  cases t with | mk n ks =>
    intro b hb
    rw [T.bl_mk]
    have : b ∈ blL ks := mem_blL.2 ⟨s, hs, hb⟩
    simp [this]

theorem shut_any {base tr bb len : Nat} {c0 : List Fr} {n : Nd} {h h' : T} {L R ks ks5 : List T} {w2 w3 w4 W5 : World}
    (hT : Tr base w2 tr (plug c0 (.mk n ks))) (hbase : base ≤ w2.heap.size) (hks : (L ++ h :: R).Sublist ks) (hks5 : ks5 = L ++ h' :: R)
    (hlen : len = ks.length) (hlen5 : ks5.length = len - 1) (hbb : n.A = some bb) (o3 : Off h.bl w2 w3) (hh : TP w3 (some n.g) h') (hg : h'.g = h.g) (hA : h'.bl = h.bl)
    (o4 : Off [bb] w3 w4) (hO4 : w4.ownsRow 0 55 1 (.slice (some ⟨bb, 0, none⟩) (len - 1) n.c) (len - 1) (ptrs ks5))
    (hW5 : W5 = w4.setCell ⟨n.g, 6, none⟩ (.slice (some ⟨bb, 0, none⟩) (len - 1) n.c)) :
    Tr base W5 tr (plug c0 (.mk n ks5)) ∧ Off (h.bl ++ [bb, n.g]) w2 W5 := by
  have hp := (TP_plug c0 _).1 hT.p
  have hAt := hp.2.at_
  have hK := TPs_iff.1 hp.2.kids
  obtain ⟨nd, hin, hout⟩ := hT.apart
  have hblm : (T.mk n ks).bl = n.g :: (bb :: blL ks) := by rw [T.bl_mk, hbb]; rfl
  have hblk5 : blL ks5 = blL (L ++ h :: R) := by
    rw [hks5, blL_app, blL_cons, blL_app, blL_cons, hA]
  have hsub : (blL ks5).Sublist (blL ks) := by rw [hblk5]; exact blL_sub hks
  have hbl5 : (T.mk n ks5).bl = n.g :: (bb :: blL ks5) := by rw [T.bl_mk, hbb]; rfl
  rw [hblm] at nd
  obtain ⟨m1, m2⟩ := List.nodup_cons.1 nd
  obtain ⟨m3, m4⟩ := List.nodup_cons.1 m2
  have hng : n.g ∉ blL ks := fun h => m1 (List.mem_cons_of_mem _ h)
  have hbn : bb ≠ n.g := fun e => m1 (by rw [← e]; simp)
  have hhk : ∀ b ∈ h.bl, b ∈ blL ks := fun b hb => hsub.subset (by rw [hblk5]; exact mem_blL.2 ⟨h, by simp, hb⟩)
  have hlt : ∀ b ∈ n.g :: (bb :: blL ks), b < w2.heap.size := fun b hb => (hin b (by rw [hblm]; exact hb)).2.2.2
  have o5 : Off [n.g] w4 W5 := by rw [hW5]; exact Off.set w4 ⟨n.g, 6, none⟩ _
  have ho : Off (h.bl ++ [bb, n.g]) w2 W5 := by
    have z1 : Off (h.bl ++ [bb, n.g]) w2 w2 := Off.refl _ _
    have z2 := z1.trans o3 (fun b hb => .inl (by simp [hb]))
    have z3 := z2.trans o4 (by simp)
    exact z3.trans o5 (by simp)
  refine ⟨hT.focus (t' := .mk n ks5) ho ?_ ?_ rfl ?_ ?_ hbase, ho⟩
  · intro b hb
    left
    rw [hblm]
    simp at hb
    rcases hb with hb | rfl | rfl
    · simp [hhk b hb]
    · simp
    · simp
  · have h2 := hAt.h
    have e3 : w3.heap[n.g]? = w2.heap[n.g]? := o3.block _ (hlt _ (by simp)) (fun e => hng (hhk _ e))
    have e4 : w4.heap[n.g]? = w3.heap[n.g]? := o4.block _ (by have := hlt n.g (by simp); have := o3.size; omega) (by simp; exact fun e => hbn e.symm)
    have h5 := heap_set (j := 6) (e4.trans (e3.trans h2)) (.slice (some ⟨bb, 0, none⟩) (len - 1) n.c)
    rw [← hW5] at h5
    have hrow : n.row ks5.length = .slice (some ⟨bb, 0, none⟩) (len - 1) n.c := by unfold Nd.row adr; rw [hbb, hlen5]; rfl
    refine ⟨⟨?_, ?_⟩, TPs_iff.2 fun s hs => ?_⟩
    · rw [hrow]; exact h5
    · rw [hrow, hlen5]
      exact own_same hO4 fun b hb => by
        have e : b = bb := by
          simp [Value.ownBlock] at hb
          exact hb.symm
        subst e
        exact o5.block b (by have := hlt b (by simp); have := o3.size; have := o4.size; omega) (by simp; exact hbn)
    · have hsb : ∀ b ∈ s.bl, b ∈ blL ks5 := fun b hb => mem_blL.2 ⟨s, hs, hb⟩
      have hs2 : s ∈ L ∨ s = h' ∨ s ∈ R := by rw [hks5] at hs; simpa using hs
      have hmid : ∀ b ∈ s.bl, b ≠ bb ∧ b ≠ n.g := fun b hb => ⟨fun e => m3 (e ▸ hsub.subset (hsb b hb)), fun e => hng (e ▸ hsub.subset (hsb b hb))⟩
      have out : s ∈ ks → (∀ b ∈ s.bl, b ∉ h.bl) → TP W5 (some n.g) s := fun h1 h2 => (hK s h1).off ho (by
        intro b hb hm
        simp at hm
        rcases hm with e | e | e
        · exact h2 b hb e
        · exact (hmid b hb).1 e
        · exact (hmid b hb).2 e)
      have m5 : (blL (L ++ h :: R)).Nodup := m4.sublist (blL_sub hks)
      obtain ⟨d1, d2, d3⟩ := kid_apart m5
      rcases hs2 with h1 | h1 | h1
      · exact out (hks.subset (by simp [h1])) fun b hb e => d2 b e (mem_blL.2 ⟨s, h1, hb⟩)
      · subst h1
        have o45 : Off [bb, n.g] w3 W5 := ((Off.refl [bb, n.g] w3).trans o4 (by simp)).trans o5 (by simp)
        exact hh.off o45 (by
          intro b hb hm
          simp at hm
          rcases hm with e | e
          · exact (hmid b hb).1 e
          · exact (hmid b hb).2 e)
      · exact out (hks.subset (by simp [h1])) fun b hb e => d3 b e (mem_blL.2 ⟨s, h1, hb⟩)
  · rw [hbl5]
    exact nd.sublist ((hsub.cons_cons bb).cons_cons n.g)
  · intro b hb
    left
    rw [hbl5] at hb
    rw [hblm]
    exact ((hsub.cons_cons bb).cons_cons n.g).subset hb

theorem put_topT {base tr : Nat} {n : Nd} {h' : T} {w : World} (hT : Tr base w tr (.mk n [h'])) (hbase : base ≤ w.heap.size) :
    Calls Tryd.prog 31 #[ptr tr, ptr n.g, ptr h'.g] w fun e w' => e = .returned (.tuple #[]) ∧ Tr base w' tr h' ∧ Below base w w' := by
  have hA := hT.p.at_
  have hk := TPs_iff.1 hT.p.kids h' (by simp)
  have hkA := hk.atn
  have hbl : (T.mk n [h']).bl = n.g :: (n.A.toList ++ h'.bl) := by rw [T.bl_mk, blL_cons, blL_nil, List.append_nil]
  have nd := hT.nd
  have nt := hT.nt
  have lo := hT.lo
  rw [hbl] at nd nt lo
  have hgm := h'.g_mem
  have hne : n.g ≠ h'.g := fun e => (List.nodup_cons.1 nd).1 (by rw [e]; simp [hgm])
  have hnt : h'.g ≠ tr := fun e => nt (by rw [← e]; simp [hgm])
  have hsub : (h'.bl).Sublist (n.g :: (n.A.toList ++ h'.bl)) := (List.sublist_append_right _ _).cons _
  have nd' : h'.bl.Nodup := nd.sublist hsub
  have htr : w.heap[tr]? = some (.cells #[ptr n.g] 60 (0, 0)) := hT.h
  refine (put_root tr n.g h'.g _ _ w hA.c7 hne hkA.c7 (hkA.free 7) hT.c0 (free_of_heap htr 0) hnt).mono ?_
  rintro e w' ⟨rfl, rfl⟩
  obtain ⟨h1, h2⟩ := hk.reup (up' := none) nd'
  have o6 : Off [tr] (w.setCell ⟨h'.g, 7, none⟩ (.pointer none)) ((w.setCell ⟨h'.g, 7, none⟩ (.pointer none)).setCell ⟨tr, 0, none⟩ (ptr h'.g)) := Off.set _ ⟨tr, 0, none⟩ _
  have hin : ∀ b ∈ h'.bl, b ∈ n.g :: (n.A.toList ++ h'.bl) := fun b hb => hsub.subset hb
  refine ⟨rfl, ⟨?_, h1.off o6 fun b hb hm => ?_, nd', fun hm => nt (hin _ hm), lo.1, fun b hb => lo.2 b (hin b hb)⟩, ?_⟩
  · have e1 : (w.setCell ⟨h'.g, 7, none⟩ (.pointer none)).heap[tr]? = some (.cells #[ptr n.g] 60 (0, 0)) := by
      rw [Below.heap_setCell _ _ _ _ (by exact fun e => hnt e.symm)]; exact htr
    rw [heap_set e1]; rfl
  · simp at hm
    exact nt (hm ▸ hin _ hb)
  · have b5 : Below base w (w.setCell ⟨h'.g, 7, none⟩ (.pointer none)) := h2.below (B := base) (by intro x hx; rw [List.mem_singleton] at hx; rw [hx]; exact lo.2 h'.g (by simp [hgm])) hbase
    exact b5.trans (o6.below (B := base) (by simp; exact lo.1) (Nat.le_trans hbase h2.size))

theorem put_upT {base tr : Nat} {f : Fr} {d : List Fr} {n : Nd} {h' : T} {w : World} (hT : Tr base w tr (plug (f :: d) (.mk n [h']))) (hbase : base ≤ w.heap.size) :
    Calls Tryd.prog 31 #[ptr tr, ptr n.g, ptr h'.g] w fun e w' => e = .returned (.tuple #[]) ∧ Tr base w' tr (plug (f :: d) h') ∧ Below base w w' := by
  have hT' : Tr base w tr (plug d (.mk f.n (f.L ++ .mk n [h'] :: f.R))) := hT
  obtain ⟨nd, hin, hout⟩ := hT'.apart
  have hp := (TP_plug d _).1 hT'.p
  have hAt := hp.2.at_
  have hK := TPs_iff.1 hp.2.kids
  have hkt := hK (.mk n [h']) (by simp)
  have hk := TPs_iff.1 hkt.kids h' (by simp)
  have hkA := hk.atn
  have hgm := h'.g_mem
  obtain ⟨b, hb, _⟩ := hAt.kid (i := f.L.length) (k := .mk n [h']) (by simp)
  have hbt : (T.mk n [h']).bl = n.g :: (n.A.toList ++ h'.bl) := by rw [T.bl_mk, blL_cons, blL_nil, List.append_nil]
  have hbl : (T.mk f.n (f.L ++ .mk n [h'] :: f.R)).bl = f.n.g :: (b :: blL (f.L ++ .mk n [h'] :: f.R)) := by rw [T.bl_mk, hb]; rfl
  have hks : blL (f.L ++ .mk n [h'] :: f.R) = blL f.L ++ ((n.g :: (n.A.toList ++ h'.bl)) ++ blL f.R) := by rw [blL_app, blL_cons, hbt]
  have hks' : blL (f.L ++ h' :: f.R) = blL f.L ++ (h'.bl ++ blL f.R) := by rw [blL_app, blL_cons]
  have hbl' : (T.mk f.n (f.L ++ h' :: f.R)).bl = f.n.g :: (b :: blL (f.L ++ h' :: f.R)) := by rw [T.bl_mk, hb]; rfl
  have hsub : (blL (f.L ++ h' :: f.R)).Sublist (blL (f.L ++ .mk n [h'] :: f.R)) := by
    rw [hks, hks']
    exact (List.Sublist.refl _).append (((List.sublist_append_right _ _).cons _).append (List.Sublist.refl _))
  rw [hbl] at nd
  obtain ⟨m1, m2⟩ := List.nodup_cons.1 nd
  obtain ⟨m3, m4⟩ := List.nodup_cons.1 m2
  have hng : n.g ∈ blL (f.L ++ .mk n [h'] :: f.R) := by rw [hks]; simp
  have hhb : ∀ x ∈ h'.bl, x ∈ blL (f.L ++ .mk n [h'] :: f.R) := fun x hx => by rw [hks]; simp [hx]
  have hhg : h'.g ∈ blL (f.L ++ .mk n [h'] :: f.R) := hhb _ hgm
  have hfg : ∀ x ∈ blL (f.L ++ .mk n [h'] :: f.R), x ≠ f.n.g ∧ x ≠ b := fun x hx => ⟨fun e => m1 (e ▸ List.mem_cons_of_mem _ hx), fun e => m3 (e ▸ hx)⟩
  have hbf : b ≠ f.n.g := fun e => m1 (by rw [← e]; simp)
  have hd := g_sep m4
  have m5 := m4
  rw [hks] at m5
  obtain ⟨d1, d2, d3⟩ := List.nodup_append.1 m5
  obtain ⟨d4, d5, d6⟩ := List.nodup_append.1 d2
  have hhn : h'.g ≠ n.g := fun e => (List.nodup_cons.1 d4).1 (by rw [← e]; simp [hgm])
  have hLn : ∀ s ∈ f.L, ∀ x ∈ s.bl, x ≠ h'.g := fun s hs x hx e => d3 x (mem_blL.2 ⟨s, hs, hx⟩) h'.g (by simp [hgm]) e
  have hRn : ∀ s ∈ f.R, ∀ x ∈ s.bl, x ≠ h'.g := fun s hs x hx e => d6 h'.g (by simp [hgm]) x (mem_blL.2 ⟨s, hs, hx⟩) e.symm
  have h5 : ∀ s ∈ f.L ++ .mk n [h'] :: f.R, s.g ≠ h'.g := by
    intro s hs
    simp at hs
    rcases hs with h | rfl | h
    · exact hLn s h _ s.g_mem
    · exact fun e => hhn e.symm
    · exact hRn s h _ s.g_mem
  refine (put_in tr h'.g b _ _ f.n f.L f.R (.mk n [h']) w hAt hb hkt.at_.c7 hkA.c7 (hkA.free 7) (fun s hs => (hK s hs).isC) hk.isC hd hhn (hfg _ hhg).1 (hfg _ hhg).2 hbf (fun e => (hfg _ hng).2 e.symm) h5).mono ?_
  rintro e w' ⟨rfl, hw'⟩
  have nd' : h'.bl.Nodup := d4.sublist ((List.sublist_append_right _ _).cons _)
  obtain ⟨W6, hW6⟩ : ∃ W6, W6 = w.setCell ⟨h'.g, 7, none⟩ (ptr f.n.g) := ⟨_, rfl⟩
  obtain ⟨h1, h2⟩ := hk.reup (up' := some f.n.g) nd'
  replace h1 : TP W6 (some f.n.g) h' := by rw [hW6]; exact h1
  replace h2 : Off [h'.g] w W6 := by rw [hW6]; exact h2
  rw [← hW6] at hw'
  have o7 : Off [b] W6 w' := by
    rw [hw']
    exact (Off.set W6 ⟨b, f.L.length, none⟩ (ptr h'.g)).trans (Off.drew (S := []) _) (by simp)
  have ho : Off [h'.g, b] w w' := ((Off.refl [h'.g, b] w).trans h2 (by simp)).trans o7 (by simp)
  have hAt6 : At W6 (upOf d) f.n (f.L ++ .mk n [h'] :: f.R) := hAt.same fun x hx => h2.block x (hAt.lt x hx) (by
    rw [hb] at hx
    simp at hx ⊢
    rcases hx with rfl | rfl
    · exact fun e => (hfg _ hhg).1 e.symm
    · exact fun e => (hfg _ hhg).2 e.symm)
  have hAt7 : At w' (upOf d) f.n (f.L ++ h' :: f.R) := by
    rw [hw']
    exact (hAt6.slot (t' := h') (x := h'.g) hb hbf rfl).same fun _ _ => rfl
  have hTr : Tr base w' tr (plug d (.mk f.n (f.L ++ h' :: f.R))) := by
    refine hT'.focus ho ?_ ⟨hAt7, TPs_iff.2 fun s hs => ?_⟩ rfl ?_ ?_ hbase
    · intro x hx
      left
      rw [hbl]
      simp at hx
      rcases hx with rfl | rfl
      · simp [hhg]
      · simp
    · simp at hs
      have hmid : ∀ x ∈ s.bl, x ≠ b := fun x hx => (hfg x (hsub.subset (mem_blL.2 ⟨s, by simpa using hs, hx⟩))).2
      rcases hs with h | rfl | h
      · exact (hK s (by simp [h])).off ho (by
          intro x hx hm
          simp at hm
          rcases hm with e | e
          · exact hLn s h x hx e
          · exact hmid x hx e)
      · exact h1.off o7 (by
          intro x hx hm
          simp at hm
          exact hmid x hx hm)
      · exact (hK s (by simp [h])).off ho (by
          intro x hx hm
          simp at hm
          rcases hm with e | e
          · exact hRn s h x hx e
          · exact hmid x hx e)
    · rw [hbl']
      exact nd.sublist ((hsub.cons_cons b).cons_cons f.n.g)
    · intro x hx
      left
      rw [hbl'] at hx
      rw [hbl]
      exact ((hsub.cons_cons b).cons_cons f.n.g).subset hx
  refine ⟨rfl, hTr, ho.below (B := base) ?_ hbase⟩
  intro x hx
  simp at hx
  rcases hx with rfl | rfl
  · exact (hin _ (by rw [hbl]; simp [hhg])).2.2.1
  · exact (hin _ (by rw [hbl]; simp)).2.2.1

theorem put_kidT {base tr : Nat} {c0 : List Fr} {n : Nd} {h' : T} {w : World} (hT : Tr base w tr (plug c0 (.mk n [h']))) (hbase : base ≤ w.heap.size) :
    Calls Tryd.prog 31 #[ptr tr, ptr n.g, ptr h'.g] w fun e w' => e = .returned (.tuple #[]) ∧ Tr base w' tr (plug c0 h') ∧ Below base w w' := by
  cases c0 with
  | nil => exact put_topT hT hbase
  | cons f d => exact put_upT hT hbase
end Go.Proofs.YtcklmkjlbpjojaaDoor
