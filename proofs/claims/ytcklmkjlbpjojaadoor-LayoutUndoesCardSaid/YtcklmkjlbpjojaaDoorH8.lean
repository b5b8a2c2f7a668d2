/- Layout: a single kid put in its parent's place. -/
import Derived.Test.YtcklmkjlbpjojaaDoorH7
namespace Go.Proofs.YtcklmkjlbpjojaaDoor
open Go.RowKit
set_option linter.unusedSimpArgs false
set_option linter.unusedVariables false

theorem put_top {base tr : Nat} {n h' : Nd} {w : World} (hT : Tr base w tr (.mk n [.mk h' []])) (hbase : base ≤ w.heap.size) :
    Calls Tryd.prog 31 #[ptr tr, ptr n.g, ptr h'.g] w fun e w' => e = .returned (.tuple #[]) ∧ Tr base w' tr (.mk h' []) ∧ Below base w w' := by
  have hA := hT.p.at_
  have hk := TPs_iff.1 hT.p.kids (.mk h' []) (by simp)
  have hbl : (T.mk n [.mk h' []]).bl = n.g :: (n.A.toList ++ (h'.g :: h'.A.toList)) := by rw [T.bl_mk, blL_cons, blL_nil, List.append_nil, bl_leaf]
  have nd := hT.nd
  have nt := hT.nt
  have lo := hT.lo
  rw [hbl] at nd nt lo
  have hne : n.g ≠ h'.g := fun e => (List.nodup_cons.1 nd).1 (by simp [e])
  have hnt : h'.g ≠ tr := fun e => nt (by simp [e])
  have hsub : (h'.g :: h'.A.toList).Sublist (n.g :: (n.A.toList ++ (h'.g :: h'.A.toList))) := (List.sublist_append_right _ _).cons _
  have nd' : (T.mk h' []).bl.Nodup := by rw [bl_leaf]; exact nd.sublist hsub
  have htr : w.heap[tr]? = some (.cells #[ptr n.g] 60 (0, 0)) := hT.h
  refine (put_root tr n.g h'.g _ _ w hA.c7 hne hk.at_.c7 (hk.at_.free 7) hT.c0 (free_of_heap htr 0) hnt).mono ?_
  rintro e w' ⟨rfl, rfl⟩
  obtain ⟨h1, h2⟩ := hk.reup (up' := none) nd'
  have o6 : Off [tr] (w.setCell ⟨h'.g, 7, none⟩ (.pointer none)) ((w.setCell ⟨h'.g, 7, none⟩ (.pointer none)).setCell ⟨tr, 0, none⟩ (ptr h'.g)) := Off.set _ ⟨tr, 0, none⟩ _
  have hin : ∀ b ∈ (T.mk h' []).bl, b ∈ n.g :: (n.A.toList ++ (h'.g :: h'.A.toList)) := fun b hb => by rw [bl_leaf] at hb; exact hsub.subset hb
  refine ⟨rfl, ⟨?_, h1.off o6 fun b hb hm => ?_, nd', fun hm => nt (hin _ hm), lo.1, fun b hb => lo.2 b (hin b hb)⟩, ?_⟩
  · have e1 : (w.setCell ⟨h'.g, 7, none⟩ (.pointer none)).heap[tr]? = some (.cells #[ptr n.g] 60 (0, 0)) := by
      rw [Below.heap_setCell _ _ _ _ (by exact fun e => hnt e.symm)]; exact htr
    rw [heap_set e1]; rfl
  · simp at hm
    exact nt (hm ▸ hin _ hb)
  · have b5 : Below base w (w.setCell ⟨h'.g, 7, none⟩ (.pointer none)) := h2.below (B := base) (by intro x hx; rw [List.mem_singleton] at hx; rw [hx]; exact lo.2 h'.g (by simp)) hbase
    exact b5.trans (o6.below (B := base) (by simp; exact lo.1) (Nat.le_trans hbase h2.size))

theorem put_up {base tr : Nat} {f : Fr} {d : List Fr} {n h' : Nd} {w : World} (hT : Tr base w tr (plug (f :: d) (.mk n [.mk h' []]))) (hbase : base ≤ w.heap.size) :
    Calls Tryd.prog 31 #[ptr tr, ptr n.g, ptr h'.g] w fun e w' => e = .returned (.tuple #[]) ∧ Tr base w' tr (plug (f :: d) (.mk h' [])) ∧ Below base w w' := by
  have hT' : Tr base w tr (plug d (.mk f.n (f.L ++ .mk n [.mk h' []] :: f.R))) := hT
  obtain ⟨nd, hin, hout⟩ := hT'.apart
  have hp := (TP_plug d _).1 hT'.p
  have hAt := hp.2.at_
  have hK := TPs_iff.1 hp.2.kids
  have hkt := hK (.mk n [.mk h' []]) (by simp)
  have hk := TPs_iff.1 hkt.kids (.mk h' []) (by simp)
  obtain ⟨b, hb, _⟩ := hAt.kid (i := f.L.length) (k := .mk n [.mk h' []]) (by simp)
  have hbt : (T.mk n [.mk h' []]).bl = n.g :: (n.A.toList ++ (h'.g :: h'.A.toList)) := by rw [T.bl_mk, blL_cons, blL_nil, List.append_nil, bl_leaf]
  have hbl : (T.mk f.n (f.L ++ .mk n [.mk h' []] :: f.R)).bl = f.n.g :: (b :: blL (f.L ++ .mk n [.mk h' []] :: f.R)) := by rw [T.bl_mk, hb]; rfl
  have hks : blL (f.L ++ .mk n [.mk h' []] :: f.R) = blL f.L ++ ((n.g :: (n.A.toList ++ (h'.g :: h'.A.toList))) ++ blL f.R) := by rw [blL_app, blL_cons, hbt]
  have hks' : blL (f.L ++ .mk h' [] :: f.R) = blL f.L ++ ((h'.g :: h'.A.toList) ++ blL f.R) := by rw [blL_app, blL_cons, bl_leaf]
  have hbl' : (T.mk f.n (f.L ++ .mk h' [] :: f.R)).bl = f.n.g :: (b :: blL (f.L ++ .mk h' [] :: f.R)) := by rw [T.bl_mk, hb]; rfl
  have hsub : (blL (f.L ++ .mk h' [] :: f.R)).Sublist (blL (f.L ++ .mk n [.mk h' []] :: f.R)) := by
    rw [hks, hks']
    exact (List.Sublist.refl _).append (((List.sublist_append_right _ _).cons _).append (List.Sublist.refl _))
  rw [hbl] at nd
  obtain ⟨m1, m2⟩ := List.nodup_cons.1 nd
  obtain ⟨m3, m4⟩ := List.nodup_cons.1 m2
  have hng : n.g ∈ blL (f.L ++ .mk n [.mk h' []] :: f.R) := by rw [hks]; simp
  have hhg : h'.g ∈ blL (f.L ++ .mk n [.mk h' []] :: f.R) := by rw [hks]; simp
  have hfg : ∀ x ∈ blL (f.L ++ .mk n [.mk h' []] :: f.R), x ≠ f.n.g ∧ x ≠ b := fun x hx => ⟨fun e => m1 (e ▸ List.mem_cons_of_mem _ hx), fun e => m3 (e ▸ hx)⟩
  have hbf : b ≠ f.n.g := fun e => m1 (by rw [← e]; simp)
  have hd := g_sep m4
  have m5 := m4
  rw [hks] at m5
  obtain ⟨d1, d2, d3⟩ := List.nodup_append.1 m5
  obtain ⟨d4, d5, d6⟩ := List.nodup_append.1 d2
  have hhn : h'.g ≠ n.g := fun e => (List.nodup_cons.1 d4).1 (by rw [← e]; simp)
  have hLn : ∀ s ∈ f.L, ∀ x ∈ s.bl, x ≠ h'.g := fun s hs x hx e => d3 x (mem_blL.2 ⟨s, hs, hx⟩) h'.g (by simp) e
  have hRn : ∀ s ∈ f.R, ∀ x ∈ s.bl, x ≠ h'.g := fun s hs x hx e => d6 h'.g (by simp) x (mem_blL.2 ⟨s, hs, hx⟩) e.symm
  have h5 : ∀ s ∈ f.L ++ .mk n [.mk h' []] :: f.R, s.g ≠ h'.g := by
    intro s hs
    simp at hs
    rcases hs with h | rfl | h
    · exact hLn s h _ s.g_mem
    · exact fun e => hhn e.symm
    · exact hRn s h _ s.g_mem
  refine (put_in tr h'.g b _ _ f.n f.L f.R (.mk n [.mk h' []]) w hAt hb hkt.at_.c7 hk.at_.c7 (hk.at_.free 7) (fun s hs => (hK s hs).isC) hk.isC hd hhn (hfg _ hhg).1 (hfg _ hhg).2 hbf (fun e => (hfg _ hng).2 e.symm) h5).mono ?_
  rintro e w' ⟨rfl, hw'⟩
  have nd' : (T.mk h' []).bl.Nodup := by rw [bl_leaf]; exact (d4.sublist ((List.sublist_append_right _ _).cons _))
  obtain ⟨W6, hW6⟩ : ∃ W6, W6 = w.setCell ⟨h'.g, 7, none⟩ (ptr f.n.g) := ⟨_, rfl⟩
  obtain ⟨h1, h2⟩ := hk.reup (up' := some f.n.g) nd'
  replace h1 : TP W6 (some f.n.g) (.mk h' []) := by rw [hW6]; exact h1
  replace h2 : Off [h'.g] w W6 := by rw [hW6]; exact h2
  rw [← hW6] at hw'
  have o7 : Off [b] W6 w' := by
    rw [hw']
    exact (Off.set W6 ⟨b, f.L.length, none⟩ (ptr h'.g)).trans (Off.drew (S := []) _) (by simp)
  have ho : Off [h'.g, b] w w' := ((Off.refl [h'.g, b] w).trans h2 (by simp)).trans o7 (by simp)
  have hAt6 : At W6 (upOf d) f.n (f.L ++ .mk n [.mk h' []] :: f.R) := hAt.same fun x hx => h2.block x (hAt.lt x hx) (by
    rw [hb] at hx
    simp at hx ⊢
    rcases hx with rfl | rfl
    · exact fun e => (hfg _ hhg).1 e.symm
    · exact fun e => (hfg _ hhg).2 e.symm)
  have hAt7 : At w' (upOf d) f.n (f.L ++ .mk h' [] :: f.R) := by
    rw [hw']
    exact (hAt6.slot (t' := .mk h' []) (x := h'.g) hb hbf rfl).same fun _ _ => rfl
  have hTr : Tr base w' tr (plug d (.mk f.n (f.L ++ .mk h' [] :: f.R))) := by
    refine hT'.focus ho ?_ ⟨hAt7, TPs_iff.2 fun s hs => ?_⟩ rfl ?_ ?_ hbase
    · intro x hx
      left
      rw [hbl]
      simp at hx
      rcases hx with rfl | rfl
      · simp [hhg]
      · simp
    · simp at hs
      have hmid : ∀ x ∈ s.bl, x ≠ b := fun x hx => (hfg x (hsub.subset (mem_blL.2 ⟨s, by simpa using hs, hx⟩))).2
      rcases hs with h | rfl | h
      · exact (hK s (by simp [h])).off ho (by
          intro x hx hm
          simp at hm
          rcases hm with e | e
          · exact hLn s h x hx e
          · exact hmid x hx e)
      · exact h1.off o7 (by
          intro x hx hm
          simp at hm
          exact hmid x hx hm)
      · exact (hK s (by simp [h])).off ho (by
          intro x hx hm
          simp at hm
          rcases hm with e | e
          · exact hRn s h x hx e
          · exact hmid x hx e)
    · rw [hbl']
      exact nd.sublist ((hsub.cons_cons b).cons_cons f.n.g)
    · intro x hx
      left
      rw [hbl'] at hx
      rw [hbl]
      exact ((hsub.cons_cons b).cons_cons f.n.g).subset hx
  refine ⟨rfl, hTr, ho.below (B := base) ?_ hbase⟩
  intro x hx
  simp at hx
  rcases hx with rfl | rfl
  · exact (hin _ (by rw [hbl]; simp [hhg])).2.2.1
  · exact (hin _ (by rw [hbl]; simp)).2.2.1

theorem put_kid {base tr : Nat} {c0 : List Fr} {n h' : Nd} {w : World} (hT : Tr base w tr (plug c0 (.mk n [.mk h' []]))) (hbase : base ≤ w.heap.size) :
    Calls Tryd.prog 31 #[ptr tr, ptr n.g, ptr h'.g] w fun e w' => e = .returned (.tuple #[]) ∧ Tr base w' tr (plug c0 (.mk h' [])) ∧ Below base w w' := by
  cases c0 with
  | nil => exact put_top hT hbase
  | cons f d => exact put_up hT hbase
end Go.Proofs.YtcklmkjlbpjojaaDoor
