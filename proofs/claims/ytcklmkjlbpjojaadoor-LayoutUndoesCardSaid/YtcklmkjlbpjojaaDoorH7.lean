/- Layout: a tree from which a leaf was cut away behind its neighbour, which was grown. No walk. -/
import Derived.Test.YtcklmkjlbpjojaaDoorH4
namespace Go.Proofs.YtcklmkjlbpjojaaDoor
open Go.RowKit
set_option linter.unusedSimpArgs false
set_option linter.unusedVariables false

theorem shut_next {base tr bb len : Nat} {c0 : List Fr} {n hn h' ln : Nd} {L R ks ks5 : List T} {w2 w3 w4 W5 : World}
    (hT : Tr base w2 tr (plug c0 (.mk n ks))) (hbase : base ≤ w2.heap.size) (hks : ks = L ++ .mk hn [] :: .mk ln [] :: R) (hks5 : ks5 = L ++ .mk h' [] :: R)
    (hlen : len = ks.length) (hbb : n.A = some bb) (o3 : Off [hn.g] w2 w3) (hh : At w3 (some n.g) h' []) (hg : h'.g = hn.g) (hA : h'.A = hn.A)
    (o4 : Off [bb] w3 w4) (hO4 : w4.ownsRow 0 55 1 (.slice (some ⟨bb, 0, none⟩) (len - 1) n.c) (len - 1) (ptrs ks5))
    (hW5 : W5 = w4.setCell ⟨n.g, 6, none⟩ (.slice (some ⟨bb, 0, none⟩) (len - 1) n.c)) :
    Tr base W5 tr (plug c0 (.mk n ks5)) ∧ Off [hn.g, bb, n.g] w2 W5 := by
  have hp := (TP_plug c0 _).1 hT.p
  have hAt := hp.2.at_
  have hK := TPs_iff.1 hp.2.kids
  obtain ⟨nd, hin, hout⟩ := hT.apart
  have hblm : (T.mk n ks).bl = n.g :: (bb :: blL ks) := by rw [T.bl_mk, hbb]; rfl
  have hblk : blL ks = blL L ++ ((hn.g :: hn.A.toList) ++ ((ln.g :: ln.A.toList) ++ blL R)) := by
    rw [hks, blL_app, blL_cons, blL_cons, bl_leaf, bl_leaf]
  have hblk5 : blL ks5 = blL L ++ ((hn.g :: hn.A.toList) ++ blL R) := by
    rw [hks5, blL_app, blL_cons, bl_leaf, hg, hA]
  have hsub : (blL ks5).Sublist (blL ks) := by
    rw [hblk, hblk5]
    exact (List.Sublist.refl _).append ((List.Sublist.refl _).append (List.sublist_append_right _ _))
  have hbl5 : (T.mk n ks5).bl = n.g :: (bb :: blL ks5) := by rw [T.bl_mk, hbb]; rfl
  rw [hblm] at nd
  obtain ⟨m1, m2⟩ := List.nodup_cons.1 nd
  obtain ⟨m3, m4⟩ := List.nodup_cons.1 m2
  have hng : n.g ∉ blL ks := fun h => m1 (List.mem_cons_of_mem _ h)
  have hbn : bb ≠ n.g := fun e => m1 (by rw [← e]; simp)
  have hmh : hn.g ∈ blL ks := by rw [hblk]; simp
  have hlt : ∀ b ∈ n.g :: (bb :: blL ks), b < w2.heap.size := fun b hb => (hin b (by rw [hblm]; exact hb)).2.2.2
  have o5 : Off [n.g] w4 W5 := by rw [hW5]; exact Off.set w4 ⟨n.g, 6, none⟩ _
  have ho : Off [hn.g, bb, n.g] w2 W5 := by
    have z1 : Off [hn.g, bb, n.g] w2 w2 := Off.refl _ _
    have z2 := z1.trans o3 (by simp)
    have z3 := z2.trans o4 (by simp)
    exact z3.trans o5 (by simp)
  refine ⟨hT.focus (t' := .mk n ks5) ho ?_ ?_ rfl ?_ ?_ hbase, ho⟩
  · intro b hb
    left
    rw [hblm]
    simp at hb
    rcases hb with rfl | rfl | rfl
    · simp [hmh]
    · simp
    · simp
  · have h2 := hAt.h
    have e3 : w3.heap[n.g]? = w2.heap[n.g]? := o3.block _ (hlt _ (by simp)) (by simp; exact fun e => hng (e ▸ hmh))
    have e4 : w4.heap[n.g]? = w3.heap[n.g]? := o4.block _ (by have := hlt n.g (by simp); have := o3.size; omega) (by simp; exact fun e => hbn e.symm)
    have h5 := heap_set (j := 6) (e4.trans (e3.trans h2)) (.slice (some ⟨bb, 0, none⟩) (len - 1) n.c)
    rw [← hW5] at h5
    have hl5 : ks5.length = len - 1 := by rw [hlen, hks, hks5]; simp
    have hrow : n.row ks5.length = .slice (some ⟨bb, 0, none⟩) (len - 1) n.c := by unfold Nd.row adr; rw [hbb, hl5]; rfl
    refine ⟨⟨?_, ?_⟩, TPs_iff.2 fun s hs => ?_⟩
    · rw [hrow]; exact h5
    · rw [hrow, hl5]
      exact own_same hO4 fun b hb => by
        have e : b = bb := by
          simp [Value.ownBlock] at hb
          exact hb.symm
        subst e
        exact o5.block b (by have := hlt b (by simp); have := o3.size; have := o4.size; omega) (by simp; exact hbn)
    · have hsb : ∀ b ∈ s.bl, b ∈ blL ks5 := fun b hb => mem_blL.2 ⟨s, hs, hb⟩
      have hs2 : s ∈ L ∨ s = .mk h' [] ∨ s ∈ R := by rw [hks5] at hs; simpa using hs
      have hmid : ∀ b ∈ s.bl, b ≠ bb ∧ b ≠ n.g := fun b hb => ⟨fun e => m3 (e ▸ hsub.subset (hsb b hb)), fun e => hng (e ▸ hsub.subset (hsb b hb))⟩
      have out : s ∈ ks → (∀ b ∈ s.bl, b ≠ hn.g) → TP W5 (some n.g) s := fun h1 h2 => (hK s h1).off ho (by
        intro b hb hm
        simp at hm
        rcases hm with e | e | e
        · exact h2 b hb e
        · exact (hmid b hb).1 e
        · exact (hmid b hb).2 e)
      rw [hblk] at m4
      obtain ⟨d1, d2, d3⟩ := List.nodup_append.1 m4
      obtain ⟨d4, d5, d6⟩ := List.nodup_append.1 d2
      rcases hs2 with h1 | h1 | h1
      · exact out (by rw [hks]; simp [h1]) fun b hb e => d3 b (mem_blL.2 ⟨s, h1, hb⟩) hn.g (by simp) e
      · subst h1
        have t3 : TP w3 (some n.g) (.mk h' []) := .mk hh trivial
        have o45 : Off [bb, n.g] w3 W5 := ((Off.refl [bb, n.g] w3).trans o4 (by simp)).trans o5 (by simp)
        exact t3.off o45 (by
          intro b hb hm
          simp at hm
          rcases hm with e | e
          · exact (hmid b hb).1 e
          · exact (hmid b hb).2 e)
      · exact out (by rw [hks]; simp [h1]) fun b hb e => d6 hn.g (by simp) b (by simp [mem_blL.2 ⟨s, h1, hb⟩]) e.symm
  · rw [hbl5]
    exact nd.sublist ((hsub.cons_cons bb).cons_cons n.g)
  · intro b hb
    left
    rw [hbl5] at hb
    rw [hblm]
    exact ((hsub.cons_cons bb).cons_cons n.g).subset hb
end Go.Proofs.YtcklmkjlbpjojaaDoor
