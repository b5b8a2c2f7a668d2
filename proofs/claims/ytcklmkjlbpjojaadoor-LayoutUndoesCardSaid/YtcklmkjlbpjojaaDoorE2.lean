/- Layout: what Split leaves in memory. No walk. -/
import Derived.Test.YtcklmkjlbpjojaaDoorD6
namespace Go.Proofs.YtcklmkjlbpjojaaDoor
open Go.RowKit
set_option linter.unusedSimpArgs false
set_option linter.unusedVariables false

/-- A split with one pane in it. -/
def wrapT (s A gi : Nat) (p a b way : Int) : T := .mk ⟨s, some A, 1, 0, 0, 0, a, b, way⟩ [.mk ⟨gi, none, 0, p, 0, 0, a, b, 0⟩ []]
theorem wrapT_bl (s A gi : Nat) (p a b way : Int) : (wrapT s A gi p a b way).bl = [s, A, gi] := by simp [wrapT, T.bl_mk, blL_cons, blL_nil]
theorem tp_wrap {w : World} {up : Option Nat} {s A gi : Nat} {p a b way : Int} (hs : w.heap[s]? = some (.cells (nodeC 0 0 0 a b way (.slice (some ⟨A, 0, none⟩) 1 1) (uptr up)) 58 (0, 0)))
    (hi : w.heap[gi]? = some (.cells (nodeC p 0 0 a b 0 (.slice none 0 0) (ptr s)) 58 (0, 0))) (hA : w.heap[A]? = some (.cells #[ptr gi] 55 (0, 0))) : TP w up (wrapT s A gi p a b way) := by
  refine .mk ⟨hs, ?_⟩ ?_
  · exact ⟨by simp [ptrs], .inr ⟨A, 1, #[ptr gi], rfl, Nat.zero_le _, hA, Nat.le_refl _, by decide, rfl, rfl⟩⟩
  · rw [TPs, TPs]
    exact ⟨.mk ⟨hi, World.ownsRow_nil _ _ _ _⟩ (by rw [TPs]; trivial), trivial⟩
theorem wrap_root {base tr : Nat} {w w' : World} {t : T} {s A gi : Nat} {p a b way : Int} (h : Tr base w tr t) (hbase : base ≤ w.heap.size)
    (hs : w'.heap[s]? = some (.cells (nodeC 0 0 0 a b way (.slice (some ⟨A, 0, none⟩) 1 1) (.pointer none)) 58 (0, 0)))
    (hi : w'.heap[gi]? = some (.cells (nodeC p 0 0 a b 0 (.slice none 0 0) (ptr s)) 58 (0, 0))) (hA : w'.heap[A]? = some (.cells #[ptr gi] 55 (0, 0)))
    (ht : w'.heap[tr]? = some (.cells #[ptr s] 60 (0, 0))) (n1 : w.heap.size ≤ s) (n2 : w.heap.size ≤ gi) (n3 : w.heap.size ≤ A) (d1 : s ≠ A) (d2 : s ≠ gi) (d3 : A ≠ gi) : Tr base w' tr (wrapT s A gi p a b way) := by
  have htl := h.lt
  refine ⟨ht, tp_wrap (up := none) hs hi hA, ?_, ?_, h.lo.1, ?_⟩
  · rw [wrapT_bl]; simp [d1, d2, d3]
  · rw [wrapT_bl]; simp; omega
  · rw [wrapT_bl]; simp; omega
theorem wrap_in {base tr : Nat} {w w' : World} {f : Fr} {c : List Fr} {l : T} {s A gi bb : Nat} {p a b way : Int} (h : Tr base w tr (plug (f :: c) l)) (hbase : base ≤ w.heap.size) (hbb : f.n.A = some bb)
    (hs : w'.heap[s]? = some (.cells (nodeC 0 0 0 a b way (.slice (some ⟨A, 0, none⟩) 1 1) (ptr f.n.g)) 58 (0, 0)))
    (hi : w'.heap[gi]? = some (.cells (nodeC p 0 0 a b 0 (.slice none 0 0) (ptr s)) 58 (0, 0))) (hA : w'.heap[A]? = some (.cells #[ptr gi] 55 (0, 0)))
    (hAt : At w' (upOf c) f.n (f.L ++ wrapT s A gi p a b way :: f.R)) (ho : Off [bb] w w')
    (n1 : w.heap.size ≤ s) (n2 : w.heap.size ≤ gi) (n3 : w.heap.size ≤ A) (d1 : s ≠ A) (d2 : s ≠ gi) (d3 : A ≠ gi) : Tr base w' tr (plug (f :: c) (wrapT s A gi p a b way)) := by
  have hp := (TP_plug (f :: c) l).1 h.p
  obtain ⟨⟨hA0, hL, hR, hC⟩, hl⟩ := hp
  have h' : Tr base w tr (plug c (.mk f.n (f.L ++ l :: f.R))) := h
  have hnd := (perm_plug c (.mk f.n (f.L ++ l :: f.R))).nodup_iff.1 h'.nd
  have hnd2 := (List.nodup_append.1 hnd).2.1
  have hblm : (T.mk f.n (f.L ++ l :: f.R)).bl = f.n.g :: (bb :: (blL f.L ++ (l.bl ++ blL f.R))) := by
    rw [T.bl_mk, hbb, blL_app, blL_cons]; rfl
  rw [hblm] at hnd2
  have hmem : ∀ x ∈ f.n.g :: (bb :: (blL f.L ++ (l.bl ++ blL f.R))), x < w.heap.size := fun x hx => h'.p.lt _ _ x ((perm_plug c _).mem_iff.2 (by rw [hblm]; exact List.mem_append_right _ hx))
  obtain ⟨m1, m2⟩ := List.nodup_cons.1 hnd2
  obtain ⟨m3, m4⟩ := List.nodup_cons.1 m2
  refine Tr.focus (c := c) (t := .mk f.n (f.L ++ l :: f.R)) (t' := .mk f.n (f.L ++ wrapT s A gi p a b way :: f.R)) (S := [bb]) h' ho ?_ ?_ rfl ?_ ?_ hbase
  · intro x hx
    simp only [List.mem_singleton] at hx
    subst hx
    exact .inl (by rw [hblm]; simp)
  · refine .mk hAt ?_
    rw [TPs_app, TPs]
    refine ⟨hL.off ho fun x hx => ?_, tp_wrap (up := some f.n.g) hs hi hA, hR.off ho fun x hx => ?_⟩
    · simp only [List.mem_singleton]; rintro rfl; exact m3 (by simp [hx])
    · simp only [List.mem_singleton]; rintro rfl; exact m3 (by simp [hx])
  · rw [T.bl_mk, hbb, blL_app, blL_cons, wrapT_bl]
    obtain ⟨k1, k2, k3⟩ := List.nodup_append.1 m4
    obtain ⟨k4, k5, k6⟩ := List.nodup_append.1 k2
    have hLlt : ∀ x ∈ blL f.L, x < w.heap.size := fun x hx => hmem x (by simp [hx])
    have hRlt : ∀ x ∈ blL f.R, x < w.heap.size := fun x hx => hmem x (by simp [hx])
    have hglt := hmem f.n.g (by simp)
    have hblt := hmem bb (by simp)
    have hLR : ∀ x ∈ blL f.L, x ∉ blL f.R := fun x hx hr => k3 x hx x (by simp [hr]) rfl
    have hgm : f.n.g ≠ bb ∧ f.n.g ∉ blL f.L ∧ f.n.g ∉ blL f.R := ⟨fun e => m1 (by simp [e]), fun e => m1 (by simp [e]), fun e => m1 (by simp [e])⟩
    have hbm : bb ∉ blL f.L ∧ bb ∉ blL f.R := ⟨fun e => m3 (by simp [e]), fun e => m3 (by simp [e])⟩
    show (f.n.g :: bb :: (blL f.L ++ ([s, A, gi] ++ blL f.R))).Nodup
    refine List.nodup_cons.2 ⟨?_, List.nodup_cons.2 ⟨?_, List.nodup_append.2 ⟨k1, ?_, ?_⟩⟩⟩
    · rw [List.mem_cons]
      simp only [List.mem_append, List.mem_cons, List.not_mem_nil, or_false, not_or]
      exact ⟨hgm.1, hgm.2.1, ⟨by omega, by omega, by omega⟩, hgm.2.2⟩
    · simp only [List.mem_append, List.mem_cons, List.not_mem_nil, or_false, not_or]
      exact ⟨hbm.1, ⟨by omega, by omega, by omega⟩, hbm.2⟩
    · refine List.nodup_append.2 ⟨by simp [d1, d2, d3], k5, ?_⟩
      rintro x hx y hy rfl
      have := hRlt x hy
      simp only [List.mem_cons, List.not_mem_nil, or_false] at hx
      omega
    · rintro x hx y hy rfl
      have := hLlt x hx
      simp only [List.mem_append, List.mem_cons, List.not_mem_nil, or_false] at hy
      rcases hy with hy | hy
      · omega
      · exact hLR x hx hy
  · intro x hx
    rw [T.bl_mk, hbb, blL_app, blL_cons, wrapT_bl] at hx
    rw [hblm]
    simp only [List.mem_cons, List.mem_append, Option.toList_some, List.not_mem_nil, or_false] at hx ⊢
    rcases hx with h | h | h | (h | h | h) | h
    · exact .inl (.inl h)
    · exact .inl (.inr (.inl h))
    · exact .inl (.inr (.inr (.inl h)))
    · exact .inr (by omega)
    · exact .inr (by omega)
    · exact .inr (by omega)
    · exact .inl (.inr (.inr (.inr (.inr h))))
end Go.Proofs.YtcklmkjlbpjojaaDoor
