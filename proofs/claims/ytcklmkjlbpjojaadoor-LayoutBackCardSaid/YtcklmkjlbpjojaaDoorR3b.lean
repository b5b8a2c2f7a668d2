/- Layout: the reader of a body: a node's kids, one more. No walk. -/
import Derived.Test.YtcklmkjlbpjojaaDoorR1
import Derived.Test.YtcklmkjlbpjojaaDoorM1
import Derived.Test.YtcklmkjlbpjojaaDoorG4
namespace Go.Proofs.YtcklmkjlbpjojaaDoor
open Go.RowKit
set_option linter.unusedSimpArgs false
set_option linter.unusedVariables false

/-- A node of the reader's own with the kids ks. -/
structure KI (w : World) (gn rb : Nat) (nd ndk : Nd) (ks : List T) (s : List UInt8) (bad : Bool) (wr : World) : Prop where
  a : At wr none ndk ks
  k : TPs wr (some gn) ks
  r : Rdr rb s bad wr
  o : Off [rb] w wr
  b : ∀ b ∈ (T.mk ndk ks).bl, w.heap.size ≤ b
  d : (T.mk ndk ks).bl.Nodup
  f : ndk.g = gn ∧ ndk.p = nd.p ∧ ndk.x = nd.x ∧ ndk.y = nd.y ∧ ndk.a = nd.a ∧ ndk.b = nd.b ∧ ndk.way = nd.way
  n : rb < w.heap.size
theorem KI.row {w wr : World} {gn rb : Nat} {nd ndk : Nd} {ks : List T} {s : List UInt8} {bad : Bool} (h : KI w gn rb nd ndk ks s bad wr) : wr.ownsRow w.heap.size 55 1 (ndk.row ks.length) ks.length (ptrs ks) := by
  refine ⟨h.a.r.1, ?_⟩
  rcases h.a.r.2 with h2 | ⟨g, cap, cur, hv, hg, r⟩
  · exact .inl h2
  · refine .inr ⟨g, cap, cur, hv, ?_, r⟩
    have h3 : (ndk.row ks.length).ownBlock = some g := by rw [hv]; rfl
    rw [ownBlock_row] at h3
    exact h.b g (by rw [T.bl_mk, h3]; simp)
theorem KI.call {w wr w1 : World} {gn rb : Nat} {nd ndk : Nd} {ks : List T} {s s' : List UInt8} {bad bad' : Bool} (h : KI w gn rb nd ndk ks s bad wr) (o1 : Off [rb] wr w1) (r1 : Rdr rb s' bad' w1) : KI w gn rb nd ndk ks s' bad' w1 := by
  have hrb := h.n
  have hk : ∀ b ∈ (T.mk ndk ks).bl, b < wr.heap.size → w1.heap[b]? = wr.heap[b]? := fun b hb hl => o1.block b hl (by have := h.b b hb; simp; omega)
  refine ⟨h.a.same fun b hb => hk b ?_ (h.a.lt b hb), TPs_iff.2 fun k hk' => (TPs_iff.1 h.k k hk').same _ _ fun b hb => hk b ?_ ((TPs_iff.1 h.k k hk').lt _ _ b hb), r1, h.o.trans o1 (by simp), h.b, h.d, h.f, h.n⟩
  · rw [T.bl_mk]
    simp only [List.mem_cons, List.mem_append] at hb ⊢
    rcases hb with rfl | hb
    · exact .inl rfl
    · exact .inr (.inl hb)
  · rw [T.bl_mk]
    simp only [List.mem_cons, List.mem_append]
    exact .inr (.inr (mem_blL.2 ⟨k, hk', hb⟩))
theorem KI.push {w wr w1 W1 w2 W3 : World} {gn rb len : Nat} {nd ndk : Nd} {ks : List T} {tk : T} {s s' : List UInt8} {bad bad' : Bool} {A' : Option Addr} {c' : Nat} {ob : Obj}
    (h : KI w gn rb nd ndk ks s bad wr) (hlen : len = ks.length) (hT : TP w1 none tk) (o1 : Off [rb] wr w1) (r1 : Rdr rb s' bad' w1) (hb : ∀ b ∈ tk.bl, wr.heap.size ≤ b) (hd : tk.bl.Nodup)
    (hW1 : W1 = w1.setCell ⟨tk.g, 7, none⟩ (ptr gn)) (O2 : w2.ownsRow w.heap.size 55 1 (.slice A' (len + 1) c') (len + 1) (ptrs ks ++ [ptr tk.g])) (G2 : (W1.alloc ob).grownBy w2 (ndk.row len).ownBlock)
    (hh2 : ablk A' = (ndk.row len).ownBlock ∨ ablk A' = some (W1.alloc ob).heap.size) (hW3 : W3 = w2.setCell ⟨gn, 6, none⟩ (.slice A' (len + 1) c')) :
    ∃ ndk', KI w gn rb nd ndk' (ks ++ [tk]) s' bad' W3 := by
  have hwr := h.o.size
  have h1 := o1.size
  have hlt : ∀ b ∈ (T.mk ndk ks).bl, b < wr.heap.size := by
    intro b hb
    rw [T.bl_mk] at hb
    rcases List.mem_cons.1 hb with rfl | hb
    · exact h.a.lt _ (by simp)
    · rcases List.mem_append.1 hb with hb | hb
      · exact h.a.lt b (by simp [hb])
      · obtain ⟨k, hk, hb⟩ := mem_blL.1 hb
        exact (TPs_iff.1 h.k k hk).lt _ _ b hb
  have htl : ∀ b ∈ tk.bl, b < w1.heap.size := hT.lt _ _
  obtain ⟨d1, d2, d3⟩ := bl_apart h.d
  rw [h.f.1] at d1
  have hgn : gn ∈ (T.mk ndk ks).bl := by rw [T.bl_mk, h.f.1]; simp
  have hgnb := h.b gn hgn
  have hgnl := hlt gn hgn
  have hkb : ∀ b ∈ blL ks, b ∈ (T.mk ndk ks).bl := fun b hb => by rw [T.bl_mk]; simp [hb]
  have hAb : ∀ b, ndk.A = some b → b ∈ (T.mk ndk ks).bl := fun b hb => by rw [T.bl_mk, hb]; simp
  have htg := tk.g_mem
  have hsz1 : W1.heap.size = w1.heap.size := by rw [hW1]; simp
  have g0 : W1.grownBy (W1.alloc ob) none := World.grownBy_alloc _ _ _
  obtain ⟨b2, hb2⟩ : ∃ b2, A' = some ⟨b2, 0, none⟩ := by
    rcases O2.2 with ⟨h, _⟩ | ⟨g', cap, cur, h, _⟩
    · injection h with _ h; omega
    · injection h with h; exact ⟨g', h⟩
  subst hb2
  have hob : (ndk.row len).ownBlock = ndk.A := ownBlock_row
  rw [hob] at G2 hh2
  have hb2c : ndk.A = some b2 ∨ b2 = w1.heap.size + 0 ∧ ndk.A ≠ some b2 ∨ b2 = (W1.alloc ob).heap.size := by
    rcases hh2 with h | h
    · exact .inl h.symm
    · injection h with h; exact .inr (.inr h)
  have hb2n : w.heap.size ≤ b2 ∧ b2 ≠ gn ∧ b2 ∉ blL ks ∧ b2 ∉ tk.bl ∧ b2 ≠ rb := by
    have hrb := h.n
    rcases hh2 with h3 | h3
    · have h3' : ndk.A = some b2 := h3.symm
      have := h.b b2 (hAb b2 h3')
      have := hlt b2 (hAb b2 h3')
      refine ⟨by omega, fun e => (d2 b2 h3').2 (by rw [h.f.1]; exact e), (d2 b2 h3').1, fun hm => ?_, by omega⟩
      have := hb b2 hm; omega
    · injection h3 with h3
      have e : b2 = (W1.alloc ob).heap.size := h3
      have es : (W1.alloc ob).heap.size = w1.heap.size + 1 := by simp [hsz1]
      refine ⟨by omega, by omega, fun hm => ?_, fun hm => ?_, by omega⟩
      · have := hlt b2 (hkb b2 hm); omega
      · have := htl b2 hm; omega
  -- blocks that stay from wr on
  have keep : ∀ b, b < wr.heap.size → b ≠ rb → b ≠ gn → ndk.A ≠ some b → W3.heap[b]? = wr.heap[b]? := fun b hl q1 q2 q3 => by
    have e1 := o1.block b hl (by simpa using q1)
    have e2 : W1.heap[b]? = w1.heap[b]? := by
      rw [hW1]
      exact (Off.set w1 ⟨tk.g, 7, none⟩ (ptr gn)).block b (by omega) (by simp; exact fun e => by have := hb b (e ▸ htg); omega)
    have e3 := g0.block b (by omega) (by simp)
    have e4 := G2.block b (by simp [hsz1]; omega) (fun e => q3 e.symm)
    have e5 : W3.heap[b]? = w2.heap[b]? := by
      rw [hW3]
      exact (Off.set w2 ⟨gn, 6, none⟩ _).block b (by have := G2.size; simp [hsz1] at this; omega) (by simpa using q2)
    exact e5.trans (e4.trans (e3.trans (e2.trans e1)))
  have keep1 : ∀ b ∈ tk.bl, W3.heap[b]? = W1.heap[b]? := fun b hm => by
    have q1 := hb b hm
    have q2 := htl b hm
    have e3 := g0.block b (by omega) (by simp)
    have e4 := G2.block b (by simp [hsz1]; omega) (fun e => by have := hlt b (hAb b e.symm); omega)
    have e5 : W3.heap[b]? = w2.heap[b]? := by
      rw [hW3]
      exact (Off.set w2 ⟨gn, 6, none⟩ _).block b (by have := G2.size; simp [hsz1] at this; omega) (by simp; omega)
    exact e5.trans (e4.trans e3)
  have hgg : w2.heap[gn]? = wr.heap[gn]? := by
    have e1 := o1.block gn hgnl (by simp; have := h.n; omega)
    have e2 : W1.heap[gn]? = w1.heap[gn]? := by
      rw [hW1]
      exact (Off.set w1 ⟨tk.g, 7, none⟩ (ptr gn)).block gn (by omega) (by simp; exact fun e => by have := hb gn (e ▸ htg); omega)
    have e3 := g0.block gn (by omega) (by simp)
    have e4 := G2.block gn (by simp [hsz1]; omega) (fun e => (d2 gn e.symm).2 h.f.1.symm)
    exact e4.trans (e3.trans (e2.trans e1))
  have hA := h.a.h
  rw [h.f.1] at hA
  have hnew := heap_set (j := 6) (hgg.trans hA) (.slice (some ⟨b2, 0, none⟩) (len + 1) c')
  rw [← hW3] at hnew
  obtain ⟨ndk', hndk⟩ : ∃ ndk', ndk' = { ndk with A := some b2, c := c' } := ⟨_, rfl⟩
  have hbl' : (T.mk ndk' (ks ++ [tk])).bl = gn :: (b2 :: (blL ks ++ tk.bl)) := by
    rw [T.bl_mk, hndk, blL_app, blL_cons, blL_nil, List.append_nil]
    show ndk.g :: _ = _
    rw [h.f.1]; rfl
  have hlen2 : (ks ++ [tk]).length = len + 1 := by simp [hlen]
  refine ⟨ndk', ⟨?_, ?_⟩, ?_, ?_, ?_, ?_, ?_, by rw [hndk]; exact h.f, h.n⟩
  · rw [hlen2, hndk]
    show W3.heap[ndk.g]? = _
    rw [h.f.1]
    exact hnew
  · rw [hlen2]
    have e : ndk'.row (len + 1) = .slice (some ⟨b2, 0, none⟩) (len + 1) c' := by rw [hndk]; rfl
    rw [e, show ptrs (ks ++ [tk]) = ptrs ks ++ [ptr tk.g] by simp [ptrs]]
    exact own_same (own_le O2 (Nat.zero_le _)) fun b hb => by
      have e : b = b2 := by
        simp [Value.ownBlock] at hb
        exact hb.symm
      subst e
      rw [hW3]
      exact (Off.set w2 ⟨gn, 6, none⟩ _).block b ((O2.lt b rfl).2) (by simpa using hb2n.2.1)
  · rw [TPs_app, TPs, TPs]
    refine ⟨TPs_iff.2 fun k hk => (TPs_iff.1 h.k k hk).same _ _ fun b hb => ?_, ?_, trivial⟩
    · have hbk : b ∈ blL ks := mem_blL.2 ⟨k, hk, hb⟩
      have hm := hkb b hbk
      exact keep b (hlt b hm) (by have := h.b b hm; have := h.n; omega) (fun e => d1 (e ▸ hbk)) (fun e => (d2 b e).1 hbk)
    · obtain ⟨q1, q2⟩ := hT.reup (up' := some gn) hd
      have q1' : TP W1 (some gn) tk := by rw [hW1]; exact q1
      exact q1'.same _ _ keep1
  · have hrb := h.n
    have e1 : W1.heap[rb]? = w1.heap[rb]? := by
      rw [hW1]
      exact (Off.set w1 ⟨tk.g, 7, none⟩ (ptr gn)).block rb (by omega) (by simp; exact fun e => by have := hb rb (e ▸ htg); omega)
    have e3 := g0.block rb (by omega) (by simp)
    have e4 := G2.block rb (by simp [hsz1]; omega) (fun e => by have := h.b rb (hAb rb e.symm); omega)
    have e5 : W3.heap[rb]? = w2.heap[rb]? := by
      rw [hW3]
      exact (Off.set w2 ⟨gn, 6, none⟩ _).block rb (by have := G2.size; simp [hsz1] at this; omega) (by simp; omega)
    exact (e5.trans (e4.trans (e3.trans e1))).trans r1
  · have z1 : Off [rb] w w1 := h.o.trans o1 (by simp)
    have z2 : Off [rb] w W1 := z1.trans (by rw [hW1]; exact Off.set w1 ⟨tk.g, 7, none⟩ (ptr gn)) (by simp; right; have := hb tk.g htg; omega)
    have z3 : Off [rb] w (W1.alloc ob) := z2.trans (Off.of_grown (S := []) g0) (by simp)
    have z4 : Off [rb] w w2 := z3.trans (Off.of_row G2) (fun b hm => by
      right
      exact h.b b (hAb b (by simpa using hm)))
    exact z4.trans (by rw [hW3]; exact Off.set w2 ⟨gn, 6, none⟩ _) (by simp; right; exact hgnb)
  · intro b hm
    rw [hbl'] at hm
    simp only [List.mem_cons, List.mem_append] at hm
    rcases hm with rfl | rfl | hm | hm
    · exact hgnb
    · exact hb2n.1
    · exact h.b b (hkb b hm)
    · have := hb b hm; omega
  · rw [hbl']
    refine List.nodup_cons.2 ⟨?_, List.nodup_cons.2 ⟨?_, List.nodup_append.2 ⟨d3, hd, ?_⟩⟩⟩
    · simp only [List.mem_cons, List.mem_append, not_or]
      exact ⟨fun e => hb2n.2.1 e.symm, d1, fun hm => by have := hb gn hm; omega⟩
    · simp only [List.mem_append, not_or]
      exact ⟨hb2n.2.2.1, hb2n.2.2.2.1⟩
    · rintro x hx y hy rfl
      have := hlt x (hkb x hx)
      have := hb x hy
      omega
end Go.Proofs.YtcklmkjlbpjojaaDoor
