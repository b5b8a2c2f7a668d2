/- Layout: a row of kids from which one is cut; the kids of an only kid laid into the split above; rows may share a block. Layout: Replace of one kid by two or more, in a row that may share its block. -/
import Derived.Test.YtcklmkjlbpjojaaDoorXE
import Derived.Test.YtcklmkjlbpjojaaDoorG7
import Derived.Test.YtcklmkjlbpjojaaDoorXP
import Derived.Test.YtcklmkjlbpjojaaDoorM5
namespace Go.Proofs.YtcklmkjlbpjojaaDoor.X
open Go.RowKit
set_option linter.unusedSimpArgs false
set_option linter.unusedVariables false
variable {G : Gh}

theorem shut_any {base tr bb len B o : Nat} {c0 : List Fr} {n : Nd} {h h' : T} {L R ks ks5 : List T} {w2 w3 w4 W5 : World} {cur4 : List Value}
    (hT : Tr G base w2 tr (plug c0 (.mk n ks))) (hbase : base ≤ w2.heap.size) (hks : (L ++ h :: R).Sublist ks) (hks5 : ks5 = L ++ h' :: R)
    (hlen : len = ks.length) (hlen5 : ks5.length = len - 1) (hbb : n.A = some bb) (hα : G.α bb = (B, o)) (o3 : Off G h.bl w2 w3) (hh : TP G w3 (some n.g) h') (hg : h'.g = h.g) (hA : h'.bl = h.bl)
    (o4 : Off G [bb] w3 w4) (hO4 : PRow w4 B o n.c (len - 1) (ptrs ks5) cur4)
    (hW5 : W5 = w4.setCell ⟨n.g, 6, none⟩ (.slice (some ⟨B, o, none⟩) (len - 1) n.c)) :
    Tr G base W5 tr (plug c0 (.mk n ks5)) ∧ Off G (h.bl ++ [bb, n.g]) w2 W5 := by
  have hp := (TP_plug c0 _).1 hT.p
  have hAt := hp.2.at_
  have hK := TPs_iff.1 hp.2.kids
  obtain ⟨nd, hin, hout⟩ := hT.apart
  have hblm : (T.mk n ks).bl = n.g :: (bb :: blL ks) := by rw [T.bl_mk, hbb]; rfl
  have hblk5 : blL ks5 = blL (L ++ h :: R) := by
    rw [hks5, blL_app, blL_cons, blL_app, blL_cons, hA]
  have hsub : (blL ks5).Sublist (blL ks) := by rw [hblk5]; exact blL_sub hks
  have hbl5 : (T.mk n ks5).bl = n.g :: (bb :: blL ks5) := by rw [T.bl_mk, hbb]; rfl
  rw [hblm] at nd
  obtain ⟨m1, m2⟩ := List.nodup_cons.1 nd
  obtain ⟨m3, m4⟩ := List.nodup_cons.1 m2
  have hng : n.g ∉ blL ks := fun h => m1 (List.mem_cons_of_mem _ h)
  have hbn : bb ≠ n.g := fun e => m1 (by rw [← e]; simp)
  have hhk : ∀ b ∈ h.bl, b ∈ blL ks := fun b hb => hsub.subset (by rw [hblk5]; exact mem_blL.2 ⟨h, by simp, hb⟩)
  have hlt : ∀ b ∈ n.g :: (bb :: blL ks), b < w2.heap.size := fun b hb => (hin b (by rw [hblm]; exact hb)).2.2.2
  have o5 : Off G [n.g] w4 W5 := by rw [hW5]; exact Off.setw o4.m' hAt.q 6 _
  have ho : Off G (h.bl ++ [bb, n.g]) w2 W5 := by
    have z1 : Off G (h.bl ++ [bb, n.g]) w2 w2 := Off.refl _ _ hT.m
    have z2 := z1.trans o3 (fun b hb => .inl (by simp [hb]))
    have z3 := z2.trans o4 (by simp)
    exact z3.trans o5 (by simp)
  refine ⟨hT.focus (t' := .mk n ks5) ho ?_ ?_ rfl ?_ ?_ hbase, ho⟩
  · intro b hb
    left
    rw [hblm]
    simp at hb
    rcases hb with hb | rfl | rfl
    · simp [hhk b hb]
    · simp
    · simp
  · have h2 := hAt.h
    have e3 : w3.heap[n.g]? = w2.heap[n.g]? := o3.wh hAt.q (hlt _ (by simp)) (fun e => hng (hhk _ e))
    have e4 : w4.heap[n.g]? = w3.heap[n.g]? := o4.wh hAt.q (by have := hlt n.g (by simp); have := o3.size; omega) (by simp; exact fun e => hbn e.symm)
    have h5 := heap_set (j := 6) (e4.trans (e3.trans h2)) (.slice (some ⟨B, o, none⟩) (len - 1) n.c)
    rw [← hW5] at h5
    have hrow : row G n ks5.length = .slice (some ⟨B, o, none⟩) (len - 1) n.c := by unfold row adr; rw [hbb, hlen5]; simp [hα]
    have hR4 : RowAt G w4 n.A n.c ks5.length (ptrs ks5) := by
      rcases hAt.r.2 with ⟨h1, _⟩ | ⟨b', cur, h1, h2, h3, h4, h5⟩
      · rw [hbb] at h1; cases h1
      · rw [hbb] at h1; injection h1 with h1; subst h1
        exact ⟨by rw [ptrs_len], .inr ⟨bb, cur4, hbb, by have := o3.size; have := o4.size; omega, h3, by rw [hα, hlen5]; exact hO4, h5⟩⟩
    refine .mk ⟨?_, hAt.q, hR4.same o5.size (fun b hb => o5.kp (by rw [hbb] at hb; injection hb with hb; subst hb; simp; exact hbn)), o5.m'⟩ (TPs_iff.2 fun s hs => ?_)
    · rw [hrow]; exact h5
    · have hsb : ∀ b ∈ s.bl, b ∈ blL ks5 := fun b hb => mem_blL.2 ⟨s, hs, hb⟩
      have hs2 : s ∈ L ∨ s = h' ∨ s ∈ R := by rw [hks5] at hs; simpa using hs
      have hmid : ∀ b ∈ s.bl, b ≠ bb ∧ b ≠ n.g := fun b hb => ⟨fun e => m3 (e ▸ hsub.subset (hsb b hb)), fun e => hng (e ▸ hsub.subset (hsb b hb))⟩
      have out : s ∈ ks → (∀ b ∈ s.bl, b ∉ h.bl) → TP G W5 (some n.g) s := fun h1 h2 => (hK s h1).off ho (by
        intro b hb hm
        simp at hm
        rcases hm with e | e | e
        · exact h2 b hb e
        · exact (hmid b hb).1 e
        · exact (hmid b hb).2 e)
      have m5 : (blL (L ++ h :: R)).Nodup := m4.sublist (blL_sub hks)
      obtain ⟨d1, d2, d3⟩ := kid_apart m5
      rcases hs2 with h1 | h1 | h1
      · exact out (hks.subset (by simp [h1])) fun b hb e => d2 b e (mem_blL.2 ⟨s, h1, hb⟩)
      · subst h1
        have o45 : Off G [bb, n.g] w3 W5 := ((Off.refl [bb, n.g] w3 o4.m).trans o4 (by simp)).trans o5 (by simp)
        exact hh.off o45 (by
          intro b hb hm
          simp at hm
          rcases hm with e | e
          · exact (hmid b hb).1 e
          · exact (hmid b hb).2 e)
      · exact out (hks.subset (by simp [h1])) fun b hb e => d3 b e (mem_blL.2 ⟨s, h1, hb⟩)
  · rw [hbl5]
    exact nd.sublist ((hsub.cons_cons bb).cons_cons n.g)
  · intro b hb
    left
    rw [hbl5] at hb
    rw [hblm]
    exact ((hsub.cons_cons bb).cons_cons n.g).subset hb

/-- The kids of h, j of them hung below f. -/
structure SpI (G : Gh) (w : World) (fg : Nat) (h : T) (j : Nat) (wr : World) : Prop where
  a : At G wr (some fg) h.n h.ks
  l : TPs G wr (some fg) (h.ks.take j)
  r : TPs G wr (some h.g) (h.ks.drop j)
  o : Off G h.bl w wr
theorem SpI.start {w : World} {fg : Nat} {h : T} (hT : TP G w (some fg) h) : SpI G w fg h 0 w := by
  cases h with | mk n ks =>
    exact ⟨hT.at_, by rw [List.take_zero, TPs]; trivial, by rw [List.drop_zero]; exact hT.kids, Off.refl _ _ hT.m⟩
theorem SpI.step {w wr : World} {fg : Nat} {h x : T} {j : Nat} (hI : SpI G w fg h j wr) (hN : h.bl.Nodup) (hx : h.ks[j]? = some x) :
    SpI G w fg h (j + 1) (wr.setCell ⟨x.g, 7, none⟩ (ptr fg)) := by
  cases h with | mk n ks =>
    obtain ⟨d1, d2, d3⟩ := bl_apart hN
    have hm : x ∈ ks := List.mem_of_getElem? hx
    have hxK : ∀ b ∈ x.bl, b ∈ blL ks := fun b hb => mem_blL.2 ⟨x, hm, hb⟩
    replace hx : ks[j]? = some x := hx
    have d4 := d3
    rw [split_at hx] at d4
    obtain ⟨e1, e2, e3⟩ := kid_apart d4
    have hr := hI.r
    replace hr : TPs G wr (some n.g) (ks.drop j) := hr
    rw [drop_at hx, TPs] at hr
    obtain ⟨h1, o1⟩ := hr.1.reup (up' := some fg) e1
    replace h1 : TP G (wr.setCell ⟨x.g, 7, none⟩ (ptr fg)) (some fg) x := h1
    replace o1 : Off G [x.g] wr (wr.setCell ⟨x.g, 7, none⟩ (ptr fg)) := o1
    have hxg := hxK _ x.g_mem
    refine ⟨hI.a.off o1 (fun b hb => ?_), ?_, ?_, hI.o.trans o1 fun b hb => .inl ?_⟩
    · rw [List.mem_singleton]
      rintro rfl
      rcases List.mem_cons.1 hb with hb | hb
      · exact d1 (hb ▸ hxg)
      · replace hb : x.g ∈ n.A.toList := hb
        exact (d2 _ (by simpa using hb)).1 hxg
    · show TPs G _ _ (ks.take (j + 1))
      rw [take_succ' hx, TPs_app, TPs, TPs]
      refine ⟨TPs.off hI.l o1 fun b hb hb' => ?_, h1, trivial⟩
      rw [List.mem_singleton] at hb'
      exact e2 x.g x.g_mem (hb' ▸ hb)
    · show TPs G _ _ (ks.drop (j + 1))
      refine TPs.off hr.2 o1 fun b hb hb' => ?_
      rw [List.mem_singleton] at hb'
      exact e3 x.g x.g_mem (hb' ▸ hb)
    · rw [List.mem_singleton] at hb
      rw [hb, T.bl_mk]; simp [hxg]

/-- The store that ends it. -/
theorem splice_end {base tr : Nat} {w6 wr w10 W11 : World} {f : Fr} {d : List Fr} {h : T} {bf b' tot c' : Nat}
    (hT : Tr G base w6 tr (plug (f :: d) h)) (hbase : base ≤ w6.heap.size) (hbf : f.n.A = some bf) (hI : SpI G w6 f.n.g h h.ks.length wr)
    (htot : tot = f.L.length + h.ks.length + f.R.length) (o10 : Off G [bf] wr w10) (hO : RowAt G w10 (some b') c' tot (ptrs (f.L ++ h.ks ++ f.R)))
    (hb' : b' = bf ∨ wr.heap.size ≤ b') (hW : W11 = w10.setCell ⟨f.n.g, 6, none⟩ (.slice (adr G (some b')) tot c')) :
    Tr G base W11 tr (plug d (.mk { f.n with A := some b', c := c' } (f.L ++ h.ks ++ f.R))) ∧ Below base w6 W11 := by
  have hT' : Tr G base w6 tr (plug d (.mk f.n (f.L ++ h :: f.R))) := hT
  obtain ⟨nd, hin, hout⟩ := hT'.apart
  have hp := (TP_plug d _).1 hT'.p
  have hAt := hp.2.at_
  have hK := TPs_iff.1 hp.2.kids
  have hbl : (T.mk f.n (f.L ++ h :: f.R)).bl = f.n.g :: (bf :: blL (f.L ++ h :: f.R)) := by rw [T.bl_mk, hbf]; rfl
  have hbl' : (T.mk { f.n with A := some b', c := c' } (f.L ++ h.ks ++ f.R)).bl = f.n.g :: (b' :: blL (f.L ++ h.ks ++ f.R)) := by rw [T.bl_mk]; rfl
  rw [hbl] at nd
  obtain ⟨m1, m2⟩ := List.nodup_cons.1 nd
  obtain ⟨m3, m4⟩ := List.nodup_cons.1 m2
  obtain ⟨e1, e2, e3⟩ := kid_apart m4
  have hkb : (blL h.ks).Sublist h.bl := by
    cases h with | mk n ks =>
      rw [T.bl_mk]
      exact (List.sublist_append_right _ _).cons _
  have hsub : (blL (f.L ++ h.ks ++ f.R)).Sublist (blL (f.L ++ h :: f.R)) := by
    rw [blL_app, blL_app, blL_app, blL_cons, List.append_assoc]
    exact (List.Sublist.refl _).append (hkb.append (List.Sublist.refl _))
  have hfg : f.n.g ∉ blL (f.L ++ h :: f.R) := fun hm => m1 (List.mem_cons_of_mem _ hm)
  have hbfn : bf ≠ f.n.g := fun e => m1 (by rw [← e]; simp)
  have hhm : ∀ b ∈ h.bl, b ∈ blL (f.L ++ h :: f.R) := fun b hb => mem_blL.2 ⟨h, by simp, hb⟩
  have hlt : ∀ b ∈ f.n.g :: (bf :: blL (f.L ++ h :: f.R)), b < w6.heap.size ∧ b ∉ cbl d ∧ b ≠ tr ∧ base ≤ b := fun b hb => by
    have := hin b (by rw [hbl]; exact hb)
    exact ⟨this.2.2.2, this.1, this.2.1, this.2.2.1⟩
  have hsz := hI.o.size
  have hsz2 := o10.size
  have o11 : Off G [f.n.g] w10 W11 := by rw [hW]; exact Off.setw o10.m' hAt.q 6 _
  have hb'2 : b' ≠ f.n.g ∧ b' ∉ blL (f.L ++ h :: f.R) ∧ b' ∉ cbl d ∧ b' ≠ tr ∧ base ≤ b' := by
    rcases hb' with rfl | hge
    · have := hlt b' (by simp)
      exact ⟨hbfn, m3, this.2.1, this.2.2.1, this.2.2.2⟩
    · refine ⟨fun e => ?_, fun hm => ?_, fun hm => ?_, fun e => ?_, by omega⟩
      · have := (hlt f.n.g (by simp)).1; omega
      · have := (hlt b' (by simp [hm])).1; omega
      · have := (hout b' hm).1; omega
      · have := hT.lt; omega
  have ho : Off G (h.bl ++ [bf, f.n.g]) w6 W11 := by
    have z1 : Off G (h.bl ++ [bf, f.n.g]) w6 w6 := Off.refl _ _ hT.m
    have z2 := z1.trans hI.o (fun b hb => .inl (by simp [hb]))
    have z3 := z2.trans o10 (by simp)
    exact z3.trans o11 (by simp)
  have hmid : ∀ b ∈ h.bl ++ [bf, f.n.g], b ∈ f.n.g :: (bf :: blL (f.L ++ h :: f.R)) := fun b hb => by
    simp at hb
    rcases hb with hb | rfl | rfl
    · simp [hhm b hb]
    · simp
    · simp
  refine ⟨hT'.focus2 (t' := .mk { f.n with A := some b', c := c' } (f.L ++ h.ks ++ f.R)) ho (fun b hb => ?_) ?_ rfl ?_ ?_, ho.below (B := base) (fun b hb => (hlt b (hmid b hb)).2.2.2) hbase hT.gl⟩
  · have := hlt b (hmid b hb); exact ⟨this.2.1, this.2.2.1⟩
  · have er : wr.heap[f.n.g]? = w6.heap[f.n.g]? := hI.o.wh hAt.q (hlt _ (by simp)).1 (fun hm => hfg (hhm _ hm))
    have e10 : w10.heap[f.n.g]? = wr.heap[f.n.g]? := o10.wh hAt.q (by have := (hlt f.n.g (by simp)).1; omega) (by simp; exact fun e => hbfn e.symm)
    have h5 := heap_set (j := 6) (e10.trans (er.trans hAt.h)) (.slice (adr G (some b')) tot c')
    rw [← hW] at h5
    have hlen : (f.L ++ h.ks ++ f.R).length = tot := by rw [htot, List.length_append, List.length_append]
    refine .mk ⟨?_, hAt.q, (by rw [hlen]; exact hO.same o11.size fun b hb => o11.kp (by injection hb with hb; subst hb; simp; exact hb'2.1)), o11.m'⟩ (TPs_iff.2 fun s hs => ?_)
    · rw [hlen]; exact h5
    · have hs3 : s ∈ f.L ∨ s ∈ h.ks ∨ s ∈ f.R := by simpa using hs
      have hsb : ∀ b ∈ s.bl, b ∈ blL (f.L ++ h :: f.R) := fun b hb => hsub.subset (mem_blL.2 ⟨s, hs, hb⟩)
      have hn2 : ∀ b ∈ s.bl, b ≠ bf ∧ b ≠ f.n.g := fun b hb => ⟨fun e => m3 (e ▸ hsb b hb), fun e => hfg (e ▸ hsb b hb)⟩
      have out : s ∈ f.L ++ h :: f.R → (∀ b ∈ s.bl, b ∉ h.bl) → TP G W11 (some f.n.g) s := fun h1 h2 => (hK s h1).off ho (by
        intro b hb hm
        simp at hm
        rcases hm with e | e | e
        · exact h2 b hb e
        · exact (hn2 b hb).1 e
        · exact (hn2 b hb).2 e)
      rcases hs3 with h1 | h1 | h1
      · exact out (by simp [h1]) fun b hb e => e2 b e (mem_blL.2 ⟨s, h1, hb⟩)
      · have hl := hI.l
        rw [List.take_length] at hl
        have o12 : Off G [bf, f.n.g] wr W11 := ((Off.refl [bf, f.n.g] wr o10.m).trans o10 (by simp)).trans o11 (by simp)
        exact (TPs_iff.1 hl s h1).off o12 (by
          intro b hb hm
          simp at hm
          rcases hm with e | e
          · exact (hn2 b hb).1 e
          · exact (hn2 b hb).2 e)
      · exact out (by simp [h1]) fun b hb e => e3 b e (mem_blL.2 ⟨s, h1, hb⟩)
  · rw [hbl']
    refine List.nodup_cons.2 ⟨?_, List.nodup_cons.2 ⟨fun hm => hb'2.2.1 (hsub.subset hm), m4.sublist hsub⟩⟩
    simp only [List.mem_cons, not_or]
    exact ⟨fun e => hb'2.1 e.symm, fun hm => hfg (hsub.subset hm)⟩
  · intro b hb
    rw [hbl'] at hb
    rcases List.mem_cons.1 hb with rfl | hb
    · have := hlt f.n.g (by simp); exact ⟨this.2.1, this.2.2.1, this.2.2.2⟩
    · rcases List.mem_cons.1 hb with rfl | hb
      · exact ⟨hb'2.2.2.1, hb'2.2.2.2.1, hb'2.2.2.2.2⟩
      · have := hlt b (by simp [hsub.subset hb]); exact ⟨this.2.1, this.2.2.1, this.2.2.2⟩
end Go.Proofs.YtcklmkjlbpjojaaDoor.X
namespace Go.Proofs.YtcklmkjlbpjojaaDoor.X
open Go.RowKit Go.Lib
set_option linter.unusedSimpArgs false
set_option linter.unusedVariables false
variable {G : Gh}

theorem run_overlaps_same {P : Program} (w : World) (tS tR e : TypeId) (ht : P.underlying tS = some (.slice e)) (hz : ∀ w, (Go.sizeOf e).run P w = .ok 1 w)
    (a b : Addr) (la ca lb cb : Nat) (he : a.block = b.block) (hd : b.off + lb ≤ a.off ∨ a.off + la ≤ b.off) :
    (Extern.SlicesOverlaps.overlaps #[tS, tS] #[tR] #[.slice (some a) la ca, .slice (some b) lb cb]).run P w = .ok (.bool false) w := by
  have hnb : (a.block != b.block) = false := by simpa using he
  have hnb' : (a.block == b.block) = true := by simpa using he
  change Sem.run P (α := Value) (do
    let some t := (#[tS, tS] : Array TypeId)[0]? | stuck "slices.overlaps: no parameter types"
    let .slice elem ← underlying t | stuck "slices.overlaps: slice type expected"
    let size ← sizeOf elem
    match (some a : Option Addr), (some b : Option Addr) with
    | some a, some b =>
      if la = 0 ∨ lb = 0 ∨ size = 0 then pure (Value.bool false)
      else if a.block != b.block && (← frozen a) && (← frozen b) then unsupported .addressObserved
      else do
        if a.block != b.block then do
          noView a; noView b
          if ← mayBeOne a b then return Value.bool ((← choose (.extern "sameAddr.stringBytes" 2)) == 1)
        pure (Value.bool (a.block == b.block && a.off < b.off + lb * size && b.off < a.off + la * size))
    | _, _ => pure (Value.bool false)) w = _
  by_cases h0 : la = 0 ∨ lb = 0 ∨ (1 : Nat) = 0
  · rcases h0 with rfl | rfl | h0
    · simp [run_underlying ht, hz]
    · simp [run_underlying ht, hz]
    · cases h0
  · have h1 : la ≠ 0 ∧ lb ≠ 0 := ⟨fun e => h0 (.inl e), fun e => h0 (.inr (.inl e))⟩
    have hq : (decide (a.off < b.off + lb) && decide (b.off < a.off + la)) = false := by
      rcases hd with hd | hd
      · rw [show decide (a.off < b.off + lb) = false by simp; omega]; rfl
      · rw [show decide (b.off < a.off + la) = false by simp; omega, Bool.and_false]
    simp [run_underlying ht, hz, h1.1, h1.2, hnb, hnb', frozen, Sem.run]
    simpa using hq

/-- What many kids for one leave. -/
def RepP (w : World) (B o c : Nat) (cur : List Value) (l vs : List T) (i : Nat) (e : Ending) (w' : World) : Prop :=
  ∃ tot, tot + 1 = l.length + vs.length ∧
    ((∃ cur', e = .returned (.slice (some ⟨B, o, none⟩) tot c) ∧ PRow w' B o c tot (ptrs (l.take i ++ vs ++ l.drop (i + 1))) cur' ∧ RowOff w w' B o c cur cur') ∨
     (∃ b' c' cur', e = .returned (.slice (some ⟨b', 0, none⟩) tot c') ∧ w.heap.size ≤ b' ∧ b' < w'.heap.size ∧ 0 < c' ∧ cur'.length = c' ∧ PRow w' b' 0 c' tot (ptrs (l.take i ++ vs ++ l.drop (i + 1))) cur' ∧ w.grownBy w' none))
def Sep (B o c vB vo vc : Nat) : Prop := vB ≠ B ∨ (vB = B ∧ (vo + vc ≤ o ∨ o + c ≤ vo))

set_option maxHeartbeats 4000000 in
set_option maxRecDepth 100000 in
theorem replace_shift (B o n c i vB vo vc m : Nat) (l vs : List T) (cur curv : List Value) (w : World) (hn : n = l.length) (hi : i + 1 < n) (hb : n ≤ 1000) (hm : m = vs.length) (hm2 : 2 ≤ m) (hmb : m ≤ 1000) (hroom : n + m ≤ c + 1)
    (hP : PRow w B o c n (ptrs l) cur) (hV : PRow w vB vo vc m (ptrs vs) curv) (hsep : Sep B o c vB vo vc) :
    Calls Tryd.prog 39 #[.slice (some ⟨B, o, none⟩) n c, .int .i64 i, .int .i64 ((i : Int) + 1), .slice (some ⟨vB, vo, none⟩) m vc] w (RepP w B o c cur l vs i) := by
  have hh := hP.h; have hnc := hP.nc; have hc63 := hP.cm; have hoc := hP.oc; have htk := hP.xs
  have hvh := hV.h; have hvc := hV.nc; have hvc63 := hV.cm; have hvoc := hV.oc; have hvt := hV.xs
  have hcell : ∀ j, j < c → ∃ v, w.cell? ⟨B, o + j, none⟩ = some v := fun j hj => hP.some hj
  have hcellp : ∀ j v, (ptrs l)[j]? = some v → w.cell? ⟨B, o + j, none⟩ = some v := fun j v hj => hP.cell hj
  have hcellv : ∀ j v, (ptrs vs)[j]? = some v → w.cell? ⟨vB, vo + j, none⟩ = some v := fun j v hj => hV.cell hj
  have hfz : ∀ j, w.frozen? ⟨B, j, none⟩ = false := fun j => hP.free j
  have hov : ∀ (W : World), W.heap = w.heap → ∀ la ca, la + (i + m) ≤ c → (callFunc 59 #[.slice (some ⟨B, o + (i + m), none⟩) la ca, .slice (some ⟨vB, vo, none⟩) m vc]).run Tryd.prog W = .ok (.value (.bool false)) W := fun W hW la ca hla => by
    rw [run_callFunc_extern Tryd.func59 (by kernel_rfl) (by kernel_rfl) (by kernel_rfl) (e := Extern.SlicesOverlaps.overlaps #[53, 53] #[4]) (by kernel_rfl)]
    rcases hsep with hvb | ⟨hvb, hd⟩
    · rw [Lib.run_overlaps_apart W 53 4 55 Tryd.underlying53 1 sizeOf55 ⟨B, o + (i + m), none⟩ ⟨vB, vo, none⟩ la ca m vc (fun e => hvb e.symm) 55 55 cur.length curv.length (by unfold World.shape?; rw [hW, hh]; simp) (by unfold World.shape?; rw [hW, hvh]; simp) (by omega)
        (by unfold World.frozen?; rw [hW, hh]; simp) (by unfold World.frozen?; rw [hW, hh]; simp)]
      rfl
    · rw [run_overlaps_same W 53 4 55 Tryd.underlying53 sizeOf55 ⟨B, o + (i + m), none⟩ ⟨vB, vo, none⟩ la ca m vc hvb.symm (by show vo + m ≤ o + (i + m) ∨ o + (i + m) + la ≤ vo; omega)]
      rfl
  have hpl : (ptrs l).length = n := by rw [ptrs_len, hn]
  have hvpl : (ptrs vs).length = m := by rw [ptrs_len, hm]
  have hdl : ((ptrs l).drop (i + 1)).length = n - (i + 1) := by rw [List.length_drop, hpl]
  have hsz : (Tryd.prog.info? 55).map (·.size) = some 1 := by
    obtain ⟨i0, hi0, h0, h1, h2⟩ := info_parts info55
    rw [hi0]; simp [h1]
  obtain ⟨tot, htot⟩ : ∃ tot, tot + 1 = n + m := ⟨n + m - 1, by omega⟩
  have hcp1 : ∀ (W : World), W.heap = w.heap → ∀ ty dc sc, (Builtin.copy_ #[53, 53] ty #[.slice (some ⟨B, o + (i + m), none⟩) (tot - (i + m)) dc, .slice (some ⟨B, o + (i + 1), none⟩) (n - (i + 1)) sc]).run Tryd.prog W = .ok (goInt ((ptrs l).drop (i + 1)).length) (W.setCells B (o + (i + m)) ((ptrs l).drop (i + 1))) := fun W hW ty dc sc =>
    run_copy_cells W _ _ ty 55 B (o + (i + m)) (tot - (i + m)) dc ⟨B, o + (i + 1), none⟩ (n - (i + 1)) sc ((ptrs l).drop (i + 1)) Tryd.underlying53 hsz (by rw [hdl]; simp only [Nat.min_def]; split <;> omega)
      (fun j v hj => by rw [Addr.add_lit, Nat.add_assoc]; unfold World.cell?; rw [hW]; exact hcellp (i + 1 + j) v (by rwa [List.getElem?_drop] at hj))
      (fun j hj => by obtain ⟨v, hv⟩ := hcell (i + m + j) (by rw [hdl] at hj; omega); rw [Nat.add_assoc]; unfold World.cell? at hv ⊢; rw [hW, hv]; rfl) (fun j hj => by unfold World.frozen?; rw [hW]; exact hfz _) (fun v hv => ptrs_one l v (List.mem_of_mem_drop hv))
  obtain ⟨W1, hW1⟩ : ∃ W1, W1 = w.drew.drew.setCells B (o + (i + m)) ((ptrs l).drop (i + 1)) := ⟨_, rfl⟩
  have hsp1 : ∀ k, k < c → (W1.cell? ⟨B, o + k, none⟩).isSome = true := fun k hk => by
    rw [hW1]
    exact isSome_setCells B _ _ _ (fun j hj => by obtain ⟨v, hv⟩ := hcell (i + m + j) (by rw [hdl] at hj; omega); show (w.cell? _).isSome = true; rw [Nat.add_assoc, hv]; rfl) _ (by obtain ⟨v, hv⟩ := hcell k hk; show (w.cell? _).isSome = true; rw [hv]; rfl)
  have hcp2 : ∀ ty dc, (Builtin.copy_ #[53, 53] ty #[.slice (some ⟨B, o + i, none⟩) (tot - i) dc, .slice (some ⟨vB, vo, none⟩) m vc]).run Tryd.prog W1 = .ok (goInt (ptrs vs).length) (W1.setCells B (o + i) (ptrs vs)) := fun ty dc =>
    run_copy_cells W1 _ _ ty 55 B (o + i) (tot - i) dc ⟨vB, vo, none⟩ m vc (ptrs vs) Tryd.underlying53 hsz (by rw [hvpl]; simp only [Nat.min_def]; split <;> omega)
      (fun j v hj => by
        have hjm : j < m := by rw [← hvpl]; exact (List.getElem?_eq_some_iff.1 hj).1
        rw [Addr.add_lit, hW1, World.cell?_setCells_out B _ _ _ _ (fun h _ => by
          rcases hsep with hvb | ⟨hvb, hd⟩
          · exact absurd h hvb
          · rw [hdl]
            show vo + j < o + (i + m) ∨ o + (i + m) + (n - (i + 1)) ≤ vo + j
            omega)]
        exact hcellv j v hj)
      (fun j hj => by rw [hvpl] at hj; rw [Nat.add_assoc]; exact hsp1 _ (by omega)) (fun j hj => by rw [hW1, World.frozen?_setCells]; exact hfz _) (fun v hv => ptrs_one vs v hv)
  have hi1 : ¬ ((i : Int) = (i : Int) + 1) := by omega
  have hi2 : (0 : Int) ≤ (i : Int) + 1 := by omega
  have hi3 : (i : Int) ≤ (i : Int) + 1 := by omega
  have hi5 : (i : Int) + 1 ≤ (c : Int) := by omega
  have hi6 : (i : Int) + 1 ≤ (n : Int) := by omega
  have hi7 : ¬ ((i : Int) + 1 = (n : Int)) := by omega
  have htn : ((i : Int) + 1).toNat = i + 1 := by omega
  have hin : i ≤ n := by omega
  have hic : i ≤ c := by omega
  have hci1 : ¬ (c = i + 1) := by omega
  have hw1 : IntKind.i64.wrap ((i : Int) + (m : Int)) = (i : Int) + (m : Int) := by rw [IntKind.wrap_i64]; omega
  have hj1 : (0 : Int) ≤ (i : Int) + (m : Int) := by omega
  have hj2 : ((i : Int) + (m : Int)).toNat = i + m := by omega
  have hj3 : (i : Int) + (m : Int) ≤ (tot : Int) := by omega
  have hj4 : ¬ (c = i + m) := by omega
  have hj5 : (tot : Int) ≤ (c : Int) := by omega
  have hj6 : ¬ (c = i) := by omega
  have hj7 : tot - (i + m) + (i + m) ≤ c := by omega
  have hw2 : IntKind.i64.wrap ((i : Int) + (m : Int) + ((n - (i + 1) : Nat) : Int)) = (tot : Int) := by rw [IntKind.wrap_i64]; omega
  have hov' := fun ca => hov w.drew rfl (tot - (i + m)) ca hj7
  replace hW1 := Lib.hid hW1; replace hcp2 := Lib.hid hcp2; replace hcp1 := Lib.hid hcp1; replace hsp1 := Lib.hid hsp1; replace hj7 := Lib.hid hj7
  replace hP := Lib.hid hP; replace hV := Lib.hid hV; replace hn := Lib.hid hn; replace hm := Lib.hid hm; replace hh := Lib.hid hh; replace hvh := Lib.hid hvh; replace htk := Lib.hid htk; replace hvt := Lib.hid hvt; replace hoc := Lib.hid hoc; replace hvoc := Lib.hid hvoc
  replace hcell := Lib.hid hcell; replace hcellp := Lib.hid hcellp; replace hcellv := Lib.hid hcellv; replace hfz := Lib.hid hfz; replace hov := Lib.hid hov; replace hpl := Lib.hid hpl; replace hvpl := Lib.hid hvpl; replace hdl := Lib.hid hdl; replace hsep := Lib.hid hsep; replace hov' := Lib.hid hov'
  go_enter Tryd.func39, Tryd.ntmps39
  go_upto_region 9 with fail
  refine wp_region_still_tail 12 (by kernel_rfl) (by kernel_rfl) ?_
  simp only [List.take_succ_cons, List.take_zero, List.drop_succ_cons, List.drop_zero]
  repeat still_step
  refine wpStill_nil ?_
  change wpList _ _ _ _ _ w.drew
  have hov2 := hov'.out
  have hcp1' := hcp1.out w.drew.drew rfl
  have hcp2' := hcp2.out
  rw [← hW1.out] at hcp1'
  go_wp2_with (simp only [hov2])
  go_still_tail 9, (by kernel_rfl)
  change wpList _ _ _ _ _ w.drew.drew
  go_wp2_with (first
    | (at_builtin; go_must (refine wpList_copy_runI _ rfl _ _ 53 53 rfl _ _ rfl rfl (hcp1' _ _ _) ?_))
    | (at_builtin; go_must (refine wpList_copy_runI _ rfl _ _ 53 53 rfl _ _ rfl rfl (hcp2' _ _) ?_))
    | fail)
  go_ret
  have hdl' := hdl.out; have hvpl' := hvpl.out; have hpl' := hpl.out; have htk' := htk.out; have hoc' := hoc.out
  have h2 := heap_setCells ((ptrs l).drop (i + 1)) (o + (i + m)) w.drew.drew cur hh.out (by rw [hdl']; omega)
  rw [← hW1.out] at h2
  obtain ⟨L2, hL2⟩ : ∃ L2, L2 = cur.take (o + (i + m)) ++ (ptrs l).drop (i + 1) ++ cur.drop (o + (i + m) + ((ptrs l).drop (i + 1)).length) := ⟨_, rfl⟩
  rw [← hL2] at h2
  have a1 : (cur.take (o + (i + m))).length = o + (i + m) := by rw [List.length_take]; omega
  have hl2 : L2.length = cur.length := by
    rw [hL2]; simp only [List.length_append, a1, List.length_drop, hpl']; omega
  have h3 := heap_setCells (ptrs vs) (o + i) W1 L2 h2 (by rw [hl2, hvpl']; omega)
  obtain ⟨L3, hL3⟩ : ∃ L3, L3 = L2.take (o + i) ++ ptrs vs ++ L2.drop (o + i + (ptrs vs).length) := ⟨_, rfl⟩
  rw [← hL3] at h3
  have e2 : L2.take (o + i) = cur.take (o + i) := by
    rw [hL2, List.append_assoc, List.take_append_of_le_length (by omega), List.take_take, Nat.min_eq_left (by omega)]
  have e3 : L2.drop (o + i + (ptrs vs).length) = (ptrs l).drop (i + 1) ++ cur.drop (o + (i + m) + ((ptrs l).drop (i + 1)).length) := by
    rw [hvpl', show o + i + m = o + (i + m) by omega, hL2, List.append_assoc, List.drop_append_of_le_length (by omega), List.drop_of_length_le (by omega), List.nil_append]
  rw [e2, e3] at hL3
  have a0 : (cur.take (o + i)).length = o + i := by rw [List.length_take]; omega
  have hl3 : L3.length = cur.length := by
    rw [hL3]; simp only [List.length_append, a0, hvpl', List.length_drop, hpl']; omega
  have hg : w.grownBy (W1.setCells B (o + i) (ptrs vs)) (some B) := by
    rw [hW1.out]
    have g0 : w.grownBy w.drew.drew (some B) := ⟨rfl, rfl, rfl, Nat.le_refl _, fun _ _ _ => rfl⟩
    exact (g0.trans (grownBy_setCells (w := w) _ _ _)).trans (grownBy_setCells (w := w) _ _ _)
  refine ⟨tot, by rw [← hn.out, ← hm.out]; omega, .inl ⟨L3, rfl, ⟨h3, by omega, hc63, by omega, ?_⟩, ⟨hl3, fun j hj => ?_, h3, hg⟩⟩⟩
  · have e4 : (cur.take (o + i)).drop o = (ptrs l).take i := by
      rw [List.drop_take, Nat.add_sub_cancel_left, ← htk', List.take_take, Nat.min_eq_left (by omega)]
    have a4 : ((ptrs l).take i ++ ptrs vs ++ (ptrs l).drop (i + 1)).length = tot := by simp only [List.length_append, List.length_take, hdl', hpl', hvpl']; omega
    rw [hL3, List.append_assoc, List.drop_append_of_le_length (by omega), e4, ← List.append_assoc, ← List.append_assoc, List.take_append_of_le_length (by omega), List.take_of_length_le (by omega)]
    simp [ptrs, List.map_take, List.map_drop]
  · rw [hL3]
    rcases hj with hj | hj
    · rw [List.append_assoc, List.getElem?_append_left (by omega), List.getElem?_take, if_pos (by omega)]
    · rw [List.getElem?_append_right (by simp only [List.length_append, a0, hvpl']; omega), List.getElem?_append_right (by simp only [List.length_append, a0, hvpl', hdl']; omega), List.getElem?_drop]
      congr 1
      simp only [List.length_append, a0, hvpl', hdl']
      omega
end Go.Proofs.YtcklmkjlbpjojaaDoor.X
