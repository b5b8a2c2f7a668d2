/- Layout: what Split leaves in the end. No walk. -/
import Derived.Test.YtcklmkjlbpjojaaGreatDoorE2b
import Derived.Test.YtcklmkjlbpjojaaGreatDoorD3
namespace Go.Proofs.YtcklmkjlbpjojaaGreatDoor
open Go.RowKit
set_option linter.unusedSimpArgs false
set_option linter.unusedVariables false

theorem plug_g : ∀ (c : List Fr) (a b : T), a.g = b.g → (plug c a).g = (plug c b).g := by
  intro c
  induction c with
  | nil => intro a b h; exact h
  | cons f c ih => intro a b _; rw [plug, plug]; exact ih _ _ rfl
/-- What is turned at a place, with blocks that lie outside of the tree. -/
theorem Tr.focus2 {base tr : Nat} {w w' : World} {c : List Fr} {t t' : T} {S : List Nat} (h : Tr base w tr (plug c t)) (ho : Off S w w') (hS : ∀ b ∈ S, b ∉ cbl c ∧ b ≠ tr)
    (hT : TP w' (upOf c) t') (hg : t'.g = t.g) (hN : t'.bl.Nodup) (hb : ∀ b ∈ t'.bl, b ∉ cbl c ∧ b ≠ tr ∧ base ≤ b) : Tr base w' tr (plug c t') := by
  have hp := perm_plug c t
  have hp' := perm_plug c t'
  have hnd := hp.nodup_iff.1 h.nd
  obtain ⟨n1, n2, n3⟩ := List.nodup_append.1 hnd
  have hlt : ∀ b ∈ cbl c ++ t.bl, b < w.heap.size := fun b hb' => h.p.lt _ _ b (hp.mem_iff.2 hb')
  have hcl : ∀ b ∈ cbl c, w'.heap[b]? = w.heap[b]? := fun b hb' => ho.block b (hlt b (by simp [hb'])) (fun hm => (hS b hm).1 hb')
  have hpt := (TP_plug c t).1 h.p
  refine ⟨?_, (TP_plug c t').2 ⟨CP.other c t t' hpt.1 hg hcl, hT⟩, ?_, ?_, h.lo.1, ?_⟩
  · rw [plug_g c _ _ hg, ho.block tr h.lt (fun hm => (hS tr hm).2 rfl)]; exact h.h
  · refine hp'.nodup_iff.2 (List.nodup_append.2 ⟨n1, hN, ?_⟩)
    rintro b hb1 b' hb2 rfl
    exact (hb b hb2).1 hb1
  · intro hm
    rcases List.mem_append.1 (hp'.mem_iff.1 hm) with h1 | h1
    · exact h.nt (hp.mem_iff.2 (by simp [h1]))
    · exact (hb tr h1).2.1 rfl
  · intro b hm
    rcases List.mem_append.1 (hp'.mem_iff.1 hm) with h1 | h1
    · exact h.lo.2 b (hp.mem_iff.2 (by simp [h1]))
    · exact (hb b h1).2.2
/-- What is known of a place's blocks. -/
theorem Tr.apart {base tr : Nat} {w : World} {c : List Fr} {t : T} (h : Tr base w tr (plug c t)) : t.bl.Nodup ∧ (∀ b ∈ t.bl, b ∉ cbl c ∧ b ≠ tr ∧ base ≤ b ∧ b < w.heap.size) ∧ (∀ b ∈ cbl c, b < w.heap.size ∧ b ≠ tr) := by
  have hp := perm_plug c t
  obtain ⟨n1, n2, n3⟩ := List.nodup_append.1 (hp.nodup_iff.1 h.nd)
  have hm : ∀ b ∈ t.bl, b ∈ (plug c t).bl := fun b hb => hp.mem_iff.2 (by simp [hb])
  refine ⟨n2, fun b hb => ⟨fun hc => n3 b hc b hb rfl, ?_, h.lo.2 b (hm b hb), h.p.lt _ _ b (hm b hb)⟩, fun b hb => ⟨h.p.lt _ _ b (hp.mem_iff.2 (by simp [hb])), ?_⟩⟩
  · rintro rfl; exact h.nt (hm _ hb)
  · rintro rfl; exact h.nt (hp.mem_iff.2 (by simp [hb]))
set_option maxHeartbeats 1000000 in
/-- Split's end: the new node stands in the row. -/
theorem split_end {base tr : Nat} {wx w' : World} {f : Fr} {c0 : List Fr} {l1 : T} {gn : Nat} {nl nn : Nd} {A' : Option Nat} {c' : Nat} {X : List T} {bb : Nat}
    (h : Tr base wx tr (plug (f :: c0) l1)) (hk : l1.ks = []) (hbb : f.n.A = some bb)
    (hgn : gn ∉ (plug (f :: c0) l1).bl) (hgnt : gn ≠ tr) (hgb : base ≤ gn) (hgl : gn < wx.heap.size) (hbase : base ≤ wx.heap.size)
    (hnl : nl.g = l1.n.g ∧ nl.A = l1.n.A) (hnn : nn.g = gn ∧ nn.A = none)
    (hX : X = [.mk nl [], .mk nn []] ∨ X = [.mk nn [], .mk nl []])
    (hA' : A' = some bb ∨ ∃ b, A' = some b ∧ wx.heap.size ≤ b)
    (ho : Off [bb, f.n.g, l1.n.g, gn] wx w')
    (hf : At w' (upOf c0) { f.n with A := A', c := c' } (f.L ++ X ++ f.R)) (hl : At w' (some f.n.g) nl []) (hn : At w' (some f.n.g) nn []) :
    Tr base w' tr (plug c0 (.mk { f.n with A := A', c := c' } (f.L ++ X ++ f.R))) := by
  have h' : Tr base wx tr (plug c0 (.mk f.n (f.L ++ l1 :: f.R))) := h
  obtain ⟨nd, hin, hout⟩ := h'.apart
  have htr := h'.lt
  have hp := ((TP_plug (f :: c0) l1).1 h.p).1
  have hl1 : l1.bl = l1.n.g :: l1.n.A.toList := by cases l1 with | mk n ks => cases hk; rw [T.bl_mk, blL_nil, List.append_nil]; rfl
  have hbl : (T.mk f.n (f.L ++ l1 :: f.R)).bl = f.n.g :: bb :: (blL f.L ++ (l1.n.g :: l1.n.A.toList ++ blL f.R)) := by
    rw [T.bl_mk, hbb, blL_app, blL_cons, hl1]; rfl
  rw [hbl] at nd hin
  have hgn2 : gn ∉ cbl c0 ∧ gn ∉ f.n.g :: bb :: (blL f.L ++ (l1.n.g :: l1.n.A.toList ++ blL f.R)) := by
    have hm := (perm_plug c0 (.mk f.n (f.L ++ l1 :: f.R))).mem_iff (a := gn)
    rw [hbl] at hm
    constructor
    · intro hc; exact hgn (hm.2 (by simp [hc]))
    · intro hc; exact hgn (hm.2 (List.mem_append_right _ hc))
  have hXb : (blL X).Perm (gn :: (l1.n.g :: l1.n.A.toList)) := by
    rcases hX with rfl | rfl
    · simp only [blL_cons, blL_nil, T.bl_mk, hnl.1, hnl.2, hnn.1, hnn.2, Option.toList_none, List.append_nil, List.nil_append]
      exact List.perm_append_comm
    · simp only [blL_cons, blL_nil, T.bl_mk, hnl.1, hnl.2, hnn.1, hnn.2, Option.toList_none, List.append_nil, List.nil_append]
      exact List.Perm.refl _
  obtain ⟨a1, rfl, ha1⟩ : ∃ a1, A' = some a1 ∧ (a1 = bb ∨ wx.heap.size ≤ a1) := by
    rcases hA' with rfl | ⟨b, rfl, hb⟩
    · exact ⟨_, rfl, .inl rfl⟩
    · exact ⟨_, rfl, .inr hb⟩
  obtain ⟨L, hL⟩ : ∃ L, L = blL f.L := ⟨_, rfl⟩
  obtain ⟨R, hR⟩ : ∃ R, R = blL f.R := ⟨_, rfl⟩
  obtain ⟨Q, hQ⟩ : ∃ Q, Q = l1.n.g :: l1.n.A.toList := ⟨_, rfl⟩
  have hQg : l1.n.g ∈ Q := by simp [hQ]
  rw [← hQ] at hXb hgn2 nd hin
  rw [← hL, ← hR] at hgn2 nd hin
  have hbl' : (T.mk { f.n with A := some a1, c := c' } (f.L ++ X ++ f.R)).bl.Perm (gn :: a1 :: f.n.g :: (L ++ (Q ++ R))) := by
    rw [T.bl_mk, blL_app, blL_app, ← hL, ← hR]
    refine List.perm_iff_count.2 fun a => ?_
    have := List.perm_iff_count.1 hXb a
    simp only [Option.toList_some, List.count_append, List.count_cons, List.count_nil] at this ⊢
    omega
  have hnd2 : (gn :: a1 :: f.n.g :: (L ++ (Q ++ R))).Nodup := by
    obtain ⟨m1, m2⟩ := List.nodup_cons.1 nd
    obtain ⟨m3, m4⟩ := List.nodup_cons.1 m2
    have hsub : ∀ x ∈ f.n.g :: (L ++ (Q ++ R)), x ∈ f.n.g :: bb :: (L ++ (Q ++ R)) := fun x hx => by
      rcases List.mem_cons.1 hx with rfl | hx
      · simp
      · exact List.mem_cons_of_mem _ (List.mem_cons_of_mem _ hx)
    have h3 : (f.n.g :: (L ++ (Q ++ R))).Nodup := List.nodup_cons.2 ⟨fun hx => m1 (List.mem_cons_of_mem _ hx), m4⟩
    have h4 : a1 ∉ f.n.g :: (L ++ (Q ++ R)) := by
      intro hx
      rcases ha1 with rfl | h
      · rcases List.mem_cons.1 hx with e | hx
        · exact m1 (by rw [← e]; simp)
        · exact m3 hx
      · have := (hin _ (hsub _ hx)).2.2.2; omega
    refine List.nodup_cons.2 ⟨?_, List.nodup_cons.2 ⟨h4, h3⟩⟩
    intro hx
    rcases List.mem_cons.1 hx with e | hx
    · rcases ha1 with rfl | h
      · exact hgn2.2 (by rw [e]; simp)
      · omega
    · exact hgn2.2 (hsub _ hx)
  have hsep : ∀ x, x ∈ L ∨ x ∈ R → x ∉ [bb, f.n.g, l1.n.g, gn] := by
    obtain ⟨m1, m2⟩ := List.nodup_cons.1 nd
    obtain ⟨m3, m4⟩ := List.nodup_cons.1 m2
    obtain ⟨k1, k2, k3⟩ := List.nodup_append.1 m4
    obtain ⟨k4, k5, k6⟩ := List.nodup_append.1 k2
    intro x hx
    have hx2 : x ∈ L ++ (Q ++ R) := by rcases hx with h | h <;> simp [h]
    simp only [List.mem_cons, List.not_mem_nil, or_false, not_or]
    refine ⟨?_, ?_, ?_, ?_⟩
    · rintro rfl; exact m3 hx2
    · rintro rfl; exact m1 (List.mem_cons_of_mem _ hx2)
    · rintro rfl
      rcases hx with h | h
      · exact k3 _ h _ (List.mem_append_left _ hQg) rfl
      · exact k6 _ hQg _ h rfl
    · rintro rfl; exact hgn2.2 (List.mem_cons_of_mem _ (List.mem_cons_of_mem _ hx2))
  have hSin : ∀ b ∈ [bb, f.n.g, l1.n.g, gn], b ∉ cbl c0 ∧ b ≠ tr := by
    intro b hb
    simp only [List.mem_cons, List.not_mem_nil, or_false] at hb
    rcases hb with rfl | rfl | rfl | rfl
    · have := hin b (by simp); exact ⟨this.1, this.2.1⟩
    · have := hin f.n.g (by simp); exact ⟨this.1, this.2.1⟩
    · have := hin l1.n.g (by simp [hQg]); exact ⟨this.1, this.2.1⟩
    · exact ⟨hgn2.1, hgnt⟩
  refine Tr.focus2 h' ho hSin (.mk hf ?_) rfl (hbl'.nodup_iff.2 hnd2) ?_
  · rw [TPs_app, TPs_app]
    refine ⟨⟨hp.2.1.off ho fun x hx => hsep x (.inl (hL ▸ hx)), ?_⟩, hp.2.2.1.off ho fun x hx => hsep x (.inr (hR ▸ hx))⟩
    have e1 : TP w' (some f.n.g) (.mk nl []) := .mk hl (by rw [TPs]; trivial)
    have e2 : TP w' (some f.n.g) (.mk nn []) := .mk hn (by rw [TPs]; trivial)
    rcases hX with rfl | rfl
    · rw [TPs, TPs, TPs]; exact ⟨e1, e2, trivial⟩
    · rw [TPs, TPs, TPs]; exact ⟨e2, e1, trivial⟩
  · intro b hb
    have hb := hbl'.mem_iff.1 hb
    rcases List.mem_cons.1 hb with rfl | hb
    · exact ⟨hgn2.1, hgnt, hgb⟩
    · rcases List.mem_cons.1 hb with rfl | hb
      · rcases ha1 with rfl | h
        · have := hin b (by simp); exact ⟨this.1, this.2.1, this.2.2.1⟩
        · refine ⟨fun hc => ?_, by omega, by omega⟩
          have := (hout _ hc).1; omega
      · have := hin b (by
          rcases List.mem_cons.1 hb with rfl | hx
          · simp
          · exact List.mem_cons_of_mem _ (List.mem_cons_of_mem _ hx))
        exact ⟨this.1, this.2.1, this.2.2.1⟩
theorem insert_any (base : Nat) (b n c i vb g : Nat) (l : List T) (w : World) (hn : n = l.length) (hb : n ≤ 100000) (hi : i ≤ n) (hbase : base ≤ w.heap.size) (hO : w.ownsRow base 58 1 (.slice (some ⟨b, 0, none⟩) n c) n (ptrs l))
    (hv : w.heap[vb]? = some (.cells #[ptr g] 58 (0, 0))) (hvb : vb ≠ b) :
    Calls Tryz.prog 32 #[.slice (some ⟨b, 0, none⟩) n c, .int .i64 i, .slice (some ⟨vb, 0, none⟩) 1 1] w (InsPost base w (some b) l i g) := by
  by_cases h : i = n
  · subst h; exact insert_end base b i c vb g l w hn hb hbase hO hv
  · by_cases h2 : n + 1 ≤ c
    · exact insert_shift base b n c i vb g l w hn (by omega) h2 hO hv hvb
    · exact insert_grow base b n c i vb g l w hn hb (by omega) (by omega) hbase hO hv
theorem nds_ctx : ∀ c : List Fr, ∃ A : List Nd, ∀ (t : T) (m : Nd), m ∈ (plug c t).nds ↔ m ∈ A ∨ m ∈ t.nds
  | [] => ⟨[], fun t m => by simp [plug]⟩
  | f :: c => by
    obtain ⟨A, h⟩ := nds_ctx c
    refine ⟨A ++ (f.n :: (ndsL f.L ++ ndsL f.R)), fun t m => ?_⟩
    rw [plug, h, T.nds_mk, ndsL_app, ndsL_cons]
    simp only [List.mem_append, List.mem_cons]
    constructor
    · rintro (h | h | h | h | h) <;> simp [h]
    · rintro ((h | h | h | h) | h) <;> simp [h]
theorem Tr.placed {base tr : Nat} {w w' : World} {t : T} (h : Tr base w tr t) (hp : TP w' none (t.place 0 0)) (ho : Off t.bl w w') : Tr base w' tr (t.place 0 0) :=
  ⟨by rw [T.place_g, ho.block tr h.lt h.nt]; exact h.h, hp, by rw [T.place_bl]; exact h.nd, by rw [T.place_bl]; exact h.nt, by rw [T.place_bl]; exact h.lo⟩
/-- What Split leaves. -/
def SplitS (base tr : Nat) (w : World) (c : List Fr) (l : T) (way other a' b' na nb : Int) (before : Bool) (e : Ending) (w' : World) : Prop :=
  ∃ (f : Fr) (c0 : List Fr) (f' l' n' : Nd), e = .returned (.int .i64 0) ∧ Tr base w' tr ((plug c0 (.mk f' (f.L ++ (if before = true then [.mk n' [], .mk l' []] else [.mk l' [], .mk n' []]) ++ f.R))).place 0 0) ∧ Below base w w' ∧
    (f'.p = f.n.p ∧ f'.a = f.n.a ∧ f'.b = f.n.b ∧ f'.way = f.n.way) ∧ f.n.way = way ∧ (l'.p = l.n.p ∧ l'.a = a' ∧ l'.b = b' ∧ (l'.way = l.n.way ∨ l'.way = 0)) ∧ (n'.p = other ∧ n'.a = na ∧ n'.b = nb ∧ n'.way = 0) ∧
    (c = f :: c0 ∨ ((∀ g d, c = g :: d → g.n.way ≠ way) ∧ c0 = c ∧ f.L = [] ∧ f.R = [] ∧ f.n.a = l.n.a ∧ f.n.b = l.n.b ∧ f.n.p = 0))
/-- Behind the first half: the pane stands in a split of the way; the new node stands by itself. -/
structure MidS (base tr : Nat) (w : World) (c : List Fr) (l : T) (way : Int) (gn : Nat) (nc : Array Value) (wx : World) (f : Fr) (c0 : List Fr) (l1 : T) : Prop where
  t : Tr base wx tr (plug (f :: c0) l1)
  fw : f.n.way = way
  lk : l1.ks = []
  lp : l1.n.p = l.n.p
  la : l1.n.a = l.n.a
  lb : l1.n.b = l.n.b
  lw : l1.n.way = l.n.way ∨ l1.n.way = 0
  nb : wx.heap[gn]? = some (.cells nc 66 (0, 0))
  gl : w.heap.size ≤ gn
  nt : gn ∉ (plug (f :: c0) l1).bl
  o : Off (tr :: (plug c l).bl) w wx
  hw : w.heap.size ≤ wx.heap.size
  from_ : (c = f :: c0 ∧ l1 = l) ∨ ((∀ g d, c = g :: d → g.n.way ≠ way) ∧ c0 = c ∧ f.L = [] ∧ f.R = [] ∧ f.n.a = l.n.a ∧ f.n.b = l.n.b ∧ f.n.p = 0)
end Go.Proofs.YtcklmkjlbpjojaaGreatDoor
