/- Layout: put, of a tree whose rows may share a block. -/
import Derived.Test.YtcklmkjlbpjojaaDoorXD
import Derived.Test.YtcklmkjlbpjojaaDoorM4
import Derived.Deep.RegionHeld3
namespace Go.Proofs.YtcklmkjlbpjojaaDoor.X
open Go.RowKit
set_option linter.unusedSimpArgs false
set_option linter.unusedVariables false
variable {G : Gh}

theorem At.slot {w : World} {up : Option Nat} {n : Nd} {L R : List T} {t t' : T} {b x : Nat} (h : At G w up n (L ++ t :: R)) (hA : n.A = some b) (hb : b ≠ n.g) (ht : t'.g = x) :
    At G (w.setCell ⟨(G.α b).1, (G.α b).2 + L.length, none⟩ (ptr x)) up n (L ++ t' :: R) ∧ Off G [b] w (w.setCell ⟨(G.α b).1, (G.α b).2 + L.length, none⟩ (ptr x)) := by
  have hlen : (L ++ t' :: R).length = (L ++ t :: R).length := by simp
  rcases h.r.2 with ⟨h1, _⟩ | ⟨b', cur, h1, h2, h3, h4, h5⟩
  · rw [hA] at h1; cases h1
  rw [hA] at h1; injection h1 with h1; subst h1
  have hL : L.length < n.c := by have := h4.nc; simp at this; omega
  have o : Off G [b] w (w.setCell ⟨(G.α b).1, (G.α b).2 + L.length, none⟩ (ptr x)) := by
    have := Off.set (G := G) h.m ⟨(G.α b).1, (G.α b).2 + L.length, none⟩ (ptr x)
    rwa [show G.κ (⟨(G.α b).1, (G.α b).2 + L.length, none⟩ : Addr).block (⟨(G.α b).1, (G.α b).2 + L.length, none⟩ : Addr).off = b from h5 _ hL] at this
  refine ⟨⟨?_, h.q, ⟨by rw [ptrs_len], .inr ⟨b, cur.set ((G.α b).2 + L.length) (ptr x), hA, Nat.lt_of_lt_of_le h2 o.size, h3, ⟨?_, by rw [hlen]; exact h4.nc, h4.cm, by rw [List.length_set]; exact h4.oc, ?_⟩, h5⟩⟩, o.m'⟩, o⟩
  · rw [o.wh h.q (lt_of_heap h.h) (by simp; exact fun e => hb e.symm), hlen]; exact h.h
  · have := heap_set (j := (G.α b).2 + L.length) h4.h (ptr x)
    rw [List.setIfInBounds_toArray] at this
    exact this
  · rw [List.drop_set, if_neg (by omega), Nat.add_sub_cancel_left, List.take_set, hlen, h4.xs]
    simp [ptrs, ht]
set_option maxHeartbeats 4000000 in
set_option maxRecDepth 100000 in
theorem put_in (tr new b : Nat) (up : Option Nat) (u : Value) (n : Nd) (L R : List T) (t : T) (w : World) (hAt : At G w up n (L ++ t :: R)) (hA : n.A = some b)
    (hqn : G.wh new) (hqt : G.wh t.g) (ho : w.cell? ⟨t.g, 7, none⟩ = some (ptr n.g)) (h7 : w.cell? ⟨new, 7, none⟩ = some u) (hf : w.frozen? ⟨new, 7, none⟩ = false)
    (hC : ∀ s ∈ L ++ t :: R, IsC w s.g) (hnew : IsC w new) (hd : ∀ s ∈ L, s.g ≠ t.g) (hn1 : new ≠ t.g) (hn2 : new ≠ n.g) (hn3 : new ≠ b) (hn4 : b ≠ n.g) (hn6 : b ≠ t.g) (hn5 : ∀ s ∈ L ++ t :: R, s.g ≠ new ) :
    Calls Tryd.prog 31 #[ptr tr, ptr t.g, ptr new] w fun e w' => e = .returned (.tuple #[]) ∧ w' = ((w.setCell ⟨new, 7, none⟩ (ptr n.g)).setCell ⟨(G.α b).1, (G.α b).2 + L.length, none⟩ (ptr new)).drew := by
  obtain ⟨b0, B, o, cur0, e1, e2, hAr, hPR, hκ, _⟩ := hAt.kid (i := L.length) (k := t) (by simp)
  rw [hA] at e1; injection e1 with e1; subst e1
  have hc0 : 0 < n.c := by have := hPR.nc; simp at this; omega
  have hB : ∀ k, G.wh k → b ≠ k → B ≠ k := fun k q hne e => hne (by rw [← hκ 0 hc0, e]; exact q.κ _)
  have hn3B := hB _ hqn (fun e => hn3 e.symm)
  have hn4B := hB _ hAt.q hn4
  have hn6B := hB _ hqt hn6
  rw [e2]
  replace hB := Lib.hid hB; replace hκ := Lib.hid hκ; replace hPR := Lib.hid hPR; replace e2 := Lib.hid e2
  obtain ⟨W, hW⟩ : ∃ W, W = w.setCell ⟨new, 7, none⟩ (ptr n.g) := ⟨_, rfl⟩
  have oW : Off G [new] w W := by rw [hW]; exact Off.setw hAt.m hqn 7 _
  have hAtW : At G W up n (L ++ t :: R) := hAt.off oW (fun x hx => by
    simp only [List.mem_singleton]
    rintro rfl
    rcases List.mem_cons.1 hx with h | h
    · exact hn2 h
    · rw [hA] at h; simp at h; exact hn3 h)
  have hCW : ∀ s ∈ L ++ t :: R, IsC W s.g := fun s hs => by
    obtain ⟨c, e, h⟩ := hC s hs
    obtain ⟨c', h1, _⟩ := oW.part s.g c e h
    exact ⟨c', e, h1⟩
  have c6 := hAtW.c6
  have hR := hAtW.rd
  have hsm := hAtW.small
  have CI := index_any (adr G n.A) (L ++ t :: R).length n.c t.g L.length (L ++ t :: R) t W.drew rfl hsm hR (by simp) rfl (by simpa using hd) hCW
  obtain ⟨b1, B1, o1, cur1, f1, f2, f3, f4, _, hb0⟩ := hAtW.kid (i := L.length) (k := t) (by simp)
  rw [f3] at hAr; injection hAr with hAr; injection hAr with g1 g2; subst g1; subst g2
  have hbf : W.frozen? ⟨B1, o1 + L.length, none⟩ = false := f4.free _
  have hAr := f3
  have o7 : W.cell? ⟨t.g, 7, none⟩ = some (ptr n.g) := by
    rw [hW, World.cell?_setCell_other]
    · exact ho
    · intro e; injection e with e; exact hn1 e
  have hlen : L.length < (L ++ t :: R).length := by simp
  obtain ⟨len, hln⟩ : ∃ len, len = (L ++ t :: R).length := ⟨_, rfl⟩
  rw [← hln] at c6 CI hlen hsm
  rw [hAr] at c6 CI
  replace CI := Lib.hid CI; replace hR := Lib.hid hR; replace f1 := Lib.hid f1; replace f2 := Lib.hid f2; replace f3 := Lib.hid f3; replace f4 := Lib.hid f4; replace hAt := Lib.hid hAt; replace hAtW := Lib.hid hAtW; replace hC := Lib.hid hC; replace hCW := Lib.hid hCW; replace hln := Lib.hid hln; replace hd := Lib.hid hd; replace hn5 := Lib.hid hn5; replace oW := Lib.hid oW; replace hnew := Lib.hid hnew; replace hA := Lib.hid hA; replace hAr := Lib.hid hAr
  have hn1' : t.g ≠ new := fun e => hn1 e.symm
  have hn6' : t.g ≠ B1 := fun e => hn6B e.symm
  have hn4' : n.g ≠ B1 := fun e => hn4B e.symm
  have hn3' : new ≠ B1 := fun e => hn3B e.symm
  have hWh := Lib.hid hW
  unfold ptr at *
  go_enter Tryd.func31, Tryd.ntmps31
  go_upto_region 3 with fail
  rw [← hWh.out]
  clear ho h7 hf hW
  go_region_held3 (fun w' => w'.cell? ⟨t.g, 7, none⟩ = some (.pointer (some ⟨n.g, 0, none⟩)) ∧ w'.cell? ⟨n.g, 6, none⟩ = some (.slice (some ⟨B1, o1, none⟩) len n.c))
    (first | go_keep | fail)
    ((first
      | (refine CI.out.mono ?_; rintro e w2 ⟨rfl, rfl⟩)
      | fail))
  all_goals
    go_wp2_with fail
    go_end0
    refine ⟨rfl, ?_⟩
    rw [hWh.out]
theorem put_topT {base tr : Nat} {n : Nd} {h' : T} {w : World} (hT : Tr G base w tr (.mk n [h'])) (hbase : base ≤ w.heap.size) :
    Calls Tryd.prog 31 #[ptr tr, ptr n.g, ptr h'.g] w fun e w' => e = .returned (.tuple #[]) ∧ Tr G base w' tr h' ∧ Below base w w' := by
  have hA := hT.p.at_
  have hk := TPs_iff.1 hT.p.kids h' (by simp)
  have hkA := hk.atn
  have hbl : (T.mk n [h']).bl = n.g :: (n.A.toList ++ h'.bl) := by rw [T.bl_mk, blL_cons, blL_nil, List.append_nil]
  have nd := hT.nd
  have nt := hT.nt
  have lo := hT.lo
  rw [hbl] at nd nt lo
  have hgm := h'.g_mem
  have hne : n.g ≠ h'.g := fun e => (List.nodup_cons.1 nd).1 (by rw [e]; simp [hgm])
  have hnt : h'.g ≠ tr := fun e => nt (by rw [← e]; simp [hgm])
  have hsub : (h'.bl).Sublist (n.g :: (n.A.toList ++ h'.bl)) := (List.sublist_append_right _ _).cons _
  have nd' : h'.bl.Nodup := nd.sublist hsub
  have htr : w.heap[tr]? = some (.cells #[ptr n.g] 60 (0, 0)) := hT.h
  refine (put_root tr n.g h'.g _ _ w hA.c7 hne hkA.c7 (hkA.free 7) hT.c0 (free_of_heap htr 0) hnt).mono ?_
  rintro e w' ⟨rfl, rfl⟩
  obtain ⟨h1, h2⟩ := hk.reup (up' := none) nd'
  have o6 : Off G [tr] (w.setCell ⟨h'.g, 7, none⟩ (.pointer none)) ((w.setCell ⟨h'.g, 7, none⟩ (.pointer none)).setCell ⟨tr, 0, none⟩ (ptr h'.g)) := Off.setw h2.m' hT.q 0 _
  have hin : ∀ b ∈ h'.bl, b ∈ n.g :: (n.A.toList ++ h'.bl) := fun b hb => hsub.subset hb
  refine ⟨rfl, ⟨?_, h1.off o6 fun b hb hm => ?_, nd', fun hm => nt (hin _ hm), ⟨lo.1, fun b hb => lo.2 b (hin b hb)⟩, hT.q, hT.gl⟩, ?_⟩
  · have e1 : (w.setCell ⟨h'.g, 7, none⟩ (.pointer none)).heap[tr]? = some (.cells #[ptr n.g] 60 (0, 0)) := by
      rw [Below.heap_setCell _ _ _ _ (by exact fun e => hnt e.symm)]; exact htr
    rw [heap_set e1]; rfl
  · simp at hm
    exact nt (hm ▸ hin _ hb)
  · have b5 : Below base w (w.setCell ⟨h'.g, 7, none⟩ (.pointer none)) := h2.below (B := base) (by intro x hx; rw [List.mem_singleton] at hx; rw [hx]; exact lo.2 h'.g (by simp [hgm])) hbase hT.gl
    exact b5.trans (o6.below (B := base) (by simp; exact lo.1) (Nat.le_trans hbase h2.size) hT.gl)

theorem put_upT {base tr : Nat} {f : Fr} {d : List Fr} {n : Nd} {h' : T} {w : World} (hT : Tr G base w tr (plug (f :: d) (.mk n [h']))) (hbase : base ≤ w.heap.size) :
    Calls Tryd.prog 31 #[ptr tr, ptr n.g, ptr h'.g] w fun e w' => e = .returned (.tuple #[]) ∧ Tr G base w' tr (plug (f :: d) h') ∧ Below base w w' := by
  have hT' : Tr G base w tr (plug d (.mk f.n (f.L ++ .mk n [h'] :: f.R))) := hT
  obtain ⟨nd, hin, hout⟩ := hT'.apart
  have hp := (TP_plug d _).1 hT'.p
  have hAt := hp.2.at_
  have hK := TPs_iff.1 hp.2.kids
  have hkt := hK (.mk n [h']) (by simp)
  have hk := TPs_iff.1 hkt.kids h' (by simp)
  have hkA := hk.atn
  have hgm := h'.g_mem
  obtain ⟨b, _, _, _, hb, _⟩ := hAt.kid (i := f.L.length) (k := .mk n [h']) (by simp)
  have hbt : (T.mk n [h']).bl = n.g :: (n.A.toList ++ h'.bl) := by rw [T.bl_mk, blL_cons, blL_nil, List.append_nil]
  have hbl : (T.mk f.n (f.L ++ .mk n [h'] :: f.R)).bl = f.n.g :: (b :: blL (f.L ++ .mk n [h'] :: f.R)) := by rw [T.bl_mk, hb]; rfl
  have hks : blL (f.L ++ .mk n [h'] :: f.R) = blL f.L ++ ((n.g :: (n.A.toList ++ h'.bl)) ++ blL f.R) := by rw [blL_app, blL_cons, hbt]
  have hks' : blL (f.L ++ h' :: f.R) = blL f.L ++ (h'.bl ++ blL f.R) := by rw [blL_app, blL_cons]
  have hbl' : (T.mk f.n (f.L ++ h' :: f.R)).bl = f.n.g :: (b :: blL (f.L ++ h' :: f.R)) := by rw [T.bl_mk, hb]; rfl
  have hsub : (blL (f.L ++ h' :: f.R)).Sublist (blL (f.L ++ .mk n [h'] :: f.R)) := by
    rw [hks, hks']
    exact (List.Sublist.refl _).append (((List.sublist_append_right _ _).cons _).append (List.Sublist.refl _))
  rw [hbl] at nd
  obtain ⟨m1, m2⟩ := List.nodup_cons.1 nd
  obtain ⟨m3, m4⟩ := List.nodup_cons.1 m2
  have hng : n.g ∈ blL (f.L ++ .mk n [h'] :: f.R) := by rw [hks]; simp
  have hhb : ∀ x ∈ h'.bl, x ∈ blL (f.L ++ .mk n [h'] :: f.R) := fun x hx => by rw [hks]; simp [hx]
  have hhg : h'.g ∈ blL (f.L ++ .mk n [h'] :: f.R) := hhb _ hgm
  have hfg : ∀ x ∈ blL (f.L ++ .mk n [h'] :: f.R), x ≠ f.n.g ∧ x ≠ b := fun x hx => ⟨fun e => m1 (e ▸ List.mem_cons_of_mem _ hx), fun e => m3 (e ▸ hx)⟩
  have hbf : b ≠ f.n.g := fun e => m1 (by rw [← e]; simp)
  have hd := g_sep m4
  have m5 := m4
  rw [hks] at m5
  obtain ⟨d1, d2, d3⟩ := List.nodup_append.1 m5
  obtain ⟨d4, d5, d6⟩ := List.nodup_append.1 d2
  have hhn : h'.g ≠ n.g := fun e => (List.nodup_cons.1 d4).1 (by rw [← e]; simp [hgm])
  have hLn : ∀ s ∈ f.L, ∀ x ∈ s.bl, x ≠ h'.g := fun s hs x hx e => d3 x (mem_blL.2 ⟨s, hs, hx⟩) h'.g (by simp [hgm]) e
  have hRn : ∀ s ∈ f.R, ∀ x ∈ s.bl, x ≠ h'.g := fun s hs x hx e => d6 h'.g (by simp [hgm]) x (mem_blL.2 ⟨s, hs, hx⟩) e.symm
  have h5 : ∀ s ∈ f.L ++ .mk n [h'] :: f.R, s.g ≠ h'.g := by
    intro s hs
    simp at hs
    rcases hs with h | rfl | h
    · exact hLn s h _ s.g_mem
    · exact fun e => hhn e.symm
    · exact hRn s h _ s.g_mem
  refine (put_in tr h'.g b _ _ f.n f.L f.R (.mk n [h']) w hAt hb hkA.q hkt.at_.q hkt.at_.c7 hkA.c7 (hkA.free 7) (fun s hs => (hK s hs).isC) hk.isC hd hhn (hfg _ hhg).1 (hfg _ hhg).2 hbf (fun e => (hfg _ hng).2 e.symm) h5).mono ?_
  rintro e w' ⟨rfl, hw'⟩
  have nd' : h'.bl.Nodup := d4.sublist ((List.sublist_append_right _ _).cons _)
  obtain ⟨W6, hW6⟩ : ∃ W6, W6 = w.setCell ⟨h'.g, 7, none⟩ (ptr f.n.g) := ⟨_, rfl⟩
  obtain ⟨h1, h2⟩ := hk.reup (up' := some f.n.g) nd'
  replace h1 : TP G W6 (some f.n.g) h' := by rw [hW6]; exact h1
  replace h2 : Off G [h'.g] w W6 := by rw [hW6]; exact h2
  rw [← hW6] at hw'
  have hAt6 : At G W6 (upOf d) f.n (f.L ++ .mk n [h'] :: f.R) := hAt.off h2 (fun x hx => by
    rw [hb] at hx
    simp at hx ⊢
    rcases hx with rfl | rfl
    · exact fun e => (hfg _ hhg).1 e.symm
    · exact fun e => (hfg _ hhg).2 e.symm)
  obtain ⟨hs1, hs2⟩ := hAt6.slot (t' := h') (x := h'.g) hb hbf rfl
  have o7 : Off G [b] W6 w' := by
    rw [hw']
    exact hs2.trans (Off.drew (S := []) hs2.m') (by simp)
  have ho : Off G [h'.g, b] w w' := ((Off.refl [h'.g, b] w hT.m).trans h2 (by simp)).trans o7 (by simp)
  have hAt7 : At G w' (upOf d) f.n (f.L ++ h' :: f.R) := by
    rw [hw']
    exact hs1.drew
  have hTr : Tr G base w' tr (plug d (.mk f.n (f.L ++ h' :: f.R))) := by
    refine hT'.focus ho ?_ (.mk hAt7 (TPs_iff.2 fun s hs => ?_)) rfl ?_ ?_ hbase
    · intro x hx
      left
      rw [hbl]
      simp at hx
      rcases hx with rfl | rfl
      · simp [hhg]
      · simp
    · simp at hs
      have hmid : ∀ x ∈ s.bl, x ≠ b := fun x hx => (hfg x (hsub.subset (mem_blL.2 ⟨s, by simpa using hs, hx⟩))).2
      rcases hs with h | rfl | h
      · exact (hK s (by simp [h])).off ho (by
          intro x hx hm
          simp at hm
          rcases hm with e | e
          · exact hLn s h x hx e
          · exact hmid x hx e)
      · exact h1.off o7 (by
          intro x hx hm
          simp at hm
          exact hmid x hx hm)
      · exact (hK s (by simp [h])).off ho (by
          intro x hx hm
          simp at hm
          rcases hm with e | e
          · exact hRn s h x hx e
          · exact hmid x hx e)
    · rw [hbl']
      exact nd.sublist ((hsub.cons_cons b).cons_cons f.n.g)
    · intro x hx
      left
      rw [hbl'] at hx
      rw [hbl]
      exact ((hsub.cons_cons b).cons_cons f.n.g).subset hx
  refine ⟨rfl, hTr, ho.below (B := base) ?_ hbase hT.gl⟩
  intro x hx
  simp at hx
  rcases hx with rfl | rfl
  · exact (hin _ (by rw [hbl]; simp [hhg])).2.2.1
  · exact (hin _ (by rw [hbl]; simp)).2.2.1

theorem put_kidT {base tr : Nat} {c0 : List Fr} {n : Nd} {h' : T} {w : World} (hT : Tr G base w tr (plug c0 (.mk n [h']))) (hbase : base ≤ w.heap.size) :
    Calls Tryd.prog 31 #[ptr tr, ptr n.g, ptr h'.g] w fun e w' => e = .returned (.tuple #[]) ∧ Tr G base w' tr (plug c0 h') ∧ Below base w w' := by
  cases c0 with
  | nil => exact put_topT hT hbase
  | cons f d => exact put_upT hT hbase
end Go.Proofs.YtcklmkjlbpjojaaDoor.X
