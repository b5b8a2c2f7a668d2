/- Layout: Close of the first of two beside one another, below the root. Layout: the reader of a body: a node's kids, one more. No walk. -/
import Derived.Test.YtcklmkjlbpjojaaGreatDoorD7
import Derived.Test.YtcklmkjlbpjojaaGreatDoorR3
namespace Go.Proofs.YtcklmkjlbpjojaaGreatDoor
open Go.RowKit
set_option linter.unusedSimpArgs false
set_option linter.unusedVariables false

theorem TP.reup {w : World} {up up' : Option Nat} {t : T} (h : TP w up t) (nd : t.bl.Nodup) : TP (w.setCell ⟨t.g, 7, none⟩ (uptr up')) up' t ∧ Off [t.g] w (w.setCell ⟨t.g, 7, none⟩ (uptr up')) := by
  cases t with | mk n ks =>
    rw [T.bl_mk] at nd
    have h1 := (List.nodup_cons.1 nd).1
    have o : Off [n.g] w (w.setCell ⟨n.g, 7, none⟩ (uptr up')) := Off.set w ⟨n.g, 7, none⟩ _
    refine ⟨.mk (h.at_.upd rfl rfl rfl rfl o ?_ ?_) (h.kids.off o ?_), o⟩
    · have := heap_set (j := 7) h.at_.h (uptr up')
      exact this
    · intro e; exact h1 (by rw [e]; simp)
    · intro b hb; simp only [List.mem_singleton]; rintro rfl; exact h1 (by simp [hb])
set_option maxHeartbeats 4000000 in
set_option maxRecDepth 100000 in
theorem close_root (base tr : Nat) (n : Nd) (l h h' : T) (pane : Int) (w : World) (hT : Tr base w tr (.mk n [l, h])) (hbase : base ≤ w.heap.size) (hl : (T.mk n [l, h]).leaves.length ≤ 100000)
    (hf : (T.mk n [l, h]).find pane = some l) (hlk : l.ks = []) (hway : n.way = 0) (hz : 0 ≤ l.n.a ∧ l.n.a ≤ 1000)
    (hg : ∀ W, TP W (some n.g) h → Calls Tryz.prog 68 #[ptr h.g, .int .i64 0, .int .i64 (l.n.a + 1)] W fun e w' => e = .returned (.tuple #[]) ∧ TP w' (some n.g) h' ∧ Off h.bl W w')
    (hg' : h'.g = h.g ∧ h'.bl = h.bl) (hw01 : h'.w01) :
    Calls Tryz.prog 21 #[ptr tr, .int .i64 pane] w fun e w' => e = .returned (.int .i64 0) ∧ Tr base w' tr (h'.place 0 0) ∧ Below base w w' ∧ Off (tr :: (T.mk n [l, h]).bl) w w' := by
  have CL := Lib.hid (leaf_any base tr (.mk n [l, h]) pane w hT hl)
  rw [hf] at CL
  simp only [Option.map_some, uptr] at CL
  replace hT := Lib.hid hT; replace hf := Lib.hid hf; replace hlk := Lib.hid hlk; replace hg := Lib.hid hg; replace hg' := Lib.hid hg'; replace hw01 := Lib.hid hw01
  unfold ptr at *
  go_enter Tryz.func21, Tryz.ntmps21
  go_wp2_with fail
  refine CL.out.mono ?_
  rintro e w1 ⟨rfl, G1⟩
  have hT1 := hT.out.grown G1
  have hA := hT1.p.at_
  have hK := TPs_iff.1 hT1.p.kids
  have hlA : At w1 (some n.g) l.n [] := by
    have h1 := hK l (by simp)
    have h2 := hlk.out
    cases l with | mk n ks => cases h2; exact h1.at_
  have q7 : w1.cell? ⟨l.g, 7, none⟩ = some (.pointer (some ⟨n.g, 0, none⟩)) := hlA.c7
  have q3 : w1.cell? ⟨l.g, 3, none⟩ = some (.int .i64 l.n.a) := hlA.c3
  obtain ⟨bb, hbb, hb0⟩ := hA.kid (i := 0) (k := l) rfl
  obtain ⟨bb', hbb', hb1⟩ := hA.kid (i := 1) (k := h) rfl
  have : bb' = bb := by rw [hbb] at hbb'; injection hbb' with e; exact e.symm
  subst this
  have hAr : adr n.A = some ⟨bb', 0, none⟩ := by rw [hbb]; rfl
  have c6 : w1.cell? ⟨n.g, 6, none⟩ = some (.slice (some ⟨bb', 0, none⟩) 2 n.c) := by have := hA.c6; rw [hAr] at this; exact this
  have c5 := hA.c5
  rw [hway] at c5
  have c7 : w1.cell? ⟨n.g, 7, none⟩ = some (.pointer none) := hA.c7
  have hrow : n.row 2 = .slice (some ⟨bb', 0, none⟩) 2 n.c := by unfold Nd.row; rw [hAr]
  have hO : w1.ownsRow 0 58 1 (.slice (some ⟨bb', 0, none⟩) 2 n.c) 2 (ptrs [l, h]) := by have := hA.r; rw [show [l, h].length = 2 from rfl, hrow] at this; exact this
  have hR := own_Rd hO
  obtain ⟨nd, hin, hout⟩ := Tr.apart (c := []) (t := .mk n [l, h]) hT1
  have hblm : (T.mk n [l, h]).bl = n.g :: (bb' :: (l.bl ++ h.bl)) := by rw [T.bl_mk, hbb, blL_cons, blL_cons, blL_nil, List.append_nil]; rfl
  rw [hblm] at nd hin
  obtain ⟨m1, m2⟩ := List.nodup_cons.1 nd
  obtain ⟨m3, m4⟩ := List.nodup_cons.1 m2
  obtain ⟨m5, m6, m7⟩ := List.nodup_append.1 m4
  have CI := index_any (some ⟨bb', 0, none⟩) 2 n.c l.g 0 [l, h] l w1 rfl (by omega) hR rfl rfl (by simp) (fun s hs => (hK s hs).isC)
  have hw1 : IntKind.i64.wrap (l.n.a + 1) = l.n.a + 1 := by rw [IntKind.wrap_i64]; omega
  have CG := hg.out w1.drew ((hK h (by simp)).same _ _ fun _ _ => rfl)
  have hnb : bb' ≠ n.g := fun e => m1 (by rw [← e]; simp)
  have hnl : n.g ∉ l.bl := fun e => m1 (by simp [e])
  have hnh : n.g ∉ h.bl := fun e => m1 (by simp [e])
  have hbl : bb' ∉ l.bl := fun e => m3 (by simp [e])
  have hbh : bb' ∉ h.bl := fun e => m3 (by simp [e])
  have hlt : ∀ b ∈ n.g :: bb' :: (l.bl ++ h.bl), b < w1.heap.size ∧ b ≠ tr ∧ base ≤ b := fun b hb => ⟨(hin b hb).2.2.2, (hin b hb).2.1, (hin b hb).2.2.1⟩
  replace G1 := Lib.hid G1; replace hT1 := Lib.hid hT1; replace hA := Lib.hid hA; replace hK := Lib.hid hK; replace hlA := Lib.hid hlA; replace hbb := Lib.hid hbb; replace hbb' := Lib.hid hbb'; replace hrow := Lib.hid hrow; replace hO := Lib.hid hO; replace hR := Lib.hid hR; replace hAr := Lib.hid hAr
  replace nd := Lib.hid nd; replace hin := Lib.hid hin; replace hout := Lib.hid hout; replace m1 := Lib.hid m1; replace m2 := Lib.hid m2; replace m3 := Lib.hid m3; replace m4 := Lib.hid m4; replace m5 := Lib.hid m5; replace m6 := Lib.hid m6; replace m7 := Lib.hid m7; replace CI := Lib.hid CI; replace CG := Lib.hid CG; replace hblm := Lib.hid hblm
  replace hnb := Lib.hid hnb; replace hnl := Lib.hid hnl; replace hnh := Lib.hid hnh; replace hbl := Lib.hid hbl; replace hbh := Lib.hid hbh; replace hlt := Lib.hid hlt
  unfold ptr at hb0 hb1 CI CG
  clear CL
  go_wp2_with fail
  refine CI.out.mono ?_
  rintro e w2 ⟨rfl, rfl⟩
  clear CI
  go_upto_region 11 with fail
  go_still_tail 21, (by kernel_rfl)
  change wpList _ _ _ _ _ w2.drew
  go_wp2_with fail
  refine CG.out.mono ?_
  rintro e w3 ⟨rfl, hT3, o3⟩
  have o3' : Off h.bl w2 w3 := ⟨o3.os, o3.tape, o3.output, o3.size, o3.block⟩
  have kp : ∀ b, b < w2.heap.size → b ∉ h.bl → w3.heap[b]? = w2.heap[b]? := fun b h1 h2 => o3'.block b h1 h2
  have hA3 : At w3 none n [l, h'] := by
    have h1 : At w3 none n [l, h] := hA.out.same fun b hb => by
      rw [hbb.out] at hb
      simp at hb
      rcases hb with rfl | rfl
      · exact kp _ (hlt.out _ (by simp)).1 hnh.out
      · exact kp _ (hlt.out _ (by simp)).1 hbh.out
    exact h1.congr (by simp [ptrs, hg'.out.1])
  have c63 : w3.cell? ⟨n.g, 6, none⟩ = some (.slice (some ⟨bb', 0, none⟩) 2 n.c) := by have := hA3.c6; rw [hAr.out] at this; exact this
  have f63 := hA3.free 6
  have c73 : w3.cell? ⟨n.g, 7, none⟩ = some (.pointer none) := hA3.c7
  have hO3 : w3.ownsRow 0 58 1 (.slice (some ⟨bb', 0, none⟩) 2 n.c) 2 (ptrs [l, h']) := by have := hA3.r; rw [show [l, h'].length = 2 from rfl, hrow.out] at this; exact this
  have hD := fun W (hW : w3.heap = W.heap ) => delete_any 0 bb' 2 n.c 0 [l, h'] W rfl (by omega) (own_same hO3 fun b hb => by rw [hW])
  have CD : Calls Tryz.prog 69 #[.slice (some ⟨bb', 0, none⟩) 2 n.c, .int .i64 0, .int .i64 1] w3 (fun e w' => e = .returned (.slice (some ⟨bb', 0, none⟩) 1 n.c) ∧ Hid (w'.ownsRow 0 58 1 (.slice (some ⟨bb', 0, none⟩) 1 n.c) 1 (ptrs [h']) ∧ Off [bb'] w3 w')) :=
    (hD w3 rfl).mono fun e w' ⟨h1, h2, h3⟩ => ⟨h1, Lib.hid ⟨h2, ⟨h3.os, h3.tape, h3.output, h3.size, h3.block⟩⟩⟩
  have hkd : ∀ w4, Off [bb'] w3 w4 → w4.cell? ⟨n.g, 6, none⟩ = some (.slice (some ⟨bb', 0, none⟩) 2 n.c) ∧ w4.frozen? ⟨n.g, 6, none⟩ = false ∧ w4.cell? ⟨n.g, 7, none⟩ = some (.pointer none) := fun w4 h => by
    have e : w4.heap[n.g]? = w3.heap[n.g]? := h.block _ (lt_of_heap hA3.h) (by simp; exact fun e => hnb.out e.symm)
    exact ⟨(World.cell?_of_block (a := ⟨n.g, 6, none⟩) e).trans c63, (World.frozen?_of_block (a := ⟨n.g, 6, none⟩) e).trans f63, (World.cell?_of_block (a := ⟨n.g, 7, none⟩) e).trans c73⟩
  replace hkd := Lib.hid hkd
  replace hA3 := Lib.hid hA3; replace hO3 := Lib.hid hO3; replace kp := Lib.hid kp; replace o3 := Lib.hid o3; replace o3' := Lib.hid o3'; replace hT3 := Lib.hid hT3; replace CD := Lib.hid CD
  clear CG hD c6 c5 q3 q7 hb0 hb1
  have hnbb : n.g ≠ bb' := fun e => hnb.out e.symm
  replace hnbb := Lib.hid hnbb
  go_wp2_with fail
  refine CD.out.mono ?_
  rintro e w4 ⟨rfl, hP4⟩
  obtain ⟨d6, d6f, d7⟩ := hkd.out w4 hP4.out.2
  go_upto_region 13 with fail
  obtain ⟨hO4, o4⟩ := hP4.out
  obtain ⟨W5, hW5⟩ : ∃ W5, W5 = w4.setCell ⟨n.g, 6, none⟩ (.slice (some ⟨bb', 0, none⟩) 1 n.c) := ⟨_, rfl⟩
  rw [← hW5]
  have o5 : Off [n.g] w4 W5 := by rw [hW5]; exact Off.set w4 ⟨n.g, 6, none⟩ _
  have e4 : w4.heap[n.g]? = w3.heap[n.g]? := o4.block _ (lt_of_heap hA3.out.h) (by simp; exact hnbb.out)
  have h5n := heap_set (j := 6) (e4.trans hA3.out.h) (.slice (some ⟨bb', 0, none⟩) 1 n.c)
  rw [← hW5] at h5n
  have d56 : W5.cell? ⟨n.g, 6, none⟩ = some (.slice (some ⟨bb', 0, none⟩) 1 n.c) := by rw [cell_of_heap h5n]; rfl
  have d57 : W5.cell? ⟨n.g, 7, none⟩ = some (.pointer none) := by rw [cell_of_heap h5n]; rfl
  have hbb4 : bb' < w4.heap.size := by have := (hlt.out bb' (by simp)).1; have := o3'.out.size; have := o4.size; omega
  have d5b : W5.cell? ⟨bb', 0, none⟩ = some (.pointer (some ⟨h.g, 0, none⟩)) := by
    rw [World.cell?_of_block (o5.block bb' hbb4 (by simp; exact hnb.out))]
    have := hO4.cells (g := bb') rfl 0 (ptr h'.g) rfl
    rw [hg'.out.1] at this
    simpa [Addr.add, ptr] using this
  have hhlt : ∀ b ∈ h.bl, b < w3.heap.size ∧ b ≠ bb' ∧ b ≠ n.g := fun b hb => ⟨by have := (hlt.out b (by simp [hb])).1; have := o3'.out.size; omega, fun e => hbh.out (e ▸ hb), fun e => hnh.out (e ▸ hb)⟩
  have hT5 : TP W5 (some n.g) h' := hT3.out.same _ _ fun b hb => by
    rw [hg'.out.2] at hb
    obtain ⟨h1, h2, h3⟩ := hhlt b hb
    exact (o5.block b (by have := o4.size; omega) (by simpa using h3)).trans (o4.block b h1 (by simpa using h2))
  have h57 : ∃ u, W5.cell? ⟨h.g, 7, none⟩ = some u ∧ W5.frozen? ⟨h.g, 7, none⟩ = false := by
    have hgg := hg'.out.1
    rw [← hgg]
    cases h' with | mk m ks => exact ⟨_, hT5.at_.c7, hT5.at_.free 7⟩
  obtain ⟨u, h57, h57f⟩ := h57
  have htr5 : W5.heap[tr]? = some (.cells #[ptr n.g] 73 (0, 0)) := by
    have h1 := hT1.out.lt
    rw [o5.block tr (by have := o3'.out.size; have := o4.size; omega) (by simp; exact fun e => (hlt.out n.g (by simp)).2.1 e.symm),
      o4.block tr (by have := o3'.out.size; omega) (by simp; exact fun e => (hlt.out bb' (by simp)).2.1 e.symm),
      kp.out tr h1 (fun e => (hlt.out tr (by simp [e])).2.1 rfl)]
    exact hT1.out.h
  have htr0 : W5.cell? ⟨tr, 0, none⟩ = some (.pointer (some ⟨n.g, 0, none⟩)) := by rw [cell_of_heap htr5]; rfl
  have htrf := free_of_heap htr5 0
  have hhg : h.g ∈ h.bl := h.g_mem
  have CPt := put_root tr n.g h.g u (.pointer (some ⟨n.g, 0, none⟩)) W5 d57 (fun e => (hhlt _ hhg).2.2 e.symm) h57 h57f htr0 htrf (hlt.out h.g (by simp [hhg])).2.1
  have nd' : h'.bl.Nodup := by rw [hg'.out.2]; exact m6.out
  -- the world behind put
  have hw6 : ∀ w6, w6 = (W5.setCell ⟨h.g, 7, none⟩ (.pointer none)).setCell ⟨tr, 0, none⟩ (ptr h.g) → Tr base w6 tr h' ∧ Below base w w6 ∧ Off (tr :: (T.mk n [l, h]).bl) w w6 := by
    rintro w6 rfl
    obtain ⟨h1, h2⟩ := hT5.reup (up' := none) nd'
    rw [hg'.out.1] at h1 h2
    have o6 : Off [tr] (W5.setCell ⟨h.g, 7, none⟩ (.pointer none)) ((W5.setCell ⟨h.g, 7, none⟩ (.pointer none)).setCell ⟨tr, 0, none⟩ (ptr h.g)) := Off.set _ ⟨tr, 0, none⟩ _
    have hlo : ∀ b ∈ h.bl, base ≤ b ∧ b ≠ tr := fun b hb => ⟨(hlt.out b (by simp [hb])).2.2, (hlt.out b (by simp [hb])).2.1⟩
    refine ⟨⟨?_, h1.off o6 (fun b hb => by rw [hg'.out.2] at hb; simpa using (hlo b hb).2), nd', fun hm => by rw [hg'.out.2] at hm; exact (hlo tr hm).2 rfl, hT.out.lo.1, fun b hb => by rw [hg'.out.2] at hb; exact (hlo b hb).1⟩, ?_, ?_⟩
    · have e1 : (W5.setCell ⟨h.g, 7, none⟩ (.pointer none)).heap[tr]? = some (.cells #[ptr n.g] 73 (0, 0)) := by
        rw [Below.heap_setCell _ _ _ _ (by exact fun e => (hlo _ hhg).2 e.symm)]; exact htr5
      rw [heap_set e1, hg'.out.1]; rfl
    · have b1 : Below base w w2 := ⟨G1.out.os, G1.out.tape, G1.out.output, G1.out.size, fun k hk => G1.out.block k (by omega) (by simp)⟩
      have hw2 : base ≤ w2.heap.size := by have := G1.out.size; omega
      have b2 := o3'.out.below (B := base) (fun b hb => (hlo b hb).1) hw2
      have b3 := o4.below (B := base) (by simp; exact (hlt.out bb' (by simp)).2.2) (Nat.le_trans hw2 o3'.out.size)
      have b4 := o5.below (B := base) (by simp; exact (hlt.out n.g (by simp)).2.2) (Nat.le_trans hw2 (Nat.le_trans o3'.out.size o4.size))
      have hs5 : base ≤ W5.heap.size := Nat.le_trans hw2 (Nat.le_trans o3'.out.size (Nat.le_trans o4.size o5.size))
      have b5 := h2.below (B := base) (by simp; exact (hlo _ hhg).1) hs5
      have b6 := o6.below (B := base) (by simp; exact hT.out.lo.1) (Nat.le_trans hs5 h2.size)
      exact ((((b1.trans b2).trans b3).trans b4).trans b5).trans b6
    · rw [hblm.out]
      obtain ⟨SS, hSS⟩ : ∃ SS, SS = tr :: n.g :: bb' :: (l.bl ++ h.bl) := ⟨_, rfl⟩
      rw [← hSS]
      have z1 : Off SS w w2 := Off.of_grown G1.out
      have z2 := z1.trans o3'.out (by intro b hb; exact .inl (by rw [hSS]; simp [hb]))
      have z3 := z2.trans o4 (by intro b hb; simp at hb; exact .inl (by rw [hSS]; simp [hb]))
      have z4 := z3.trans o5 (by intro b hb; simp at hb; exact .inl (by rw [hSS]; simp [hb]))
      have z5 := z4.trans h2 (by intro b hb; simp at hb; exact .inl (by rw [hSS]; simp [hb, hhg]))
      exact z5.trans o6 (by intro b hb; simp at hb; exact .inl (by rw [hSS]; simp [hb]))
  replace CPt := Lib.hid CPt; replace hw6 := Lib.hid hw6; replace hP4 := Lib.hid hP4; replace hO4 := Lib.hid hO4; replace o4 := Lib.hid o4; replace o5 := Lib.hid o5; replace h5n := Lib.hid h5n; replace hT5 := Lib.hid hT5; replace htr5 := Lib.hid htr5; replace hhlt := Lib.hid hhlt; replace nd' := Lib.hid nd'; replace e4 := Lib.hid e4
  clear hW5 h57 h57f htrf hhg CD d6 d6f d7 c63 f63 c73
  unfold ptr at CPt
  go_wp2_with fail
  refine CPt.out.mono ?_
  rintro e w6 ⟨rfl, hw6e⟩
  obtain ⟨hTr6, hB6, hO6⟩ := hw6.out w6 hw6e
  replace hO6 := Lib.hid hO6
  have q60 := hTr6.c0
  rw [hg'.out.1] at q60
  have CPl := place_any h' none 0 0 w6 hTr6.p hTr6.nd hw01.out
  rw [hg'.out.1] at CPl
  replace hTr6 := Lib.hid hTr6; replace hB6 := Lib.hid hB6; replace CPl := Lib.hid CPl; replace hw6e := Lib.hid hw6e
  clear CPt d56 d57 d5b htr0
  unfold ptr at CPl q60
  go_wp2_with fail
  refine CPl.out.mono ?_
  rintro e w7 ⟨rfl, hT7, o7⟩
  go_wp2_with fail
  go_ret
  exact ⟨rfl, hTr6.out.placed hT7 o7, hB6.out.trans (o7.below hTr6.out.lo.2 (by have := hTr6.out.lt; have := hTr6.out.lo.1; omega)), hO6.out.trans o7 (by intro b hb; rw [hg'.out.2] at hb; exact .inl (by rw [hblm.out]; simp [hb]))⟩
end Go.Proofs.YtcklmkjlbpjojaaGreatDoor
namespace Go.Proofs.YtcklmkjlbpjojaaGreatDoor
open Go.RowKit
set_option linter.unusedSimpArgs false
set_option linter.unusedVariables false

/-- A node of the reader's own with the kids ks. -/
structure KI (w : World) (gn rb : Nat) (nd ndk : Nd) (ks : List T) (s : List UInt8) (bad : Bool) (wr : World) : Prop where
  a : At wr none ndk ks
  k : TPs wr (some gn) ks
  r : Rdr rb s bad wr
  o : Off [rb] w wr
  b : ∀ b ∈ (T.mk ndk ks).bl, w.heap.size ≤ b
  d : (T.mk ndk ks).bl.Nodup
  f : ndk.g = gn ∧ ndk.p = nd.p ∧ ndk.x = nd.x ∧ ndk.y = nd.y ∧ ndk.a = nd.a ∧ ndk.b = nd.b ∧ ndk.way = nd.way
  n : rb < w.heap.size
theorem KI.row {w wr : World} {gn rb : Nat} {nd ndk : Nd} {ks : List T} {s : List UInt8} {bad : Bool} (h : KI w gn rb nd ndk ks s bad wr) : wr.ownsRow w.heap.size 58 1 (ndk.row ks.length) ks.length (ptrs ks) := by
  refine ⟨h.a.r.1, ?_⟩
  rcases h.a.r.2 with h2 | ⟨g, cap, cur, hv, hg, r⟩
  · exact .inl h2
  · refine .inr ⟨g, cap, cur, hv, ?_, r⟩
    have h3 : (ndk.row ks.length).ownBlock = some g := by rw [hv]; rfl
    rw [ownBlock_row] at h3
    exact h.b g (by rw [T.bl_mk, h3]; simp)
theorem KI.call {w wr w1 : World} {gn rb : Nat} {nd ndk : Nd} {ks : List T} {s s' : List UInt8} {bad bad' : Bool} (h : KI w gn rb nd ndk ks s bad wr) (o1 : Off [rb] wr w1) (r1 : Rdr rb s' bad' w1) : KI w gn rb nd ndk ks s' bad' w1 := by
  have hrb := h.n
  have hk : ∀ b ∈ (T.mk ndk ks).bl, b < wr.heap.size → w1.heap[b]? = wr.heap[b]? := fun b hb hl => o1.block b hl (by have := h.b b hb; simp; omega)
  refine ⟨h.a.same fun b hb => hk b ?_ (h.a.lt b hb), TPs_iff.2 fun k hk' => (TPs_iff.1 h.k k hk').same _ _ fun b hb => hk b ?_ ((TPs_iff.1 h.k k hk').lt _ _ b hb), r1, h.o.trans o1 (by simp), h.b, h.d, h.f, h.n⟩
  · rw [T.bl_mk]
    simp only [List.mem_cons, List.mem_append] at hb ⊢
    rcases hb with rfl | hb
    · exact .inl rfl
    · exact .inr (.inl hb)
  · rw [T.bl_mk]
    simp only [List.mem_cons, List.mem_append]
    exact .inr (.inr (mem_blL.2 ⟨k, hk', hb⟩))
theorem KI.push {w wr w1 W1 w2 W3 : World} {gn rb len : Nat} {nd ndk : Nd} {ks : List T} {tk : T} {s s' : List UInt8} {bad bad' : Bool} {A' : Option Addr} {c' : Nat} {ob : Obj}
    (h : KI w gn rb nd ndk ks s bad wr) (hlen : len = ks.length) (hT : TP w1 none tk) (o1 : Off [rb] wr w1) (r1 : Rdr rb s' bad' w1) (hb : ∀ b ∈ tk.bl, wr.heap.size ≤ b) (hd : tk.bl.Nodup)
    (hW1 : W1 = w1.setCell ⟨tk.g, 7, none⟩ (ptr gn)) (O2 : w2.ownsRow w.heap.size 58 1 (.slice A' (len + 1) c') (len + 1) (ptrs ks ++ [ptr tk.g])) (G2 : (W1.alloc ob).grownBy w2 (ndk.row len).ownBlock)
    (hh2 : ablk A' = (ndk.row len).ownBlock ∨ ablk A' = some (W1.alloc ob).heap.size) (hW3 : W3 = w2.setCell ⟨gn, 6, none⟩ (.slice A' (len + 1) c')) :
    ∃ ndk', KI w gn rb nd ndk' (ks ++ [tk]) s' bad' W3 := by
  have hwr := h.o.size
  have h1 := o1.size
  have hlt : ∀ b ∈ (T.mk ndk ks).bl, b < wr.heap.size := by
    intro b hb
    rw [T.bl_mk] at hb
    rcases List.mem_cons.1 hb with rfl | hb
    · exact h.a.lt _ (by simp)
    · rcases List.mem_append.1 hb with hb | hb
      · exact h.a.lt b (by simp [hb])
      · obtain ⟨k, hk, hb⟩ := mem_blL.1 hb
        exact (TPs_iff.1 h.k k hk).lt _ _ b hb
  have htl : ∀ b ∈ tk.bl, b < w1.heap.size := hT.lt _ _
  obtain ⟨d1, d2, d3⟩ := bl_apart h.d
  rw [h.f.1] at d1
  have hgn : gn ∈ (T.mk ndk ks).bl := by rw [T.bl_mk, h.f.1]; simp
  have hgnb := h.b gn hgn
  have hgnl := hlt gn hgn
  have hkb : ∀ b ∈ blL ks, b ∈ (T.mk ndk ks).bl := fun b hb => by rw [T.bl_mk]; simp [hb]
  have hAb : ∀ b, ndk.A = some b → b ∈ (T.mk ndk ks).bl := fun b hb => by rw [T.bl_mk, hb]; simp
  have htg := tk.g_mem
  have hsz1 : W1.heap.size = w1.heap.size := by rw [hW1]; simp
  have g0 : W1.grownBy (W1.alloc ob) none := World.grownBy_alloc _ _ _
  obtain ⟨b2, hb2⟩ : ∃ b2, A' = some ⟨b2, 0, none⟩ := by
    rcases O2.2 with ⟨h, _⟩ | ⟨g', cap, cur, h, _⟩
    · injection h with _ h; omega
    · injection h with h; exact ⟨g', h⟩
  subst hb2
  have hob : (ndk.row len).ownBlock = ndk.A := ownBlock_row
  rw [hob] at G2 hh2
  have hb2c : ndk.A = some b2 ∨ b2 = w1.heap.size + 0 ∧ ndk.A ≠ some b2 ∨ b2 = (W1.alloc ob).heap.size := by
    rcases hh2 with h | h
    · exact .inl h.symm
    · injection h with h; exact .inr (.inr h)
  have hb2n : w.heap.size ≤ b2 ∧ b2 ≠ gn ∧ b2 ∉ blL ks ∧ b2 ∉ tk.bl ∧ b2 ≠ rb := by
    have hrb := h.n
    rcases hh2 with h3 | h3
    · have h3' : ndk.A = some b2 := h3.symm
      have := h.b b2 (hAb b2 h3')
      have := hlt b2 (hAb b2 h3')
      refine ⟨by omega, fun e => (d2 b2 h3').2 (by rw [h.f.1]; exact e), (d2 b2 h3').1, fun hm => ?_, by omega⟩
      have := hb b2 hm; omega
    · injection h3 with h3
      have e : b2 = (W1.alloc ob).heap.size := h3
      have es : (W1.alloc ob).heap.size = w1.heap.size + 1 := by simp [hsz1]
      refine ⟨by omega, by omega, fun hm => ?_, fun hm => ?_, by omega⟩
      · have := hlt b2 (hkb b2 hm); omega
      · have := htl b2 hm; omega
  -- blocks that stay from wr on
  have keep : ∀ b, b < wr.heap.size → b ≠ rb → b ≠ gn → ndk.A ≠ some b → W3.heap[b]? = wr.heap[b]? := fun b hl q1 q2 q3 => by
    have e1 := o1.block b hl (by simpa using q1)
    have e2 : W1.heap[b]? = w1.heap[b]? := by
      rw [hW1]
      exact (Off.set w1 ⟨tk.g, 7, none⟩ (ptr gn)).block b (by omega) (by simp; exact fun e => by have := hb b (e ▸ htg); omega)
    have e3 := g0.block b (by omega) (by simp)
    have e4 := G2.block b (by simp [hsz1]; omega) (fun e => q3 e.symm)
    have e5 : W3.heap[b]? = w2.heap[b]? := by
      rw [hW3]
      exact (Off.set w2 ⟨gn, 6, none⟩ _).block b (by have := G2.size; simp [hsz1] at this; omega) (by simpa using q2)
    exact e5.trans (e4.trans (e3.trans (e2.trans e1)))
  have keep1 : ∀ b ∈ tk.bl, W3.heap[b]? = W1.heap[b]? := fun b hm => by
    have q1 := hb b hm
    have q2 := htl b hm
    have e3 := g0.block b (by omega) (by simp)
    have e4 := G2.block b (by simp [hsz1]; omega) (fun e => by have := hlt b (hAb b e.symm); omega)
    have e5 : W3.heap[b]? = w2.heap[b]? := by
      rw [hW3]
      exact (Off.set w2 ⟨gn, 6, none⟩ _).block b (by have := G2.size; simp [hsz1] at this; omega) (by simp; omega)
    exact e5.trans (e4.trans e3)
  have hgg : w2.heap[gn]? = wr.heap[gn]? := by
    have e1 := o1.block gn hgnl (by simp; have := h.n; omega)
    have e2 : W1.heap[gn]? = w1.heap[gn]? := by
      rw [hW1]
      exact (Off.set w1 ⟨tk.g, 7, none⟩ (ptr gn)).block gn (by omega) (by simp; exact fun e => by have := hb gn (e ▸ htg); omega)
    have e3 := g0.block gn (by omega) (by simp)
    have e4 := G2.block gn (by simp [hsz1]; omega) (fun e => (d2 gn e.symm).2 h.f.1.symm)
    exact e4.trans (e3.trans (e2.trans e1))
  have hA := h.a.h
  rw [h.f.1] at hA
  have hnew := heap_set (j := 6) (hgg.trans hA) (.slice (some ⟨b2, 0, none⟩) (len + 1) c')
  rw [← hW3] at hnew
  obtain ⟨ndk', hndk⟩ : ∃ ndk', ndk' = { ndk with A := some b2, c := c' } := ⟨_, rfl⟩
  have hbl' : (T.mk ndk' (ks ++ [tk])).bl = gn :: (b2 :: (blL ks ++ tk.bl)) := by
    rw [T.bl_mk, hndk, blL_app, blL_cons, blL_nil, List.append_nil]
    show ndk.g :: _ = _
    rw [h.f.1]; rfl
  have hlen2 : (ks ++ [tk]).length = len + 1 := by simp [hlen]
  refine ⟨ndk', ⟨?_, ?_⟩, ?_, ?_, ?_, ?_, ?_, by rw [hndk]; exact h.f, h.n⟩
  · rw [hlen2, hndk]
    show W3.heap[ndk.g]? = _
    rw [h.f.1]
    exact hnew
  · rw [hlen2]
    have e : ndk'.row (len + 1) = .slice (some ⟨b2, 0, none⟩) (len + 1) c' := by rw [hndk]; rfl
    rw [e, show ptrs (ks ++ [tk]) = ptrs ks ++ [ptr tk.g] by simp [ptrs]]
    exact own_same (own_le O2 (Nat.zero_le _)) fun b hb => by
      have e : b = b2 := by
        simp [Value.ownBlock] at hb
        exact hb.symm
      subst e
      rw [hW3]
      exact (Off.set w2 ⟨gn, 6, none⟩ _).block b ((O2.lt b rfl).2) (by simpa using hb2n.2.1)
  · rw [TPs_app, TPs, TPs]
    refine ⟨TPs_iff.2 fun k hk => (TPs_iff.1 h.k k hk).same _ _ fun b hb => ?_, ?_, trivial⟩
    · have hbk : b ∈ blL ks := mem_blL.2 ⟨k, hk, hb⟩
      have hm := hkb b hbk
      exact keep b (hlt b hm) (by have := h.b b hm; have := h.n; omega) (fun e => d1 (e ▸ hbk)) (fun e => (d2 b e).1 hbk)
    · obtain ⟨q1, q2⟩ := hT.reup (up' := some gn) hd
      have q1' : TP W1 (some gn) tk := by rw [hW1]; exact q1
      exact q1'.same _ _ keep1
  · have hrb := h.n
    have e1 : W1.heap[rb]? = w1.heap[rb]? := by
      rw [hW1]
      exact (Off.set w1 ⟨tk.g, 7, none⟩ (ptr gn)).block rb (by omega) (by simp; exact fun e => by have := hb rb (e ▸ htg); omega)
    have e3 := g0.block rb (by omega) (by simp)
    have e4 := G2.block rb (by simp [hsz1]; omega) (fun e => by have := h.b rb (hAb rb e.symm); omega)
    have e5 : W3.heap[rb]? = w2.heap[rb]? := by
      rw [hW3]
      exact (Off.set w2 ⟨gn, 6, none⟩ _).block rb (by have := G2.size; simp [hsz1] at this; omega) (by simp; omega)
    exact (e5.trans (e4.trans (e3.trans e1))).trans r1
  · have z1 : Off [rb] w w1 := h.o.trans o1 (by simp)
    have z2 : Off [rb] w W1 := z1.trans (by rw [hW1]; exact Off.set w1 ⟨tk.g, 7, none⟩ (ptr gn)) (by simp; right; have := hb tk.g htg; omega)
    have z3 : Off [rb] w (W1.alloc ob) := z2.trans (Off.of_grown (S := []) g0) (by simp)
    have z4 : Off [rb] w w2 := z3.trans (Off.of_row G2) (fun b hm => by
      right
      exact h.b b (hAb b (by simpa using hm)))
    exact z4.trans (by rw [hW3]; exact Off.set w2 ⟨gn, 6, none⟩ _) (by simp; right; exact hgnb)
  · intro b hm
    rw [hbl'] at hm
    simp only [List.mem_cons, List.mem_append] at hm
    rcases hm with rfl | rfl | hm | hm
    · exact hgnb
    · exact hb2n.1
    · exact h.b b (hkb b hm)
    · have := hb b hm; omega
  · rw [hbl']
    refine List.nodup_cons.2 ⟨?_, List.nodup_cons.2 ⟨?_, List.nodup_append.2 ⟨d3, hd, ?_⟩⟩⟩
    · simp only [List.mem_cons, List.mem_append, not_or]
      exact ⟨fun e => hb2n.2.1 e.symm, d1, fun hm => by have := hb gn hm; omega⟩
    · simp only [List.mem_append, not_or]
      exact ⟨hb2n.2.2.1, hb2n.2.2.2.1⟩
    · rintro x hx y hy rfl
      have := hlt x (hkb x hx)
      have := hb x hy
      omega
end Go.Proofs.YtcklmkjlbpjojaaGreatDoor
