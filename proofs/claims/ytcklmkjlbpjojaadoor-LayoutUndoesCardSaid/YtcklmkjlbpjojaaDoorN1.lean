/- Layout: the walk of LayoutNeighbours. -/
import Derived.Test.YtcklmkjlbpjojaaDoorL1
import Derived.Test.YtcklmkjlbpjojaaDoorH2
import Derived.Test.YtcklmkjlbpjojaaDoorH6
namespace Go.Proofs.YtcklmkjlbpjojaaDoor
open Go.RowKit
set_option linter.unusedSimpArgs false
set_option linter.unusedVariables false

theorem OpsIn.below {w w' : World} {A : Option Addr} {xs : List Value} (h : Rd w A xs) (hB : Below w.heap.size w w') : Rd w' A xs := fun hx => by
  obtain ⟨b, off, hA, hlt, hc⟩ := h hx
  exact ⟨b, off, hA, Nat.lt_of_lt_of_le hlt hB.size, fun j u hj => (World.cell?_of_block (hB.block b hlt)).trans (hc j u hj)⟩

set_option maxHeartbeats 2000000 in
set_option maxRecDepth 100000 in
theorem neighbours_any (a0 b0 a1 b1 z : Int) (A : Option Addr) (len c : Nat) (l : List OpW) (w : World) (i1 : I64 a0) (i2 : I64 b0) (i3 : I64 a1) (i4 : I64 b1) (hz : 0 ≤ z ∧ z ≤ 255) (hlen : len = l.length) (hl63 : len ≤ 9223372036854775807) (hO : ∀ o ∈ l, o.ok) (hR : Rd w A (opCells l)) (hTab : Tab w) (hD : Deb w) :
    Calls Tryd.prog 4 #[.int .i64 a0, .int .i64 b0, .slice A len c, .int .i64 a1, .int .i64 b1, .int .u8 z] w fun e w' => e = .returned (.bool true) ∧ Below w.heap.size w w' := by
  have CS := Lib.hid (shown_any w hTab hD)
  obtain ⟨wd, hwd⟩ : ∃ wd : Nat, wd = pickN a0 60 := ⟨_, rfl⟩
  obtain ⟨ht, hht⟩ : ∃ ht : Nat, ht = pickN b0 40 := ⟨_, rfl⟩
  have hwd60 : wd < 60 := by rw [hwd]; exact pickN_lt _ (by omega)
  have hht40 : ht < 40 := by rw [hht]; exact pickN_lt _ (by omega)
  have CP1 : Hid (∀ W, Calls Tryd.prog 9 #[.int .i64 a0, .int .i64 60] W fun e w' => e = .returned (.int .i64 (wd : Int)) ∧ w' = W) := Lib.hid fun W => by
    rw [hwd]; exact (pick_any a0 60 W i1.1 i1.2 (by omega) (by omega)).mono fun e w' h => ⟨h.1, h.2.symm⟩
  have CP2 : Hid (∀ W, Calls Tryd.prog 9 #[.int .i64 b0, .int .i64 40] W fun e w' => e = .returned (.int .i64 (ht : Int)) ∧ w' = W) := Lib.hid fun W => by
    rw [hht]; exact (pick_any b0 40 W i2.1 i2.2 (by omega) (by omega)).mono fun e w' h => ⟨h.1, h.2.symm⟩
  have hw1 : IntKind.i64.wrap (1 + (wd : Int)) = 1 + (wd : Int) := by rw [IntKind.wrap_i64]; omega
  have hw2 : IntKind.i64.wrap (1 + (ht : Int)) = 1 + (ht : Int) := by rw [IntKind.wrap_i64]; omega
  replace hwd := Lib.hid hwd; replace hht := Lib.hid hht; replace hO := Lib.hid hO; replace hR := Lib.hid hR; replace hTab := Lib.hid hTab; replace hD := Lib.hid hD; replace hlen := Lib.hid hlen
  replace i1 := Lib.hid i1; replace i2 := Lib.hid i2; replace i3 := Lib.hid i3; replace i4 := Lib.hid i4
  go_enter Tryd.func4, Tryd.ntmps4
  go_wp2_with fail
  refine CS.out.mono ?_
  rintro e w1 ⟨rfl, B1⟩
  have CM := Lib.hid (made_any (1 + (wd : Int)) (1 + (ht : Int)) A len c l w1 (by omega) hlen.out hl63 hO.out (OpsIn.below hR.out B1))
  replace B1 := Lib.hid B1
  clear CS
  go_wp2_with fail
  refine (CP1.out _).mono ?_
  rintro e w2 ⟨rfl, rfl⟩
  go_wp2_with fail
  refine (CP2.out _).mono ?_
  rintro e w3 ⟨rfl, rfl⟩
  clear CP1 CP2
  go_wp2_with fail
  refine CM.out.mono ?_
  rintro e w4 ⟨tr, t, rfl, hT4, hF, B4, hlv⟩
  obtain ⟨base, hbase⟩ : ∃ base, base = w3.heap.size := ⟨_, rfl⟩
  rw [← hbase] at hT4 B4
  have CB := Lib.hid (boxes_any base tr t w4 hT4 (by omega))
  obtain ⟨nl, hnl⟩ : ∃ nl, nl = t.leaves.length := ⟨_, rfl⟩
  have hnl0 : 1 ≤ nl := by rw [hnl]; exact List.length_pos_iff.2 (leaves_ne t)
  rw [← hnl] at CB hlv
  obtain ⟨k1, hk1⟩ : ∃ k, k = pickN a1 nl := ⟨_, rfl⟩
  obtain ⟨k2, hk2⟩ : ∃ k, k = pickN b1 nl := ⟨_, rfl⟩
  have hk1l : k1 < nl := by rw [hk1]; exact pickN_lt _ (by omega)
  have hk2l : k2 < nl := by rw [hk2]; exact pickN_lt _ (by omega)
  have CP3 : Hid (∀ W, Calls Tryd.prog 9 #[.int .i64 a1, .int .i64 nl] W fun e w' => e = .returned (.int .i64 (k1 : Int)) ∧ w' = W) := Lib.hid fun W => by
    rw [hk1]; exact (pick_any a1 nl W i3.out.1 i3.out.2 (by omega) (by omega)).mono fun e w' h => ⟨h.1, h.2.symm⟩
  have CP4 : Hid (∀ W, Calls Tryd.prog 9 #[.int .i64 b1, .int .i64 nl] W fun e w' => e = .returned (.int .i64 (k2 : Int)) ∧ w' = W) := Lib.hid fun W => by
    rw [hk2]; exact (pick_any b1 nl W i4.out.1 i4.out.2 (by omega) (by omega)).mono fun e w' h => ⟨h.1, h.2.symm⟩
  obtain ⟨s1, hs1⟩ : ∃ s, t.leaves[k1]? = some s := ⟨t.leaves[k1]'(by omega), List.getElem?_eq_getElem _⟩
  obtain ⟨s2, hs2⟩ : ∃ s, t.leaves[k2]? = some s := ⟨t.leaves[k2]'(by omega), List.getElem?_eq_getElem _⟩
  have hq0 : ¬ ((nl : Int) = 0) := by omega
  have k10 : (0 : Int) ≤ k1 := by omega
  have k1n : (k1 : Int) < nl := by omega
  have k20 : (0 : Int) ≤ k2 := by omega
  have k2n : (k2 : Int) < nl := by omega
  replace hT4 := Lib.hid hT4; replace hF := Lib.hid hF; replace B4 := Lib.hid B4; replace hbase := Lib.hid hbase; replace hnl := Lib.hid hnl; replace hk1 := Lib.hid hk1; replace hk2 := Lib.hid hk2; replace hs1 := Lib.hid hs1; replace hs2 := Lib.hid hs2
  clear CM
  unfold ptr at *
  go_wp2_with fail
  refine CB.out.mono ?_
  rintro e w5 ⟨A5, c5, rfl, O5, G5⟩
  obtain ⟨A5x, c5x, e5x, R5, _⟩ := Rd.of_own O5
  injection e5x with e5x _ e5y
  subst e5x; subst e5y
  rw [boxes_boxL] at R5
  have hb1 : (t.leaves.map fun t => (t.n.p, t.n.x, t.n.y, t.n.a, t.n.b))[k1]? = some (s1.n.p, s1.n.x, s1.n.y, s1.n.a, s1.n.b) := by rw [List.getElem?_map, hs1.out]; rfl
  have hb2 : (t.leaves.map fun t => (t.n.p, t.n.x, t.n.y, t.n.a, t.n.b))[k2]? = some (s2.n.p, s2.n.x, s2.n.y, s2.n.a, s2.n.b) := by rw [List.getElem?_map, hs2.out]; rfl
  obtain ⟨bb, off, rfl, _, _⟩ := R5.at_ (boxL_at hb1 0 _ rfl)
  have hc1 : ∀ (i : Nat) (u : Value), (box5 (s1.n.p, s1.n.x, s1.n.y, s1.n.a, s1.n.b))[i]? = some u → w5.cell? ⟨bb, off + k1 * 5 + i, none⟩ = some u := by
    intro i u hu
    obtain ⟨b', off', e, _, h⟩ := R5.at_ (boxL_at hb1 i u hu)
    cases e; rw [← Nat.add_assoc] at h; exact h
  have hc2 : ∀ (i : Nat) (u : Value), (box5 (s2.n.p, s2.n.x, s2.n.y, s2.n.a, s2.n.b))[i]? = some u → w5.cell? ⟨bb, off + k2 * 5 + i, none⟩ = some u := by
    intro i u hu
    obtain ⟨b', off', e, _, h⟩ := R5.at_ (boxL_at hb2 i u hu)
    cases e; rw [← Nat.add_assoc] at h; exact h
  have x0 : w5.cell? ⟨bb, off + k1 * 5, none⟩ = some (.int .i64 s1.n.p) := hc1 0 _ rfl
  have x1 : w5.cell? ⟨bb, off + k1 * 5 + 1, none⟩ = some (.int .i64 s1.n.x) := hc1 1 _ rfl
  have x2 : w5.cell? ⟨bb, off + k1 * 5 + 2, none⟩ = some (.int .i64 s1.n.y) := hc1 2 _ rfl
  have x3 : w5.cell? ⟨bb, off + k1 * 5 + 3, none⟩ = some (.int .i64 s1.n.a) := hc1 3 _ rfl
  have x4 : w5.cell? ⟨bb, off + k1 * 5 + 4, none⟩ = some (.int .i64 s1.n.b) := hc1 4 _ rfl
  have y0 : w5.cell? ⟨bb, off + k2 * 5, none⟩ = some (.int .i64 s2.n.p) := hc2 0 _ rfl
  have y1 : w5.cell? ⟨bb, off + k2 * 5 + 1, none⟩ = some (.int .i64 s2.n.x) := hc2 1 _ rfl
  have y2 : w5.cell? ⟨bb, off + k2 * 5 + 2, none⟩ = some (.int .i64 s2.n.y) := hc2 2 _ rfl
  have y3 : w5.cell? ⟨bb, off + k2 * 5 + 3, none⟩ = some (.int .i64 s2.n.a) := hc2 3 _ rfl
  have y4 : w5.cell? ⟨bb, off + k2 * 5 + 4, none⟩ = some (.int .i64 s2.n.b) := hc2 4 _ rfl
  replace hb1 := Lib.hid hb1; replace hb2 := Lib.hid hb2; replace R5 := Lib.hid R5; replace O5 := Lib.hid O5; replace G5 := Lib.hid G5
  clear CB hc1 hc2
  go_wp2_with fail
  refine (CP3.out _).mono ?_
  rintro e w6 ⟨rfl, rfl⟩
  go_wp2_with fail
  refine (CP4.out _).mono ?_
  rintro e w7 ⟨rfl, rfl⟩
  clear CP3 CP4
  go_wp2_with fail
  obtain ⟨W7, hW7⟩ : ∃ W7, W7 = w6.alloc (.cells #[.int .i64 s1.n.p, .int .i64 s1.n.x, .int .i64 s1.n.y, .int .i64 s1.n.a, .int .i64 s1.n.b] 30) := ⟨_, rfl⟩
  obtain ⟨W8, hW8⟩ : ∃ W8, W8 = W7.alloc (.cells #[.int .i64 s2.n.p, .int .i64 s2.n.x, .int .i64 s2.n.y, .int .i64 s2.n.a, .int .i64 s2.n.b] 30) := ⟨_, rfl⟩
  rw [← hW7, ← hW8]
  obtain ⟨p1, hp1⟩ : ∃ p1, p1 = w6.heap.size := ⟨_, rfl⟩
  rw [← hp1]
  obtain ⟨p2, hp2⟩ : ∃ p2, p2 = p1 + 1 := ⟨_, rfl⟩
  rw [← hp2]
  have g7 : w6.grownBy W7 none := by rw [hW7]; exact World.grownBy_alloc _ _ _
  have g8 : W7.grownBy W8 none := by rw [hW8]; exact World.grownBy_alloc _ _ _
  have s7 : W7.heap.size = p2 := by rw [hW7, hp2, hp1]; simp
  have m1 : W7.heap[p1]? = some (.cells #[.int .i64 s1.n.p, .int .i64 s1.n.x, .int .i64 s1.n.y, .int .i64 s1.n.a, .int .i64 s1.n.b] 30 (0, 0)) := by rw [hW7, hp1]; exact heap_alloc_new w6 _
  have m2 : W8.heap[p2]? = some (.cells #[.int .i64 s2.n.p, .int .i64 s2.n.x, .int .i64 s2.n.y, .int .i64 s2.n.a, .int .i64 s2.n.b] 30 (0, 0)) := by rw [hW8, ← s7]; exact heap_alloc_new W7 _
  have m18 := (g8.block p1 (by omega) (by simp)).trans m1
  have g48 : w4.grownBy W8 none := (G5.out.trans g7).trans g8
  have hT8 := hT4.out.grown g48
  have hbl8 : ∀ b ∈ t.bl, b < p1 := fun b hb => by have := hT4.out.p.lt _ _ b hb; have := G5.out.size; omega
  have hbase4 : base ≤ w4.heap.size := by have := hT4.out.lt; have := hT4.out.lo.1; omega
  have B08 : Below w.heap.size w W8 := by
    have hb := hbase.out
    have h1 : Below w.heap.size w w4 := B1.out.trans ⟨B4.out.os, B4.out.tape, B4.out.output, B4.out.size, fun k hk => B4.out.block k (by have := B1.out.size; omega)⟩
    exact h1.trans ⟨g48.os, g48.tape, g48.output, g48.size, fun k hk => g48.block k (by have := h1.size; omega) (by simp)⟩
  have hwb : w.heap.size ≤ base := by have := B1.out.size; have := hbase.out; omega
  have hbody := hF.out.body (by have := hnl.out; omega)
  have hPr : Hid (∀ W, Tr base W tr t → Below w.heap.size w W → Calls Tryd.prog 11 #[.pointer (some ⟨tr, 0, none⟩)] W fun e w' => e = .returned (.string (st t.print)) ∧ W.grownBy w' none) :=
    Lib.hid fun W hT hB => print_any base tr t W hT hF.out.rg (ok_w01 hF.out.ok) (hTab.out.below hB) (hD.out.below hB) hbody
  have CPr := Lib.hid (hPr.out W8 hT8 B08)
  obtain ⟨sP, hsP⟩ : ∃ sP, sP = st t.print := ⟨_, rfl⟩
  rw [← hsP] at CPr hPr
  have hm1 := List.mem_of_getElem? hs1.out
  have hm2 := List.mem_of_getElem? hs2.out
  have f1 := find_some_of hF.out.ps hm1
  have f2 := find_some_of hF.out.ps hm2
  have hps : (t.leaves.map fun s => s.n.p).Nodup := by rw [T.leaves_ps]; exact hF.out.ps
  have hl5 : t.leaves.length ≤ 100000 := by have := hnl.out; omega
  obtain ⟨xa, hxa⟩ : ∃ xa, xa = s1.n.p := ⟨_, rfl⟩
  obtain ⟨xb, hxb⟩ : ∃ xb, xb = s2.n.p := ⟨_, rfl⟩
  rw [← hxa] at f1 m1 m18
  rw [← hxb] at f2 m2
  have q1 : W8.cell? ⟨p1, 0, none⟩ = some (.int .i64 xa) := by rw [cell_of_heap m18]; rfl
  have q2 : W8.cell? ⟨p2, 0, none⟩ = some (.int .i64 xb) := by rw [cell_of_heap m2]; rfl
  have hp1s : p1 < W8.heap.size := lt_of_heap m18
  have hp2s : p2 < W8.heap.size := lt_of_heap m2
  have hW8b : base ≤ W8.heap.size := by have := g48.size; omega
  clear x0 x1 x2 x3 x4 y0 y1 y2 y3 y4 hW7 hW8
  replace g7 := Lib.hid g7; replace g8 := Lib.hid g8; replace s7 := Lib.hid s7; replace m1 := Lib.hid m1; replace m2 := Lib.hid m2; replace m18 := Lib.hid m18; replace g48 := Lib.hid g48; replace hT8 := Lib.hid hT8; replace hbl8 := Lib.hid hbl8; replace B08 := Lib.hid B08; replace hsP := Lib.hid hsP; replace hm1 := Lib.hid hm1; replace hm2 := Lib.hid hm2; replace f1 := Lib.hid f1; replace f2 := Lib.hid f2; replace hps := Lib.hid hps; replace hxa := Lib.hid hxa; replace hxb := Lib.hid hxb; replace hp1 := Lib.hid hp1; replace hbody := Lib.hid hbody
  have hp2' := Lib.hid hp2
  clear hp2
  refine CPr.out.mono ?_
  rintro e w9 ⟨rfl, G9⟩
  have hT9 := hT8.out.grown G9
  have CS1 := Lib.hid (swap_any base tr t s1 s2 xa xb w9 hT9 (Nat.le_trans hW8b G9.size) hl5 hps.out f1.out f2.out)
  replace q1 := G9.cell q1 (by simp); replace q2 := G9.cell q2 (by simp)
  have hp1s9 := Nat.lt_of_lt_of_le hp1s G9.size
  have hp2s9 := Nat.lt_of_lt_of_le hp2s G9.size
  have B09 := B08.out.trans (⟨G9.os, G9.tape, G9.output, G9.size, fun k hk => G9.block k (by omega) (by simp)⟩ : Below w.heap.size W8 w9)
  replace hT9 := Lib.hid hT9; replace G9 := Lib.hid G9; replace B09 := Lib.hid B09
  clear CPr
  unfold ptr at CS1
  go_wp2_with fail
  refine CS1.out.mono ?_
  rintro e w10 ⟨rfl, hT10, B10, o10⟩
  have hσ : ∀ x, sw xa xb (sw xa xb x) = x := sw_sw xa xb
  have hre1 : (t.re (sw xa xb)).find xb = some (s1.re (sw xa xb)) := by
    rw [find_re hT9.out.p hσ, show sw xa xb xb = xa by unfold sw; split <;> simp_all, f1.out]; rfl
  have hre2 : (t.re (sw xa xb)).find xa = some (s2.re (sw xa xb)) := by
    rw [find_re hT9.out.p hσ, show sw xa xb xa = xb by unfold sw; simp, f2.out]; rfl
  have hps2 : ((t.re (sw xa xb)).leaves.map fun s => s.n.p).Nodup := by
    rw [T.re_leaves, List.map_map]
    have : t.leaves.map ((fun s => s.n.p) ∘ T.re (sw xa xb)) = (t.leaves.map fun s => s.n.p).map (sw xa xb) := by
      rw [List.map_map]; exact List.map_congr_left fun s hs => leaf_re hT9.out.p hs
    rw [this]
    exact List.Pairwise.map _ (fun a b h e => h (by rw [← hσ a, ← hσ b, e])) hps.out
  have hw9 : base ≤ w9.heap.size := Nat.le_trans hW8b G9.out.size
  have hw10 : base ≤ w10.heap.size := Nat.le_trans hw9 B10.size
  have CS2 := Lib.hid (swap_any base tr (t.re (sw xa xb)) _ _ xb xa w10 hT10 hw10 (by rw [T.re_leaves, List.length_map]; exact hl5) hps2 hre1 hre2)
  rw [sw_comm xa xb, T.re_re hσ, T.re_bl] at CS2
  have kp1 : p1 ∉ t.bl := fun h => by have := hbl8.out _ h; omega
  have kp2 : p2 ∉ t.bl := fun h => by have := hbl8.out _ h; have := hp2'.out; omega
  replace q1 := (World.cell?_of_block (a := ⟨p1, 0, none⟩) (o10.block p1 hp1s9 kp1)).trans q1
  replace q2 := (World.cell?_of_block (a := ⟨p2, 0, none⟩) (o10.block p2 hp2s9 kp2)).trans q2
  have B010 := B09.out.trans (⟨B10.os, B10.tape, B10.output, B10.size, fun k hk => B10.block k (by omega)⟩ : Below w.heap.size w9 w10)
  have hp1s10 := Nat.lt_of_lt_of_le hp1s9 o10.size
  have hp2s10 := Nat.lt_of_lt_of_le hp2s9 o10.size
  replace hT10 := Lib.hid hT10; replace B10 := Lib.hid B10; replace o10 := Lib.hid o10; replace B010 := Lib.hid B010; replace hσ := Lib.hid hσ; replace hre1 := Lib.hid hre1; replace hre2 := Lib.hid hre2; replace hps2 := Lib.hid hps2
  replace kp1 := Lib.hid kp1; replace kp2 := Lib.hid kp2
  clear CS1
  unfold ptr at CS2
  go_wp2_with fail
  refine CS2.out.mono ?_
  rintro e w11 ⟨rfl, hT11, B11, o11⟩
  replace q1 := (World.cell?_of_block (a := ⟨p1, 0, none⟩) (o11.block p1 hp1s10 kp1.out)).trans q1
  clear q2
  have B011 := B010.out.trans (⟨B11.os, B11.tape, B11.output, B11.size, fun k hk => B11.block k (by omega)⟩ : Below w.heap.size w10 w11)
  have CPr2 := Lib.hid (hPr.out w11 hT11 B011)
  replace hT11 := Lib.hid hT11; replace B11 := Lib.hid B11; replace o11 := Lib.hid o11; replace B011 := Lib.hid B011
  clear CS2
  have hse2 : (!(sP.toList == sP.toList)) = false := by simp
  go_wp2_with fail
  refine CPr2.out.mono ?_
  rintro e w12 ⟨rfl, G12⟩
  have hT12 := hT11.out.grown G12
  replace q1 := G12.cell q1 (by simp)
  have hw11 : base ≤ w11.heap.size := Nat.le_trans hw10 B11.out.size
  have B012 := B011.out.trans (⟨G12.os, G12.tape, G12.output, G12.size, fun k hk => G12.block k (by omega) (by simp)⟩ : Below w.heap.size w11 w12)
  have hw12 : w.heap.size ≤ w12.heap.size := B012.size
  replace hT12 := Lib.hid hT12; replace G12 := Lib.hid G12; replace B012 := Lib.hid B012
  clear CPr2
  have CM4 := Lib.hid (fun W => map4_any z W hz.1 hz.2)
  replace CM4 : Hid (∀ W, Calls Tryd.prog 17 #[.int .u8 z] W fun e w' => e = .returned (.int .u8 (backOf z)) ∧ W = w') := CM4
  cases hsd : sideOf z with
  | none =>
    have CBe := Lib.hid (besideNo_any base tr t xa z w12 hT12.out hl5 hz.1 hz.2 hsd)
    have hbk := side_none hsd
    rw [hbk] at CM4
    replace hsd := Lib.hid hsd; replace hbk := Lib.hid hbk
    unfold ptr at CBe
    go_wp2_with fail
    refine CBe.out.mono ?_
    rintro e w13 ⟨rfl, G13⟩
    replace G13 := Lib.hid G13
    go_wp2_with fail
    refine (CM4.out _).mono ?_
    rintro e w14 ⟨rfl, rfl⟩
    go_wp2_with fail
    go_ret
    exact ⟨rfl, B012.out.trans ⟨G13.out.os, G13.out.tape, G13.out.output, G13.out.size, fun k hk => G13.out.block k (by omega) (by simp)⟩⟩
  | some i =>
    have CBe := Lib.hid (beside_any base tr t s1 xa z i w12 hT12.out hl5 hz.1 hz.2 hsd f1.out hF.out.small)
    obtain ⟨hi4, hbk0, hbk1, hbk2, hsb⟩ := side_some hsd
    obtain ⟨bk, hbk⟩ : ∃ bk, bk = backOf z := ⟨_, rfl⟩
    rw [← hbk] at CM4 hbk0 hbk1 hbk2 hsb
    replace hsd := Lib.hid hsd; replace hbk := Lib.hid hbk; replace hsb := Lib.hid hsb
    unfold ptr at CBe
    go_wp2_with fail
    refine CBe.out.mono ?_
    rintro e w13 ⟨r, rfl, G13, hr⟩
    have hT13 := hT12.out.grown G13
    have B013 := B012.out.trans (⟨G13.os, G13.tape, G13.output, G13.size, fun k hk => G13.block k (by omega) (by simp)⟩ : Below w.heap.size w12 w13)
    replace q1 := G13.cell q1 (by simp)
    have hw13 : w.heap.size ≤ w13.heap.size := B013.size
    replace hT13 := Lib.hid hT13; replace B013 := Lib.hid B013; replace G13 := Lib.hid G13; replace hr := Lib.hid hr
    clear CBe
    go_wp2_with fail
    refine (CM4.out _).mono ?_
    rintro e w14 ⟨rfl, rfl⟩
    clear CM4
    have hr' := hr.out
    rcases hr' with ⟨rfl, _⟩ | ⟨s, hs, htc, hrs⟩
    · clear hr
      go_wp2_with fail
      go_ret
      exact ⟨rfl, B013.out⟩
    · clear hr
      have hsn := hF.out.nd _ (leaf_nds hs)
      have hsp := hF.out.pk r (by rw [hrs, ← T.leaves_ps]; exact List.mem_map_of_mem hs)
      have fr : t.find r = some s := by rw [hrs]; exact find_some_of hF.out.ps hs
      have hne : ¬ r = xa := by
        intro e
        have h1 := f1.out
        rw [← e, fr] at h1
        injection h1 with h1
        subst h1
        exact touch_self (by omega) (by omega) htc
      have hr0 : ¬ r = 0 := by omega
      have CH := Lib.hid (has_any base tr t r w13 hT13.out hl5)
      rw [fr] at CH
      simp only [Option.isSome_some] at CH
      have CB2 : Hid (∀ W, w13.grownBy W none → Calls Tryd.prog 16 #[.pointer (some ⟨tr, 0, none⟩), .int .i64 r, .int .u8 bk] W fun e w' => ∃ r2 : Int, e = .returned (.int .i64 r2) ∧ r2 ≠ 0 ∧ W.grownBy w' none) := Lib.hid fun W hg => by
        refine (beside_any base tr t s r bk (opp i) W (hT13.out.grown hg) hl5 hbk1 hbk2 hsb.out fr hF.out.small).mono ?_
        rintro e w' ⟨r2, rfl, hG, h⟩
        refine ⟨r2, rfl, ?_, hG⟩
        rcases h with ⟨_, h⟩ | ⟨s', hs', _, h⟩
        · exact absurd (touch_sym hi4 htc) (h s1 hm1.out)
        · have := hF.out.pk r2 (by rw [h, ← T.leaves_ps]; exact List.mem_map_of_mem hs'); omega
      replace fr := Lib.hid fr; replace hrs := Lib.hid hrs; replace hs := Lib.hid hs; replace htc := Lib.hid htc; replace hsn := Lib.hid hsn
      unfold ptr at CH
      go_wp2_with fail
      refine CH.out.mono ?_
      rintro e w15 ⟨rfl, G15⟩
      replace q1 := G15.cell q1 (by simp)
      have CB3 := Lib.hid (CB2.out w15 G15)
      have B015 := B013.out.trans (⟨G15.os, G15.tape, G15.output, G15.size, fun k hk => G15.block k (by omega) (by simp)⟩ : Below w.heap.size w13 w15)
      have hw15 : w.heap.size ≤ w15.heap.size := B015.size
      replace B015 := Lib.hid B015; replace G15 := Lib.hid G15
      clear CH CB2
      go_wp2_with fail
      refine CB3.out.mono ?_
      rintro e w16 ⟨r2, rfl, hr2, G16⟩
      replace hr2 : ¬ r2 = 0 := hr2
      replace G16 := Lib.hid G16
      clear CB3
      go_wp2_with fail
      go_ret
      exact ⟨ret_bool (by simp [hr2, hne]), B015.out.trans ⟨G16.out.os, G16.out.tape, G16.out.output, G16.out.size, fun k hk => G16.out.block k (by omega) (by simp)⟩⟩
end Go.Proofs.YtcklmkjlbpjojaaDoor
