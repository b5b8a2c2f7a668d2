/- Layout: Preset. Layout: made: a split's kids are leaves or splits of the other way. (Printed out of H2 by wip/tools/mkM13.py.) -/
import Derived.Test.YtcklmkjlbpjojaaDoorYE
import Derived.Test.YtcklmkjlbpjojaaDoorXL
import Derived.Test.YtcklmkjlbpjojaaDoorMA
import Derived.Test.YtcklmkjlbpjojaaDoorYJ
namespace Go.Proofs.YtcklmkjlbpjojaaDoor.X
open Go.RowKit
set_option linter.unusedSimpArgs false
set_option linter.unusedVariables false
variable {G : Gh}

/-- What Preset leaves. -/
def PrePost (base tr : Nat) (t : T) (k : Int) (w : World) (e : Ending) (w' : World) : Prop :=
  ∃ (err : Int) (G' : Gh) (t' : T), e = .returned (.int .i64 err) ∧ Tr G' base w' tr t' ∧ Below base w w' ∧ Fine t' k ∧ t'.er.alt ∧ t'.leaves.length = t.leaves.length
/-- What the switch of Preset leaves. -/
def Laid (base : Nat) (w : World) (a b : Int) (es : List E) (g : Nat) (w' : World) : Prop :=
  ∃ (G' : Gh) (t1 : T) (up : Option Nat), (base ≤ G'.lo ∧ ∀ k, k < base → G'.wh k) ∧ t1.g = g ∧ TP G' w' up t1 ∧ Good a b es t1.er ∧ Below base w w' ∧ t1.bl.Nodup ∧ ∀ x ∈ t1.bl, base ≤ x
theorem Built.laid {base : Nat} {w w' : World} {a b : Int} {es : List E} {e' : E} {e : Ending} (h : Built base w e' e w') (hg : Good a b es e') : ∃ g, e = .returned (ptr g) ∧ Laid base w a b es g w' := by
  obtain ⟨G', t1, up, h1, h2, h3, h4, h5, h6, h7⟩ := h
  exact ⟨t1.g, h2, G', t1, up, h1, rfl, h3, by rw [h4]; exact hg, h5, h6, h7⟩

/-- Behind the hanging up of the new tree. -/
theorem hung {base tr h : Nat} {t t1 : T} {k : Int} {w W5 : World} {a b : Int} {es : List E} {G' : Gh} {up : Option Nat} (hT : Tr G base w tr t) (hh : h = w.heap.size) (hbase : base ≤ h) (hF : Fine t k) (ha : a = t.n.a) (hb : b = t.n.b) (hes : psL es = t.er.ps)
    (hq : h ≤ G'.lo ∧ ∀ k, k < h → G'.wh k) (h1 : TP G' W5 up t1) (hG : Good a b es t1.er) (hB : Below h w W5) (nd : t1.bl.Nodup) (hbl : ∀ x ∈ t1.bl, h ≤ x) (hft : t1.leaves.all fitsB = true) :
    (W5.setCell ⟨t1.g, 7, none⟩ (.pointer none)).cell? ⟨tr, 0, none⟩ = some (ptr t.g) ∧ (W5.setCell ⟨t1.g, 7, none⟩ (.pointer none)).frozen? ⟨tr, 0, none⟩ = false ∧
    TP G' ((W5.setCell ⟨t1.g, 7, none⟩ (.pointer none)).setCell ⟨tr, 0, none⟩ (ptr t1.g)) none t1 ∧ t1.w01 ∧
      ∀ w8, TP G' w8 none (t1.place 0 0) → Off G' t1.bl ((W5.setCell ⟨t1.g, 7, none⟩ (.pointer none)).setCell ⟨tr, 0, none⟩ (ptr t1.g)) w8 → PrePost base tr t k w (.returned (.int .i64 0)) w8 := by
  have htr := lt_of_heap hT.h
  obtain ⟨hT6, o6⟩ := h1.reup (up' := none) nd
  replace hT6 : TP G' (W5.setCell ⟨t1.g, 7, none⟩ (.pointer none)) none t1 := hT6
  replace o6 : Off G' [t1.g] W5 (W5.setCell ⟨t1.g, 7, none⟩ (.pointer none)) := o6
  have hg := hbl _ t1.g_mem
  have e5 : W5.heap[tr]? = some (.cells #[ptr t.g] 60 (0, 0)) := (hB.block tr (by omega)).trans hT.h
  have e6 : (W5.setCell ⟨t1.g, 7, none⟩ (.pointer none)).heap[tr]? = some (.cells #[ptr t.g] 60 (0, 0)) := by
    rw [Below.heap_setCell _ _ _ _ (by show tr ≠ t1.g; omega)]; exact e5
  have qtr : G'.wh tr := hq.2 tr (by omega)
  have htn : tr ∉ t1.bl := fun hm => by have := hbl _ hm; omega
  have o7 := Off.setw (G := G') hT6.m qtr 0 (ptr t1.g)
  have hT7 := hT6.off o7 fun x hx hm => by
    rw [List.mem_singleton] at hm
    exact htn (hm ▸ hx)
  have e7 : ((W5.setCell ⟨t1.g, 7, none⟩ (.pointer none)).setCell ⟨tr, 0, none⟩ (ptr t1.g)).heap[tr]? = some (.cells #[ptr t1.g] 60 (0, 0)) := heap_set e6 _
  have hpos : t1.er.pos := (pos_leaves t1).2 fun s hs => by
    have := List.all_eq_true.1 hft s hs
    unfold fitsB at this
    simp at this
    omega
  have hok := hG.ok hpos
  have hps : t1.er.ps = t.er.ps := by rw [hG.ps, hes]
  refine ⟨by rw [cell_of_heap e6]; rfl, free_of_heap e6 0, hT7, ok_w01 hok, fun w8 h8 o8 => ?_⟩
  have hB7 : Below base w ((W5.setCell ⟨t1.g, 7, none⟩ (.pointer none)).setCell ⟨tr, 0, none⟩ (ptr t1.g)) := ((hB.mono hbase).setCell (p := ⟨t1.g, 7, none⟩) (by show base ≤ t1.g; omega) _).setCell (p := ⟨tr, 0, none⟩) hT.lo.1 _
  have hlo : base ≤ G'.lo := Nat.le_trans hbase hq.1
  have hB8 : Below base w w8 := hB7.trans (o8.below (fun x hx => Nat.le_trans hbase (hbl x hx)) (Nat.le_trans (by omega) hB7.size) hlo)
  have er8 : (t1.place 0 0).er = t1.er := T.place_er t1 0 0
  refine ⟨0, G', t1.place 0 0, rfl, ⟨?_, h8, by rw [T.place_bl]; exact nd, by rw [T.place_bl]; exact htn, ⟨hT.lo.1, fun x hx => ?_⟩, qtr, hlo⟩, hB8, ⟨by rw [er8]; exact hok, by rw [er8, hps]; exact hF.ps, by rw [er8, hps]; exact hF.pk, T.place_idem t1 0 0, ?_⟩, by rw [er8]; exact hG.alt, ?_⟩
  · rw [o8.wh qtr (lt_of_heap e7) htn, e7, T.place_g]
  · rw [T.place_bl] at hx
    exact Nat.le_trans hbase (hbl x hx)
  · have h3 : (t1.place 0 0).n.a = a := by rw [← T.er_a, er8, hG.a]
    have h4 : (t1.place 0 0).n.b = b := by rw [← T.er_b, er8, hG.b]
    rw [h3, h4, ha, hb]; exact hF.sz
  · rw [leaves_len, leaves_len, er8, hps]

set_option maxHeartbeats 2000000 in
set_option maxRecDepth 100000 in
theorem preset_any (base tr : Nat) (t : T) (k : Int) (nm : ByteArray) (w : World) (hT : Tr G base w tr t) (hbase : base ≤ w.heap.size) (hF : Fine t k) (hk : k ≤ 999) (hA : t.er.alt) (hl : t.leaves.length ≤ 32) :
    Calls Tryd.prog 19 #[ptr tr, .string nm] w (PrePost base tr t k w) := by
  obtain ⟨h, hh⟩ : ∃ h, h = w.heap.size := ⟨_, rfl⟩
  obtain ⟨W0, hW0⟩ : ∃ W0, W0 = w.alloc (.cells #[.slice none 0 0] 53) := ⟨_, rfl⟩
  have g0 : w.grownBy W0 none := by rw [hW0]; exact World.grownBy_alloc _ _ _
  have hB0 : Below h w W0 := by rw [hW0]; exact (Below.refl _ w).alloc (by omega) _
  have hI0 : CpI h h [] W0 := by
    refine ⟨⟨[], [], none, 0, rfl, rfl, ?_, World.ownsRow_nil _ _ _ _, (by intro e; cases e), (by intro i g s h1; simp at h1), (by simp), (by simp), (by simp)⟩, Nat.le_refl _⟩
    rw [hW0, hh]; exact heap_alloc_new w _
  have C43 := leaves43 h h 100 w hh (CpI h h) (fun xs s w' a1 a2 a3 a4 a5 => copy_any G h h 100 w hh (by omega) xs s w' a1 a2 a3 a4 a5) t none [] W0 hT.p hB0 hI0 (by simp; omega)
  rw [List.nil_append] at C43
  obtain ⟨xs, hxs⟩ : ∃ xs, xs = t.leaves := ⟨_, rfl⟩
  rw [← hxs] at C43
  have hps : (xs.map fun s => s.n.p) = t.er.ps := by rw [hxs]; exact T.leaves_ps t
  have hp : ∀ s ∈ xs, 1 ≤ s.n.p ∧ s.n.p ≤ 999 := fun s hs => by
    have := hF.pk s.n.p (by rw [← hps]; exact List.mem_map_of_mem hs)
    omega
  have hx1 : 1 ≤ xs.length := by
    rw [hxs]
    exact List.length_pos_iff.2 (leaves_ne t)
  have hx2 : xs.length ≤ 1000 := by rw [hxs]; omega
  have hge := hF.ok.ge
  rw [T.er_a, T.er_b] at hge
  have hsz := hF.sz
  obtain ⟨a, ha⟩ : ∃ a, a = t.n.a := ⟨_, rfl⟩
  obtain ⟨b, hb⟩ : ∃ b, b = t.n.b := ⟨_, rfl⟩
  rw [← ha, ← hb] at hge hsz
  obtain ⟨c, hc, hcx⟩ := cols_ex xs.length hx1
  obtain ⟨es, hes⟩ : ∃ es, es = xs.map fresh := ⟨_, rfl⟩
  have hep : ∀ e ∈ es, Pane e := by rw [hes]; exact fresh_pane hp
  have hne : es ≠ [] := fun e => by
    have := congrArg List.length e
    rw [hes] at this; simp at this
    rw [this] at hx1; simp at hx1
  have hel : xs.length = es.length := by rw [hes]; simp
  have hga : ∀ e ∈ es, e.alt ∧ (e.ks = [] ∨ e.way ≠ 0) := fun e he => ⟨(hep e he).frm.2.2, .inl (hep e he).frm.2.1⟩
  have hgb : ∀ e ∈ es, e.alt ∧ (e.ks = [] ∨ e.way ≠ 1) := fun e he => ⟨(hep e he).frm.2.2, .inl (hep e he).frm.2.1⟩
  have hgf : ∀ e ∈ es, Frm e := fun e he => (hep e he).frm.1
  -- the five plans
  have CB : ∀ (B cap : Nat) (gs qs : List Nat) (cur : Array Value) (W : World), CpD h B cap gs qs xs cur W →
      (∀ way : Int, way = 0 ∨ way = 1 → Calls Tryd.prog 44 #[.int .i64 way, .agg #[.int .i64 a, .int .i64 b], .slice (some ⟨B, 0, none⟩) xs.length cap] W fun e w' => ∃ g, e = .returned (ptr g) ∧ Laid h W a b es g w') ∧
      (∀ way : Int, way = 0 ∨ way = 1 → Calls Tryd.prog 45 #[.int .i64 way, .agg #[.int .i64 a, .int .i64 b], .slice (some ⟨B, 0, none⟩) xs.length cap] W fun e w' => ∃ g, e = .returned (ptr g) ∧ Laid h W a b es g w') ∧
      (Calls Tryd.prog 46 #[.agg #[.int .i64 a, .int .i64 b], .slice (some ⟨B, 0, none⟩) xs.length cap] W fun e w' => ∃ g, e = .returned (ptr g) ∧ Laid h W a b es g w') := fun B cap gs qs cur W D => by
    refine ⟨fun way hw => (build_even hw a b D ⟨hx1, hx2⟩ hp (by unfold Bd; omega) (by unfold Bd; omega)).mono fun e w' h => h.laid ?_, fun way hw => (build_chief hw a b D ⟨hx1, hx2⟩ hp (by omega) (by omega)).mono fun e w' h => h.laid ?_, (build_tiled a b c D hc hcx ⟨hx1, hx2⟩ hp (by unfold Bd; omega) (by unfold Bd; omega)).mono fun e w' h => h.laid ?_⟩
    · rw [← hes]
      rcases hw with rfl | rfl
      · exact rowE_good (.inl rfl) a b hne hgf hga
      · exact rowE_good (.inr rfl) a b hne hgf hgb
    · rw [← hes]; exact chiefE_good hw a b hne hep
    · rw [← hes]; exact tiledE_good xs.length c a b hel hc.1 hne hep
  have htr := lt_of_heap hT.h
  have k0 : W0.cell? ⟨tr, 0, none⟩ = some (ptr t.g) := by rw [World.cell?_of_block (g0.block tr htr (by simp))]; exact hT.c0
  have htg : t.g < w.heap.size := hT.p.lt _ _ _ t.g_mem
  have hW1 : ∀ W1, Below h W0 W1 → Hid (Below h w W1 ∧ TP G W1 none t) ∧ W1.cell? ⟨tr, 0, none⟩ = some (ptr t.g) ∧ W1.cell? ⟨t.g, 3, none⟩ = some (.int .i64 a) ∧ W1.cell? ⟨t.g, 4, none⟩ = some (.int .i64 b) ∧ h < W1.heap.size := fun W1 hB => by
    have hBw := hB0.trans hB
    have hTP := hT.p.below (by rw [← hh]; exact hBw)
    refine ⟨Lib.hid ⟨hBw, hTP⟩, (hB.cell (p := ⟨tr, 0, none⟩) (by show tr < h; omega)).trans k0, by rw [ha]; exact hTP.atn.c3, by rw [hb]; exact hTP.atn.c4, ?_⟩
    have h1 := hB.size
    have h2 : h < W0.heap.size := by rw [hW0, hh]; simp
    omega
  have hD := fun W1 (hI : CpI h h xs W1) => hI.data hx1
  obtain ⟨nx, hnx⟩ : ∃ nx, nx = xs.length := ⟨_, rfl⟩
  rw [← hnx] at CB hx1 hx2
  replace hT := Lib.hid hT; replace hF := Lib.hid hF; replace hA := Lib.hid hA; replace hl := Lib.hid hl; replace g0 := Lib.hid g0; replace hB0 := Lib.hid hB0; replace hI0 := Lib.hid hI0; replace C43 := Lib.hid C43; replace hxs := Lib.hid hxs; replace hps := Lib.hid hps; replace hp := Lib.hid hp; replace ha := Lib.hid ha; replace hb := Lib.hid hb; replace hc := Lib.hid hc; replace hes := Lib.hid hes; replace hep := Lib.hid hep; replace hne := Lib.hid hne; replace hel := Lib.hid hel; replace hga := Lib.hid hga; replace hgb := Lib.hid hgb; replace hgf := Lib.hid hgf; replace hW1 := Lib.hid hW1; replace hD := Lib.hid hD; replace hnx := Lib.hid hnx
  have CB2 := Lib.hid CB
  clear CB
  have hW0h := Lib.hid hW0; have hhh := Lib.hid hh
  clear hW0 hh
  unfold ptr caller43 at *
  go_enter Tryd.func19, Tryd.ntmps19
  go_upto_region 2 with fail
  rw [← hW0h.out, ← hhh.out]
  go_wp2_with fail
  refine C43.out.mono ?_
  rintro e W1 ⟨rfl, hI1, hB1⟩
  obtain ⟨hh1, c1, x3, x4, hlh⟩ := hW1.out W1 hB1
  obtain ⟨B, cap, gs, qs, cur, hbx, D⟩ := hD.out W1 hI1
  rw [← hnx.out] at hbx
  have cb : W1.cell? ⟨h, 0, none⟩ = some (.slice (some ⟨B, 0, none⟩) nx cap) := by rw [cell_of_heap hbx]; rfl
  replace hI1 := Lib.hid hI1; replace hB1 := Lib.hid hB1; replace hbx := Lib.hid hbx; replace D := Lib.hid D
  clear k0
  go_upto_region 5 with fail
  obtain ⟨z, hz⟩ : ∃ z, z = W1.heap.size := ⟨_, rfl⟩
  obtain ⟨W2, hW2⟩ : ∃ W2, W2 = W1.alloc (.cells #[.int .i64 a, .int .i64 b] 56) := ⟨_, rfl⟩
  rw [← hW2, ← hz]
  have g2 : W1.grownBy W2 none := by rw [hW2]; exact World.grownBy_alloc _ _ _
  have hz2 : W2.heap[z]? = some (.cells #[.int .i64 a, .int .i64 b] 56 (0, 0)) := by rw [hW2, hz]; exact heap_alloc_new W1 _
  have cz0 : W2.cell? ⟨z, 0, none⟩ = some (.int .i64 a) := by rw [cell_of_heap hz2]; rfl
  have cz1 : W2.cell? ⟨z, 1, none⟩ = some (.int .i64 b) := by rw [cell_of_heap hz2]; rfl
  have cb2 : W2.cell? ⟨h, 0, none⟩ = some (.slice (some ⟨B, 0, none⟩) nx cap) := by rw [World.cell?_of_block (g2.block h hlh (by simp))]; exact cb
  obtain ⟨B44, B45, B46⟩ := CB2.out B cap gs qs cur W2 (D.out.grown g2)
  have B440 := B44 0 (.inl rfl); have B441 := B44 1 (.inr rfl); have B450 := B45 0 (.inl rfl); have B451 := B45 1 (.inr rfl)
  replace hW2 := Lib.hid hW2; replace hz := Lib.hid hz; replace g2 := Lib.hid g2; replace hz2 := Lib.hid hz2; replace B440 := Lib.hid B440; replace B441 := Lib.hid B441; replace B450 := Lib.hid B450; replace B451 := Lib.hid B451; replace B46 := Lib.hid B46
  have hB2 : Below h w W2 := hh1.out.1.trans ⟨g2.out.os, g2.out.tape, g2.out.output, g2.out.size, fun j hj => g2.out.block j (by omega) (by simp)⟩
  have hOld : ∀ (err : Int) (w' : World), Below h w w' → PrePost base tr t k w (.returned (.int .i64 err)) w' := fun err w' hB => by
    have hTr := hT.out
    refine ⟨err, G, t, rfl, ⟨(hB.block tr (by rw [hhh.out]; exact htr)).trans hTr.h, hTr.p.below (by rw [← hhh.out]; exact hB), hTr.nd, hTr.nt, hTr.lo, hTr.q, hTr.gl⟩, hB.mono (by rw [hhh.out]; exact hbase), hF.out, hA.out, rfl⟩
  replace hB2 := Lib.hid hB2; replace hOld := Lib.hid hOld
  clear c1 x3 x4 cb B44 B45
  unfold ptr at *
  go_upto_block 0 with fail
  go_cut [6] (fun v6 wx => ∃ g, v6 = .pointer (some ⟨g, 0, none⟩) ∧ Hid (Laid h W2 a b es g wx))
  case first =>
    rcases Bool.eq_false_or_eq_true (nm.toList == [101, 118, 101, 110, 45, 104, 111, 114, 105, 122, 111, 110, 116, 97, 108]) with e1 | e1
    · go_wp2_with fail
      refine B440.out.mono ?_
      rintro e w3 ⟨g, rfl, hL⟩
      replace hL := Lib.hid hL
      go_wp2_with fail
      go_meet
      exact ⟨g, rfl, hL⟩
    rcases Bool.eq_false_or_eq_true (nm.toList == [101, 118, 101, 110, 45, 118, 101, 114, 116, 105, 99, 97, 108]) with e2 | e2
    · go_wp2_with fail
      refine B441.out.mono ?_
      rintro e w3 ⟨g, rfl, hL⟩
      replace hL := Lib.hid hL
      go_wp2_with fail
      go_meet
      exact ⟨g, rfl, hL⟩
    rcases Bool.eq_false_or_eq_true (nm.toList == [109, 97, 105, 110, 45, 104, 111, 114, 105, 122, 111, 110, 116, 97, 108]) with e3 | e3
    · go_wp2_with fail
      refine B450.out.mono ?_
      rintro e w3 ⟨g, rfl, hL⟩
      replace hL := Lib.hid hL
      go_wp2_with fail
      go_meet
      exact ⟨g, rfl, hL⟩
    rcases Bool.eq_false_or_eq_true (nm.toList == [109, 97, 105, 110, 45, 118, 101, 114, 116, 105, 99, 97, 108]) with e4 | e4
    · go_wp2_with fail
      refine B451.out.mono ?_
      rintro e w3 ⟨g, rfl, hL⟩
      replace hL := Lib.hid hL
      go_wp2_with fail
      go_meet
      exact ⟨g, rfl, hL⟩
    rcases Bool.eq_false_or_eq_true (nm.toList == [116, 105, 108, 101, 100]) with e5 | e5
    · go_wp2_with fail
      refine B46.out.mono ?_
      rintro e w3 ⟨g, rfl, hL⟩
      replace hL := Lib.hid hL
      go_wp2_with fail
      go_meet
      exact ⟨g, rfl, hL⟩
    go_wp2_with fail
    go_ret
    exact hOld.out 6 _ hB2.out
  case rest =>
    obtain ⟨g, rfl, hL⟩ := hcut
    obtain ⟨G', t1, up, hq, rfl, h1, hG, hBL, nd, hbl⟩ := hL.out
    obtain ⟨f, hf⟩ : ∃ f, f = wc.heap.size := ⟨_, rfl⟩
    obtain ⟨W4, hW4⟩ : ∃ W4, W4 = wc.alloc (.cells #[.bool true] 4) := ⟨_, rfl⟩
    have hBw : Below h w wc := hB2.out.trans hBL
    have hlw := hBw.size
    have hhf : h ≤ f := by rw [hf]; have := hhh.out; omega
    have hB4 : Below f wc W4 := by rw [hW4]; exact (Below.refl f wc).alloc (by omega) _
    have hn4 : (wc.alloc (.cells #[.bool true] 4)).heap[f]? = some (.cells #[.bool true] 4 (0, 0)) := by rw [hf]; exact heap_alloc_new wc _
    have hI4 : FtI f f [] W4 := ⟨by rw [hW4]; exact hn4, Nat.le_refl _⟩
    have hes2 : psL es = t.er.ps := by rw [hes.out, fresh_ps, hps.out]
    have hle : t1.leaves.length = t.leaves.length := by rw [leaves_len, leaves_len, hG.ps, hes2]
    have C47 := leaves47 f f 100 wc hf (FtI f f) (fun xs s w' a1 a2 a3 a4 a5 => fits_any G' f f 100 wc hf xs s w' a1 a2 a3 a4 a5) t1 up [] W4 h1 hB4 hI4 (by rw [hle]; have := hl.out; simp; omega)
    rw [List.nil_append] at C47
    have hW5 : ∀ W5, FtI f f t1.leaves W5 → Below f W4 W5 → Hid (Below h w W5 ∧ TP G' W5 up t1) ∧ W5.cell? ⟨f, 0, none⟩ = some (.bool (t1.leaves.all fitsB)) ∧ W5.cell? ⟨t1.g, 7, none⟩ = some (uptr up) ∧ W5.frozen? ⟨t1.g, 7, none⟩ = false := fun W5 hI hB => by
      have hB45 := hB4.trans hB
      have hT5 := h1.below (by rw [← hf]; exact hB45)
      exact ⟨Lib.hid ⟨hBw.trans (hB45.mono hhf), hT5⟩, by rw [cell_of_heap hI.hh]; rfl, hT5.atn.c7, hT5.atn.free 7⟩
    have hHU := fun W5 (h1 : TP G' W5 up t1) hB hft => hung (W5 := W5) hT.out hhh.out (by rw [hhh.out]; exact hbase) hF.out ha.out hb.out hes2 hq h1 hG hB nd hbl hft
    have hPL := fun W7 hT7 hw => place_any (G := G') t1 none 0 0 W7 hT7 nd hw
    have hfc : f = wc.heap.size := hf
    replace h1 := Lib.hid h1; replace hG := Lib.hid hG; replace hBL := Lib.hid hBL; replace nd := Lib.hid nd; replace hbl := Lib.hid hbl; replace hB4 := Lib.hid hB4; replace hI4 := Lib.hid hI4; replace C47 := Lib.hid C47; replace hW5 := Lib.hid hW5; replace hHU := Lib.hid hHU; replace hPL := Lib.hid hPL; replace hq := Lib.hid hq; replace hes2 := Lib.hid hes2; replace hle := Lib.hid hle
    have hW4h := Lib.hid hW4; have hfh := Lib.hid hf
    clear hW4 hf hfc hL hn4
    unfold ptr caller47 at *
    go_upto_region 18 with fail
    rw [← hfh.out, ← hW4h.out]
    go_wp2_with fail
    refine C47.out.mono ?_
    rintro e W5 ⟨rfl, hI5, hB5⟩
    obtain ⟨hh5, cf, c7, f7⟩ := hW5.out W5 hI5 hB5
    replace hI5 := Lib.hid hI5; replace hB5 := Lib.hid hB5
    obtain ⟨ft, hft⟩ : ∃ ft, ft = t1.leaves.all fitsB := ⟨_, rfl⟩
    rw [← hft] at cf
    cases ft with
    | false =>
      replace hft := Lib.hid hft
      go_wp2_with fail
      go_ret
      exact hOld.out 5 _ hh5.out.1
    | true =>
      obtain ⟨q1, q2, q3, q4, q5⟩ := hHU.out W5 hh5.out.2 hh5.out.1 hft.symm
      have CP := hPL.out _ q3 q4
      replace hft := Lib.hid hft; replace q3 := Lib.hid q3; replace q4 := Lib.hid q4; replace q5 := Lib.hid q5; replace CP := Lib.hid CP
      unfold ptr at *
      go_wp2_with fail
      refine CP.out.mono ?_
      rintro e w8 ⟨rfl, hT8, o8⟩
      replace hT8 := Lib.hid hT8; replace o8 := Lib.hid o8
      go_wp2_with fail
      go_ret
      exact q5.out w8 hT8.out o8.out
end Go.Proofs.YtcklmkjlbpjojaaDoor.X
namespace Go.Proofs.YtcklmkjlbpjojaaDoor
open Go.RowKit
set_option linter.unusedSimpArgs false
set_option linter.unusedVariables false

theorem split_alt {c c0 : List Fr} {l : T} {f : Fr} {f' l' n' : Nd} {before : Bool} {way : Int} (hA : (plug c l).er.alt) (e1 : f'.way = f.n.way) (e2 : f.n.way = way)
    (e5 : c = f :: c0 ∨ ((∀ g d, c = g :: d → g.n.way ≠ way) ∧ c0 = c ∧ f.L = [] ∧ f.R = [])) :
    ((plug c0 (.mk f' (f.L ++ (if before = true then [.mk n' [], .mk l' []] else [.mk l' [], .mk n' []]) ++ f.R))).place 0 0).er.alt := by
  rw [T.place_er]
  obtain ⟨X, hX⟩ : ∃ X : List T, X = (if before = true then [.mk n' [], .mk l' []] else [.mk l' [], .mk n' []]) := ⟨_, rfl⟩
  rw [← hX]
  have hXl : ∀ k ∈ X, k.ks = [] ∧ k.er.alt := by
    intro k hk
    rw [hX] at hk
    split at hk <;> simp at hk <;> rcases hk with rfl | rfl <;> exact ⟨rfl, alt_leaf _⟩
  rcases e5 with hc | ⟨hw, hc, hL, hR⟩
  · subst hc
    obtain ⟨h1, h2, h3⟩ := alt_plug c0 (.mk f.n (f.L ++ l :: f.R)) (.mk f' (f.L ++ X ++ f.R)) hA
    obtain ⟨h4, h5⟩ := alt_T.1 h1
    refine h3 (alt_T.2 ⟨fun k hk => ?_, fun k hk => ?_⟩) fun g d e => ?_
    · rw [e1]
      simp only [List.mem_append] at hk
      rcases hk with (h | h) | h
      · exact h4 k (by simp [h])
      · exact .inl (hXl k h).1
      · exact h4 k (by simp [h])
    · simp only [List.mem_append] at hk
      rcases hk with (h | h) | h
      · exact h5 k (by simp [h])
      · exact (hXl k h).2
      · exact h5 k (by simp [h])
    · rcases h2 g d e with h | h
      · exact absurd h (by simp [T.ks])
      · right
        rw [show (T.mk f' (f.L ++ X ++ f.R)).n.way = f.n.way from e1]; exact h
  · subst hc
    obtain ⟨h1, h2, h3⟩ := alt_plug c0 l (.mk f' (f.L ++ X ++ f.R)) hA
    rw [hL, hR] at h3 ⊢
    simp only [List.nil_append, List.append_nil] at h3 ⊢
    refine h3 (alt_T.2 ⟨fun k hk => .inl (hXl k hk).1, fun k hk => (hXl k hk).2⟩) fun g d e => .inr ?_
    rw [show (T.mk f' X).n.way = f.n.way from e1, e2]
    exact fun h => hw g d e h.symm
theorem alt_split {t t' : T} {pane other err : Int} {beside before : Bool} (hA : t.er.alt) (h : ((err ≠ 0 ∧ t' = t) ∨ (err = 0 ∧ Fine t' other ∧ t'.er.ps.Perm (other :: t.er.ps) ∧
      ∃ (c : List Fr) (l : T) (a' b' na nb : Int) (f : Fr) (c0 : List Fr) (f' l' n' : Nd), t = plug c l ∧ l.ks = [] ∧ t.find pane = some l ∧
        t' = (plug c0 (.mk f' (f.L ++ (if before = true then [.mk n' [], .mk l' []] else [.mk l' [], .mk n' []]) ++ f.R))).place 0 0 ∧
        (f'.p = f.n.p ∧ f'.a = f.n.a ∧ f'.b = f.n.b ∧ f'.way = f.n.way) ∧ f.n.way = (if beside = true then 0 else 1) ∧ (l'.p = l.n.p ∧ l'.a = a' ∧ l'.b = b' ∧ (l'.way = l.n.way ∨ l'.way = 0)) ∧ (n'.p = other ∧ n'.a = na ∧ n'.b = nb ∧ n'.way = 0) ∧
        (c = f :: c0 ∨ ((∀ g d, c = g :: d → g.n.way ≠ (if beside = true then 0 else 1)) ∧ c0 = c ∧ f.L = [] ∧ f.R = [] ∧ f.n.a = l.n.a ∧ f.n.b = l.n.b ∧ f.n.p = 0)) ∧
        ((beside = true → b' = l.n.b ∧ nb = l.n.b ∧ a' + 1 + (na + 1) = l.n.a + 1) ∧ (beside = false → a' = l.n.a ∧ na = l.n.a ∧ b' + 1 + (nb + 1) = l.n.b + 1)) ∧ (1 ≤ a' ∧ 1 ≤ b' ∧ 1 ≤ na ∧ 1 ≤ nb)))) : t'.er.alt := by
  rcases h with ⟨_, rfl⟩ | ⟨_, _, _, c, l, a', b', na, nb, f, c0, f', l', n', e, _, _, e', e1, e2, _, _, e5, _⟩
  · exact hA
  · rw [e']
    rw [e] at hA
    exact split_alt hA e1.2.2.2 e2 (e5.imp id fun h => ⟨h.1, h.2.1, h.2.2.1, h.2.2.2.1⟩)

set_option maxHeartbeats 4000000 in
set_option maxRecDepth 100000 in
theorem made_alt (a b : Int) (A : Option Addr) (len c : Nat) (l : List OpW) (w : World) (hab : 1 ≤ a ∧ a ≤ 250 ∧ 1 ≤ b ∧ b ≤ 120) (hlen : len = l.length) (hl63 : len ≤ 9223372036854775807) (hO : ∀ o ∈ l, o.ok) (hR : Rd w A (opCells l)) :
    Calls Tryd.prog 8 #[.int .i64 a, .int .i64 b, .slice A len c] w fun e w' => ∃ (tr : Nat) (t : T), e = .returned (ptr tr) ∧ Tr w.heap.size w' tr t ∧ Fine t 31 ∧ Below w.heap.size w w' ∧ t.leaves.length ≤ 31 ∧ t.er.alt := by
  have hm : mayB a b = true := by unfold mayB; simp; omega
  have CN := Lib.hid (new_any a b 1 w hm (by omega))
  replace hO := Lib.hid hO; replace hR := Lib.hid hR; replace hlen := Lib.hid hlen
  go_enter Tryd.func8, Tryd.ntmps8
  go_wp2_with fail
  refine CN.out.mono ?_
  rintro e w1 ⟨tr, g, rfl, hT1, G1⟩
  replace hT1 := Lib.hid hT1; replace G1 := Lib.hid G1
  unfold ptr
  go_wp2_with fail
  go_loopw [9] (fun iv wr => ∃ j : Nat, j ≤ len ∧ j ≤ 30 ∧ iv = .int .i64 j ∧ Hid (∃ t, Tr w.heap.size wr tr t ∧ Fine t (j + 1) ∧ Below w.heap.size w wr ∧ t.leaves.length ≤ j + 1 ∧ t.er.alt)) (fun iv _ => len - (intOf iv).toNat)
  case atStart =>
    refine ⟨0, Nat.zero_le _, by omega, rfl, Lib.hid ⟨_, hT1.out, ⟨?_, ?_, ?_, ?_, ?_⟩, ⟨G1.out.os, G1.out.tape, G1.out.output, G1.out.size, fun k hk => G1.out.block k hk (by simp)⟩, ?_, ?_⟩⟩
    · unfold nd1; rw [T.er_mk, erL_nil]; show E.ok (.mk 1 a b 0 []); exact .leaf ⟨by omega, by omega⟩ hab.1 hab.2.2.1
    · unfold nd1; rw [ps_leaf]; simp
    · unfold nd1; rw [ps_leaf]; simp
    · unfold nd1; rw [T.place_mk, placeL_nil]
    · exact ⟨hab.2.1, hab.2.2.2⟩
    · rw [leaves_len]; unfold nd1; rw [ps_leaf]; simp
    · unfold nd1; exact alt_leaf _
  case round =>
    obtain ⟨j, hj, hj30, rfl, hI⟩ := hrel
    by_cases hlt : j < len
    · by_cases hlt30 : j < 30
      · obtain ⟨t, hT, hF, hB, hlv, hAl⟩ := hI.out
        obtain ⟨o, ho⟩ : ∃ o, l[j]? = some o := ⟨l[j]'(by rw [← hlen.out]; exact hlt), List.getElem?_eq_getElem _⟩
        have hcl : ∀ (i : Nat) (u : Value), o.cells[i]? = some u → (opCells l)[j * 8 + i]? = some u := by
          intro i u hu
          have : ∀ (l : List OpW) (j : Nat), l[j]? = some o → (opCells l)[j * 8 + i]? = some u := by
            intro l
            induction l with
            | nil => intro j h; simp at h
            | cons a l ih =>
              intro j h
              rcases j with _ | j
              · simp at h; subst h
                simp only [opCells, List.flatMap_cons]
                rw [List.getElem?_append_left (by rw [Nat.zero_mul, Nat.zero_add]; exact (List.getElem?_eq_some_iff.1 hu).1), Nat.zero_mul, Nat.zero_add]
                exact hu
              · simp only [opCells, List.flatMap_cons]
                rw [List.getElem?_append_right (by show 8 ≤ _; omega)]
                have := ih j (by simpa using h)
                rw [show (j + 1) * 8 + i - a.cells.length = j * 8 + i by show (j + 1) * 8 + i - 8 = _; omega]
                exact this
          exact this l j ho
        obtain ⟨b0, off, hA0, _, _⟩ := hR.out.at_ (hcl 0 _ rfl)
        subst hA0
        have hbl : b0 < w.heap.size := by
          obtain ⟨b', off', e, hlt', _⟩ := hR.out.at_ (hcl 0 _ rfl)
          cases e; exact hlt'
        have hcell : ∀ (i : Nat) (u : Value), o.cells[i]? = some u → wr.cell? ⟨b0, off + j * 8 + i, none⟩ = some u := by
          intro i u hu
          obtain ⟨b', off', e, _, h⟩ := hR.out.at_ (hcl i u hu)
          cases e
          rw [← Nat.add_assoc] at h
          exact (hB.cell (p := ⟨b0, off + j * 8 + i, none⟩) hbl).trans h
        have k0 : wr.cell? ⟨b0, off + j * 8, none⟩ = some (.int .i64 o.kind) := hcell 0 _ rfl; have k1 := hcell 1 _ rfl; have k2 := hcell 2 _ rfl; have k3 := hcell 3 _ rfl
        have k4 := hcell 4 _ rfl; have k5 := hcell 5 _ rfl; have k6 := hcell 6 _ rfl; have k7 := hcell 7 _ rfl
        obtain ⟨oka, okn⟩ := hO.out o (List.mem_of_getElem? ho)
        replace hT := Lib.hid hT; replace hF := Lib.hid hF; replace hB := Lib.hid hB; replace hlv := Lib.hid hlv; replace hAl := Lib.hid hAl; replace ho := Lib.hid ho; replace oka := Lib.hid oka; replace okn := Lib.hid okn
        clear hcl hcell
        go_upto_region 8 with fail
        obtain ⟨W1, hW1⟩ : ∃ W1, W1 = wr.alloc (.cells #[.int .i64 o.kind, .int .i64 o.a, .int .i64 o.b, .int .i64 o.n, .int .u8 o.way, .bool o.beside, .bool o.before, .string o.s] 42) := ⟨_, rfl⟩
        rw [← hW1]
        have g1 : wr.grownBy W1 none := by rw [hW1]; exact World.grownBy_alloc _ _ _
        have hv : W1.heap[wr.heap.size]? = some (.cells #[.int .i64 o.kind, .int .i64 o.a, .int .i64 o.b, .int .i64 o.n, .int .u8 o.way, .bool o.beside, .bool o.before, .string o.s] 42 (0, 0)) := by rw [hW1]; exact heap_alloc_new wr _
        have CBx := Lib.hid (boxes_any w.heap.size tr t W1 (hT.out.grown g1) (by have := hlv.out; omega))
        have hvlt := lt_of_heap hv
        replace g1 := Lib.hid g1; replace hv := Lib.hid hv
        clear hW1 k0 k1 k2 k3 k4 k5 k6 k7 CN
        unfold ptr at CBx
        obtain ⟨nl, hnl⟩ : ∃ nl, nl = t.leaves.length := ⟨_, rfl⟩
        have hnl0 : 1 ≤ nl := by rw [hnl]; exact List.length_pos_iff.2 (leaves_ne t)
        have hnl1 : nl ≤ 31 := by rw [hnl]; have := hlv.out; omega
        rw [← hnl] at CBx
        go_wp2_with fail
        refine CBx.out.mono ?_
        rintro e w2 ⟨A2, c2, rfl, O2, G2⟩
        have h2v := (G2.block _ hvlt (by simp)).trans hv.out
        obtain ⟨A2x, c2x, e2x, hR2, _⟩ := Rd.of_own O2
        injection e2x with e2x _ e2y
        subst e2x; subst e2y
        obtain ⟨k, hk⟩ : ∃ k, k = pickN o.a nl := ⟨_, rfl⟩
        have hkl : k < nl := by rw [hk]; exact pickN_lt _ (by omega)
        obtain ⟨s, hs⟩ : ∃ s, t.leaves[k]? = some s := ⟨t.leaves[k]'(by omega), List.getElem?_eq_getElem _⟩
        have hbx : (boxes t.leaves)[k * 5]? = some (.int .i64 s.n.p) := by
          have : ∀ (l : List T) (k : Nat), l[k]? = some s → (boxes l)[k * 5]? = some (.int .i64 s.n.p) := by
            intro l
            induction l with
            | nil => intro k h; simp at h
            | cons a l ih =>
              intro k h
              rcases k with _ | k
              · simp at h; subst h; simp [boxes, boxOf]
              · have e : boxes (a :: l) = boxOf a.n ++ boxes l := by simp [boxes]
                rw [e, List.getElem?_append_right (by show 5 ≤ _; omega)]
                rw [show (k + 1) * 5 - (boxOf a.n).length = k * 5 by show (k + 1) * 5 - 5 = _; omega]
                exact ih k (by simpa using h)
          exact this _ _ hs
        obtain ⟨b2, off2, rfl, _, hcb⟩ := hR2.at_ hbx
        have v1 : w2.cell? ⟨wr.heap.size, 1, none⟩ = some (.int .i64 o.a) := by rw [cell_of_heap h2v]; rfl
        have v3 : w2.cell? ⟨wr.heap.size, 3, none⟩ = some (.int .i64 o.n) := by rw [cell_of_heap h2v]; rfl
        have v5 : w2.cell? ⟨wr.heap.size, 5, none⟩ = some (.bool o.beside) := by rw [cell_of_heap h2v]; rfl
        have v6 : w2.cell? ⟨wr.heap.size, 6, none⟩ = some (.bool o.before) := by rw [cell_of_heap h2v]; rfl
        have hT2 := (hT.out.grown g1.out).grown G2
        have CP1 : ∀ W, Calls Tryd.prog 9 #[.int .i64 o.a, .int .i64 nl] W fun e w' => e = .returned (.int .i64 (k : Int)) ∧ w' = W := fun W => by
          rw [hk]; exact (pick_any o.a nl W oka.out.1 oka.out.2 (by omega) (by omega)).mono fun e w' h => ⟨h.1, h.2.symm⟩
        obtain ⟨z, hz⟩ : ∃ z : Nat, z = pickN o.n 9 := ⟨_, rfl⟩
        have hz9 : z < 9 := by rw [hz]; exact pickN_lt _ (by omega)
        have CP2 : ∀ W, Calls Tryd.prog 9 #[.int .i64 o.n, .int .i64 9] W fun e w' => e = .returned (.int .i64 (z : Int)) ∧ w' = W := fun W => by
          rw [hz]; exact (pick_any o.n 9 W okn.out.1 okn.out.2 (by omega) (by omega)).mono fun e w' h => ⟨h.1, h.2.symm⟩
        have hsp : s.n.p ∈ t.er.ps := by rw [← T.leaves_ps]; exact List.mem_map_of_mem (List.mem_of_getElem? hs)
        have hw2s : w.heap.size ≤ w2.heap.size := by have := hB.out.size; have := g1.out.size; have := G2.size; omega
        have hbel2 : Below w.heap.size w w2 := hB.out.trans (⟨(g1.out.trans G2).os, (g1.out.trans G2).tape, (g1.out.trans G2).output, (g1.out.trans G2).size, fun k hk => (g1.out.trans G2).block k (by have := hB.out.size; omega) (by simp)⟩)
        have hT2d : Tr w.heap.size w2.drew tr t := hT2.grown (g_drew (World.grownBy.refl w2 none))
        have CSp := split_any w.heap.size tr t (j + 1) s.n.p (j + 2) z o.beside o.before w2.drew hT2d hw2s hF.out hsp ⟨by omega, by omega, by omega⟩ ⟨by omega, by omega⟩ (by have := hlv.out; omega)
        have hjw : IntKind.i64.wrap ((j : Int) + 2) = (j : Int) + 2 := by rw [IntKind.wrap_i64]; omega
        have hki : (k : Int) < nl := by omega
        have hk0 : (0 : Int) ≤ k := by omega
        have hq0 : ¬ ((nl : Int) = 0) := by omega
        obtain ⟨sp, hspe⟩ : ∃ sp, sp = s.n.p := ⟨_, rfl⟩
        rw [← hspe] at hcb CSp
        replace hT2 := Lib.hid hT2; replace hT2d := Lib.hid hT2d; replace CSp := Lib.hid CSp; replace CP1 := Lib.hid CP1; replace CP2 := Lib.hid CP2; replace O2 := Lib.hid O2; replace G2 := Lib.hid G2; replace h2v := Lib.hid h2v; replace hR2 := Lib.hid hR2; replace hs := Lib.hid hs; replace hk := Lib.hid hk; replace hz := Lib.hid hz; replace hsp := Lib.hid hsp; replace hbel2 := Lib.hid hbel2; replace hbx := Lib.hid hbx; replace hspe := Lib.hid hspe; replace hnl := Lib.hid hnl
        unfold ptr at CSp
        clear CBx
        go_upto_region 11 with fail
        refine wp_region_still_tail 19 (by kernel_rfl) (by kernel_rfl) ?_
        simp only [List.take_succ_cons, List.take_zero, List.drop_succ_cons, List.drop_zero]
        repeat still_step
        still_call (CP1.out _)
        repeat still_step
        still_call (CP2.out _)
        repeat still_step
        refine wpStill_nil ?_
        change wpList _ _ _ _ _ w2.drew
        go_wp2_with fail
        refine CSp.out.mono ?_
        rintro e w3 ⟨err, t', rfl, hT3, hB3, hcase⟩
        replace hT3 := Lib.hid hT3; replace hB3 := Lib.hid hB3; replace hcase := Lib.hid hcase
        clear CSp CP1 CP2
        go_wp2_with fail
        refine ⟨⟨j + 1, by omega, by omega, by go_num, Lib.hid ⟨t', hT3.out, ?_, hbel2.out.trans ⟨hB3.out.os, hB3.out.tape, hB3.out.output, hB3.out.size, hB3.out.block⟩, ?_, alt_split hAl.out hcase.out⟩⟩, by simp [intOf]; omega⟩
        · rcases hcase.out with ⟨_, rfl⟩ | ⟨_, h, _⟩
          · exact ⟨hF.out.ok, hF.out.ps, fun p hp => by have := hF.out.pk p hp; omega, hF.out.pl, hF.out.sz⟩
          · rw [show ((j + 1 : Nat) : Int) + 1 = (j : Int) + 2 by omega]; exact h
        · have := hlv.out
          rcases hcase.out with ⟨_, rfl⟩ | ⟨_, _, h, _⟩
          · omega
          · have h2 := h.length_eq
            rw [leaves_len] at this ⊢
            simp only [List.length_cons] at h2
            omega
      · have hj3 : j = 30 := by omega
        subst hj3
        have hlt3 : (30 : Int) < len := by omega
        obtain ⟨t, hT, hF, hB, hlv, hAl⟩ := hI.out
        replace hT := Lib.hid hT; replace hF := Lib.hid hF; replace hB := Lib.hid hB; replace hlv := Lib.hid hlv; replace hAl := Lib.hid hAl
        go_wp2_with fail
        go_ret
        exact ⟨tr, t, rfl, hT.out, ⟨hF.out.ok, hF.out.ps, fun p hp => by have := hF.out.pk p hp; omega, hF.out.pl, hF.out.sz⟩, hB.out, by have := hlv.out; omega, hAl.out⟩
    · have : j = len := by omega
      subst this
      obtain ⟨t, hT, hF, hB, hlv, hAl⟩ := hI.out
      replace hT := Lib.hid hT; replace hF := Lib.hid hF; replace hB := Lib.hid hB; replace hlv := Lib.hid hlv; replace hAl := Lib.hid hAl
      go_wp2_with fail
      go_ret
      exact ⟨tr, t, rfl, hT.out, ⟨hF.out.ok, hF.out.ps, fun p hp => by have := hF.out.pk p hp; omega, hF.out.pl, hF.out.sz⟩, hB.out, by have := hlv.out; omega, hAl.out⟩
end Go.Proofs.YtcklmkjlbpjojaaDoor
