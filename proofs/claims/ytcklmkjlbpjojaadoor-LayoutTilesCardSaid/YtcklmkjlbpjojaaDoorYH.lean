/- Layout: the walk of LayoutTiles. -/
import Derived.Test.YtcklmkjlbpjojaaDoorM13
import Derived.Test.YtcklmkjlbpjojaaDoorT2a
import Derived.Test.YtcklmkjlbpjojaaDoorXM
import Derived.Test.YtcklmkjlbpjojaaDoorYI
namespace Go.Proofs.YtcklmkjlbpjojaaDoor.X
open Go.RowKit
set_option linter.unusedSimpArgs false
set_option linter.unusedVariables false

/-- An op of the script. -/
def OpOk (o : OpW) : Prop := I64 o.kind ∧ I64 o.a ∧ I64 o.b ∧ I64 o.n ∧ 0 ≤ o.way ∧ o.way ≤ 255
/-- Behind the switch: n is how many panes there are to be. -/
def LJ (base tr : Nat) (w : World) (n : Nat) (wr : World) : Prop := ∃ (G : Gh) (t : T), Tr G base wr tr t ∧ Fine t 31 ∧ t.er.alt ∧ t.leaves.length ≤ 31 ∧ Below w.heap.size w wr ∧ n = t.leaves.length
/-- Between two ops. -/
def LI (base tr : Nat) (w wr : World) : Prop := ∃ (G : Gh) (t : T), Tr G base wr tr t ∧ Fine t 31 ∧ t.er.alt ∧ t.leaves.length ≤ 31 ∧ Below w.heap.size w wr

theorem boxes_at : ∀ (l : List T) (k : Nat) {s : T}, l[k]? = some s → (boxes l)[k * 5]? = some (.int .i64 s.n.p)
  | [], k, s, h => by simp at h
  | a :: l, k, s, h => by
    rcases k with _ | k
    · simp at h; subst h; simp [boxes, boxOf]
    · have e : boxes (a :: l) = boxOf a.n ++ boxes l := by simp [boxes]
      rw [e, List.getElem?_append_right (by show 5 ≤ _; omega)]
      rw [show (k + 1) * 5 - (boxOf a.n).length = k * 5 by show (k + 1) * 5 - 5 = _; omega]
      exact boxes_at l k (by simpa using h)
theorem pick_w {x : Int} {n : Nat} (h : I64 x) (h0 : 0 < n) (h1 : n ≤ 1000) (W : World) : Calls Tryd.prog 9 #[.int .i64 x, .int .i64 n] W fun e w' => e = .returned (.int .i64 (pickN x n : Nat)) ∧ w' = W :=
  (pick_any x n W h.1 h.2 h0 (by omega)).mono fun e w' h => ⟨h.1, h.2.symm⟩
theorem ops_at : ∀ (l : List OpW) (j : Nat) {o : OpW}, l[j]? = some o → ∀ (i : Nat) (u : Value), o.cells[i]? = some u → (opCells l)[j * 8 + i]? = some u
  | [], j, o, h, _, _, _ => by simp at h
  | a :: l, j, o, h, i, u, hu => by
    rcases j with _ | j
    · simp at h; subst h
      simp only [opCells, List.flatMap_cons]
      rw [List.getElem?_append_left (by rw [Nat.zero_mul, Nat.zero_add]; exact (List.getElem?_eq_some_iff.1 hu).1), Nat.zero_mul, Nat.zero_add]
      exact hu
    · simp only [opCells, List.flatMap_cons]
      rw [List.getElem?_append_right (by show 8 ≤ _; omega)]
      have := ops_at l j (by simpa using h) i u hu
      rw [show (j + 1) * 8 + i - a.cells.length = j * 8 + i by show (j + 1) * 8 + i - 8 = _; omega]
      exact this

set_option maxHeartbeats 2000000 in
set_option maxRecDepth 100000 in
theorem tiles_law (a0 b0 : Int) (A A2 : Option Addr) (len c len2 c2 : Nat) (l l2 : List OpW) (w : World) (i1 : I64 a0) (i2 : I64 b0) (hlen : len = l.length) (hl63 : len ≤ 9223372036854775807) (hO : ∀ o ∈ l, o.ok) (hR : Rd w A (opCells l))
    (hlen2 : len2 = l2.length) (hl632 : len2 ≤ 9223372036854775807) (hO2 : ∀ o ∈ l2, OpOk o) (hR2 : Rd w A2 (opCells l2)) (hTab : Tab w) (hD : Deb w) :
    Calls Tryd.prog 5 #[.int .i64 a0, .int .i64 b0, .slice A len c, .slice A2 len2 c2] w fun e w' => e = .returned (.bool true) ∧ Below w.heap.size w w' := by
  have CS := Lib.hid (shown_any w hTab hD)
  obtain ⟨wd, hwd⟩ : ∃ wd : Nat, wd = pickN a0 60 := ⟨_, rfl⟩
  obtain ⟨ht, hht⟩ : ∃ ht : Nat, ht = pickN b0 40 := ⟨_, rfl⟩
  have hwd60 : wd < 60 := by rw [hwd]; exact pickN_lt _ (by omega)
  have hht40 : ht < 40 := by rw [hht]; exact pickN_lt _ (by omega)
  have CP1 : Hid (∀ W, Calls Tryd.prog 9 #[.int .i64 a0, .int .i64 60] W fun e w' => e = .returned (.int .i64 (wd : Int)) ∧ w' = W) := Lib.hid fun W => by
    rw [hwd]; exact (pick_any a0 60 W i1.1 i1.2 (by omega) (by omega)).mono fun e w' h => ⟨h.1, h.2.symm⟩
  have CP2 : Hid (∀ W, Calls Tryd.prog 9 #[.int .i64 b0, .int .i64 40] W fun e w' => e = .returned (.int .i64 (ht : Int)) ∧ w' = W) := Lib.hid fun W => by
    rw [hht]; exact (pick_any b0 40 W i2.1 i2.2 (by omega) (by omega)).mono fun e w' h => ⟨h.1, h.2.symm⟩
  have hw1 : IntKind.i64.wrap (1 + (wd : Int)) = 1 + (wd : Int) := by rw [IntKind.wrap_i64]; omega
  have hw2 : IntKind.i64.wrap (1 + (ht : Int)) = 1 + (ht : Int) := by rw [IntKind.wrap_i64]; omega
  replace hwd := Lib.hid hwd; replace hht := Lib.hid hht; replace hO := Lib.hid hO; replace hR := Lib.hid hR; replace hTab := Lib.hid hTab; replace hD := Lib.hid hD; replace hlen := Lib.hid hlen; replace hO2 := Lib.hid hO2; replace hR2 := Lib.hid hR2; replace hlen2 := Lib.hid hlen2
  replace i1 := Lib.hid i1; replace i2 := Lib.hid i2
  go_enter Tryd.func5, Tryd.ntmps5
  go_wp2_with fail
  refine CS.out.mono ?_
  rintro e w1 ⟨rfl, B1⟩
  have CM := Lib.hid (made_alt (1 + (wd : Int)) (1 + (ht : Int)) A len c l w1 (by omega) hlen.out hl63 hO.out (OpsIn.below hR.out B1))
  replace B1 := Lib.hid B1
  clear CS
  go_wp2_with fail
  refine (CP1.out _).mono ?_
  rintro e w2 ⟨rfl, rfl⟩
  go_wp2_with fail
  refine (CP2.out _).mono ?_
  rintro e w3 ⟨rfl, rfl⟩
  clear CP1 CP2
  go_wp2_with fail
  refine CM.out.mono ?_
  rintro e w4 ⟨tr, t, rfl, hT4, hF, B4, hlv, hA4⟩
  obtain ⟨base, hbase⟩ : ∃ base, base = w3.heap.size := ⟨_, rfl⟩
  rw [← hbase] at hT4 B4
  have hI0 : LI base tr w w4 := ⟨gh0 base, t, tr_x hT4, hF, hA4, hlv, B1.out.trans ⟨B4.os, B4.tape, B4.output, B4.size, fun k hk => B4.block k (by have := B1.out.size; omega)⟩⟩
  replace hT4 := Lib.hid hT4; replace hF := Lib.hid hF; replace B4 := Lib.hid B4; replace hbase := Lib.hid hbase; replace hA4 := Lib.hid hA4; replace hI0 := Lib.hid hI0
  clear CM
  unfold ptr at *
  go_wp2_with fail
  have hEx := Lib.hid (fun wr (h : LI base tr w wr) => show Calls Tryd.prog 21 #[.pointer (some ⟨tr, 0, none⟩)] wr (fun e w' => e = .returned (.bool true) ∧ Below w.heap.size w w') by
    obtain ⟨G, t, hT, hF, hA, hl, hB⟩ := h
    exact (tiles_any base tr t wr hT hF.tile (by omega)).mono fun e w' h => ⟨h.1, hB.trans ⟨h.2.os, h.2.tape, h.2.output, h.2.size, fun k hk => h.2.block k (Nat.lt_of_lt_of_le hk hB.size) (by simp)⟩⟩)
  go_loopw [11] (fun iv wr => ∃ j : Nat, j ≤ len2 ∧ iv = .int .i64 j ∧ Hid (LI base tr w wr)) (fun iv _ => len2 - (intOf iv).toNat)
  case atStart => exact ⟨0, Nat.zero_le _, rfl, hI0⟩
  case round =>
    obtain ⟨j, hj, rfl, hI⟩ := hrel
    by_cases hlt : j < len2
    · by_cases hlt40 : j < 40
      · obtain ⟨G, t, hT, hF, hAl, hlv, hB⟩ := hI.out
        obtain ⟨o, ho⟩ : ∃ o, l2[j]? = some o := ⟨l2[j]'(by rw [← hlen2.out]; exact hlt), List.getElem?_eq_getElem _⟩
        have hcl := ops_at l2 j ho
        obtain ⟨b1, off, hA0, hbl, _⟩ := hR2.out.at_ (hcl 0 _ rfl)
        subst hA0
        have hcell : ∀ (i : Nat) (u : Value), o.cells[i]? = some u → wr.cell? ⟨b1, off + j * 8 + i, none⟩ = some u := by
          intro i u hu
          obtain ⟨b', off', e, _, h⟩ := hR2.out.at_ (hcl i u hu)
          cases e
          rw [← Nat.add_assoc] at h
          exact (hB.cell (p := ⟨b1, off + j * 8 + i, none⟩) hbl).trans h
        have k0 : wr.cell? ⟨b1, off + j * 8, none⟩ = some (.int .i64 o.kind) := hcell 0 _ rfl; have k1 := hcell 1 _ rfl; have k2 := hcell 2 _ rfl; have k3 := hcell 3 _ rfl
        have k4 := hcell 4 _ rfl; have k5 := hcell 5 _ rfl; have k6 := hcell 6 _ rfl; have k7 := hcell 7 _ rfl
        obtain ⟨okk, oka, okb, okn, okw⟩ := hO2.out o (List.mem_of_getElem? ho)
        replace hT := Lib.hid hT; replace hF := Lib.hid hF; replace hB := Lib.hid hB; replace hlv := Lib.hid hlv; replace hAl := Lib.hid hAl; replace ho := Lib.hid ho; replace oka := Lib.hid oka; replace okn := Lib.hid okn; replace okk := Lib.hid okk; replace okb := Lib.hid okb; replace okw := Lib.hid okw
        clear hcl hcell
        go_upto_region 11 with fail
        obtain ⟨W1, hW1⟩ : ∃ W1, W1 = wr.alloc (.cells #[.int .i64 o.kind, .int .i64 o.a, .int .i64 o.b, .int .i64 o.n, .int .u8 o.way, .bool o.beside, .bool o.before, .string o.s] 42) := ⟨_, rfl⟩
        obtain ⟨bo, hbo⟩ : ∃ bo, bo = wr.heap.size := ⟨_, rfl⟩
        rw [← hW1, ← hbo]
        have g1 : wr.grownBy W1 none := by rw [hW1]; exact World.grownBy_alloc _ _ _
        have hv : W1.heap[bo]? = some (.cells #[.int .i64 o.kind, .int .i64 o.a, .int .i64 o.b, .int .i64 o.n, .int .u8 o.way, .bool o.beside, .bool o.before, .string o.s] 42 (0, 0)) := by rw [hW1, hbo]; exact heap_alloc_new wr _
        have CBx := Lib.hid (boxes_any base tr t W1 (hT.out.grown g1) (by have := hlv.out; omega))
        have hvlt := lt_of_heap hv
        replace g1 := Lib.hid g1; replace hv := Lib.hid hv; replace hbo := Lib.hid hbo
        clear hW1 k0 k1 k2 k3 k4 k5 k6 k7
        obtain ⟨nl, hnl⟩ : ∃ nl, nl = t.leaves.length := ⟨_, rfl⟩
        have hnl0 : 1 ≤ nl := by rw [hnl]; exact List.length_pos_iff.2 (leaves_ne t)
        have hnl1 : nl ≤ 31 := by rw [hnl]; exact hlv.out
        rw [← hnl] at CBx
        unfold ptr at CBx
        replace hnl := Lib.hid hnl
        go_wp2_with fail
        refine CBx.out.mono ?_
        rintro e w2 ⟨A3, c3, rfl, O3, G3⟩
        have h2v := (G3.block _ hvlt (by simp)).trans hv.out
        have v0 : w2.cell? ⟨bo, 0, none⟩ = some (.int .i64 o.kind) := by rw [cell_of_heap h2v]; rfl
        have v1 : w2.cell? ⟨bo, 1, none⟩ = some (.int .i64 o.a) := by rw [cell_of_heap h2v]; rfl
        have v2 : w2.cell? ⟨bo, 2, none⟩ = some (.int .i64 o.b) := by rw [cell_of_heap h2v]; rfl
        have v3 : w2.cell? ⟨bo, 3, none⟩ = some (.int .i64 o.n) := by rw [cell_of_heap h2v]; rfl
        have v4 : w2.cell? ⟨bo, 4, none⟩ = some (.int .u8 o.way) := by rw [cell_of_heap h2v]; rfl
        have v7 : w2.cell? ⟨bo, 7, none⟩ = some (.string o.s) := by rw [cell_of_heap h2v]; rfl
        have hq0 : ¬ ((nl : Int) = 0) := by omega
        have hq0b : ((nl : Int) == 0) = false := beq_eq_false_iff_ne.2 hq0
        replace O3 := Lib.hid O3; replace G3 := Lib.hid G3; replace h2v := Lib.hid h2v
        clear CBx
        obtain ⟨ka, hka⟩ : ∃ k, k = pickN o.a nl := ⟨_, rfl⟩
        have hkal : ka < nl := by rw [hka]; exact pickN_lt _ hnl0
        obtain ⟨kb, hkb⟩ : ∃ k, k = pickN o.b nl := ⟨_, rfl⟩
        have hkbl : kb < nl := by rw [hkb]; exact pickN_lt _ hnl0
        obtain ⟨kk, hkk⟩ : ∃ k, k = pickN o.kind 5 := ⟨_, rfl⟩
        have hkkl : kk < 5 := by rw [hkk]; exact pickN_lt _ (by omega)
        obtain ⟨s1, hs1⟩ : ∃ s, t.leaves[ka]? = some s := ⟨t.leaves[ka]'(by rw [← hnl.out]; exact hkal), List.getElem?_eq_getElem _⟩
        obtain ⟨s2, hs2⟩ : ∃ s, t.leaves[kb]? = some s := ⟨t.leaves[kb]'(by rw [← hnl.out]; exact hkbl), List.getElem?_eq_getElem _⟩
        have C1 := fun W => pick_w oka.out hnl0 (by omega) W
        have C2 := fun W => pick_w okb.out hnl0 (by omega) W
        have C3 := fun W => pick_w (n := 5) okk.out (by omega) (by omega) W
        rw [← hka] at C1
        rw [← hkb] at C2
        rw [← hkk] at C3
        obtain ⟨A3x, c3x, e3x, R3, _⟩ := Rd.of_own O3.out
        injection e3x with e3x _ e3y
        subst e3x; subst e3y
        obtain ⟨b3, off3, rfl, _, hcb1⟩ := R3.at_ (boxes_at _ _ hs1)
        obtain ⟨b4, off4, e34, _, hcb2⟩ := R3.at_ (boxes_at _ _ hs2)
        cases e34
        obtain ⟨p1, hp1⟩ : ∃ p, p = s1.n.p := ⟨_, rfl⟩
        obtain ⟨p2, hp2⟩ : ∃ p, p = s2.n.p := ⟨_, rfl⟩
        rw [← hp1] at hcb1
        rw [← hp2] at hcb2
        have hr1 : (0 : Int) ≤ ka := by omega
        have hr2 : (ka : Int) < nl := by omega
        have hr3 : (0 : Int) ≤ kb := by omega
        have hr4 : (kb : Int) < nl := by omega
        replace hs1 := Lib.hid hs1; replace hs2 := Lib.hid hs2; replace hka := Lib.hid hka; replace hkb := Lib.hid hkb; replace hkk := Lib.hid hkk; replace C1 := Lib.hid C1; replace C2 := Lib.hid C2; replace C3 := Lib.hid C3; replace R3 := Lib.hid R3; replace hp1 := Lib.hid hp1; replace hp2 := Lib.hid hp2
        go_wp2_with fail
        refine (C1.out _).mono ?_
        rintro e w3 ⟨rfl, rfl⟩
        go_wp2_with fail
        refine (C2.out _).mono ?_
        rintro e w4 ⟨rfl, rfl⟩
        go_wp2_with fail
        refine (C3.out _).mono ?_
        rintro e w5 ⟨rfl, rfl⟩
        have hwb : w.heap.size ≤ base := by have := B1.out.size; have := hbase.out; omega
        have hg5 := g1.out.trans G3.out
        have hT5 := hT.out.grown hg5
        have hB5 : Below w.heap.size w w5 := hB.out.trans ⟨hg5.os, hg5.tape, hg5.output, hg5.size, fun k hk => hg5.block k (Nat.lt_of_lt_of_le hk hB.out.size) (by simp)⟩
        have hb5 : base ≤ w5.heap.size := Nat.le_trans hT5.lo.1 (Nat.le_of_lt (lt_of_heap hT5.h))
        have lift : ∀ (y : World), Below base w5 y → Below w.heap.size w y := fun y h2 => hB5.trans ⟨h2.os, h2.tape, h2.output, h2.size, fun k hk => h2.block k (Nat.lt_of_lt_of_le hk hwb)⟩
        have hpp1 : p1 ∈ t.er.ps := by rw [← T.leaves_ps, hp1.out]; exact List.mem_map_of_mem (List.mem_of_getElem? hs1.out)
        have hpp2 : p2 ∈ t.er.ps := by rw [← T.leaves_ps, hp2.out]; exact List.mem_map_of_mem (List.mem_of_getElem? hs2.out)
        have CC := close_any base tr t 31 p1 w5 hT5 hb5 hF.out hAl.out hpp1 (by have := hlv.out; omega)
        have CPz := preset_any base tr t 31 o.s w5 hT5 hb5 hF.out (by omega) hAl.out (by have := hlv.out; omega)
        have hw16 : IntKind.i64.wrap ((nl : Int) - 1) = ((nl - 1 : Nat) : Int) := by rw [IntKind.wrap_i64]; omega
        replace hT5 := Lib.hid hT5; replace hB5 := Lib.hid hB5; replace lift := Lib.hid lift; replace hpp1 := Lib.hid hpp1; replace hpp2 := Lib.hid hpp2; replace CC := Lib.hid CC; replace CPz := Lib.hid CPz; replace hg5 := Lib.hid hg5; replace hwb := Lib.hid hwb
        unfold ptr at CC CPz
        go_upto_block 2 with fail
        go_cut [16] (fun v16 wx => ∃ nn : Nat, v16 = .int .i64 nn ∧ Hid (LJ base tr w nn wx))
        case first =>
          obtain rfl | rfl | rfl | rfl | rfl : kk = 0 ∨ kk = 1 ∨ kk = 2 ∨ kk = 3 ∨ kk = 4 := by omega
          · go_wp2_with fail
            refine CC.out.mono ?_
            rintro e w6 ⟨err, t', rfl, hT', hB', hc⟩
            rcases hc with ⟨rfl, rfl⟩ | ⟨rfl, hF', hA', hl'⟩
            · have hfin : LJ base tr w nl w6 := ⟨G, t', hT', hF.out, hAl.out, hlv.out, lift.out _ hB', hnl.out⟩
              replace hfin := Lib.hid hfin; replace hT' := Lib.hid hT'; replace hB' := Lib.hid hB'
              go_wp2_with fail
              go_meet
              exact ⟨nl, rfl, hfin⟩
            · have hfin : LJ base tr w (nl - 1) w6 := ⟨G, t', hT', hF', hA', by have := hlv.out; omega, lift.out _ hB', by have := hnl.out; omega⟩
              replace hfin := Lib.hid hfin; replace hT' := Lib.hid hT'; replace hB' := Lib.hid hB'; replace hF' := Lib.hid hF'; replace hA' := Lib.hid hA'; replace hl' := Lib.hid hl'
              go_wp2_with fail
              go_meet
              exact ⟨nl - 1, by first | rfl | rw [hw16], hfin⟩
          · obtain ⟨kz, hkz⟩ : ∃ k, k = pickN o.n 20 := ⟨_, rfl⟩
            have hkz20 : kz < 20 := by rw [hkz]; exact pickN_lt _ (by omega)
            have C4 : Hid (∀ W, Calls Tryd.prog 9 #[.int .i64 o.n, .int .i64 20] W fun e w' => e = .returned (.int .i64 (kz : Int)) ∧ w' = W) := Lib.hid fun W => by rw [hkz]; exact pick_w (n := 20) okn.out (by omega) (by omega) W
            have CR := resize_any base tr t 31 p1 o.way (1 + (kz : Int)) w5.drew (hT5.out.grown (g_drew (World.grownBy.refl w5 none))) hb5 hF.out hAl.out hpp1.out (by have := hlv.out; omega) okw.out ⟨by omega, by omega⟩
            have hwz : IntKind.i64.wrap (1 + (kz : Int)) = 1 + (kz : Int) := by rw [IntKind.wrap_i64]; omega
            replace hkz := Lib.hid hkz; replace CR := Lib.hid CR
            unfold ptr at CR
            clear CC CPz
            go_upto_region 22 with fail
            refine wp_region_still_tail 8 (by kernel_rfl) (by kernel_rfl) ?_
            simp only [List.take_succ_cons, List.take_zero, List.drop_succ_cons, List.drop_zero]
            repeat still_step
            still_call (C4.out _)
            repeat still_step
            refine wpStill_nil ?_
            change wpList _ _ _ _ _ w5.drew
            go_wp2_with fail
            refine CR.out.mono ?_
            rintro e w6 ⟨err, t', rfl, hT', hB', hF', hA', hl'⟩
            have hfin : LJ base tr w nl w6 := ⟨G, t', hT', hF', hA', by have := hlv.out; omega, lift.out _ ⟨hB'.os, hB'.tape, hB'.output, hB'.size, hB'.block⟩, by rw [hl']; exact hnl.out⟩
            replace hfin := Lib.hid hfin; replace hT' := Lib.hid hT'; replace hB' := Lib.hid hB'; replace hF' := Lib.hid hF'; replace hA' := Lib.hid hA'; replace hl' := Lib.hid hl'
            go_wp2_with fail
            go_meet
            exact ⟨nl, rfl, hfin⟩
          · obtain ⟨z1, hz1⟩ := find_pane hF.out hpp1.out
            obtain ⟨z2, hz2⟩ := find_pane hF.out hpp2.out
            have CSw := swap_any base tr t z1 z2 p1 p2 w5 hT5.out hb5 (by have := hlv.out; omega) (by rw [T.leaves_ps]; exact hF.out.ps) hz1 hz2
            obtain ⟨f1, f2, f3⟩ := fine_sw hpp1.out hpp2.out (by omega) hF.out hAl.out
            replace CSw := Lib.hid CSw; replace f1 := Lib.hid f1; replace f2 := Lib.hid f2; replace f3 := Lib.hid f3; replace hz1 := Lib.hid hz1; replace hz2 := Lib.hid hz2
            unfold ptr at CSw
            clear CC CPz
            go_wp2_with fail
            refine CSw.out.mono ?_
            rintro e w6 ⟨rfl, hT', hB', _⟩
            have hfin : LJ base tr w nl w6 := ⟨G, t.re (sw p1 p2), hT', f1.out, f2.out, by rw [f3.out]; exact hlv.out, lift.out _ hB', by rw [f3.out]; exact hnl.out⟩
            replace hfin := Lib.hid hfin; replace hT' := Lib.hid hT'; replace hB' := Lib.hid hB'
            go_wp2_with fail
            go_meet
            exact ⟨nl, rfl, hfin⟩
          · go_wp2_with fail
            refine CPz.out.mono ?_
            rintro e w6 ⟨err, G', t', rfl, hT', hB', hF', hA', hl'⟩
            have hfin : LJ base tr w nl w6 := ⟨G', t', hT', hF', hA', by have := hlv.out; omega, lift.out _ hB', by rw [hl']; exact hnl.out⟩
            replace hfin := Lib.hid hfin; replace hT' := Lib.hid hT'; replace hB' := Lib.hid hB'; replace hF' := Lib.hid hF'; replace hA' := Lib.hid hA'; replace hl' := Lib.hid hl'
            go_wp2_with fail
            go_meet
            exact ⟨nl, rfl, hfin⟩
          · obtain ⟨kz, hkz⟩ : ∃ k, k = pickN o.a 60 := ⟨_, rfl⟩
            have hkz60 : kz < 60 := by rw [hkz]; exact pickN_lt _ (by omega)
            obtain ⟨ky, hky⟩ : ∃ k, k = pickN o.n 40 := ⟨_, rfl⟩
            have hky40 : ky < 40 := by rw [hky]; exact pickN_lt _ (by omega)
            have C4 : Hid (∀ W, Calls Tryd.prog 9 #[.int .i64 o.a, .int .i64 60] W fun e w' => e = .returned (.int .i64 (kz : Int)) ∧ w' = W) := Lib.hid fun W => by rw [hkz]; exact pick_w (n := 60) oka.out (by omega) (by omega) W
            have C5 : Hid (∀ W, Calls Tryd.prog 9 #[.int .i64 o.n, .int .i64 40] W fun e w' => e = .returned (.int .i64 (ky : Int)) ∧ w' = W) := Lib.hid fun W => by rw [hky]; exact pick_w (n := 40) okn.out (by omega) (by omega) W
            have CF := fit_any base tr t 31 (1 + (kz : Int)) (1 + (ky : Int)) w5.drew (hT5.out.grown (g_drew (World.grownBy.refl w5 none))) hb5 hF.out hAl.out ⟨by omega, by omega⟩ ⟨by omega, by omega⟩
            have hwz : IntKind.i64.wrap (1 + (kz : Int)) = 1 + (kz : Int) := by rw [IntKind.wrap_i64]; omega
            have hwy : IntKind.i64.wrap (1 + (ky : Int)) = 1 + (ky : Int) := by rw [IntKind.wrap_i64]; omega
            replace hkz := Lib.hid hkz; replace hky := Lib.hid hky; replace CF := Lib.hid CF
            unfold ptr at CF
            clear CC CPz
            go_upto_region 28 with fail
            refine wp_region_still_tail 9 (by kernel_rfl) (by kernel_rfl) ?_
            simp only [List.take_succ_cons, List.take_zero, List.drop_succ_cons, List.drop_zero]
            repeat still_step
            still_call (C4.out _)
            repeat still_step
            still_call (C5.out _)
            repeat still_step
            refine wpStill_nil ?_
            change wpList _ _ _ _ _ w5.drew
            go_wp2_with fail
            refine CF.out.mono ?_
            rintro e w6 ⟨err, t', rfl, hT', hB', hF', hA', hl'⟩
            have hfin : LJ base tr w nl w6 := ⟨G, t', hT', hF', hA', by have := hlv.out; omega, lift.out _ ⟨hB'.os, hB'.tape, hB'.output, hB'.size, hB'.block⟩, by rw [hl']; exact hnl.out⟩
            replace hfin := Lib.hid hfin; replace hT' := Lib.hid hT'; replace hB' := Lib.hid hB'; replace hF' := Lib.hid hF'; replace hA' := Lib.hid hA'; replace hl' := Lib.hid hl'
            go_wp2_with fail
            go_meet
            exact ⟨nl, rfl, hfin⟩
        case rest =>
          obtain ⟨nn, rfl, hLJ⟩ := hcut
          obtain ⟨G', t', hT', hF', hA', hl', hB', hnn⟩ := hLJ.out
          have CT := tiles_any base tr t' wc hT' hF'.tile (by omega)
          have CBz := fun W (g : wc.grownBy W none) => boxes_any base tr t' W (hT'.grown g) (by omega)
          rw [← hnn] at CBz
          have hnn1 : nn ≤ 31 := by omega
          replace hT' := Lib.hid hT'; replace hF' := Lib.hid hF'; replace hA' := Lib.hid hA'; replace hB' := Lib.hid hB'; replace hnn := Lib.hid hnn; replace CT := Lib.hid CT; replace CBz := Lib.hid CBz; replace hl' := Lib.hid hl'; replace hLJ := Lib.hid hLJ
          unfold ptr at CT CBz
          clear CC CPz
          go_wp2_with fail
          refine CT.out.mono ?_
          rintro e w7 ⟨rfl, G7⟩
          have CBy := CBz.out w7 G7
          replace CBy := Lib.hid CBy; replace G7 := Lib.hid G7
          go_wp2_with fail
          refine CBy.out.mono ?_
          rintro e w8 ⟨A8, c8, rfl, O8, G8⟩
          replace O8 := Lib.hid O8; replace G8 := Lib.hid G8
          go_wp2_with fail
          have g78 := G7.out.trans G8.out
          have hfin : LI base tr w w8 := ⟨G', t', hT'.out.grown g78, hF'.out, hA'.out, hl'.out, hB'.out.trans ⟨g78.os, g78.tape, g78.output, g78.size, fun k hk => g78.block k (Nat.lt_of_lt_of_le hk hB'.out.size) (by simp)⟩⟩
          exact ⟨⟨j + 1, by omega, by go_num, Lib.hid hfin⟩, by simp [intOf]; omega⟩
      · go_wp2_with fail
        refine (hEx.out wr hI.out).mono ?_
        rintro e w5 ⟨rfl, hB5⟩
        go_wp2_with fail
        go_ret
        exact ⟨rfl, hB5⟩
    · obtain rfl : j = len2 := by omega
      go_wp2_with fail
      refine (hEx.out wr hI.out).mono ?_
      rintro e w5 ⟨rfl, hB5⟩
      go_wp2_with fail
      go_ret
      exact ⟨rfl, hB5⟩
end Go.Proofs.YtcklmkjlbpjojaaDoor.X
