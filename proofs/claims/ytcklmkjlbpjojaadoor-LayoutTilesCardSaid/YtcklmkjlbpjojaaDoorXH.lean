/- Layout: Replace, into a new row and at the end of one. -/
import Derived.Test.YtcklmkjlbpjojaaDoorXG
import Derived.Deep.AppendSrc
namespace Go.Proofs.YtcklmkjlbpjojaaDoor.X
open Go.RowKit Go.Lib
set_option linter.unusedSimpArgs false
set_option linter.unusedVariables false

set_option maxHeartbeats 4000000 in
set_option maxRecDepth 100000 in
theorem replace_grow (B o n c i vB vo vc m : Nat) (l vs : List T) (cur curv : List Value) (w : World) (hn : n = l.length) (hi : i + 1 < n) (hb : n ≤ 1000) (hm : m = vs.length) (hm2 : 2 ≤ m) (hmb : m ≤ 1000) (hroom : c + 1 < n + m)
    (hP : PRow w B o c n (ptrs l) cur) (hV : PRow w vB vo vc m (ptrs vs) curv) :
    Calls Tryd.prog 39 #[.slice (some ⟨B, o, none⟩) n c, .int .i64 i, .int .i64 ((i : Int) + 1), .slice (some ⟨vB, vo, none⟩) m vc] w (RepP w B o c cur l vs i) := by
  have hh := hP.h; have hnc := hP.nc; have hc63 := hP.cm; have hoc := hP.oc; have htk := hP.xs
  have hvh := hV.h; have hvc := hV.nc; have hvc63 := hV.cm; have hvoc := hV.oc; have hvt := hV.xs
  obtain ⟨i0, hi0, hz0, hzs, hzb⟩ := info_parts info55
  have hsz : (Tryd.prog.info? 55).map (·.size) = some 1 := by rw [hi0]; simp [hzs]
  have hpl : (ptrs l).length = n := by rw [ptrs_len, hn]
  have hvpl : (ptrs vs).length = m := by rw [ptrs_len, hm]
  have hbw : B < w.heap.size := lt_of_heap hh
  have hvw : vB < w.heap.size := lt_of_heap hvh
  obtain ⟨tot, htot⟩ : ∃ tot, tot + 1 = n + m := ⟨n + m - 1, by omega⟩
  have hcellp : ∀ j v, (ptrs l)[j]? = some v → w.cell? ⟨B, o + j, none⟩ = some v := fun j v hj => hP.cell hj
  have hcellv : ∀ j v, (ptrs vs)[j]? = some v → w.cell? ⟨vB, vo + j, none⟩ = some v := fun j v hj => hV.cell hj
  have hold : (Builtin.firstCells i0.size i (.slice (some ⟨B, o, none⟩) i c)).run Tryd.prog w.drew.drew = .ok ((ptrs l).take i).toArray w.drew.drew := by
    rw [hzs]
    exact run_firstCells_some w.drew.drew 1 i ⟨B, o, none⟩ i c ((ptrs l).take i) (by rw [List.length_take]; omega) (fun j v hj => by
      rw [Addr.add_lit]
      rw [List.getElem?_take] at hj
      split at hj
      · exact hcellp j v hj
      · cases hj)
  have hkk : (tot : Int) - (i : Int) = ((tot - i : Nat) : Int) := by omega
  have hik : i + (tot - i) = tot := by omega
  obtain ⟨G, hG⟩ : ∃ G, G = grownCap w.drew tot c 55 := ⟨_, rfl⟩
  have hrz0 := fun ty => Lib.run_append_grow_zeros w.drew 53 3 ty 55 i0 _ .i64 .i64 Tryd.underlying53 Tryd.underlying3 hi0 hz0 (some ⟨B, o, none⟩) i c ((ptrs l).take i) hold (tot - i) (by omega) (by omega) (by omega) (by omega) (by rw [hzb]; omega) (by rw [hzb, hik]; exact growslice_fits (by omega) (by omega))
  rw [hik] at hrz0
  rw [← hG] at hrz0
  obtain ⟨ROW, hROW⟩ : ∃ ROW : Array Value, ROW = ((ptrs l).take i).toArray ++ Builtin.zeroCells (Value.pointer none).cells (tot - i) ++ Builtin.zeroCells (Value.pointer none).cells (G - tot) := ⟨_, rfl⟩
  rw [← hROW] at hrz0
  have hrz : ∀ ty, (Builtin.append_ #[53, 3] ty #[.slice (some ⟨B, o, none⟩) i c, .int .i64 ((tot : Int) - (i : Int))]).run Tryd.prog w.drew = .ok (.slice (some ⟨w.heap.size, 0, none⟩) tot G) (w.drew.drew.alloc (.cells ROW 55)) := fun ty => by rw [hkk]; exact hrz0 ty
  have hGn : tot ≤ G := by rw [hG]; exact grownCap_ge w.drew _ _ _
  have hG63 : G ≤ 9223372036854775807 := by
    have := grownCap_le_maxLen w.drew tot c 55 (by unfold maxLen; omega)
    rw [← hG] at this; exact this
  have hRl : ROW.toList.length = G := by
    rw [hROW]
    simp [Builtin.zeroCells, Value.cells, ptrs_len]
    omega
  have hRt : ROW.toList.take i = (ptrs l).take i := by
    rw [hROW]
    simp only [Array.toList_append, List.append_assoc]
    rw [List.take_append_of_le_length (by simp [ptrs_len]; omega)]
    rw [List.take_of_length_le (by simp [ptrs_len]; omega)]
  obtain ⟨W1, hW1⟩ : ∃ W1, W1 = w.drew.drew.alloc (.cells ROW 55) := ⟨_, rfl⟩
  rw [← hW1] at hrz
  have hh1 : W1.heap[w.heap.size]? = some (.cells ROW.toList.toArray 55 (0, 0)) := by rw [hW1]; simpa using heap_alloc_new w.drew.drew (.cells ROW 55)
  have g1 : w.grownBy W1 none := by rw [hW1]; exact (g_drew (g_drew (World.grownBy.refl w none))).trans (World.grownBy_alloc w.drew.drew _ none)
  have hN : ∀ j, j < tot → (W1.cell? ⟨w.heap.size, j, none⟩).isSome = true := fun j hj => by
    unfold World.cell?; rw [hh1]; simp at hRl; simp; omega
  have hNf : ∀ j, W1.frozen? ⟨w.heap.size, j, none⟩ = false := fun j => by unfold World.frozen?; rw [hh1]; simp
  have hbN : B ≠ w.heap.size := by omega
  have hdl : ((ptrs l).drop (i + 1)).length = n - (i + 1) := by rw [List.length_drop, hpl]
  have hcpA : ∀ ty dc, (Builtin.copy_ #[53, 53] ty #[.slice (some ⟨w.heap.size, i, none⟩) (tot - i) dc, .slice (some ⟨vB, vo, none⟩) m vc]).run Tryd.prog W1 = .ok (goInt (ptrs vs).length) (W1.setCells w.heap.size i (ptrs vs)) := fun ty dc =>
    run_copy_cells W1 _ _ ty 55 w.heap.size i (tot - i) dc ⟨vB, vo, none⟩ m vc (ptrs vs) Tryd.underlying53 hsz (by rw [hvpl]; simp only [Nat.min_def]; split <;> omega)
      (fun j v hj => by
        rw [Addr.add_lit]
        exact g1.cell (hcellv j v hj) (by simp))
      (fun j hj => by rw [hvpl] at hj; exact hN _ (by omega)) (fun j hj => hNf _) (fun v hv => ptrs_one vs v hv)
  obtain ⟨W2, hW2⟩ : ∃ W2, W2 = W1.setCells w.heap.size i (ptrs vs) := ⟨_, rfl⟩
  rw [← hW2] at hcpA
  have hcpB : ∀ ty dc sc, (Builtin.copy_ #[53, 53] ty #[.slice (some ⟨w.heap.size, i + m, none⟩) (tot - (i + m)) dc, .slice (some ⟨B, o + (i + 1), none⟩) (n - (i + 1)) sc]).run Tryd.prog W2.drew = .ok (goInt ((ptrs l).drop (i + 1)).length) (W2.drew.setCells w.heap.size (i + m) ((ptrs l).drop (i + 1))) := fun ty dc sc =>
    run_copy_cells W2.drew _ _ ty 55 w.heap.size (i + m) (tot - (i + m)) dc ⟨B, o + (i + 1), none⟩ (n - (i + 1)) sc ((ptrs l).drop (i + 1)) Tryd.underlying53 hsz (by rw [hdl]; simp only [Nat.min_def]; split <;> omega)
      (fun j v hj => by
        show W2.cell? _ = _
        rw [Addr.add_lit, Nat.add_assoc, hW2, World.cell?_setCells_out _ _ _ _ _ (fun h _ => absurd h hbN)]
        exact g1.cell (hcellp (i + 1 + j) v (by rwa [List.getElem?_drop] at hj)) (by simp))
      (fun j hj => by
        show (W2.cell? _).isSome = true
        rw [hdl] at hj
        rw [hW2]; exact isSome_setCells _ _ _ _ (fun t ht => hN _ (by rw [hvpl] at ht; omega)) _ (hN _ (by omega)))
      (fun j hj => by show W2.frozen? _ = _; rw [hW2, World.frozen?_setCells]; exact hNf _) (fun v hv => ptrs_one l v (List.mem_of_mem_drop hv))
  have hi1 : ¬ ((i : Int) = (i : Int) + 1) := by omega
  have hi2 : (0 : Int) ≤ (i : Int) + 1 := by omega
  have hi3 : (i : Int) ≤ (i : Int) + 1 := by omega
  have hi5 : (i : Int) + 1 ≤ (c : Int) := by omega
  have hi6 : (i : Int) + 1 ≤ (n : Int) := by omega
  have hi7 : ¬ ((i : Int) + 1 = (n : Int)) := by omega
  have htn : ((i : Int) + 1).toNat = i + 1 := by omega
  have hin : i ≤ n := by omega
  have hic : i ≤ c := by omega
  have hci1 : ¬ (c = i + 1) := by omega
  have hw1 : IntKind.i64.wrap ((i : Int) + (m : Int)) = (i : Int) + (m : Int) := by rw [IntKind.wrap_i64]; omega
  have hj1 : (0 : Int) ≤ (i : Int) + (m : Int) := by omega
  have hj2 : ((i : Int) + (m : Int)).toNat = i + m := by omega
  have hj3 : (i : Int) + (m : Int) ≤ (tot : Int) := by omega
  have hj4 : ¬ (G = i + m) := by omega
  have hj5 : ¬ ((tot : Int) ≤ (c : Int)) := by omega
  have hj6 : ¬ (G = i) := by omega
  have hj7 : (i : Int) ≤ (tot : Int) := by omega
  have hw2 : IntKind.i64.wrap ((i : Int) + (m : Int) + ((n - (i + 1) : Nat) : Int)) = (tot : Int) := by rw [IntKind.wrap_i64]; omega
  have hw3 : IntKind.i64.wrap ((tot : Int) - (i : Int)) = (tot : Int) - (i : Int) := by rw [IntKind.wrap_i64]; omega
  replace hW2 := Lib.hid hW2; replace hW1 := Lib.hid hW1; replace hP := Lib.hid hP; replace hV := Lib.hid hV; replace hoc := Lib.hid hoc; replace hvoc := Lib.hid hvoc; replace hn := Lib.hid hn; replace hm := Lib.hid hm; replace hcellp := Lib.hid hcellp; replace hcellv := Lib.hid hcellv; replace hROW := Lib.hid hROW; replace hh1 := Lib.hid hh1; replace hRl := Lib.hid hRl; replace hRt := Lib.hid hRt; replace g1 := Lib.hid g1; replace hG := Lib.hid hG
  replace hN := Lib.hid hN; replace hNf := Lib.hid hNf; replace hold := Lib.hid hold; replace hh := Lib.hid hh; replace hvh := Lib.hid hvh; replace htk := Lib.hid htk; replace hvt := Lib.hid hvt; replace hpl := Lib.hid hpl; replace hvpl := Lib.hid hvpl; replace hdl := Lib.hid hdl
  replace hcpA := Lib.hid hcpA; replace hcpB := Lib.hid hcpB; replace hrz := Lib.hid hrz
  clear hrz0 hkk hik
  go_enter Tryd.func39, Tryd.ntmps39
  go_upto_region 9 with fail
  refine wp_region_still_tail 12 (by kernel_rfl) (by kernel_rfl) ?_
  simp only [List.take_succ_cons, List.take_zero, List.drop_succ_cons, List.drop_zero]
  repeat still_step
  refine wpStill_nil ?_
  change wpList _ _ _ _ _ w.drew
  have hrz' := hrz.out
  have hcpA' := hcpA.out
  go_wp2_with (first
    | (at_builtin; go_must (refine Lib.wpList_append_run _ rfl _ _ _ _ rfl _ _ rfl rfl _ _ (hrz' _) ?_))
    | (at_builtin; go_must (refine wpList_copy_runI _ rfl _ _ 53 53 rfl _ _ rfl rfl (hcpA' _ _) ?_))
    | fail)
  go_still_tail 9, (by kernel_rfl)
  change wpList _ _ _ _ _ W2.drew
  have hcpB' := hcpB.out
  go_wp2_with (first
    | (at_builtin; go_must (refine wpList_copy_runI _ rfl _ _ 53 53 rfl _ _ rfl rfl (hcpB' _ _ _) ?_))
    | fail)
  go_ret
  have hRl2 := hRl.out; have hvpl' := hvpl.out; have hpl' := hpl.out; have hdl' := hdl.out
  have h2 := heap_setCells (ptrs vs) i W1 ROW.toList hh1.out (by rw [hRl2, hvpl']; omega)
  rw [← hW2.out] at h2
  obtain ⟨L2, hL2⟩ : ∃ L2, L2 = ROW.toList.take i ++ ptrs vs ++ ROW.toList.drop (i + (ptrs vs).length) := ⟨_, rfl⟩
  rw [← hL2] at h2
  have a1 : (ROW.toList.take i ++ ptrs vs).length = i + m := by rw [List.length_append, List.length_take, hRl2, hvpl']; omega
  have hl2 : L2.length = G := by
    rw [hL2, List.length_append, a1, List.length_drop, hRl2, hvpl']; omega
  have h3 := heap_setCells ((ptrs l).drop (i + 1)) (i + m) W2.drew L2 h2 (by rw [hdl', hl2]; omega)
  have htk : L2.take (i + m) = (ptrs l).take i ++ ptrs vs := by
    rw [hL2, List.take_append_of_le_length (by omega), List.take_of_length_le (by omega), hRt.out]
  rw [htk] at h3
  have a4 : ((ptrs l).take i ++ ptrs vs ++ (ptrs l).drop (i + 1)).length = tot := by simp only [List.length_append, List.length_take, hdl', hpl', hvpl']; omega
  have hg : w.grownBy (W2.drew.setCells w.heap.size (i + m) ((ptrs l).drop (i + 1))) none := by
    rw [hW2.out]
    have q0 := g1.out
    have q1 := grownBy_setCells (w := w) (b := w.heap.size) (ptrs vs) i W1
    have q2 := grownBy_setCells (w := w) (b := w.heap.size) ((ptrs l).drop (i + 1)) (i + m) (W1.setCells w.heap.size i (ptrs vs)).drew
    refine ⟨q2.os.trans (q1.os.trans q0.os), q2.tape.trans (q1.tape.trans q0.tape), q2.output.trans (q1.output.trans q0.output), Nat.le_trans q0.size (Nat.le_trans q1.size q2.size), fun k hk _ => ?_⟩
    have hne : some k ≠ some w.heap.size := by intro e; injection e with e; omega
    exact (q2.block k (Nat.lt_of_lt_of_le hk (Nat.le_trans q0.size q1.size)) hne).trans ((q1.block k (Nat.lt_of_lt_of_le hk q0.size) hne).trans (q0.block k hk (by simp)))
  obtain ⟨L3, hL3⟩ : ∃ L3, L3 = (ptrs l).take i ++ ptrs vs ++ (ptrs l).drop (i + 1) ++ L2.drop (i + m + ((ptrs l).drop (i + 1)).length) := ⟨_, rfl⟩
  rw [← hL3] at h3
  have hl3 : L3.length = G := by rw [hL3, List.length_append, a4, List.length_drop, hl2, hdl']; omega
  refine ⟨tot, by rw [← hn.out, ← hm.out]; omega, .inr ⟨w.heap.size, G, L3, rfl, Nat.le_refl _, lt_of_heap h3, by omega, hl3, ⟨h3, hGn, hG63, by omega, ?_⟩, hg⟩⟩
  rw [List.drop_zero, hL3, List.take_append_of_le_length (by omega), List.take_of_length_le (by omega)]
  simp [ptrs, List.map_take, List.map_drop]

set_option maxHeartbeats 400000 in
set_option maxRecDepth 100000 in
theorem replace_end (B o n c vB vo vc m : Nat) (l vs : List T) (cur curv : List Value) (w : World) (hn : n + 1 = l.length) (hb : n ≤ 1000) (hm : m = vs.length) (hm2 : 2 ≤ m) (hmb : m ≤ 1000)
    (hP : PRow w B o c (n + 1) (ptrs l) cur) (hV : PRow w vB vo vc m (ptrs vs) curv) :
    Calls Tryd.prog 39 #[.slice (some ⟨B, o, none⟩) (n + 1) c, .int .i64 n, .int .i64 ((n : Int) + 1), .slice (some ⟨vB, vo, none⟩) m vc] w (RepP w B o c cur l vs n) := by
  have hh := hP.h; have hnc := hP.nc; have hc63 := hP.cm; have hoc := hP.oc; have htk := hP.xs
  have hvc := hV.nc; have hvc63 := hV.cm; have hvoc := hV.oc
  obtain ⟨i0, hi0, hz0, hzs, hzb⟩ := info_parts info55
  have hpl : (ptrs l).length = n + 1 := by rw [ptrs_len, hn]
  have hvpl : (ptrs vs).length = m := by rw [ptrs_len, hm]
  have hxs : l.take n ++ vs ++ l.drop (n + 1) = l.take n ++ vs := by rw [List.drop_of_length_le (by omega), List.append_nil]
  have hS : ∀ W : World, W.heap = w.heap → Src Tryd.prog i0.size 53 (.slice (some ⟨vB, vo, none⟩) m vc) m (ptrs vs) W := fun W hW =>
    Src.ofSlice W Tryd.underlying53 ⟨vB, vo, none⟩ _ _ _ (by rw [hzs]; omega) (fun j u hj => by rw [Addr.add_lit]; have := hV.cell hj; unfold World.cell? at this ⊢; rw [hW]; exact this) (fun u hu => ptrs_one vs u hu)
  have hi1 : ¬ ((n : Int) = (n : Int) + 1) := by omega
  have hi2 : (0 : Int) ≤ (n : Int) + 1 := by omega
  have hi3 : (n : Int) ≤ (n : Int) + 1 := by omega
  have hi4 : (n : Int) ≤ (c : Int) := by omega
  have hi5 : (n : Int) + 1 ≤ (c : Int) := by omega
  have htn : ((n : Int) + 1).toNat = n + 1 := by omega
  have hlt : ¬ ((n : Int) + (m : Int) < (n : Int) + 1) := by omega
  have htn2 : ((n : Int) + (m : Int)).toNat = n + m := by omega
  by_cases hroom : n + m ≤ c
  · have hrun : ∀ W : World, W.heap = w.heap → ∀ ty, (Builtin.append_ #[53, 53] ty #[.slice (some ⟨B, o, none⟩) n c, .slice (some ⟨vB, vo, none⟩) m vc]).run Tryd.prog W = .ok (.slice (some ⟨B, o, none⟩) (n + m) c) (W.setCells B (o + n) (ptrs vs)) := fun W hW ty => by
      have := run_append_room_src (P := Tryd.prog) (w := W) 53 53 ty 55 i0 Tryd.underlying53 hi0 B o n c _ m (ptrs vs) (hS W hW) hroom
        (fun j hj => by rw [hvpl] at hj; rw [hzs, Nat.mul_one, Nat.add_assoc]; obtain ⟨v, hv⟩ := hP.some (j := n + j) (by omega); unfold World.cell? at hv ⊢; rw [hW, hv]; rfl)
        (fun j hj => by have := hP.free (o + n * i0.size + j); unfold World.frozen? at this ⊢; rw [hW]; exact this)
      rw [hzs, Nat.mul_one] at this
      exact this
    have hfin : ∀ W : World, W.heap = w.heap → W.os = w.os → W.tape = w.tape → W.output = w.output → RepP w B o c cur l vs n (.returned (.slice (some ⟨B, o, none⟩) (n + m) c)) (W.setCells B (o + n) (ptrs vs)) := fun W hW q1 q2 q3 => by
      have h2 := heap_setCells (ptrs vs) (o + n) W cur (by rw [hW]; exact hh) (by rw [hvpl]; omega)
      obtain ⟨L3, hL3⟩ : ∃ L3, L3 = cur.take (o + n) ++ ptrs vs ++ cur.drop (o + n + (ptrs vs).length) := ⟨_, rfl⟩
      rw [← hL3] at h2
      have a0 : (cur.take (o + n)).length = o + n := by rw [List.length_take]; omega
      have hl3 : L3.length = cur.length := by rw [hL3]; simp only [List.length_append, a0, hvpl, List.length_drop]; omega
      have g1 := grownBy_setCells (w := w) (b := B) (ptrs vs) (o + n) W
      have g0 : w.grownBy W (some B) := ⟨q1, q2, q3, by rw [hW]; exact Nat.le_refl _, fun k _ _ => by rw [hW]⟩
      refine ⟨n + m, by omega, .inl ⟨L3, rfl, ⟨h2, hroom, hc63, by omega, ?_⟩, ⟨hl3, fun j hj => ?_, h2, g0.trans g1⟩⟩⟩
      · have e4 : (cur.take (o + n)).drop o = (ptrs l).take n := by
          rw [List.drop_take, Nat.add_sub_cancel_left, ← htk, List.take_take, Nat.min_eq_left (by omega)]
        have a4 : ((ptrs l).take n ++ ptrs vs).length = n + m := by simp only [List.length_append, List.length_take, hpl, hvpl]; omega
        rw [hL3, List.append_assoc, List.drop_append_of_le_length (by omega), e4, ← List.append_assoc, List.take_append_of_le_length (by omega), List.take_of_length_le (by omega), hxs]
        simp [ptrs, List.map_take]
      · rw [hL3]
        rcases hj with hj | hj
        · rw [List.append_assoc, List.getElem?_append_left (by omega), List.getElem?_take, if_pos (by omega)]
        · rw [List.getElem?_append_right (by simp only [List.length_append, a0, hvpl]; omega), List.getElem?_drop]
          congr 1
          simp only [List.length_append, a0, hvpl]
          omega
    replace hfin := Lib.hid hfin; replace hrun := Lib.hid hrun
    replace hP := Lib.hid hP; replace hV := Lib.hid hV; replace hn := Lib.hid hn; replace hm := Lib.hid hm; replace hh := Lib.hid hh; replace htk := Lib.hid htk; replace hoc := Lib.hid hoc; replace hvoc := Lib.hid hvoc; replace hS := Lib.hid hS; replace hxs := Lib.hid hxs; replace hpl := Lib.hid hpl; replace hvpl := Lib.hid hvpl; replace hi0 := Lib.hid hi0; replace hz0 := Lib.hid hz0; replace hzs := Lib.hid hzs; replace hzb := Lib.hid hzb
    go_enter Tryd.func39, Tryd.ntmps39
    go_wp2_with (first
      | (at_builtin; go_must (refine Lib.wpList_append_run _ rfl _ _ _ _ rfl _ _ rfl rfl _ _ (hrun.out _ rfl _) ?_))
      | fail)
    all_goals
      go_ret
      exact hfin.out _ rfl rfl rfl rfl
  · have hold : ∀ W : World, W.heap = w.heap → (Builtin.firstCells i0.size n (.slice (some ⟨B, o, none⟩) n c)).run Tryd.prog W = .ok ((ptrs l).take n).toArray W := fun W hW => by
      rw [hzs]
      exact run_firstCells_some W 1 n ⟨B, o, none⟩ n c ((ptrs l).take n) (by rw [List.length_take]; omega) (fun j v hj => by
        rw [Addr.add_lit]
        rw [List.getElem?_take] at hj
        split at hj
        · have := hP.cell hj; unfold World.cell? at this ⊢; rw [hW]; exact this
        · cases hj)
    have hfin : ∀ W : World, W.heap = w.heap → W.os = w.os → W.tape = w.tape → W.output = w.output → ∃ b' c' W', (∀ ty, (Builtin.append_ #[53, 53] ty #[.slice (some ⟨B, o, none⟩) n c, .slice (some ⟨vB, vo, none⟩) m vc]).run Tryd.prog W = .ok (.slice (some ⟨b', 0, none⟩) (n + m) c') W') ∧ RepP w B o c cur l vs n (.returned (.slice (some ⟨b', 0, none⟩) (n + m) c')) W' := fun W hW q1 q2 q3 => by
      obtain ⟨Gc, hGc⟩ : ∃ Gc, Gc = grownCap W (n + m) c 55 := ⟨_, rfl⟩
      have hG1 : n + m ≤ Gc := by rw [hGc]; exact grownCap_ge W _ _ _
      have hG2 : Gc ≤ 9223372036854775807 := by
        have := grownCap_le_maxLen W (n + m) c 55 (by unfold maxLen; omega)
        rw [← hGc] at this; exact this
      have hrun := fun ty => run_append_grow_src (P := Tryd.prog) (w := W) 53 53 ty 55 i0 _ Tryd.underlying53 hi0 hz0 (some ⟨B, o, none⟩) n c ((ptrs l).take n) (hold W.drew hW) _ m (ptrs vs) (hS W hW) (by omega) (by omega) (by rw [hzb]; exact growslice_fits (by omega) (by omega))
      rw [← hGc] at hrun
      obtain ⟨ROW, hROW⟩ : ∃ ROW : Array Value, ROW = ((ptrs l).take n ++ ptrs vs).toArray ++ Builtin.zeroCells (Value.pointer none).cells (Gc - (n + m)) := ⟨_, rfl⟩
      rw [← hROW] at hrun
      have a4 : ((ptrs l).take n ++ ptrs vs).length = n + m := by simp only [List.length_append, List.length_take, hpl, hvpl]; omega
      have hRl : ROW.toList.length = Gc := by
        rw [hROW]; simp only [Array.toList_append, List.length_append, a4]
        simp [Builtin.zeroCells, Value.cells]; omega
      have hh1 : (W.drew.alloc (.cells ROW 55)).heap[W.heap.size]? = some (.cells ROW.toList.toArray 55 (0, 0)) := by simpa using heap_alloc_new W.drew (.cells ROW 55)
      have g1 : W.grownBy (W.drew.alloc (.cells ROW 55)) none := (g_drew (World.grownBy.refl W none)).trans (World.grownBy_alloc W.drew _ none)
      refine ⟨W.heap.size, Gc, _, hrun, n + m, by omega, .inr ⟨W.heap.size, Gc, ROW.toList, rfl, by rw [hW]; exact Nat.le_refl _, lt_of_heap hh1, by omega, hRl, ⟨hh1, hG1, hG2, by omega, ?_⟩, ⟨g1.os.trans q1, g1.tape.trans q2, g1.output.trans q3, by rw [← hW]; exact g1.size, fun k hk hn => by rw [← hW]; exact g1.block k (by rw [hW]; exact hk) hn⟩⟩⟩
      rw [List.drop_zero, hROW, Array.toList_append, List.take_append_of_le_length (by simp only []; omega), List.take_of_length_le (by simp only []; omega), hxs]
      simp [ptrs, List.map_take]
    replace hfin := Lib.hid hfin
    replace hP := Lib.hid hP; replace hV := Lib.hid hV; replace hn := Lib.hid hn; replace hm := Lib.hid hm; replace hh := Lib.hid hh; replace htk := Lib.hid htk; replace hoc := Lib.hid hoc; replace hvoc := Lib.hid hvoc; replace hS := Lib.hid hS; replace hxs := Lib.hid hxs; replace hpl := Lib.hid hpl; replace hvpl := Lib.hid hvpl; replace hi0 := Lib.hid hi0; replace hz0 := Lib.hid hz0; replace hzs := Lib.hid hzs; replace hzb := Lib.hid hzb; replace hold := Lib.hid hold
    obtain ⟨b', c', W', hrun, hpost⟩ := hfin.out w rfl rfl rfl rfl
    replace hpost := Lib.hid hpost; replace hrun := Lib.hid hrun
    go_enter Tryd.func39, Tryd.ntmps39
    go_wp2_with (first
      | (at_builtin; go_must (refine Lib.wpList_append_run _ rfl _ _ _ _ rfl _ _ rfl rfl _ _ (hrun.out _) ?_))
      | fail)
    all_goals
      go_ret
      exact hpost.out
theorem replace_any (B o n c i vB vo vc m : Nat) (l vs : List T) (cur curv : List Value) (w : World) (hn : n = l.length) (hi : i < n) (hb : n ≤ 1000) (hm : m = vs.length) (hm2 : 2 ≤ m) (hmb : m ≤ 1000)
    (hP : PRow w B o c n (ptrs l) cur) (hV : PRow w vB vo vc m (ptrs vs) curv) (hsep : Sep B o c vB vo vc) :
    Calls Tryd.prog 39 #[.slice (some ⟨B, o, none⟩) n c, .int .i64 i, .int .i64 ((i : Int) + 1), .slice (some ⟨vB, vo, none⟩) m vc] w (RepP w B o c cur l vs i) := by
  rcases Nat.lt_or_ge (i + 1) n with h1 | h1
  · rcases Nat.lt_or_ge (c + 1) (n + m) with h2 | h2
    · exact replace_grow B o n c i vB vo vc m l vs cur curv w hn h1 hb hm hm2 hmb h2 hP hV
    · exact replace_shift B o n c i vB vo vc m l vs cur curv w hn h1 hb hm hm2 hmb h2 hP hV hsep
  · obtain rfl : n = i + 1 := by omega
    exact replace_end B o i c vB vo vc m l vs cur curv w hn (by omega) hm hm2 hmb hP hV
end Go.Proofs.YtcklmkjlbpjojaaDoor.X
