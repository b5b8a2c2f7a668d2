/- Layout: the walk of LayoutNeighbours. -/
import Derived.Test.YtcklmkjlbpjojaaDoorL1
import Derived.Test.YtcklmkjlbpjojaaDoorH2
import Derived.Test.YtcklmkjlbpjojaaDoorH6
import Derived.Test.YtcklmkjlbpjojaaDoorH12
import Derived.Test.YtcklmkjlbpjojaaDoorN1
namespace Go.Proofs.YtcklmkjlbpjojaaDoor
open Go.RowKit
set_option linter.unusedSimpArgs false
set_option linter.unusedVariables false

set_option maxHeartbeats 2000000 in
set_option maxRecDepth 100000 in
theorem undoes_any (a0 b0 a1 z : Int) (bd : Bool) (A : Option Addr) (len c : Nat) (l : List OpW) (w : World) (i1 : I64 a0) (i2 : I64 b0) (i3 : I64 a1) (i4 : I64 z) (hlen : len = l.length) (hl63 : len ≤ 9223372036854775807) (hO : ∀ o ∈ l, o.ok) (hR : Rd w A (opCells l)) (hTab : Tab w) (hD : Deb w) :
    Calls Tryd.prog 3 #[.int .i64 a0, .int .i64 b0, .slice A len c, .int .i64 a1, .bool bd, .int .i64 z] w fun e w' => e = .returned (.bool true) ∧ Below w.heap.size w w' := by
  have CS := Lib.hid (shown_any w hTab hD)
  obtain ⟨wd, hwd⟩ : ∃ wd : Nat, wd = pickN a0 60 := ⟨_, rfl⟩
  obtain ⟨ht, hht⟩ : ∃ ht : Nat, ht = pickN b0 40 := ⟨_, rfl⟩
  have hwd60 : wd < 60 := by rw [hwd]; exact pickN_lt _ (by omega)
  have hht40 : ht < 40 := by rw [hht]; exact pickN_lt _ (by omega)
  have CP1 : Hid (∀ W, Calls Tryd.prog 9 #[.int .i64 a0, .int .i64 60] W fun e w' => e = .returned (.int .i64 (wd : Int)) ∧ w' = W) := Lib.hid fun W => by
    rw [hwd]; exact (pick_any a0 60 W i1.1 i1.2 (by omega) (by omega)).mono fun e w' h => ⟨h.1, h.2.symm⟩
  have CP2 : Hid (∀ W, Calls Tryd.prog 9 #[.int .i64 b0, .int .i64 40] W fun e w' => e = .returned (.int .i64 (ht : Int)) ∧ w' = W) := Lib.hid fun W => by
    rw [hht]; exact (pick_any b0 40 W i2.1 i2.2 (by omega) (by omega)).mono fun e w' h => ⟨h.1, h.2.symm⟩
  have hw1 : IntKind.i64.wrap (1 + (wd : Int)) = 1 + (wd : Int) := by rw [IntKind.wrap_i64]; omega
  have hw2 : IntKind.i64.wrap (1 + (ht : Int)) = 1 + (ht : Int) := by rw [IntKind.wrap_i64]; omega
  replace hwd := Lib.hid hwd; replace hht := Lib.hid hht; replace hO := Lib.hid hO; replace hR := Lib.hid hR; replace hTab := Lib.hid hTab; replace hD := Lib.hid hD; replace hlen := Lib.hid hlen
  replace i1 := Lib.hid i1; replace i2 := Lib.hid i2; replace i3 := Lib.hid i3; replace i4 := Lib.hid i4
  go_enter Tryd.func3, Tryd.ntmps3
  go_wp2_with fail
  refine CS.out.mono ?_
  rintro e w1 ⟨rfl, B1⟩
  have CM := Lib.hid (made_any (1 + (wd : Int)) (1 + (ht : Int)) A len c l w1 (by omega) hlen.out hl63 hO.out (OpsIn.below hR.out B1))
  replace B1 := Lib.hid B1
  clear CS
  go_wp2_with fail
  refine (CP1.out _).mono ?_
  rintro e w2 ⟨rfl, rfl⟩
  go_wp2_with fail
  refine (CP2.out _).mono ?_
  rintro e w3 ⟨rfl, rfl⟩
  clear CP1 CP2
  go_wp2_with fail
  refine CM.out.mono ?_
  rintro e w4 ⟨tr, t, rfl, hT4, hF, B4, hlv⟩
  obtain ⟨base, hbase⟩ : ∃ base, base = w3.heap.size := ⟨_, rfl⟩
  rw [← hbase] at hT4 B4
  have CB := Lib.hid (boxes_any base tr t w4 hT4 (by omega))
  obtain ⟨nl, hnl⟩ : ∃ nl, nl = t.leaves.length := ⟨_, rfl⟩
  have hnl0 : 1 ≤ nl := by rw [hnl]; exact List.length_pos_iff.2 (leaves_ne t)
  rw [← hnl] at CB hlv
  obtain ⟨k1, hk1⟩ : ∃ k, k = pickN a1 nl := ⟨_, rfl⟩
  have hk1l : k1 < nl := by rw [hk1]; exact pickN_lt _ (by omega)
  have CP3 : Hid (∀ W, Calls Tryd.prog 9 #[.int .i64 a1, .int .i64 nl] W fun e w' => e = .returned (.int .i64 (k1 : Int)) ∧ w' = W) := Lib.hid fun W => by
    rw [hk1]; exact (pick_any a1 nl W i3.out.1 i3.out.2 (by omega) (by omega)).mono fun e w' h => ⟨h.1, h.2.symm⟩
  obtain ⟨s1, hs1⟩ : ∃ s, t.leaves[k1]? = some s := ⟨t.leaves[k1]'(by omega), List.getElem?_eq_getElem _⟩
  have hq0 : ¬ ((nl : Int) = 0) := by omega
  have k10 : (0 : Int) ≤ k1 := by omega
  have k1n : (k1 : Int) < nl := by omega
  replace hT4 := Lib.hid hT4; replace hF := Lib.hid hF; replace B4 := Lib.hid B4; replace hbase := Lib.hid hbase; replace hnl := Lib.hid hnl; replace hk1 := Lib.hid hk1; replace hs1 := Lib.hid hs1
  clear CM
  unfold ptr at *
  go_wp2_with fail
  refine CB.out.mono ?_
  rintro e w5 ⟨A5, c5, rfl, O5, G5⟩
  obtain ⟨A5x, c5x, e5x, R5, _⟩ := Rd.of_own O5
  injection e5x with e5x _ e5y
  subst e5x; subst e5y
  rw [boxes_boxL] at R5
  have hb1 : (t.leaves.map fun t => (t.n.p, t.n.x, t.n.y, t.n.a, t.n.b))[k1]? = some (s1.n.p, s1.n.x, s1.n.y, s1.n.a, s1.n.b) := by rw [List.getElem?_map, hs1.out]; rfl
  obtain ⟨bb, off, rfl, _, _⟩ := R5.at_ (boxL_at hb1 0 _ rfl)
  have hc1 : ∀ (i : Nat) (u : Value), (box5 (s1.n.p, s1.n.x, s1.n.y, s1.n.a, s1.n.b))[i]? = some u → w5.cell? ⟨bb, off + k1 * 5 + i, none⟩ = some u := by
    intro i u hu
    obtain ⟨b', off', e, _, h⟩ := R5.at_ (boxL_at hb1 i u hu)
    cases e; rw [← Nat.add_assoc] at h; exact h
  have x0 : w5.cell? ⟨bb, off + k1 * 5, none⟩ = some (.int .i64 s1.n.p) := hc1 0 _ rfl
  have x1 : w5.cell? ⟨bb, off + k1 * 5 + 1, none⟩ = some (.int .i64 s1.n.x) := hc1 1 _ rfl
  have x2 : w5.cell? ⟨bb, off + k1 * 5 + 2, none⟩ = some (.int .i64 s1.n.y) := hc1 2 _ rfl
  have x3 : w5.cell? ⟨bb, off + k1 * 5 + 3, none⟩ = some (.int .i64 s1.n.a) := hc1 3 _ rfl
  have x4 : w5.cell? ⟨bb, off + k1 * 5 + 4, none⟩ = some (.int .i64 s1.n.b) := hc1 4 _ rfl
  clear CB
  go_wp2_with fail
  refine (CP3.out _).mono ?_
  rintro e w6 ⟨rfl, rfl⟩
  go_wp2_with fail
  have hT6 := hT4.out.grown G5
  have hbase4 : base ≤ w4.heap.size := by have := hT4.out.lt; have := hT4.out.lo.1; omega
  have B06 : Below w.heap.size w w6 := by
    have hb := hbase.out
    have h1 : Below w.heap.size w w4 := B1.out.trans ⟨B4.out.os, B4.out.tape, B4.out.output, B4.out.size, fun k hk => B4.out.block k (by have := B1.out.size; omega)⟩
    exact h1.trans ⟨G5.os, G5.tape, G5.output, G5.size, fun k hk => G5.block k (by have := h1.size; omega) (by simp)⟩
  have hwb : w.heap.size ≤ base := by have := B1.out.size; have := hbase.out; omega
  have hbody := hF.out.body (by have := hnl.out; omega)
  have hPr : Hid (∀ W, Tr base W tr t → Below w.heap.size w W → Calls Tryd.prog 11 #[.pointer (some ⟨tr, 0, none⟩)] W fun e w' => e = .returned (.string (st t.print)) ∧ W.grownBy w' none) :=
    Lib.hid fun W hT hB => print_any base tr t W hT hF.out.rg (ok_w01 hF.out.ok) (hTab.out.below hB) (hD.out.below hB) hbody
  have CPr := Lib.hid (hPr.out w6 hT6 B06)
  obtain ⟨sP, hsP⟩ : ∃ sP, sP = st t.print := ⟨_, rfl⟩
  rw [← hsP] at CPr hPr
  replace hT6 := Lib.hid hT6; replace B06 := Lib.hid B06; replace hsP := Lib.hid hsP; replace hbody := Lib.hid hbody; replace hwb := Lib.hid hwb
  refine CPr.out.mono ?_
  rintro e w9 ⟨rfl, G9⟩
  replace G9 := Lib.hid G9
  clear CPr
  go_wp2_with fail
  obtain ⟨zz, hzz⟩ : ∃ k, k = pickN z 9 := ⟨_, rfl⟩
  have hzz9 : zz < 9 := by rw [hzz]; exact pickN_lt _ (by omega)
  have CP5 : Hid (∀ W, Calls Tryd.prog 9 #[.int .i64 z, .int .i64 9] W fun e w' => e = .returned (.int .i64 (zz : Int)) ∧ w' = W) := Lib.hid fun W => by
    rw [hzz]; exact (pick_any z 9 W i4.out.1 i4.out.2 (by omega) (by omega)).mono fun e w' h => ⟨h.1, h.2.symm⟩
  refine (CP5.out _).mono ?_
  rintro e w10 ⟨rfl, rfl⟩
  replace hzz := Lib.hid hzz
  go_wp2_with fail
  have hm1 := List.mem_of_getElem? hs1.out
  have hT10 := hT6.out.grown G9.out
  have hb10 : base ≤ w10.heap.size := by have := hT10.lt; have := hT10.lo.1; omega
  have hpp : s1.n.p ∈ t.er.ps := by rw [← T.leaves_ps]; exact List.mem_map.2 ⟨s1, hm1, rfl⟩
  have hl3 : t.leaves.length ≤ 31 := by rw [← hnl.out]; exact hlv
  have CSp := Lib.hid ((split_any base tr t 31 s1.n.p 999 zz bd false w10 hT10 hb10 hF.out hpp (by omega) (by omega) (by omega)).mono fun e w' h => close_behind (t' := t) (k := 31) bd w10 w' e hF.out hb10 (by omega) h)
  unfold ptr at CSp
  replace hT10 := Lib.hid hT10; replace hpp := Lib.hid hpp; replace hm1 := Lib.hid hm1
  refine CSp.out.mono ?_
  rintro e w11 ⟨err, t', rfl, hT11, B11, hcase⟩
  replace hT11 := Lib.hid hT11; replace B11 := Lib.hid B11
  clear CSp
  have lift : ∀ {x y : World}, Below w.heap.size w x → Below base x y → Below w.heap.size w y := fun {x y} h1 h2 => h1.trans ⟨h2.os, h2.tape, h2.output, h2.size, fun k hk => h2.block k (Nat.lt_of_lt_of_le hk hwb.out)⟩
  have liftG : ∀ {x y : World}, Below w.heap.size w x → x.grownBy y none → Below w.heap.size w y := fun {x y} h1 g => h1.trans ⟨g.os, g.tape, g.output, g.size, fun k hk => g.block k (Nat.lt_of_lt_of_le hk h1.size) (by simp)⟩
  have B011 := lift (liftG B06.out G9.out) B11.out
  rcases hcase with ⟨herr, ht'⟩ | ⟨herr, hF', hperm, hCl⟩
  · subst ht'
    have CPr2 := Lib.hid (hPr.out w11 hT11.out B011)
    replace B011 := Lib.hid B011
    go_wp2_with fail
    refine CPr2.out.mono ?_
    rintro e w12 ⟨rfl, G12⟩
    have hnone : (t'.find 999).isSome = false := by
      cases e9 : t'.find 999 with
      | none => rfl
      | some s9 =>
        obtain ⟨h1, h2⟩ := find_mem e9
        have := hF.out.pk 999 (by rw [← T.leaves_ps]; exact List.mem_map.2 ⟨s9, h1, h2⟩)
        omega
    have CH := Lib.hid (has_any base tr t' 999 w12 (hT11.out.grown G12) (by omega))
    rw [hnone] at CH
    unfold ptr at CH
    replace G12 := Lib.hid G12
    go_wp2_with fail
    refine CH.out.mono ?_
    rintro e w13 ⟨rfl, G13⟩
    go_wp2_with fail
    go_ret
    exact ⟨by simp, liftG (liftG B011.out G12.out) G13⟩
  · subst herr
    have hb11 : base ≤ w11.heap.size := Nat.le_trans hb10 B11.out.size
    have hpl : t'.leaves.length ≤ 100000 := by
      have : t'.leaves.length = t.leaves.length + 1 := by rw [leaves_er, leaves_er, hperm.length_eq]; simp
      omega
    have CH := Lib.hid (has_any base tr t' 999 w11 hT11.out hpl)
    have hsome : (t'.find 999).isSome = true := by
      have h9 : (999 : Int) ∈ t'.er.ps := hperm.mem_iff.2 (by simp)
      rw [← T.leaves_ps] at h9
      obtain ⟨s9, h9, e9⟩ := List.mem_map.1 h9
      rw [← e9, find_uniq h9 (by rw [T.leaves_ps]; exact hF'.ps)]; rfl
    rw [hsome] at CH
    unfold ptr at CH
    replace B011 := Lib.hid B011; replace hF' := Lib.hid hF'; replace hperm := Lib.hid hperm; replace hCl := Lib.hid hCl
    go_wp2_with fail
    refine CH.out.mono ?_
    rintro e w12 ⟨rfl, G12⟩
    have hT12 := hT11.out.grown G12
    have CC := Lib.hid (hCl.out w12 hT12 (Nat.le_trans hb11 G12.size))
    have B012 := Lib.hid (liftG B011.out G12)
    unfold ptr at CC
    replace hT12 := Lib.hid hT12; replace G12 := Lib.hid G12
    clear CH
    go_wp2_with fail
    refine CC.out.mono ?_
    rintro e w13 ⟨rfl, B13, t2, hT13, her⟩
    have hpr : (t2.place 0 0).print = t.print := by rw [T.place_print, her, ← T.place_print, hF.out.pl]
    have hF2 : Fine (t2.place 0 0) 31 := ⟨by rw [T.place_er, her]; exact hF.out.ok, by rw [T.place_er, her]; exact hF.out.ps, by rw [T.place_er, her]; exact hF.out.pk, T.place_idem _ _ _,
      by rw [← T.er_a, ← T.er_b, T.place_er, her, T.er_a, T.er_b]; exact hF.out.sz⟩
    have hl2 : (t2.place 0 0).leaves.length ≤ 31 := by rw [leaves_er, T.place_er, her, ← leaves_er]; exact hl3
    have B013 := lift B012.out B13
    have CP2' := Lib.hid (print_any base tr (t2.place 0 0) w13 hT13 hF2.rg (ok_w01 hF2.ok) (hTab.out.below B013) (hD.out.below B013) (hF2.body (by omega)))
    rw [hpr, ← hsP.out] at CP2'
    replace B013 := Lib.hid B013
    unfold ptr at CP2'
    clear CC
    go_wp2_with fail
    refine CP2'.out.mono ?_
    rintro e w14 ⟨rfl, G14⟩
    go_wp2_with fail
    go_ret
    exact ⟨by simp, liftG B013.out G14⟩
end Go.Proofs.YtcklmkjlbpjojaaDoor
