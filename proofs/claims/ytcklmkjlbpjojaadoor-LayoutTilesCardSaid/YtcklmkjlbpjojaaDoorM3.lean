/- Layout: grow. -/
import Derived.Test.YtcklmkjlbpjojaaDoorMA
import Derived.Test.YtcklmkjlbpjojaaDoorH4
namespace Go.Proofs.YtcklmkjlbpjojaaDoor
open Go.RowKit
set_option linter.unusedSimpArgs false
set_option linter.unusedVariables false

/-- Kids j and further have been grown. -/
structure GrI (w : World) (up : Option Nat) (n : Nd) (ks : List T) (way z : Int) (j : Nat) (wr : World) : Prop where
  a : At wr up (n.gr way z) ks
  l : TPs wr (some n.g) (ks.take j)
  r : TPs wr (some n.g) (growR way n.way (ks.drop j) z).1
  o : Off (T.mk n ks).bl w wr
theorem growR_bl (way nway z : Int) (ks : List T) : blL (growR way nway ks z).1 = blL ks := by
  rw [blL_flat, blL_flat, map_growR T.bl way nway z ks fun k _ z => k.grow_bl way z]
theorem gk_bl (way nway : Int) (k : T) (z : Int) : (gk way nway k z).bl = k.bl := by
  unfold gk
  (repeat' split) <;> first | exact T.grow_bl _ _ _ | rfl
theorem kid_apart {L R : List T} {k : T} (h : (blL (L ++ k :: R)).Nodup) : k.bl.Nodup ∧ (∀ b ∈ k.bl, b ∉ blL L) ∧ (∀ b ∈ k.bl, b ∉ blL R) := by
  rw [blL_app, blL_cons] at h
  obtain ⟨_, h2, h3⟩ := List.nodup_append.1 h
  obtain ⟨h4, _, h6⟩ := List.nodup_append.1 h2
  exact ⟨h4, fun b hb hb' => h3 b hb' b (by simp [hb]) rfl, fun b hb hb' => h6 b hb b hb' rfl⟩
theorem drop_at {ks : List T} {j : Nat} {k : T} (hk : ks[j]? = some k) : ks.drop j = k :: ks.drop (j + 1) := by
  obtain ⟨h1, h2⟩ := List.getElem?_eq_some_iff.1 hk
  rw [List.drop_eq_getElem_cons h1, h2]
theorem split_at {ks : List T} {j : Nat} {k : T} (hk : ks[j]? = some k) : ks = ks.take j ++ k :: ks.drop (j + 1) := by
  rw [← drop_at hk, List.take_append_drop]
theorem GrI.step {w wr w1 : World} {up : Option Nat} {n : Nd} {ks : List T} {way z : Int} {j : Nat} {k : T} (h : GrI w up n ks way z (j + 1) wr) (hk : ks[j]? = some k) (hN : (T.mk n ks).bl.Nodup)
    (hlt : ∀ b ∈ (T.mk n ks).bl, b < w.heap.size) (o1 : Off k.bl wr w1) (hT : TP w1 (some n.g) (gk way n.way k (growR way n.way (ks.drop (j + 1)) z).2)) : GrI w up n ks way z j w1 := by
  obtain ⟨d1, d2, d3⟩ := bl_apart hN
  have hm : k ∈ ks := List.mem_of_getElem? hk
  have hkK : ∀ b ∈ k.bl, b ∈ blL ks := fun b hb => mem_blL.2 ⟨k, hm, hb⟩
  have d4 := d3
  rw [split_at hk] at d4
  obtain ⟨e1, e2, e3⟩ := kid_apart d4
  refine ⟨h.a.same fun b hb => o1.block b (h.a.lt b hb) fun hm => ?_, ?_, ?_, h.o.trans o1 fun b hb => .inl ?_⟩
  · rw [(Nd.gr_g n way z).1, (Nd.gr_g n way z).2.1] at hb
    rcases List.mem_cons.1 hb with rfl | hb
    · exact d1 (hkK _ hm)
    · exact (d2 b (by simpa using hb)).1 (hkK _ hm)
  · have h1 : TPs wr (some n.g) (ks.take j) := by
      have := h.l
      rw [take_succ' hk, TPs_app] at this
      exact this.1
    exact h1.off o1 fun b hb hb' => e2 b hb' hb
  · rw [drop_at hk, growR_cons, TPs]
    exact ⟨hT, h.r.off o1 fun b hb hb' => e3 b hb' (by rwa [growR_bl] at hb)⟩
  · rw [T.bl_mk]; simp [hkK b hb]

set_option maxHeartbeats 400000 in
set_option maxRecDepth 100000 in
theorem grow_w0 : ∀ (t : T) (up : Option Nat) (z : Int) (w : World), TP w up t → t.bl.Nodup → t.er.ok → t.least 0 ≤ t.sz 0 + z → t.n.a ≤ 1000 → t.n.b ≤ 1000 → -1000 ≤ z ∧ z ≤ 1000 →
    Calls Tryd.prog 37 #[ptr t.g, .int .i64 0, .int .i64 z] w fun e w' => e = .returned (.tuple #[]) ∧ TP w' up (t.grow 0 z) ∧ Off t.bl w w' := by
  have hw : (0 : Int) = 0 ∨ (0 : Int) = 1 := by decide
  intro t
  induction t using T.ind with
  | h n ks ih =>
    intro up z w hT hN hok hle ha hb hz
    have hAt := hT.at_
    have hK := hT.kids
    have hlt : ∀ b ∈ (T.mk n ks).bl, b < w.heap.size := hT.lt _ _
    have c6 := hAt.c6
    have c5 := hAt.c5
    have c3 := hAt.c3
    have f3 := hAt.free 3
    obtain ⟨len, hln⟩ : ∃ len, len = ks.length := ⟨_, rfl⟩
    have hl1 : len ≤ 1000 := by rw [hln]; exact ok_len hok ha hb
    have hA : n.A ≠ some n.g := fun e => ((bl_apart hN).2.1 _ e).2 rfl
    have hg1 := (ok_T.1 hok)
    have hpos : 1 ≤ n.a ∧ 1 ≤ n.b := by rcases hg1 with h | h; exact ⟨h.2.2.2.1, h.2.2.2.2⟩; exact ⟨h.2.1, h.2.2.1⟩
    have ha' : n.a ≤ 1000 := ha
    have hb' : n.b ≤ 1000 := hb
    have hI0 : ∀ W, W = (w.setCell ⟨n.g, 3, none⟩ (.int .i64 (n.a + z))).drew → GrI w up n ks 0 z len W := by
      rintro W rfl
      have o : Off [n.g] w (w.setCell ⟨n.g, 3, none⟩ (.int .i64 (n.a + z))) := Off.set w ⟨n.g, 3, none⟩ _
      have h1 : At (w.setCell ⟨n.g, 3, none⟩ (.int .i64 (n.a + z))) up (n.gr 0 z) ks := hAt.upd rfl rfl rfl rfl o (heap_set (j := 3) hAt.h (.int .i64 (n.a + z))) hA
      have o2 : Off [n.g] w (w.setCell ⟨n.g, 3, none⟩ (.int .i64 (n.a + z))).drew := ⟨o.os, o.tape, o.output, o.size, o.block⟩
      refine ⟨h1.same fun _ _ => rfl, ?_, ?_, o2.sub (by rw [T.bl_mk]; simp)⟩
      · rw [hln, List.take_length]
        exact hK.off o2 fun b hb => by simp; rintro rfl; exact (bl_apart hN).1 hb
      · rw [hln, List.drop_length, growR_nil, TPs]; trivial
    have hr0 : (growR 0 n.way (ks.drop len) z).2 = z := by rw [hln, List.drop_length, growR_nil]
    obtain ⟨AA, hAA⟩ : ∃ AA, AA = adr n.A := ⟨_, rfl⟩
    rw [← hAA, ← hln] at c6
    have hend : ∀ wr, GrI w up n ks 0 z 0 wr → TP wr up ((T.mk n ks).grow 0 z) ∧ Off (T.mk n ks).bl w wr := fun wr h => by
      rw [T.grow_mk]
      refine ⟨.mk (h.a.congr (growR_ptrs _ _ _ _)) ?_, h.o⟩
      have := h.r
      rw [List.drop_zero] at this
      rw [(Nd.gr_g n 0 z).1]; exact this
    have hkd : ∀ (j : Nat) (k : T), ks[j]? = some k → k.er.ok ∧ k.n.a ≤ 1000 ∧ k.n.b ≤ 1000 ∧ 1 ≤ k.least 0 ∧ k.least 0 ≤ k.n.a := fun j k hk => by
      obtain ⟨h1, h2, h3⟩ := ok_kid hok (List.mem_of_getElem? hk)
      have h4 := least_le hw k h1
      exact ⟨h1, Int.le_trans h2 ha', Int.le_trans h3 hb', h4.1, h4.2⟩
    have hrb : ∀ j, -1000 ≤ (growR 0 n.way (ks.drop j) z).2 ∧ (growR 0 n.way (ks.drop j) z).2 ≤ 1000 := fun j => by
      have := growR_bound (way := 0) (nway := n.way) hw z (ks.drop j) fun k hk => (ok_kid hok (List.mem_of_mem_drop hk)).1
      omega
    have hac : n.way ≠ 0 → ∀ k ∈ ks, k.least 0 ≤ k.n.a + z := fun hn k hk => by
      rcases hg1 with h | ⟨_, _, _, _, h5, h6, _⟩
      · rw [h.1] at hk; cases hk
      · have a1 := least_kid hn hk
        have a2 := h6 k hk
        rw [show 1 - n.way = 0 by omega] at a2
        have a3 : (T.mk n ks).sz 0 = n.sz 0 := rfl
        have a4 : k.sz 0 = k.n.a := rfl
        omega
    obtain ⟨nw, hnw⟩ : ∃ nw, nw = n.way := ⟨_, rfl⟩
    rw [← hnw] at c5 hac
    have hw01 : nw = 0 ∨ nw = 1 := by rw [hnw]; exact (ok_w01 hok).n
    have hxa : wrap64 (n.a + z) = n.a + z := wr_of (by omega)
    replace hAA := Lib.hid hAA; replace hln := Lib.hid hln; replace hAt := Lib.hid hAt; replace hK := Lib.hid hK; replace ih := Lib.hid ih; replace hok := Lib.hid hok; replace hkd := Lib.hid hkd; replace hrb := Lib.hid hrb; replace hac := Lib.hid hac; replace hend := Lib.hid hend; replace hnw := Lib.hid hnw
    replace ha := Lib.hid ha; replace hb := Lib.hid hb; replace hlt := Lib.hid hlt; replace hN := Lib.hid hN; replace hA := Lib.hid hA; replace hg1 := Lib.hid hg1; replace hI0 := Lib.hid hI0; replace hle := Lib.hid hle; replace hr0 := Lib.hid hr0
    clear hT hw
    show Calls Tryd.prog 37 #[ptr n.g, .int .i64 0, .int .i64 z] w _
    unfold ptr
    go_enter Tryd.func37, Tryd.ntmps37
    go_upto_region 0 with fail
    go_still_tail 11, (by kernel_rfl)
    change wpList _ _ _ _ _ w.drew
    go_wp2_with fail
    go_loopw [2, 6] (fun bv iv wr => ∃ (j : Nat) (i r : Int), i + 1 = j ∧ j ≤ len ∧ bv = .int .i64 r ∧ iv = .int .i64 i ∧ Hid (r = (growR 0 n.way (ks.drop j) z).2 ∧ GrI w up n ks 0 z j wr)) (fun _ iv _ => (intOf iv + 1).toNat)
    case atStart =>
      refine ⟨len, (len : Int) - 1, z, by omega, Nat.le_refl _, rfl, ?_, Lib.hid ⟨hr0.out.symm, hI0.out _ ?_⟩⟩
      · first | rfl | trivial
      · first | rfl | (rw [hxa]; rfl)
    case round =>
      obtain ⟨j, i, r, hij, hj, rfl, rfl, hI⟩ := hrel
      rcases j with _ | j
      · obtain rfl : i = -1 := by omega
        go_wp2_with fail
        go_end0
        obtain ⟨h1, h2⟩ := hend.out _ hI.out.2
        exact ⟨rfl, h1, h2⟩
      · obtain rfl : i = j := by omega
        have hrr := hrb.out (j + 1)
        rw [← hI.out.1] at hrr
        obtain ⟨k, hk⟩ : ∃ k, ks[j]? = some k := ⟨ks[j]'(by rw [← hln.out]; omega), List.getElem?_eq_getElem _⟩
        have hmem : k ∈ ks := List.mem_of_getElem? hk
        obtain ⟨b, hAb, hc⟩ := hI.out.2.a.kid hk
        have hAb2 : AA = some ⟨b, 0, none⟩ := by rw [hAA.out, ← (Nd.gr_g n 0 z).2.1, hAb]; rfl
        have c6r := hI.out.2.a.c6
        rw [(Nd.gr_g n 0 z).1, (Nd.gr_g n 0 z).2.1, (Nd.gr_g n 0 z).2.2.1, ← hAA.out, ← hln.out, hAb2] at c6r
        have c5r := hI.out.2.a.c5
        rw [(Nd.gr_g n 0 z).1, (Nd.gr_g n 0 z).2.2.2.2.1, ← hnw.out] at c5r
        have hkT : TP wr (some n.g) k := by
          have := hI.out.2.l
          rw [take_succ' hk, TPs_app, TPs] at this
          exact this.2.1
        obtain ⟨k1, k2, k3, k4, k5⟩ := hkd.out j k hk
        have kn : k.bl.Nodup := by
          have := (bl_apart hN.out).2.2
          rw [split_at hk] at this
          exact (kid_apart this).1
        have kA : At wr (some n.g) k.n k.ks := by cases k; exact hkT.at_
        have q3 : wr.cell? ⟨k.g, 3, none⟩ = some (.int .i64 k.n.a) := kA.c3
        have CK := Lib.hid (fun (z' : Int) (W : World) (hW : W.heap = wr.heap) => ih.out k hmem (some n.g) z' W (hkT.same _ _ fun _ _ => by rw [hW]) kn k1)
        have hnext : ∀ w1, Off k.bl wr w1 → TP w1 (some n.g) (gk 0 n.way k r) → gz 0 n.way k r = (growR 0 n.way (ks.drop j) z).2 ∧ GrI w up n ks 0 z j w1 := fun w1 o1 hT1 => by
          have h1 := hI.out.1
          rw [h1] at hT1 ⊢
          exact ⟨by rw [drop_at hk, growR_cons], hI.out.2.step hk hN.out hlt.out o1 hT1⟩
        obtain ⟨lk, hlk⟩ : ∃ lk, lk = k.least 0 := ⟨_, rfl⟩
        obtain ⟨kz, hkz⟩ : ∃ kz, kz = k.n.a := ⟨_, rfl⟩
        have hkz1 : kz ≤ 1000 := by rw [hkz]; assumption
        have CL := Lib.hid (fun (W : World) (hW : W.heap = wr.heap) => least_any (way := 0) (by decide) k (some n.g) W (hkT.same _ _ fun _ _ => by rw [hW]) k1 k2 k3)
        rw [← hlk] at CL k4 k5
        rw [← hkz] at q3 k5
        have hk2' := hk
        replace hnext := Lib.hid hnext; replace hk := Lib.hid hk; replace hAb := Lib.hid hAb; replace hkT := Lib.hid hkT; replace k1 := Lib.hid k1; replace k2 := Lib.hid k2; replace k3 := Lib.hid k3; replace kn := Lib.hid kn; replace kA := Lib.hid kA; replace hlk := Lib.hid hlk; replace hkz := Lib.hid hkz
        subst hAb2
        have hac' := hac.out
        by_cases hnn : nw = 0
        · have hng : n.way = 0 := by rw [← hnw.out]; exact hnn
          subst hnn
          rcases Int.lt_trichotomy r 0 with hr | hr | hr
          · have hfin : ∀ s : Int, (s = -r ∧ -r < kz - lk) ∨ (s = kz - lk ∧ kz - lk ≤ -r) → s = min (-r) (k.sz 0 - k.least 0) ∧ 0 ≤ s ∧ s ≤ 1000 ∧ k.least 0 ≤ k.sz 0 + -s := fun s hs => by
              have h1 := hlk.out
              have h2 : k.sz 0 = kz := hkz.out.symm
              rw [← h1, h2]; omega
            replace hfin := Lib.hid hfin
            obtain ⟨s, hs⟩ : ∃ s, s = min (-r) (kz - lk) := ⟨_, rfl⟩
            obtain ⟨s1, s2, s3, s4⟩ := hfin.out s (by omega)
            have e8 : min (IntKind.i64.wrap (-r)) (IntKind.i64.wrap (kz - lk)) = s := by
              rw [IntKind.wrap_i64, IntKind.wrap_i64]; omega
            have hsr : r + s ≤ 0 ∧ -1000 ≤ r + s := by omega
            have CG := CK.out (-s) wr.drew rfl s4 k2.out k3.out (by omega)
            have CLq := CL.out wr.drew rfl
            replace CG := Lib.hid CG; replace CLq := Lib.hid CLq; replace s1 := Lib.hid s1; replace s4 := Lib.hid s4; replace hs := Lib.hid hs; replace e8 := Lib.hid e8
            clear CL CK
            unfold ptr at hc CG CLq
            go_upto_region 11 with fail
            refine wp_region_still_tail 13 (by kernel_rfl) (by kernel_rfl) ?_
            simp only [List.take_succ_cons, List.take_zero, List.drop_succ_cons, List.drop_zero]
            repeat still_step
            still_call (CLq.out)
            repeat still_step
            refine wpStill_nil ?_
            change wpList _ _ _ _ _ wr.drew
            simp only [e8.out]
            go_wp2_with fail
            refine CG.out.mono ?_
            rintro e w1 ⟨rfl, hT1, o1⟩
            replace hT1 := Lib.hid hT1; replace o1 := Lib.hid o1
            go_wp2_with fail
            have o1' : Off k.bl wr w1 := ⟨o1.out.os, o1.out.tape, o1.out.output, o1.out.size, o1.out.block⟩
            obtain ⟨h1, h2⟩ := hnext.out w1 o1' (by unfold gk; rw [if_neg (by simp [hng]), if_neg (by omega), if_pos hr, ← s1.out]; exact hT1.out)
            refine ⟨⟨j, (j : Int) - 1, r + s, by omega, by omega, by go_num, by go_num, Lib.hid ⟨?_, h2⟩⟩, by first | (simp [intOf]; done) | (simp [intOf]; omega)⟩
            rw [← h1]; unfold gz; rw [if_neg (by simp [hng]), if_neg (by omega), if_pos hr, ← s1.out]
          · subst hr
            have hq := hnext.out wr (Off.refl _ _) (by unfold gk; rw [if_neg (by simp [hng]), if_neg (by omega), if_neg (by omega)]; exact hkT.out)
            replace hq := Lib.hid hq
            clear CL CK
            go_wp2_with fail
            obtain ⟨h1, h2⟩ := hq.out
            refine ⟨⟨j, (j : Int) - 1, 0, by omega, by omega, by go_num, by go_num, Lib.hid ⟨?_, h2⟩⟩, by first | (simp [intOf]; done) | (simp [intOf]; omega)⟩
            rw [← h1]; unfold gz; rw [if_neg (by simp [hng]), if_neg (by omega), if_neg (by omega)]
          · have CG := CK.out r wr rfl (by have := hlk.out; have h2 : k.sz 0 = kz := hkz.out.symm; omega) k2.out k3.out (by omega)
            replace CG := Lib.hid CG
            clear CL CK
            unfold ptr at hc CG
            go_wp2_with fail
            refine CG.out.mono ?_
            rintro e w1 ⟨rfl, hT1, o1⟩
            replace hT1 := Lib.hid hT1; replace o1 := Lib.hid o1
            go_wp2_with fail
            obtain ⟨h1, h2⟩ := hnext.out w1 o1.out (by unfold gk; rw [if_neg (by simp [hng]), if_pos hr]; exact hT1.out)
            refine ⟨⟨j, (j : Int) - 1, 0, by omega, by omega, by go_num, by go_num, Lib.hid ⟨?_, h2⟩⟩, by first | (simp [intOf]; done) | (simp [intOf]; omega)⟩
            rw [← h1]; unfold gz; rw [if_neg (by simp [hng]), if_pos hr]
        · have hng : n.way ≠ 0 := by rw [← hnw.out]; exact hnn
          have hrz : r = z := by rw [hI.out.1, growR_across hng]
          have CG := CK.out r wr rfl (by have := hac.out hnn k hmem; have h2 : k.sz 0 = k.n.a := rfl; rw [hrz]; omega) k2.out k3.out (by omega)
          replace CG := Lib.hid CG; replace hrz := Lib.hid hrz
          clear CL CK
          unfold ptr at hc CG
          go_wp2_with fail
          refine CG.out.mono ?_
          rintro e w1 ⟨rfl, hT1, o1⟩
          replace hT1 := Lib.hid hT1; replace o1 := Lib.hid o1
          go_wp2_with fail
          obtain ⟨h1, h2⟩ := hnext.out w1 o1.out (by unfold gk; rw [if_pos hng]; exact hT1.out)
          refine ⟨⟨j, (j : Int) - 1, r, by omega, by omega, by go_num, by go_num, Lib.hid ⟨?_, h2⟩⟩, by first | (simp [intOf]; done) | (simp [intOf]; omega)⟩
          rw [← h1]; unfold gz; rw [if_pos hng]
set_option maxHeartbeats 400000 in
set_option maxRecDepth 100000 in
theorem grow_w1 : ∀ (t : T) (up : Option Nat) (z : Int) (w : World), TP w up t → t.bl.Nodup → t.er.ok → t.least 1 ≤ t.sz 1 + z → t.n.a ≤ 1000 → t.n.b ≤ 1000 → -1000 ≤ z ∧ z ≤ 1000 →
    Calls Tryd.prog 37 #[ptr t.g, .int .i64 1, .int .i64 z] w fun e w' => e = .returned (.tuple #[]) ∧ TP w' up (t.grow 1 z) ∧ Off t.bl w w' := by
  have hw : (1 : Int) = 0 ∨ (1 : Int) = 1 := by decide
  intro t
  induction t using T.ind with
  | h n ks ih =>
    intro up z w hT hN hok hle ha hb hz
    have hAt := hT.at_
    have hK := hT.kids
    have hlt : ∀ b ∈ (T.mk n ks).bl, b < w.heap.size := hT.lt _ _
    have c6 := hAt.c6
    have c5 := hAt.c5
    have c4 := hAt.c4
    have f4 := hAt.free 4
    obtain ⟨len, hln⟩ : ∃ len, len = ks.length := ⟨_, rfl⟩
    have hl1 : len ≤ 1000 := by rw [hln]; exact ok_len hok ha hb
    have hA : n.A ≠ some n.g := fun e => ((bl_apart hN).2.1 _ e).2 rfl
    have hg1 := (ok_T.1 hok)
    have hpos : 1 ≤ n.a ∧ 1 ≤ n.b := by rcases hg1 with h | h; exact ⟨h.2.2.2.1, h.2.2.2.2⟩; exact ⟨h.2.1, h.2.2.1⟩
    have ha' : n.a ≤ 1000 := ha
    have hb' : n.b ≤ 1000 := hb
    have hI0 : ∀ W, W = (w.setCell ⟨n.g, 4, none⟩ (.int .i64 (n.b + z))).drew → GrI w up n ks 1 z len W := by
      rintro W rfl
      have o : Off [n.g] w (w.setCell ⟨n.g, 4, none⟩ (.int .i64 (n.b + z))) := Off.set w ⟨n.g, 4, none⟩ _
      have h1 : At (w.setCell ⟨n.g, 4, none⟩ (.int .i64 (n.b + z))) up (n.gr 1 z) ks := hAt.upd rfl rfl rfl rfl o (heap_set (j := 4) hAt.h (.int .i64 (n.b + z))) hA
      have o2 : Off [n.g] w (w.setCell ⟨n.g, 4, none⟩ (.int .i64 (n.b + z))).drew := ⟨o.os, o.tape, o.output, o.size, o.block⟩
      refine ⟨h1.same fun _ _ => rfl, ?_, ?_, o2.sub (by rw [T.bl_mk]; simp)⟩
      · rw [hln, List.take_length]
        exact hK.off o2 fun b hb => by simp; rintro rfl; exact (bl_apart hN).1 hb
      · rw [hln, List.drop_length, growR_nil, TPs]; trivial
    have hr0 : (growR 1 n.way (ks.drop len) z).2 = z := by rw [hln, List.drop_length, growR_nil]
    obtain ⟨AA, hAA⟩ : ∃ AA, AA = adr n.A := ⟨_, rfl⟩
    rw [← hAA, ← hln] at c6
    have hend : ∀ wr, GrI w up n ks 1 z 0 wr → TP wr up ((T.mk n ks).grow 1 z) ∧ Off (T.mk n ks).bl w wr := fun wr h => by
      rw [T.grow_mk]
      refine ⟨.mk (h.a.congr (growR_ptrs _ _ _ _)) ?_, h.o⟩
      have := h.r
      rw [List.drop_zero] at this
      rw [(Nd.gr_g n 1 z).1]; exact this
    have hkd : ∀ (j : Nat) (k : T), ks[j]? = some k → k.er.ok ∧ k.n.a ≤ 1000 ∧ k.n.b ≤ 1000 ∧ 1 ≤ k.least 1 ∧ k.least 1 ≤ k.n.b := fun j k hk => by
      obtain ⟨h1, h2, h3⟩ := ok_kid hok (List.mem_of_getElem? hk)
      have h4 := least_le hw k h1
      exact ⟨h1, Int.le_trans h2 ha', Int.le_trans h3 hb', h4.1, h4.2⟩
    have hrb : ∀ j, -1000 ≤ (growR 1 n.way (ks.drop j) z).2 ∧ (growR 1 n.way (ks.drop j) z).2 ≤ 1000 := fun j => by
      have := growR_bound (way := 1) (nway := n.way) hw z (ks.drop j) fun k hk => (ok_kid hok (List.mem_of_mem_drop hk)).1
      omega
    have hac : n.way ≠ 1 → ∀ k ∈ ks, k.least 1 ≤ k.n.b + z := fun hn k hk => by
      rcases hg1 with h | ⟨_, _, _, _, h5, h6, _⟩
      · rw [h.1] at hk; cases hk
      · have a1 := least_kid hn hk
        have a2 := h6 k hk
        rw [show 1 - n.way = 1 by omega] at a2
        have a3 : (T.mk n ks).sz 1 = n.sz 1 := rfl
        have a4 : k.sz 1 = k.n.b := rfl
        omega
    obtain ⟨nw, hnw⟩ : ∃ nw, nw = n.way := ⟨_, rfl⟩
    rw [← hnw] at c5 hac
    have hw01 : nw = 0 ∨ nw = 1 := by rw [hnw]; exact (ok_w01 hok).n
    have hxa : wrap64 (n.b + z) = n.b + z := wr_of (by omega)
    replace hAA := Lib.hid hAA; replace hln := Lib.hid hln; replace hAt := Lib.hid hAt; replace hK := Lib.hid hK; replace ih := Lib.hid ih; replace hok := Lib.hid hok; replace hkd := Lib.hid hkd; replace hrb := Lib.hid hrb; replace hac := Lib.hid hac; replace hend := Lib.hid hend; replace hnw := Lib.hid hnw
    replace ha := Lib.hid ha; replace hb := Lib.hid hb; replace hlt := Lib.hid hlt; replace hN := Lib.hid hN; replace hA := Lib.hid hA; replace hg1 := Lib.hid hg1; replace hI0 := Lib.hid hI0; replace hle := Lib.hid hle; replace hr0 := Lib.hid hr0
    clear hT hw
    show Calls Tryd.prog 37 #[ptr n.g, .int .i64 1, .int .i64 z] w _
    unfold ptr
    go_enter Tryd.func37, Tryd.ntmps37
    go_upto_region 0 with fail
    go_still_tail 11, (by kernel_rfl)
    change wpList _ _ _ _ _ w.drew
    go_wp2_with fail
    go_loopw [2, 6] (fun bv iv wr => ∃ (j : Nat) (i r : Int), i + 1 = j ∧ j ≤ len ∧ bv = .int .i64 r ∧ iv = .int .i64 i ∧ Hid (r = (growR 1 n.way (ks.drop j) z).2 ∧ GrI w up n ks 1 z j wr)) (fun _ iv _ => (intOf iv + 1).toNat)
    case atStart =>
      refine ⟨len, (len : Int) - 1, z, by omega, Nat.le_refl _, rfl, ?_, Lib.hid ⟨hr0.out.symm, hI0.out _ ?_⟩⟩
      · first | rfl | trivial
      · first | rfl | (rw [hxa]; rfl)
    case round =>
      obtain ⟨j, i, r, hij, hj, rfl, rfl, hI⟩ := hrel
      rcases j with _ | j
      · obtain rfl : i = -1 := by omega
        go_wp2_with fail
        go_end0
        obtain ⟨h1, h2⟩ := hend.out _ hI.out.2
        exact ⟨rfl, h1, h2⟩
      · obtain rfl : i = j := by omega
        have hrr := hrb.out (j + 1)
        rw [← hI.out.1] at hrr
        obtain ⟨k, hk⟩ : ∃ k, ks[j]? = some k := ⟨ks[j]'(by rw [← hln.out]; omega), List.getElem?_eq_getElem _⟩
        have hmem : k ∈ ks := List.mem_of_getElem? hk
        obtain ⟨b, hAb, hc⟩ := hI.out.2.a.kid hk
        have hAb2 : AA = some ⟨b, 0, none⟩ := by rw [hAA.out, ← (Nd.gr_g n 1 z).2.1, hAb]; rfl
        have c6r := hI.out.2.a.c6
        rw [(Nd.gr_g n 1 z).1, (Nd.gr_g n 1 z).2.1, (Nd.gr_g n 1 z).2.2.1, ← hAA.out, ← hln.out, hAb2] at c6r
        have c5r := hI.out.2.a.c5
        rw [(Nd.gr_g n 1 z).1, (Nd.gr_g n 1 z).2.2.2.2.1, ← hnw.out] at c5r
        have hkT : TP wr (some n.g) k := by
          have := hI.out.2.l
          rw [take_succ' hk, TPs_app, TPs] at this
          exact this.2.1
        obtain ⟨k1, k2, k3, k4, k5⟩ := hkd.out j k hk
        have kn : k.bl.Nodup := by
          have := (bl_apart hN.out).2.2
          rw [split_at hk] at this
          exact (kid_apart this).1
        have kA : At wr (some n.g) k.n k.ks := by cases k; exact hkT.at_
        have q4 : wr.cell? ⟨k.g, 4, none⟩ = some (.int .i64 k.n.b) := kA.c4
        have CK := Lib.hid (fun (z' : Int) (W : World) (hW : W.heap = wr.heap) => ih.out k hmem (some n.g) z' W (hkT.same _ _ fun _ _ => by rw [hW]) kn k1)
        have hnext : ∀ w1, Off k.bl wr w1 → TP w1 (some n.g) (gk 1 n.way k r) → gz 1 n.way k r = (growR 1 n.way (ks.drop j) z).2 ∧ GrI w up n ks 1 z j w1 := fun w1 o1 hT1 => by
          have h1 := hI.out.1
          rw [h1] at hT1 ⊢
          exact ⟨by rw [drop_at hk, growR_cons], hI.out.2.step hk hN.out hlt.out o1 hT1⟩
        obtain ⟨lk, hlk⟩ : ∃ lk, lk = k.least 1 := ⟨_, rfl⟩
        obtain ⟨kz, hkz⟩ : ∃ kz, kz = k.n.b := ⟨_, rfl⟩
        have hkz1 : kz ≤ 1000 := by rw [hkz]; assumption
        have CL := Lib.hid (fun (W : World) (hW : W.heap = wr.heap) => least_any (way := 1) (by decide) k (some n.g) W (hkT.same _ _ fun _ _ => by rw [hW]) k1 k2 k3)
        rw [← hlk] at CL k4 k5
        rw [← hkz] at q4 k5
        have hk2' := hk
        replace hnext := Lib.hid hnext; replace hk := Lib.hid hk; replace hAb := Lib.hid hAb; replace hkT := Lib.hid hkT; replace k1 := Lib.hid k1; replace k2 := Lib.hid k2; replace k3 := Lib.hid k3; replace kn := Lib.hid kn; replace kA := Lib.hid kA; replace hlk := Lib.hid hlk; replace hkz := Lib.hid hkz
        subst hAb2
        have hac' := hac.out
        by_cases hnn : nw = 1
        · have hng : n.way = 1 := by rw [← hnw.out]; exact hnn
          subst hnn
          rcases Int.lt_trichotomy r 0 with hr | hr | hr
          · have hfin : ∀ s : Int, (s = -r ∧ -r < kz - lk) ∨ (s = kz - lk ∧ kz - lk ≤ -r) → s = min (-r) (k.sz 1 - k.least 1) ∧ 0 ≤ s ∧ s ≤ 1000 ∧ k.least 1 ≤ k.sz 1 + -s := fun s hs => by
              have h1 := hlk.out
              have h2 : k.sz 1 = kz := hkz.out.symm
              rw [← h1, h2]; omega
            replace hfin := Lib.hid hfin
            obtain ⟨s, hs⟩ : ∃ s, s = min (-r) (kz - lk) := ⟨_, rfl⟩
            obtain ⟨s1, s2, s3, s4⟩ := hfin.out s (by omega)
            have e8 : min (IntKind.i64.wrap (-r)) (IntKind.i64.wrap (kz - lk)) = s := by
              rw [IntKind.wrap_i64, IntKind.wrap_i64]; omega
            have hsr : r + s ≤ 0 ∧ -1000 ≤ r + s := by omega
            have CG := CK.out (-s) wr.drew rfl s4 k2.out k3.out (by omega)
            have CLq := CL.out wr.drew rfl
            replace CG := Lib.hid CG; replace CLq := Lib.hid CLq; replace s1 := Lib.hid s1; replace s4 := Lib.hid s4; replace hs := Lib.hid hs; replace e8 := Lib.hid e8
            clear CL CK
            unfold ptr at hc CG CLq
            go_upto_region 11 with fail
            refine wp_region_still_tail 13 (by kernel_rfl) (by kernel_rfl) ?_
            simp only [List.take_succ_cons, List.take_zero, List.drop_succ_cons, List.drop_zero]
            repeat still_step
            still_call (CLq.out)
            repeat still_step
            refine wpStill_nil ?_
            change wpList _ _ _ _ _ wr.drew
            simp only [e8.out]
            go_wp2_with fail
            refine CG.out.mono ?_
            rintro e w1 ⟨rfl, hT1, o1⟩
            replace hT1 := Lib.hid hT1; replace o1 := Lib.hid o1
            go_wp2_with fail
            have o1' : Off k.bl wr w1 := ⟨o1.out.os, o1.out.tape, o1.out.output, o1.out.size, o1.out.block⟩
            obtain ⟨h1, h2⟩ := hnext.out w1 o1' (by unfold gk; rw [if_neg (by simp [hng]), if_neg (by omega), if_pos hr, ← s1.out]; exact hT1.out)
            refine ⟨⟨j, (j : Int) - 1, r + s, by omega, by omega, by go_num, by go_num, Lib.hid ⟨?_, h2⟩⟩, by first | (simp [intOf]; done) | (simp [intOf]; omega)⟩
            rw [← h1]; unfold gz; rw [if_neg (by simp [hng]), if_neg (by omega), if_pos hr, ← s1.out]
          · subst hr
            have hq := hnext.out wr (Off.refl _ _) (by unfold gk; rw [if_neg (by simp [hng]), if_neg (by omega), if_neg (by omega)]; exact hkT.out)
            replace hq := Lib.hid hq
            clear CL CK
            go_wp2_with fail
            obtain ⟨h1, h2⟩ := hq.out
            refine ⟨⟨j, (j : Int) - 1, 0, by omega, by omega, by go_num, by go_num, Lib.hid ⟨?_, h2⟩⟩, by first | (simp [intOf]; done) | (simp [intOf]; omega)⟩
            rw [← h1]; unfold gz; rw [if_neg (by simp [hng]), if_neg (by omega), if_neg (by omega)]
          · have CG := CK.out r wr rfl (by have := hlk.out; have h2 : k.sz 1 = kz := hkz.out.symm; omega) k2.out k3.out (by omega)
            replace CG := Lib.hid CG
            clear CL CK
            unfold ptr at hc CG
            go_wp2_with fail
            refine CG.out.mono ?_
            rintro e w1 ⟨rfl, hT1, o1⟩
            replace hT1 := Lib.hid hT1; replace o1 := Lib.hid o1
            go_wp2_with fail
            obtain ⟨h1, h2⟩ := hnext.out w1 o1.out (by unfold gk; rw [if_neg (by simp [hng]), if_pos hr]; exact hT1.out)
            refine ⟨⟨j, (j : Int) - 1, 0, by omega, by omega, by go_num, by go_num, Lib.hid ⟨?_, h2⟩⟩, by first | (simp [intOf]; done) | (simp [intOf]; omega)⟩
            rw [← h1]; unfold gz; rw [if_neg (by simp [hng]), if_pos hr]
        · have hng : n.way ≠ 1 := by rw [← hnw.out]; exact hnn
          have hrz : r = z := by rw [hI.out.1, growR_across hng]
          have CG := CK.out r wr rfl (by have := hac.out hnn k hmem; have h2 : k.sz 1 = k.n.b := rfl; rw [hrz]; omega) k2.out k3.out (by omega)
          replace CG := Lib.hid CG; replace hrz := Lib.hid hrz
          clear CL CK
          unfold ptr at hc CG
          go_wp2_with fail
          refine CG.out.mono ?_
          rintro e w1 ⟨rfl, hT1, o1⟩
          replace hT1 := Lib.hid hT1; replace o1 := Lib.hid o1
          go_wp2_with fail
          obtain ⟨h1, h2⟩ := hnext.out w1 o1.out (by unfold gk; rw [if_pos hng]; exact hT1.out)
          refine ⟨⟨j, (j : Int) - 1, r, by omega, by omega, by go_num, by go_num, Lib.hid ⟨?_, h2⟩⟩, by first | (simp [intOf]; done) | (simp [intOf]; omega)⟩
          rw [← h1]; unfold gz; rw [if_pos hng]
theorem grow_any {way : Int} (hw : way = 0 ∨ way = 1) (t : T) (up : Option Nat) (z : Int) (w : World) (hT : TP w up t) (hN : t.bl.Nodup) (hok : t.er.ok) (hle : t.least way ≤ t.sz way + z) (ha : t.n.a ≤ 1000) (hb : t.n.b ≤ 1000) (hz : -1000 ≤ z ∧ z ≤ 1000) :
    Calls Tryd.prog 37 #[ptr t.g, .int .i64 way, .int .i64 z] w fun e w' => e = .returned (.tuple #[]) ∧ TP w' up (t.grow way z) ∧ Off t.bl w w' := by
  rcases hw with rfl | rfl
  · exact grow_w0 t up z w hT hN hok hle ha hb hz
  · exact grow_w1 t up z w hT hN hok hle ha hb hz
end Go.Proofs.YtcklmkjlbpjojaaDoor
