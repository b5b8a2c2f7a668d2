/- Layout: Close of a pane behind a neighbour that is a leaf. -/
import Derived.Test.YtcklmkjlbpjojaaDoorG7
namespace Go.Proofs.YtcklmkjlbpjojaaDoor
open Go.RowKit
set_option linter.unusedSimpArgs false
set_option linter.unusedVariables false

set_option maxHeartbeats 1500000 in
set_option maxRecDepth 100000 in
theorem close_next_false (base tr : Nat) (c0 : List Fr) (n hn ln : Nd) (L R : List T) (pane : Int) (w : World) (hT : Tr base w tr (plug c0 (.mk n (L ++ .mk hn [] :: .mk ln [] :: R)))) (hbase : base ≤ w.heap.size) (hl : (plug c0 (.mk n (L ++ .mk hn [] :: .mk ln [] :: R))).leaves.length ≤ 1000)
    (hf : (plug c0 (.mk n (L ++ .mk hn [] :: .mk ln [] :: R))).find pane = some (.mk ln [])) (hway : n.way = 1) (hz : 0 ≤ ln.b ∧ ln.b ≤ 1000) (hlen : (L ++ .mk hn [] :: .mk ln [] :: R).length ≤ 1000)
    (hw01 : (plug c0 (.mk n (L ++ .mk (hn.add 1 (ln.b + 1)) [] :: R))).w01) (hw02 : (plug c0 (.mk (hn.add 1 (ln.b + 1)) [])).w01) :
    Calls Tryd.prog 14 #[ptr tr, .int .i64 pane] w fun e w' => e = .returned (.int .i64 0) ∧ Below base w w' ∧
      Tr base w' tr ((if L.length = 0 ∧ R.length = 0 then plug c0 (.mk (hn.add 1 (ln.b + 1)) []) else plug c0 (.mk n (L ++ .mk (hn.add 1 (ln.b + 1)) [] :: R))).place 0 0) := by
  obtain ⟨RR, hRR⟩ : ∃ RR, RR = (if L.length = 0 ∧ R.length = 0 then plug c0 (.mk (hn.add 1 (ln.b + 1)) []) else plug c0 (.mk n (L ++ .mk (hn.add 1 (ln.b + 1)) [] :: R))) := ⟨_, rfl⟩
  rw [← hRR]
  replace hRR := Lib.hid hRR
  obtain ⟨ks, hks⟩ : ∃ ks, ks = L ++ .mk hn [] :: .mk ln [] :: R := ⟨_, rfl⟩
  rw [← hks] at hT hl hf hlen
  have CL := Lib.hid (leaf_any base tr _ pane w hT (by omega))
  rw [hf] at CL
  simp only [Option.map_some, uptr] at CL
  replace CL : Hid (Calls Tryd.prog 29 #[ptr tr, .int .i64 pane] w fun e w' => e = .returned (ptr ln.g) ∧ w.grownBy w' none) := CL
  obtain ⟨i0, hi0⟩ : ∃ i0, i0 = L.length := ⟨_, rfl⟩
  obtain ⟨len, hlen0⟩ : ∃ len, len = ks.length := ⟨_, rfl⟩
  have hlen1 : len = i0 + 2 + R.length := by rw [hlen0, hks, hi0]; simp; omega
  replace hT := Lib.hid hT; replace hf := Lib.hid hf; replace hw01 := Lib.hid hw01; replace hw02 := Lib.hid hw02
  unfold ptr at CL ⊢
  go_enter Tryd.func14, Tryd.ntmps14
  go_wp2_with fail
  refine CL.out.mono ?_
  rintro e w1 ⟨rfl, G1⟩
  have hT1 := hT.out.grown G1
  have hp := (TP_plug c0 _).1 hT1.p
  have hA := hp.2.at_
  have hK := TPs_iff.1 hp.2.kids
  have hhA : At w1 (some n.g) hn [] := (hK (.mk hn []) (by rw [hks]; simp)).at_
  have hlA : At w1 (some n.g) ln [] := (hK (.mk ln []) (by rw [hks]; simp)).at_
  have q7 : w1.cell? ⟨ln.g, 7, none⟩ = some (.pointer (some ⟨n.g, 0, none⟩)) := hlA.c7
  have q3 : w1.cell? ⟨ln.g, 4, none⟩ = some (.int .i64 ln.b) := hlA.c4
  have e0 : ks[i0]? = some (.mk hn []) := by rw [hks, hi0]; simp
  have e1 : ks[i0 + 1]? = some (.mk ln []) := by rw [hks, hi0]; simp
  obtain ⟨bb, hbb, hb0⟩ := hA.kid e0
  have hAr : adr n.A = some ⟨bb, 0, none⟩ := by rw [hbb]; rfl
  have c6 : w1.cell? ⟨n.g, 6, none⟩ = some (.slice (some ⟨bb, 0, none⟩) len n.c) := by have := hA.c6; rw [hAr, ← hlen0] at this; exact this
  have c5 := hA.c5
  rw [hway] at c5
  have c7 := hA.c7
  have hrow : n.row len = .slice (some ⟨bb, 0, none⟩) len n.c := by unfold Nd.row; rw [hAr]
  have hO : w1.ownsRow 0 55 1 (.slice (some ⟨bb, 0, none⟩) len n.c) len (ptrs ks) := by have := hA.r; rw [← hlen0, hrow] at this; exact this
  have hR := own_Rd hO
  obtain ⟨nd, hin, hout⟩ := hT1.apart
  have hblm : (T.mk n ks).bl = n.g :: (bb :: blL ks) := by rw [T.bl_mk, hbb]; rfl
  rw [hblm] at nd hin
  obtain ⟨m1, m2⟩ := List.nodup_cons.1 nd
  obtain ⟨m3, m4⟩ := List.nodup_cons.1 m2
  have hblk : blL ks = blL L ++ ((hn.g :: hn.A.toList) ++ ((ln.g :: ln.A.toList) ++ blL R)) := by
    rw [hks, blL_app, blL_cons, blL_cons, bl_leaf, bl_leaf]
  have hsep : ∀ s ∈ ks.take (i0 + 1), s.g ≠ ln.g := by
    have h2 : ks = (L ++ [.mk hn []]) ++ .mk ln [] :: R := by rw [hks]; simp
    have h3 : ks.take (i0 + 1) = L ++ [.mk hn []] := by rw [h2]; exact List.take_left' (by rw [hi0]; simp)
    rw [h3]
    rw [h2] at m4
    exact g_sep m4
  have CI := index_any (some ⟨bb, 0, none⟩) len n.c ln.g (i0 + 1) ks (.mk ln []) w1 hlen0 (by omega) hR e1 rfl hsep (fun s hs => (hK s hs).isC)
  have hw1 : IntKind.i64.wrap (ln.b + 1) = ln.b + 1 := by rw [IntKind.wrap_i64]; omega
  have hAgh : hn.A ≠ some hn.g := by
    intro e
    have h1 := (List.nodup_append.1 (List.nodup_append.1 (hblk ▸ m4)).2.1).1
    rw [e] at h1; simp at h1
  have CG := grow_leaf (some n.g) hn 1 (ln.b + 1) w1.drew (hhA.same fun _ _ => rfl) (.inr rfl) hAgh (by omega)
  have hi1 : ((i0 + 1 : Nat) : Int) - 1 = (i0 : Int) := by omega
  have hi2 : ¬ ((i0 + 1 : Nat) : Int) = 0 := by omega
  have hi3 : (i0 : Int) < (len : Int) := by omega
  have hi4 : (0 : Int) ≤ (i0 : Int) := by omega
  have hwi : wrap64 (i0 : Int) = (i0 : Int) := wr_of (by omega)
  have hqi : ((i0 : Int) + 1 == 0) = false := succ_beq i0
  replace G1 := Lib.hid G1; replace hT1 := Lib.hid hT1; replace hp := Lib.hid hp; replace hA := Lib.hid hA; replace hK := Lib.hid hK; replace hhA := Lib.hid hhA; replace hlA := Lib.hid hlA; replace e0 := Lib.hid e0; replace e1 := Lib.hid e1; replace hbb := Lib.hid hbb; replace hAr := Lib.hid hAr; replace hrow := Lib.hid hrow; replace hO := Lib.hid hO; replace hR := Lib.hid hR
  replace nd := Lib.hid nd; replace hin := Lib.hid hin; replace hout := Lib.hid hout; replace hblm := Lib.hid hblm; replace m1 := Lib.hid m1; replace m2 := Lib.hid m2; replace m3 := Lib.hid m3; replace m4 := Lib.hid m4; replace hblk := Lib.hid hblk; replace hsep := Lib.hid hsep; replace CI := Lib.hid CI; replace CG := Lib.hid CG; replace hAgh := Lib.hid hAgh; replace hks := Lib.hid hks; replace hi0 := Lib.hid hi0; replace hlen0 := Lib.hid hlen0; replace hlen1 := Lib.hid hlen1
  replace hb0 : w1.cell? ⟨bb, i0, none⟩ = some (ptr hn.g) := hb0
  unfold ptr at hb0 CI CG
  push_cast at CI hi1 hi2
  clear CL
  go_wp2_with fail
  refine CI.out.mono ?_
  rintro e w2 ⟨rfl, rfl⟩
  clear CI
  go_upto_region 11 with fail
  go_still_tail 21, (by kernel_rfl)
  change wpList _ _ _ _ _ w2.drew
  go_wp2_with fail
  refine CG.out.mono ?_
  rintro e w3 ⟨rfl, hh3, o3⟩
  have o3' : Off [hn.g] w2 w3 := ⟨o3.os, o3.tape, o3.output, o3.size, o3.block⟩
  obtain ⟨h', hh'⟩ : ∃ h', h' = hn.add 1 (ln.b + 1) := ⟨_, rfl⟩
  rw [← hh'] at hh3
  have hg' : h'.g = hn.g ∧ h'.A = hn.A := by rw [hh']; exact ⟨(Nd.add_g hn 1 _).1, (Nd.add_g hn 1 _).2.1⟩
  obtain ⟨ks3, hks3⟩ : ∃ ks3, ks3 = L ++ .mk h' [] :: .mk ln [] :: R := ⟨_, rfl⟩
  have hp3 : ptrs ks3 = ptrs ks := by rw [hks3, hks.out]; simp [ptrs, T.g, T.n, hg'.1]
  have hmem : ∀ x ∈ blL ks, x ∈ n.g :: (bb :: blL ks) := fun x hx => by simp [hx]
  have hhm : hn.g ∈ blL ks := by rw [hblk.out]; simp
  have hnh : n.g ≠ hn.g := fun e => m1.out (by rw [e]; exact List.mem_cons_of_mem _ hhm)
  have hbh : bb ≠ hn.g := fun e => m3.out (by rw [e]; exact hhm)
  have hbn : bb ≠ n.g := fun e => m1.out (by rw [← e]; simp)
  have hA3 : At w3 (upOf c0) n ks3 := by
    refine At.congr (ks := ks) (hA.out.same fun b hb => o3'.block b (hA.out.lt b hb) ?_) hp3
    rw [hbb.out] at hb
    simp at hb ⊢
    rcases hb with rfl | rfl
    · exact hnh
    · exact hbh
  have hl1 := hlen1.out
  have hi0' := hi0.out
  have hl3 : ks3.length = len := by have := congrArg List.length hp3; simp [ptrs] at this; rw [this, hlen0.out]
  have c63 : w3.cell? ⟨n.g, 6, none⟩ = some (.slice (some ⟨bb, 0, none⟩) len n.c) := by have := hA3.c6; rw [hAr.out, hl3] at this; exact this
  have hO3 : w3.ownsRow 0 55 1 (.slice (some ⟨bb, 0, none⟩) len n.c) len (ptrs ks3) := by have := hA3.r; rw [hl3, hrow.out] at this; exact this
  obtain ⟨ks5, hks5⟩ : ∃ ks5, ks5 = L ++ .mk h' [] :: R := ⟨_, rfl⟩
  have htd : ks3.take (i0 + 1) ++ ks3.drop (i0 + 1 + 1) = ks5 := by
    have h2 : ks3 = (L ++ [.mk h' []]) ++ .mk ln [] :: R := by rw [hks3]; simp
    have h3 : (L ++ [T.mk h' []]).length = i0 + 1 := by simp [hi0.out]
    have h4 : ((L ++ [T.mk h' []]) ++ .mk ln [] :: R).drop (i0 + 1 + 1) = (((L ++ [T.mk h' []]) ++ .mk ln [] :: R).drop (i0 + 1)).drop 1 := by rw [List.drop_drop]
    rw [h2, h4, List.take_left' h3, List.drop_left' h3, hks5]
    simp
  have CD : Calls Tryd.prog 38 #[.slice (some ⟨bb, 0, none⟩) len n.c, .int .i64 ((i0 : Int) + 1), .int .i64 ((i0 : Int) + 1 + 1)] w3 (fun e w' => e = .returned (.slice (some ⟨bb, 0, none⟩) (len - 1) n.c) ∧ Hid (w'.ownsRow 0 55 1 (.slice (some ⟨bb, 0, none⟩) (len - 1) n.c) (len - 1) (ptrs ks5) ∧ Off [bb] w3 w')) := by
    have := delete_any 0 bb len n.c (i0 + 1) ks3 w3 hl3.symm (by omega) hO3
    rw [htd] at this
    push_cast at this
    exact this.mono fun e w' ⟨h1, h2, h3⟩ => ⟨h1, Lib.hid ⟨h2, h3⟩⟩
  have hkd : ∀ w4, Off [bb] w3 w4 → w4.cell? ⟨n.g, 6, none⟩ = some (.slice (some ⟨bb, 0, none⟩) len n.c) ∧ w4.frozen? ⟨n.g, 6, none⟩ = false := fun w4 h => by
    have e : w4.heap[n.g]? = w3.heap[n.g]? := h.block _ (lt_of_heap hA3.h) (by simp; exact fun e => hbn e.symm)
    exact ⟨(World.cell?_of_block (a := ⟨n.g, 6, none⟩) e).trans c63, (World.frozen?_of_block (a := ⟨n.g, 6, none⟩) e).trans (hA3.free 6)⟩
  have hwj : IntKind.i64.wrap ((i0 : Int) + 1 + 1) = (i0 : Int) + 1 + 1 := wrap_two i0 (by have := hlen0.out; omega)
  have hwk : wrap64 ((i0 : Int) + 1 + 1) = (i0 : Int) + 1 + 1 := wr_of (by have := hlen0.out; omega)
  replace hl1 := Lib.hid hl1; replace hi0' := Lib.hid hi0'
  replace hkd := Lib.hid hkd; replace hA3 := Lib.hid hA3; replace hO3 := Lib.hid hO3; replace o3 := Lib.hid o3; replace o3' := Lib.hid o3'; replace hh3 := Lib.hid hh3; replace CD := Lib.hid CD; replace hp3 := Lib.hid hp3; replace hks3 := Lib.hid hks3; replace hks5 := Lib.hid hks5; replace htd := Lib.hid htd; replace hh' := Lib.hid hh'; replace hg' := Lib.hid hg'; replace hmem := Lib.hid hmem; replace hhm := Lib.hid hhm; replace hl3 := Lib.hid hl3
  replace hnh := Lib.hid hnh; replace hbh := Lib.hid hbh; replace hbn := Lib.hid hbn
  clear CG c6 c5 c7 q3 q7 hb0
  go_wp2_with fail
  refine CD.out.mono ?_
  rintro e w4 ⟨rfl, hP4⟩
  obtain ⟨d6, d6f⟩ := hkd.out w4 hP4.out.2
  go_upto_region 13 with fail
  obtain ⟨hO4, o4⟩ := hP4.out
  obtain ⟨W5, hW5⟩ : ∃ W5, W5 = w4.setCell ⟨n.g, 6, none⟩ (.slice (some ⟨bb, 0, none⟩) (len - 1) n.c) := ⟨_, rfl⟩
  have hbase2 : base ≤ w2.heap.size := Nat.le_trans hbase G1.out.size
  obtain ⟨hT5, o5⟩ := shut_next hT1.out hbase2 hks.out hks5.out hlen0.out hbb.out o3'.out hh3.out hg'.out.1 hg'.out.2 o4 hO4 hW5
  have hB5 : Below base w W5 := by
    have b1 : Below base w w2 := ⟨G1.out.os, G1.out.tape, G1.out.output, G1.out.size, fun k hk => G1.out.block k (by omega) (by simp)⟩
    refine b1.trans (o5.below (B := base) ?_ hbase2)
    intro b hb
    simp at hb
    rcases hb with rfl | rfl | rfl
    · exact (hin.out _ (hmem.out _ hhm.out)).2.2.1
    · exact (hin.out _ (by simp)).2.2.1
    · exact (hin.out _ (by simp)).2.2.1
  have hA5 := ((TP_plug c0 _).1 hT5.p).2.at_
  have hl5 : ks5.length = len - 1 := by rw [hks5.out, hl1.out, hi0.out]; simp; omega
  have c56 : W5.cell? ⟨n.g, 6, none⟩ = some (.slice (some ⟨bb, 0, none⟩) (len - 1) n.c) := by have := hA5.c6; rw [hAr.out, hl5] at this; exact this
  rw [← hW5]
  obtain ⟨m, hm⟩ : ∃ m, m = len - 1 := ⟨_, rfl⟩
  rw [← hm] at c56
  have hh'o := hh'.out
  have hRo := hRR.out
  rw [← hh'o] at hw01 hw02 hRo
  by_cases hz1 : L.length = 0 ∧ R.length = 0
  · rw [if_pos hz1] at hRo
    have hL : L = [] := List.eq_nil_of_length_eq_zero hz1.1
    have hRn : R = [] := List.eq_nil_of_length_eq_zero hz1.2
    have hm1 : m = 1 := eq_one hl1.out hm (by rw [hi0.out]; exact hz1)
    rw [hm1] at c56
    have hk5 : ks5 = [.mk h' []] := by rw [hks5.out, hL, hRn]; rfl
    obtain ⟨b', hb', c5b⟩ := hA5.kid (i := 0) (k := .mk h' []) (by rw [hk5]; rfl)
    rw [hbb.out] at hb'
    injection hb' with hb'
    subst hb'
    replace c5b : W5.cell? ⟨bb, 0, none⟩ = some (ptr h'.g) := c5b
    rw [hk5] at hT5
    obtain ⟨uu, c57⟩ : ∃ uu, W5.cell? ⟨n.g, 7, none⟩ = some (.pointer uu) := by
      have := hA5.c7
      cases hc : upOf c0 with
      | none => rw [hc] at this; exact ⟨_, this⟩
      | some g => rw [hc] at this; exact ⟨_, this⟩
    have CPt := put_kid hT5 (Nat.le_trans hbase hB5.size)
    rw [hg'.out.1] at CPt c5b
    obtain ⟨tt, htt⟩ : ∃ tt, tt = plug c0 (.mk h' []) := ⟨_, rfl⟩
    rw [← htt] at CPt hw02 hRo
    replace hRo := Lib.hid hRo; replace hT5 := Lib.hid hT5; replace o5 := Lib.hid o5; replace hB5 := Lib.hid hB5; replace CPt := Lib.hid CPt; replace hA5 := Lib.hid hA5; replace hW5 := Lib.hid hW5; replace hm := Lib.hid hm; replace htt := Lib.hid htt; replace hl5 := Lib.hid hl5; replace hO4 := Lib.hid hO4; replace o4 := Lib.hid o4; replace hz1 := Lib.hid hz1; replace hh'o := Lib.hid hh'o; replace hL := Lib.hid hL; replace hRn := Lib.hid hRn; replace hk5 := Lib.hid hk5; replace hm1 := Lib.hid hm1
    clear CD d6 d6f c63
    unfold ptr at CPt c5b
    go_wp2_with fail
    refine CPt.out.mono ?_
    rintro e w6 ⟨rfl, hT6, hB6⟩
    have q60 := hT6.c0
    have hT6' := hT6
    rw [htt.out] at hT6'
    have c66 := ((TP_plug c0 _).1 hT6'.p).2.at_.c6
    obtain ⟨AA, hAA⟩ : ∃ AA, AA = adr h'.A := ⟨_, rfl⟩
    replace c66 : w6.cell? ⟨hn.g, 6, none⟩ = some (.slice AA 0 h'.c) := by rw [← hg'.out.1, hAA]; exact c66
    have CPl := place_any tt none 0 0 w6 hT6.p hT6.nd hw02.out
    replace hT6 := Lib.hid hT6; replace hB6 := Lib.hid hB6; replace CPl := Lib.hid CPl; replace hT6' := Lib.hid hT6'; replace hAA := Lib.hid hAA
    clear CPt c56 c5b c57
    unfold ptr at CPl q60
    have huu : uu = none ∨ ∃ a, uu = some a := by cases uu with
      | none => exact .inl rfl
      | some a => exact .inr ⟨a, rfl⟩
    rcases huu with rfl | ⟨a, rfl⟩
    all_goals
      go_wp2_with fail
      refine CPl.out.mono ?_
      rintro e w7 ⟨rfl, hT7, o7⟩
      go_wp2_with fail
      go_ret
      rw [hRo.out]
      exact ⟨rfl, (hB5.out.trans hB6.out).trans (o7.below hT6.out.lo.2 (Nat.le_trans hbase (Nat.le_trans hB5.out.size hB6.out.size))), hT6.out.placed hT7 o7⟩
  rw [if_neg hz1] at hRo
  have hq1 : ((m : Int) == 1) = false := beq_one m (ne_one hl1.out hm (by rw [hi0.out]; exact hz1))
  have hT5p : Tr base W5 tr (plug c0 (.mk n (L ++ .mk h' [] :: R))) := by rw [← hks5.out]; exact hT5
  obtain ⟨tt, htt⟩ : ∃ tt, tt = plug c0 (.mk n (L ++ .mk h' [] :: R)) := ⟨_, rfl⟩
  rw [← htt] at hT5p hw01 hRo
  replace hRo := Lib.hid hRo
  have CPl := place_any tt none 0 0 W5 hT5p.p hT5p.nd hw01.out
  have q60 := hT5p.c0
  replace hT5 := Lib.hid hT5; replace hT5p := Lib.hid hT5p; replace o5 := Lib.hid o5; replace hB5 := Lib.hid hB5; replace CPl := Lib.hid CPl; replace hA5 := Lib.hid hA5; replace hW5 := Lib.hid hW5; replace hm := Lib.hid hm; replace htt := Lib.hid htt; replace hl5 := Lib.hid hl5; replace hO4 := Lib.hid hO4; replace o4 := Lib.hid o4; replace hz1 := Lib.hid hz1; replace hh'o := Lib.hid hh'o
  clear CD d6 d6f c63
  unfold ptr at CPl q60
  go_wp2_with fail
  refine CPl.out.mono ?_
  rintro e w7 ⟨rfl, hT7, o7⟩
  go_wp2_with fail
  go_ret
  rw [hRo.out]
  exact ⟨rfl, hB5.out.trans (o7.below hT5p.out.lo.2 (Nat.le_trans hbase hB5.out.size)), hT5p.out.placed hT7 o7⟩
end Go.Proofs.YtcklmkjlbpjojaaDoor
