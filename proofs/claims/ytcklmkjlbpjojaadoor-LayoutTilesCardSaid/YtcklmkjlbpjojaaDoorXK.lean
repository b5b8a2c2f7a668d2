/- Layout: Close in general, of a tree whose rows may share a block. -/
import Derived.Test.YtcklmkjlbpjojaaDoorXI
import Derived.Test.YtcklmkjlbpjojaaDoorXG
import Derived.Test.YtcklmkjlbpjojaaDoorXH
import Derived.Test.YtcklmkjlbpjojaaDoorM7
namespace Go.Proofs.YtcklmkjlbpjojaaDoor.X
open Go.RowKit
set_option linter.unusedSimpArgs false
set_option linter.unusedVariables false
variable {G : Gh}

theorem PRow.heap {w w' : World} {B o c n : Nat} {xs cur : List Value} (h : PRow w B o c n xs cur) (e : w'.heap = w.heap) : PRow w' B o c n xs cur := ⟨by rw [e]; exact h.h, h.nc, h.cm, h.oc, h.xs⟩
theorem At.prow {w : World} {up : Option Nat} {n : Nd} {ks : List T} {b B o : Nat} (h : At G w up n ks) (hA : n.A = some b) (hα : G.α b = (B, o)) (hl : 0 < ks.length) : ∃ cur, 0 < n.c ∧ PRow w B o n.c ks.length (ptrs ks) cur ∧ ∀ j, j < n.c → G.κ B (o + j) = b := by
  rcases h.r.2 with ⟨h1, _⟩ | ⟨b', cur, h1, h2, h3, h4, h5⟩
  · rw [hA] at h1; cases h1
  · rw [hA] at h1; injection h1 with h1; subst h1
    rw [hα] at h4 h5
    exact ⟨cur, by have := h4.nc; omega, h4, h5⟩
theorem sep_of {B o c vB vo vc b b2 : Nat} (hc : 0 < c) (hvc : 0 < vc) (h1 : ∀ j, j < c → G.κ B (o + j) = b) (h2 : ∀ j, j < vc → G.κ vB (vo + j) = b2) (hne : b2 ≠ b) : Sep B o c vB vo vc := by
  by_cases e : vB = B
  · refine .inr ⟨e, ?_⟩
    subst e
    rcases Nat.lt_or_ge o (vo + vc) with q1 | q1
    · rcases Nat.lt_or_ge vo (o + c) with q2 | q2
      · exfalso
        rcases Nat.le_total o vo with q3 | q3
        · rcases Nat.eq_zero_or_pos vc with z | z
          · omega
          · have a1 := h2 0 z
            have a2 := h1 (vo - o) (by omega)
            rw [show o + (vo - o) = vo + 0 by omega] at a2
            exact hne (a1.symm.trans a2)
        · rcases Nat.eq_zero_or_pos c with z | z
          · omega
          · have a1 := h1 0 z
            have a2 := h2 (o - vo) (by omega)
            rw [show vo + (o - vo) = o + 0 by omega] at a2
            exact hne (a2.symm.trans a1)
      · exact .inr q2
    · exact .inl q1
  · exact .inl e
theorem RepP.uni {w w' : World} {e : Ending} {B o c n b : Nat} {cur : List Value} {l vs : List T} {i : Nat} (h : RepP w B o c cur l vs i e w') (hP : PRow w B o c n (ptrs l) cur) (hm : G.m ≤ w.heap.size) (hc : 0 < c) (hκ : ∀ j, j < c → G.κ B (o + j) = b) (hα : G.α b = (B, o)) (hb : b < w.heap.size) :
    ∃ b' B' o' c' tot, tot + 1 = l.length + vs.length ∧ G.α b' = (B', o') ∧ e = .returned (.slice (some ⟨B', o', none⟩) tot c') ∧ RowAt G w' (some b') c' tot (ptrs (l.take i ++ vs ++ l.drop (i + 1))) ∧ Off G [b] w w' ∧ (b' = b ∨ w.heap.size ≤ b') := by
  obtain ⟨tot, ht, hh⟩ := h
  rcases hh with ⟨cur', rfl, h1, h2⟩ | ⟨b', c', cur', rfl, h1, h2, h3, h4, h5, h6⟩
  · have ho := h2.off hP hm hc hκ
    exact ⟨b, B, o, c, tot, ht, hα, rfl, ⟨h1.len, .inr ⟨b, cur', rfl, Nat.lt_of_lt_of_le hb ho.size, by rw [hα]; exact ⟨_, hκ 0 hc⟩, by rw [hα]; exact h1, by rw [hα]; exact hκ⟩⟩, ho, .inl rfl⟩
  · have q := G.fresh (Nat.le_trans hm h1)
    exact ⟨b', b', 0, c', tot, ht, q.α, rfl, ⟨h5.len, .inr ⟨b', cur', rfl, h2, by rw [q.α]; exact ⟨0, q.κ 0⟩, by rw [q.α]; exact h5, fun j _ => by rw [q.α]; exact q.κ _⟩⟩, Off.of_grown hm h6, .inr h1⟩

set_option maxHeartbeats 1600000 in
set_option maxRecDepth 100000 in
theorem close_gen (base tr : Nat) (c0 : List Fr) (n : Nd) (ks L R : List T) (l h h' : T) (i j : Nat) (pane z : Int) (w : World) (hT : Tr G base w tr (plug c0 (.mk n ks))) (hbase : base ≤ w.heap.size) (hl : (plug c0 (.mk n ks)).leaves.length ≤ 1000)
    (hf : (plug c0 (.mk n ks)).find pane = some l) (hlk : l.ks = []) (hway : n.way = 0 ∨ n.way = 1) (hz : z = l.n.sz n.way ∧ 0 ≤ z ∧ z ≤ 999) (hlen : ks.length ≤ 1000)
    (hi : ks[i]? = some l) (hj : ks[j]? = some h) (hx : (i = 0 ∧ j = 1) ∨ i = j + 1) (hks : (L ++ h :: R).Sublist ks) (hks5 : ∀ x, (ks.set j x).take i ++ (ks.set j x).drop (i + 1) = L ++ x :: R)
    (hh' : h' = h.grow n.way (z + 1)) (hok : h.er.ok) (hha : h.n.a ≤ 1000 ∧ h.n.b ≤ 1000) (hk2 : h'.ks ≠ [] → 2 ≤ h'.ks.length ∧ h'.ks.length ≤ 1000 ∧ ∀ f d, c0 = f :: d → (f.L ++ h' :: f.R).length ≤ 1000)
    (hw01 : ∀ t2, Closed c0 n L R h' t2 → t2.w01) :
    Calls Tryd.prog 14 #[ptr tr, .int .i64 pane] w fun e w' => e = .returned (.int .i64 0) ∧ Below base w w' ∧ ∃ t2, Closed c0 n L R h' t2 ∧ Tr G base w' tr (t2.place 0 0) := by
  have CL := Lib.hid (leaf_any base tr _ pane w hT (by omega))
  rw [hf] at CL
  simp only [Option.map_some, uptr] at CL
  obtain ⟨len, hlen0⟩ : ∃ len, len = ks.length := ⟨_, rfl⟩
  have hile : i < len := by rw [hlen0]; exact (List.getElem?_eq_some_iff.1 hi).1
  have hjle : j < len := by rw [hlen0]; exact (List.getElem?_eq_some_iff.1 hj).1
  have hlen1 : len ≤ 1000 := by rw [hlen0]; exact hlen
  have hlenLR : len = L.length + R.length + 2 := by
    have h1 := congrArg List.length (hks5 h)
    simp only [List.length_append, List.length_take, List.length_drop, List.length_set, List.length_cons] at h1
    rw [← hlen0] at h1
    omega
  have hwj := wrap_suc hile hlen1
  replace hwj := Lib.hid hwj
  have hxA : i = 0 → j = 1 → _ := fun h1 h2 => nb_a h1 h2 hjle
  have hxB : i = j + 1 → _ := fun h1 => nb_b h1 hile hlen1
  replace hxA := Lib.hid hxA; replace hxB := Lib.hid hxB
  obtain ⟨nw, hnw⟩ : ∃ nw, nw = n.way := ⟨_, rfl⟩
  rw [← hnw] at hway hz hh'
  replace hT := Lib.hid hT; replace hf := Lib.hid hf; replace hw01 := Lib.hid hw01; replace hks := Lib.hid hks; replace hks5 := Lib.hid hks5; replace hok := Lib.hid hok; replace hk2 := Lib.hid hk2; replace hi := Lib.hid hi; replace hj := Lib.hid hj; replace hlen := Lib.hid hlen; replace hlen0 := Lib.hid hlen0; replace hlk := Lib.hid hlk; replace hnw := Lib.hid hnw; replace hh' := Lib.hid hh'
  replace hlenLR := Lib.hid hlenLR
  unfold ptr at CL ⊢
  go_enter Tryd.func14, Tryd.ntmps14
  go_wp2_with fail
  refine CL.out.mono ?_
  rintro e w1 ⟨rfl, G1⟩
  have hT1 := hT.out.grown G1
  have hp := (TP_plug c0 _).1 hT1.p
  have hA := hp.2.at_
  have hK := TPs_iff.1 hp.2.kids
  have hlm : l ∈ ks := List.mem_of_getElem? hi.out
  have hhm : h ∈ ks := List.mem_of_getElem? hj.out
  have hlA : At G w1 (some n.g) l.n l.ks := (hK l hlm).atn
  have q7 : w1.cell? ⟨l.g, 7, none⟩ = some (.pointer (some ⟨n.g, 0, none⟩)) := hlA.c7
  have q3 : w1.cell? ⟨l.g, 3 + nw.toNat, none⟩ = some (.int .i64 z) := by
    rw [hz.1]
    rcases hway with h | h
    · rw [h]; exact hlA.c3
    · rw [h]; exact hlA.c4
  obtain ⟨bb, B, o, cur1, hbb, hα, hAr, hPR, hκ, hb0⟩ := hA.kid hj.out
  replace hPR := Lib.hid hPR; replace hκ := Lib.hid hκ
  have c6 : w1.cell? ⟨n.g, 6, none⟩ = some (.slice (some ⟨B, o, none⟩) len n.c) := by have := hA.c6; rw [hAr, ← hlen0.out] at this; exact this
  have c5 := hA.c5
  rw [← hnw.out] at c5
  have c7 := hA.c7
  have hR := hA.rd
  rw [hAr] at hR
  obtain ⟨nd, hin, hout⟩ := hT1.apart
  obtain ⟨d1, d2, d3⟩ := bl_apart nd
  have hsep : ∀ s ∈ ks.take i, s.g ≠ l.g := by
    have h4 := d3
    rw [split_at hi.out] at h4
    exact g_sep h4
  have CI := index_any (some ⟨B, o, none⟩) len n.c l.g i ks l w1 hlen0.out (by omega) hR hi.out rfl hsep (fun s hs => (hK s hs).isC)
  have hw1 : IntKind.i64.wrap (z + 1) = z + 1 := by rw [IntKind.wrap_i64]; omega
  have hhN : h.bl.Nodup := by
    have h4 := d3
    rw [split_at hj.out] at h4
    exact (kid_apart h4).1
  have CG := grow_any hway h (some n.g) (z + 1) w1.drew ((hK h hhm).heap rfl) hhN hok.out (by have := least_le hway h hok.out; omega) hha.1 hha.2 (by omega)
  replace G1 := Lib.hid G1; replace hT1 := Lib.hid hT1; replace hp := Lib.hid hp; replace hA := Lib.hid hA; replace hK := Lib.hid hK; replace hlA := Lib.hid hlA; replace hbb := Lib.hid hbb; replace hAr := Lib.hid hAr; replace hα := Lib.hid hα; replace hR := Lib.hid hR; replace hlm := Lib.hid hlm; replace hhm := Lib.hid hhm; replace hhN := Lib.hid hhN
  replace nd := Lib.hid nd; replace hin := Lib.hid hin; replace hout := Lib.hid hout; replace d1 := Lib.hid d1; replace d2 := Lib.hid d2; replace d3 := Lib.hid d3; replace hsep := Lib.hid hsep; replace CI := Lib.hid CI; replace CG := Lib.hid CG
  have hz' := Lib.hid hz.1
  have hnw0 : 0 ≤ nw := by omega
  have hnw2 : nw < 2 := by omega
  replace hway := Lib.hid hway; replace hl := Lib.hid hl; replace hbase := Lib.hid hbase; replace hha := Lib.hid hha
  have hz2 := hz.2
  clear hz
  replace hb0 : w1.cell? ⟨B, o + j, none⟩ = some (ptr h.g) := hb0
  unfold ptr at hb0 CI CG
  clear CL
  go_wp2_with fail
  refine CI.out.mono ?_
  rintro e w2 ⟨rfl, rfl⟩
  clear CI
  rcases hx with ⟨hx1, hx2⟩ | hx
  · obtain ⟨hqi, hjl, hi1⟩ := hxA.out hx1 hx2
    have hb1 : w2.cell? ⟨B, o + 1, none⟩ = some (.pointer (some ⟨h.g, 0, none⟩)) := by rw [hx2] at hb0; exact hb0
    replace hx1 := Lib.hid hx1; replace hx2 := Lib.hid hx2
    clear hxA hxB
    go_upto_region 11 with fail
    go_still_tail 21, (by kernel_rfl)
    change wpList _ _ _ _ _ w2.drew
    go_wp2_with fail
    refine CG.out.mono ?_
    rintro e w3 ⟨rfl, hh3, o3⟩
    have o3' : Off G h.bl w2 w3 := o3.undrew
    rw [← hh'.out] at hh3
    have hg' : h'.g = h.g ∧ h'.bl = h.bl := by rw [hh'.out]; exact ⟨T.grow_g _ _ _, T.grow_bl _ _ _⟩
    obtain ⟨ks3, hks3⟩ : ∃ ks3, ks3 = ks.set j h' := ⟨_, rfl⟩
    have hp3 : ptrs ks3 = ptrs ks := by
      rw [hks3]; unfold ptrs
      refine List.ext_getElem? fun q => ?_
      rw [List.getElem?_map, List.getElem?_map, List.getElem?_set]
      split
      · rename_i e
        subst e
        rw [hj.out]
        split
        · simp [hg'.1]
        · rename_i e; exact absurd (List.getElem?_eq_some_iff.1 hj.out).1 e
      · rfl
    have hhB : ∀ b ∈ h.bl, b ∈ blL ks := fun b hb => mem_blL.2 ⟨h, hhm.out, hb⟩
    have hbd := d2.out bb hbb.out
    have hA3 : At G w3 (upOf c0) n ks3 := by
      refine At.congr (ks := ks) (hA.out.off o3' fun b hb => ?_) hp3
      rw [hbb.out] at hb
      simp at hb
      rcases hb with rfl | rfl
      · exact fun hm => d1.out (hhB _ hm)
      · exact fun hm => hbd.1 (hhB _ hm)
    have hl3 : ks3.length = len := by rw [hks3, List.length_set, hlen0.out]
    have c63 : w3.cell? ⟨n.g, 6, none⟩ = some (.slice (some ⟨B, o, none⟩) len n.c) := by have := hA3.c6; rw [hAr.out, hl3] at this; exact this
    obtain ⟨cur3, hc3, hP3, hκ3⟩ := hA3.prow hbb.out hα.out (by rw [hl3]; omega)
    rw [hl3] at hP3
    obtain ⟨ks5, hks5e⟩ : ∃ ks5, ks5 = L ++ h' :: R := ⟨_, rfl⟩
    have htd : ks3.take i ++ ks3.drop (i + 1) = ks5 := by rw [hks3, hks5e]; exact hks5.out h'
    have CD : Calls Tryd.prog 38 #[.slice (some ⟨B, o, none⟩) len n.c, .int .i64 (i : Int), .int .i64 ((i : Int) + 1)] w3 (fun e w' => e = .returned (.slice (some ⟨B, o, none⟩) (len - 1) n.c) ∧ Hid ((∃ cur', PRow w' B o n.c (len - 1) (ptrs ks5) cur') ∧ Off G [bb] w3 w')) := by
      have := delete_any B o len n.c i ks3 cur3 w3 hl3.symm hile hP3
      rw [htd] at this
      exact this.mono fun e w' ⟨h1, cur', h2, h3⟩ => ⟨h1, Lib.hid ⟨⟨cur', h2⟩, h3.off hP3 hA3.m hc3 hκ3⟩⟩
    have hkd : ∀ w4, Off G [bb] w3 w4 → w4.cell? ⟨n.g, 6, none⟩ = some (.slice (some ⟨B, o, none⟩) len n.c) ∧ w4.frozen? ⟨n.g, 6, none⟩ = false := fun w4 h => by
      have e : w4.heap[n.g]? = w3.heap[n.g]? := h.wh hA3.q (lt_of_heap hA3.h) (by simp; exact fun e => hbd.2 e.symm)
      exact ⟨(World.cell?_of_block (a := ⟨n.g, 6, none⟩) e).trans c63, (World.frozen?_of_block (a := ⟨n.g, 6, none⟩) e).trans (hA3.free 6)⟩
    have hwj' := hwj.out
    replace hkd := Lib.hid hkd; replace hA3 := Lib.hid hA3; replace hP3 := Lib.hid hP3; replace hκ3 := Lib.hid hκ3; replace o3 := Lib.hid o3; replace o3' := Lib.hid o3'; replace hh3 := Lib.hid hh3; replace CD := Lib.hid CD; replace hp3 := Lib.hid hp3; replace hks3 := Lib.hid hks3; replace hks5e := Lib.hid hks5e; replace htd := Lib.hid htd; replace hg' := Lib.hid hg'; replace hhB := Lib.hid hhB; replace hbd := Lib.hid hbd; replace hl3 := Lib.hid hl3
    clear CG c6 c5 c7 q3 q7 hb0
    go_wp2_with fail
    refine CD.out.mono ?_
    rintro e w4 ⟨rfl, hP4⟩
    obtain ⟨d6, d6f⟩ := hkd.out w4 hP4.out.2
    go_upto_region 13 with fail
    obtain ⟨⟨cur4, hO4⟩, o4⟩ := hP4.out
    obtain ⟨W5, hW5⟩ : ∃ W5, W5 = w4.setCell ⟨n.g, 6, none⟩ (.slice (some ⟨B, o, none⟩) (len - 1) n.c) := ⟨_, rfl⟩
    have hbase2 : base ≤ w2.heap.size := Nat.le_trans hbase.out G1.out.size
    have hl5 : ks5.length = len - 1 := by rw [hks5e.out, List.length_append, List.length_cons]; exact len_shut hlenLR.out
    obtain ⟨hT5, o5⟩ := shut_any hT1.out hbase2 hks.out hks5e.out hlen0.out hl5 hbb.out hα.out o3'.out hh3.out hg'.out.1 hg'.out.2 o4 hO4 hW5
    have hB5 : Below base w W5 := by
      have b1 : Below base w w2 := ⟨G1.out.os, G1.out.tape, G1.out.output, G1.out.size, fun k hk => G1.out.block k (by have := hbase.out; omega) (by simp)⟩
      refine b1.trans (o5.below (B := base) ?_ hbase2 hT1.out.gl)
      intro b hb
      simp at hb
      rcases hb with hb | rfl | rfl
      · exact (hin.out b (by rw [T.bl_mk]; simp [hhB.out b hb])).2.2.1
      · exact (hin.out b (by rw [T.bl_mk]; simp [hbb.out])).2.2.1
      · exact (hin.out _ (by rw [T.bl_mk]; simp)).2.2.1
    have hA5 := ((TP_plug c0 _).1 hT5.p).2.at_
    have c56 : W5.cell? ⟨n.g, 6, none⟩ = some (.slice (some ⟨B, o, none⟩) (len - 1) n.c) := by have := hA5.c6; rw [hAr.out, hl5] at this; exact this
    rw [← hW5]
    obtain ⟨m, hm⟩ : ∃ m, m = len - 1 := ⟨_, rfl⟩
    rw [← hm] at c56
    by_cases hz1 : L.length = 0 ∧ R.length = 0
    · have hm1 : m = 1 := one_shut hlenLR.out hm hz1
      rw [hm1] at c56
      have hk5 : ks5 = [h'] := by
        rw [hks5e.out, List.eq_nil_of_length_eq_zero hz1.1, List.eq_nil_of_length_eq_zero hz1.2]; rfl
      obtain ⟨B', o', hb', c5b⟩ := hA5.kidc (i := 0) (k := h') (by rw [hk5]; rfl)
      rw [hAr.out] at hb'
      injection hb' with hb'
      injection hb' with hb1 hb2
      subst hb1; subst hb2
      replace c5b : W5.cell? ⟨B, o, none⟩ = some (ptr h'.g) := c5b
      rw [hk5] at hT5
      obtain ⟨uu, c57, huu⟩ : ∃ uu, W5.cell? ⟨n.g, 7, none⟩ = some (.pointer uu) ∧ uptr (upOf c0) = .pointer uu := by
        have := hA5.c7
        cases hc : upOf c0 with
        | none => rw [hc] at this; exact ⟨_, this, rfl⟩
        | some g => rw [hc] at this; exact ⟨_, this, rfl⟩
      have CPt := put_kidT hT5 (Nat.le_trans hbase.out hB5.size)
      rw [hg'.out.1] at CPt c5b
      replace hT5 := Lib.hid hT5; replace o5 := Lib.hid o5; replace hB5 := Lib.hid hB5; replace CPt := Lib.hid CPt; replace hA5 := Lib.hid hA5; replace hW5 := Lib.hid hW5; replace hm := Lib.hid hm; replace hl5 := Lib.hid hl5; replace hO4 := Lib.hid hO4; replace o4 := Lib.hid o4; replace hz1 := Lib.hid hz1; replace hk5 := Lib.hid hk5; replace huu := Lib.hid huu; replace hm1 := Lib.hid hm1
      clear CD d6 d6f c63
      unfold ptr at CPt c5b
      go_wp2_with fail
      refine CPt.out.mono ?_
      rintro e w6 ⟨rfl, hT6, hB6⟩
      have hT6h := ((TP_plug c0 _).1 hT6.p).2
      have c66 := hT6h.atn.c6
      obtain ⟨AA, hAA⟩ : ∃ AA, AA = adr G h'.n.A := ⟨_, rfl⟩
      replace c66 : w6.cell? ⟨h.g, 6, none⟩ = some (.slice AA h'.ks.length h'.n.c) := by rw [← hg'.out.1, hAA]; exact c66
      have q60 := hT6.c0
      obtain ⟨kl, hkl⟩ : ∃ kl, kl = h'.ks.length := ⟨_, rfl⟩
      rw [← hkl] at c66
      have hbase6 : base ≤ w6.heap.size := Nat.le_trans hbase.out (Nat.le_trans hB5.out.size hB6.size)
      by_cases hz3 : c0 = [] ∨ h'.ks = []
      · -- it stands where its parent stood
        obtain ⟨tt, htt⟩ : ∃ tt, tt = plug c0 h' := ⟨_, rfl⟩
        have hcl : Closed c0 n L R h' tt := .inl ⟨hz1.out.1, hz1.out.2, hz3, htt⟩
        rw [← htt] at hT6 q60
        have CPl := place_any tt none 0 0 w6 hT6.p hT6.nd (hw01.out tt hcl)
        have hkk : uu = none ∨ kl = 0 := by
          rcases hz3 with h | h
          · left
            have := huu.out
            rw [h] at this
            have h2 : uptr (upOf []) = .pointer none := rfl
            rw [h2] at this; injection this with this; exact this.symm
          · right; rw [hkl, h]; rfl
        have huu2 : uu = none ∨ ∃ a, uu = some a := by cases uu with
          | none => exact .inl rfl
          | some a => exact .inr ⟨a, rfl⟩
        replace hT6 := Lib.hid hT6; replace hB6 := Lib.hid hB6; replace CPl := Lib.hid CPl; replace hAA := Lib.hid hAA; replace hkl := Lib.hid hkl; replace htt := Lib.hid htt; replace hcl := Lib.hid hcl; replace hT6h := Lib.hid hT6h; replace hz3 := Lib.hid hz3
        clear CPt c56 c5b c57
        unfold ptr at CPl q60
        have hfin : ∀ w7, TP G w7 none (tt.place 0 0) → Off G tt.bl w6 w7 → Below base w w7 ∧ ∃ t2, Closed c0 n L R h' t2 ∧ Tr G base w7 tr (t2.place 0 0) := fun w7 hT7 o7 =>
          ⟨(hB5.out.trans hB6.out).trans (o7.below hT6.out.lo.2 hbase6 hT6.out.gl), tt, hcl.out, hT6.out.placed hT7 o7⟩
        replace hfin := Lib.hid hfin
        rcases huu2 with rfl | ⟨a, rfl⟩
        · clear hkk
          go_wp2_with fail
          refine CPl.out.mono ?_
          rintro e w7 ⟨rfl, hT7, o7⟩
          go_wp2_with fail
          go_ret
          exact ⟨rfl, hfin.out w7 hT7 o7⟩
        · obtain rfl : kl = 0 := by simpa using hkk
          clear hkk
          go_wp2_with fail
          refine CPl.out.mono ?_
          rintro e w7 ⟨rfl, hT7, o7⟩
          go_wp2_with fail
          go_ret
          exact ⟨rfl, hfin.out w7 hT7 o7⟩
      · -- its kids are laid into the split above
        have hz4 : c0 ≠ [] ∧ h'.ks ≠ [] := ⟨fun e => hz3 (.inl e), fun e => hz3 (.inr e)⟩
        obtain ⟨f, d, hfd⟩ : ∃ f d, c0 = f :: d := by
          cases c0 with
          | nil => exact absurd rfl hz4.1
          | cons f d => exact ⟨f, d, rfl⟩
        obtain ⟨k21, k22, k23⟩ := hk2.out hz4.2
        have k24 := k23 f d hfd
        have hT6f : Tr G base w6 tr (plug (f :: d) h') := by rw [← hfd]; exact hT6
        have hT6' : Tr G base w6 tr (plug d (.mk f.n (f.L ++ h' :: f.R))) := hT6f
        have hp6 := (TP_plug d _).1 hT6'.p
        have hA6 := hp6.2.at_
        have hK6 := TPs_iff.1 hp6.2.kids
        have huf : uu = some ⟨f.n.g, 0, none⟩ := by
          have := huu.out
          rw [hfd] at this
          have h2 : uptr (upOf (f :: d)) = .pointer (some ⟨f.n.g, 0, none⟩) := rfl
          rw [h2] at this; injection this with this; exact this.symm
        obtain ⟨bf, Bf, fo, curf, hbf, hαf, hfr, hPf, hκf, _⟩ := hA6.kid (i := f.L.length) (k := h') (by simp)
        obtain ⟨n6, hn6⟩ : ∃ n6, n6 = (f.L ++ h' :: f.R).length := ⟨_, rfl⟩
        have f66 : w6.cell? ⟨f.n.g, 6, none⟩ = some (.slice (some ⟨Bf, fo, none⟩) n6 f.n.c) := by have := hA6.c6; rw [hfr, ← hn6] at this; exact this
        have hR6 := hA6.rd
        rw [hfr] at hR6
        obtain ⟨nd6, hin6, hout6⟩ := hT6'.apart
        obtain ⟨g1, g2, g3⟩ := bl_apart nd6
        have hsep6 : ∀ s ∈ (f.L ++ h' :: f.R).take f.L.length, s.g ≠ h.g := by
          rw [List.take_left' rfl, ← hg'.out.1]
          exact g_sep g3
        have hn6b : n6 ≤ 1000 := by rw [hn6]; exact k24
        have CI2 := index_any (some ⟨Bf, fo, none⟩) n6 f.n.c h.g f.L.length (f.L ++ h' :: f.R) h' w6 hn6 (Nat.le_trans hn6b (by decide)) hR6 (by simp) hg'.out.1 hsep6 (fun s hs => (hK6 s hs).isC)
        have hkl1 : 2 ≤ kl ∧ kl ≤ 1000 := by rw [hkl]; exact ⟨k21, k22⟩
        obtain ⟨k0, hk0⟩ : ∃ k0, h'.ks[0]? = some k0 := ⟨h'.ks[0]'(by omega), List.getElem?_eq_getElem _⟩
        obtain ⟨bk, Bk, ko, curk, hbk, hαk, hAk', hPk, hκk, _⟩ := hT6h.atn.kid hk0
        have hAk : AA = some ⟨Bk, ko, none⟩ := by rw [hAA]; exact hAk'
        rw [hAk] at c66
        have hhN6 : h'.bl.Nodup := by rw [hg'.out.2]; exact hhN.out
        have hh6 : TP G w6 (some f.n.g) h' := hK6 h' (by simp)
        have hI0 := SpI.start hh6
        have hfg : f.n.g ∉ h'.bl := fun hm => g1 (mem_blL.2 ⟨h', by simp, hm⟩)
        have hbfh : bf ∉ h'.bl := fun hm => (g2 bf hbf).1 (mem_blL.2 ⟨h', by simp, hm⟩)
        have hbkm : bk ∈ h'.bl := by
          cases h' with | mk n2 ks2 =>
            have hb2 : n2.A = some bk := hbk
            rw [T.bl_mk, hb2]; simp
        have hbkf : bk ≠ bf := fun e => hbfh (e ▸ hbkm)
        have hsep : Sep Bf fo f.n.c Bk ko h'.n.c := sep_of (by have := hPf.nc; simp at this; omega) (by have := hPk.nc; omega) hκf hκk hbkf
        have hgl6 : base ≤ G.lo := hT6.gl
        have hm6 : G.m ≤ w6.heap.size := hT6.m
        have hkpos : (0 : Int) < (kl : Int) := by omega
        obtain ⟨lf, hlf⟩ : ∃ lf, lf = f.L.length := ⟨_, rfl⟩
        rw [← hlf] at CI2
        have hlfb : lf < n6 := by rw [hlf, hn6]; simp
        have hwlf : IntKind.i64.wrap ((lf : Int) + 1) = (lf : Int) + 1 := wrap_suc hlfb hn6b
        replace hz3 := Lib.hid hz3; replace hz4 := Lib.hid hz4; replace hfd := Lib.hid hfd; replace k21 := Lib.hid k21; replace k22 := Lib.hid k22; replace k23 := Lib.hid k23; replace k24 := Lib.hid k24; replace hT6 := Lib.hid hT6; replace hT6f := Lib.hid hT6f; replace hT6' := Lib.hid hT6'; replace hp6 := Lib.hid hp6; replace hA6 := Lib.hid hA6; replace hK6 := Lib.hid hK6; replace hbf := Lib.hid hbf; replace hfr := Lib.hid hfr; replace hn6 := Lib.hid hn6; replace hR6 := Lib.hid hR6; replace hαf := Lib.hid hαf; replace hPf := Lib.hid hPf; replace hκf := Lib.hid hκf; replace hαk := Lib.hid hαk; replace hPk := Lib.hid hPk; replace hκk := Lib.hid hκk; replace hAk' := Lib.hid hAk'; replace hsep := Lib.hid hsep; replace hm6 := Lib.hid hm6; replace nd6 := Lib.hid nd6; replace hin6 := Lib.hid hin6; replace hout6 := Lib.hid hout6; replace g1 := Lib.hid g1; replace g2 := Lib.hid g2; replace g3 := Lib.hid g3; replace hsep6 := Lib.hid hsep6; replace CI2 := Lib.hid CI2; replace hk0 := Lib.hid hk0; replace hbk := Lib.hid hbk
        replace hhN6 := Lib.hid hhN6; replace hh6 := Lib.hid hh6; replace hI0 := Lib.hid hI0; replace hfg := Lib.hid hfg; replace hbfh := Lib.hid hbfh; replace hbkm := Lib.hid hbkm; replace hbkf := Lib.hid hbkf; replace hlf := Lib.hid hlf; replace hB6 := Lib.hid hB6; replace hAA := Lib.hid hAA; replace hkl := Lib.hid hkl; replace hT6h := Lib.hid hT6h; replace hbase6 := Lib.hid hbase6
        subst hAk
        subst huf
        clear CPt c56 c5b c57
        unfold ptr at CI2 q60
        go_wp2_with fail
        refine CI2.out.mono ?_
        rintro e w7 ⟨rfl, rfl⟩
        clear CI2
        go_wp2_with fail
        go_loopw [109] (fun iv wr => ∃ q : Nat, q ≤ kl ∧ iv = .int .i64 q ∧ Hid (SpI G w7 f.n.g h' q wr)) (fun iv _ => kl - (intOf iv).toNat)
        case atStart => exact ⟨0, Nat.zero_le _, rfl, hI0⟩
        case round =>
          obtain ⟨q, hq, rfl, hI⟩ := hrel
          by_cases hlt : q < kl
          · obtain ⟨x, hx'⟩ : ∃ x, h'.ks[q]? = some x := ⟨h'.ks[q]'(by rw [← hkl.out]; exact hlt), List.getElem?_eq_getElem _⟩
            obtain ⟨Bk', ko', hbk', hxc⟩ := hI.out.a.kidc hx'
            rw [hAk'.out] at hbk'
            injection hbk' with hbk'
            injection hbk' with hb1 hb2
            subst hb1; subst hb2
            have hbk' := True.intro
            have hxT : TP G wr (some h'.g) x := by
              have := hI.out.r
              rw [drop_at hx', TPs] at this
              exact this.1
            have x7 : ∃ u, wr.cell? ⟨x.g, 7, none⟩ = some u := ⟨_, hxT.atn.c7⟩
            obtain ⟨u7, x7⟩ := x7
            have x7f : wr.frozen? ⟨x.g, 7, none⟩ = false := hxT.atn.free 7
            have hst := hI.out.step hhN6.out hx'
            have hqi : (q : Int) < (kl : Int) := by omega
            replace hxT := Lib.hid hxT; replace hx' := Lib.hid hx'; replace hst := Lib.hid hst; replace hbk' := Lib.hid hbk'
            unfold ptr at hxc
            go_wp2_with fail
            exact ⟨⟨q + 1, by omega, by go_num, hst⟩, by simp [intOf]; omega⟩
          · obtain rfl : q = kl := by omega
            have hI' := hI.out
            have f67 : wr.cell? ⟨f.n.g, 6, none⟩ = some (.slice (some ⟨Bf, fo, none⟩) n6 f.n.c) := by
              rw [World.cell?_of_block (hI'.o.wh hA6.out.q (hA6.out.lt _ (by simp)) hfg.out)]; exact f66
            have f67f : wr.frozen? ⟨f.n.g, 6, none⟩ = false := by
              rw [World.frozen?_of_block (hI'.o.wh hA6.out.q (hA6.out.lt _ (by simp)) hfg.out)]; exact hA6.out.free 6
            have h67 : wr.cell? ⟨h.g, 6, none⟩ = some (.slice (some ⟨Bk, ko, none⟩) q h'.n.c) := by
              have := hI'.a.c6
              rw [hAk'.out, ← hkl.out] at this
              rw [← hg'.out.1]; exact this
            have hAwr : At G wr (upOf d) f.n (f.L ++ h' :: f.R) := hA6.out.off hI'.o (fun b hb => by
              rw [hbf.out] at hb
              simp at hb
              rcases hb with rfl | rfl
              · exact hfg.out
              · exact hbfh.out)
            obtain ⟨curf2, hcf2, hOwr, hκf2⟩ := hAwr.prow hbf.out hαf.out (by rw [List.length_append, List.length_cons]; exact Nat.succ_le_of_lt (Nat.lt_add_left _ (Nat.succ_pos _)))
            obtain ⟨curk2, hck2, hVwr, hκk2⟩ := hI'.a.prow hbk.out hαk.out (by rw [← hkl.out]; omega)
            rw [← hn6.out] at hOwr
            rw [← hkl.out] at hVwr
            have CR := (replace_any Bf fo n6 f.n.c lf Bk ko h'.n.c q (f.L ++ h' :: f.R) h'.ks curf2 curk2 wr.drew hn6.out hlfb hn6b hkl.out hkl1.1 hkl1.2 (hOwr.heap rfl) (hVwr.heap rfl) hsep.out).mono fun e w' h => RepP.uni (G := G) (b := bf) h (hOwr.heap rfl) (show G.m ≤ wr.drew.heap.size from hI'.o.m') hcf2 hκf2 hαf.out (Nat.lt_of_lt_of_le (hA6.out.lt bf (by simp [hbf.out])) hI'.o.size)
            have hkp : ∀ w10, Off G [bf] wr.drew w10 → w10.cell? ⟨f.n.g, 6, none⟩ = some (.slice (some ⟨Bf, fo, none⟩) n6 f.n.c) ∧ w10.cell? ⟨h.g, 6, none⟩ = some (.slice (some ⟨Bk, ko, none⟩) q h'.n.c) ∧ w10.frozen? ⟨f.n.g, 6, none⟩ = false := fun w10 o => by
              have hne1 : f.n.g ∉ [bf] := by rw [List.mem_singleton]; exact fun e => (g2.out bf hbf.out).2 e.symm
              have hne2 : h.g ∉ [bf] := by rw [List.mem_singleton]; exact fun e => hbfh.out (e ▸ (hg'.out.1 ▸ h'.g_mem))
              have hl1 : f.n.g < wr.heap.size := Nat.lt_of_lt_of_le (hA6.out.lt _ (by simp)) hI'.o.size
              have hl2 : h.g < wr.heap.size := by rw [← hg'.out.1]; exact Nat.lt_of_lt_of_le (hT6h.out.lt _ _ _ h'.g_mem) hI'.o.size
              exact ⟨(World.cell?_of_block (a := ⟨f.n.g, 6, none⟩) (o.wh hA6.out.q hl1 hne1)).trans f67, (World.cell?_of_block (a := ⟨h.g, 6, none⟩) (o.wh (by rw [← hg'.out.1]; exact hT6h.out.atn.q) hl2 hne2)).trans h67, (World.frozen?_of_block (a := ⟨f.n.g, 6, none⟩) (o.wh hA6.out.q hl1 hne1)).trans f67f⟩
            replace CR := Lib.hid CR; replace hOwr := Lib.hid hOwr; replace hVwr := Lib.hid hVwr; replace hκf2 := Lib.hid hκf2; replace hκk2 := Lib.hid hκk2; replace hAwr := Lib.hid hAwr; replace hI' := Lib.hid hI'; replace hkp := Lib.hid hkp
            go_upto_region 24 with fail
            refine wp_region_row (S := fun w' => w'.cell? ⟨f.n.g, 6, none⟩ = some (.slice (some ⟨Bf, fo, none⟩) n6 f.n.c) ∧ w'.cell? ⟨h.g, 6, none⟩ = some (.slice (some ⟨Bk, ko, none⟩) q h'.n.c)) 12 13 (by kernel_rfl) (by kernel_rfl) (fun _ _ d _ _ h => by cases d <;> exact h) ⟨f67, h67⟩ ?_
            simp only [List.take_succ_cons, List.take_zero, List.drop_succ_cons, List.drop_zero]
            repeat
              (apply wpHeld_cons (by rfl)
               · intro w hSw
                 go_simp
                 try with_reducible rfl
               simp only [Act.put, List.setIfInBounds_toArray, List.set_cons_zero, List.set_cons_succ])
            refine wpHeld_nil ?_
            refine wpRow_succ (k := 0) (fun K hK => ?_)
            go_simp
            go_at_call 39
            refine CR.out.mono ?_
            rintro e w10 ⟨b', B', o', c', tot, htot, hα', rfl, hO10, o10, hb'⟩
            obtain ⟨f106, h106, f106f⟩ := hkp.out w10 o10
            refine hK.out _ _ ⟨f106, h106⟩ ?_
            clear hK K
            try simp only [Act.put, List.setIfInBounds_toArray, List.set_cons_zero, List.set_cons_succ]
            refine wpRow_zero ?_
            replace hα' := Lib.hid hα'; replace hO10 := Lib.hid hO10; replace o10 := Lib.hid o10; replace hb' := Lib.hid hb'; replace htot := Lib.hid htot
            clear CR
            go_upto_region 25 with fail
            obtain ⟨W11, hW11⟩ : ∃ W11, W11 = w10.setCell ⟨f.n.g, 6, none⟩ (.slice (some ⟨B', o', none⟩) tot c') := ⟨_, rfl⟩
            rw [← hW11]
            have htot2 : tot = f.L.length + h'.ks.length + f.R.length := tot_of htot.out
            have hO10' : RowAt G w10 (some b') c' tot (ptrs (f.L ++ h'.ks ++ f.R)) := by
              have h1 := hO10.out
              rw [hlf.out, List.take_left' rfl, show (f.L ++ h' :: f.R).drop (f.L.length + 1) = f.R by rw [List.drop_append]; simp] at h1
              exact h1
            have o10' : Off G [bf] wr w10 := o10.out.undrew
            have hIq : SpI G w7 f.n.g h' h'.ks.length wr := by rw [← hkl.out]; exact hI'.out
            obtain ⟨hT11, hB11⟩ := splice_end (W11 := W11) hT6f.out hbase6.out hbf.out hIq htot2 o10' hO10' hb'.out (by rw [show adr G (some b') = some ⟨B', o', none⟩ by unfold adr; simp [hα'.out]]; exact hW11)
            obtain ⟨tt, htt⟩ : ∃ tt, tt = plug d (.mk { f.n with A := some b', c := c' } (f.L ++ h'.ks ++ f.R)) := ⟨_, rfl⟩
            have hcl : Closed c0 n L R h' tt := .inr (.inl ⟨hz1.out.1, hz1.out.2, f, d, { f.n with A := some b', c := c' }, hfd.out, hz4.out.2, ⟨rfl, rfl, rfl, rfl⟩, htt⟩)
            rw [← htt] at hT11
            have CPl := place_any tt none 0 0 W11 hT11.p hT11.nd (hw01.out tt hcl)
            have q611 := hT11.c0
            have hfin : ∀ w7', TP G w7' none (tt.place 0 0) → Off G tt.bl W11 w7' → Below base w w7' ∧ ∃ t2, Closed c0 n L R h' t2 ∧ Tr G base w7' tr (t2.place 0 0) := fun w7' hT7 o7 =>
              ⟨((hB5.out.trans hB6.out).trans hB11).trans (o7.below hT11.lo.2 (Nat.le_trans hbase6.out hB11.size) hT11.gl), tt, hcl, hT11.placed hT7 o7⟩
            replace hT11 := Lib.hid hT11; replace hB11 := Lib.hid hB11; replace CPl := Lib.hid CPl; replace htt := Lib.hid htt; replace hcl := Lib.hid hcl; replace hfin := Lib.hid hfin; replace hW11 := Lib.hid hW11; replace htot2 := Lib.hid htot2; replace hO10' := Lib.hid hO10'; replace o10' := Lib.hid o10'; replace hIq := Lib.hid hIq
            clear f67 f67f h67 f106 h106 f106f q60 f66 c66
            unfold ptr at CPl q611
            go_wp2_with fail
            refine CPl.out.mono ?_
            rintro e w12 ⟨rfl, hT12, o12⟩
            go_wp2_with fail
            go_ret
            exact ⟨rfl, hfin.out w12 hT12 o12⟩
    have hq1 : ((m : Int) == 1) = false := beq_one m (not_shut hlenLR.out hm hz1)
    obtain ⟨tt, htt⟩ : ∃ tt, tt = plug c0 (.mk n (L ++ h' :: R)) := ⟨_, rfl⟩
    have hcl : Closed c0 n L R h' tt := .inr (.inr ⟨hz1, htt⟩)
    rw [hks5e.out, ← htt] at hT5
    have CPl := place_any tt none 0 0 W5 hT5.p hT5.nd (hw01.out tt hcl)
    have q60 := hT5.c0
    replace hT5 := Lib.hid hT5; replace o5 := Lib.hid o5; replace hB5 := Lib.hid hB5; replace CPl := Lib.hid CPl; replace hA5 := Lib.hid hA5; replace hW5 := Lib.hid hW5; replace hm := Lib.hid hm; replace htt := Lib.hid htt; replace hl5 := Lib.hid hl5; replace hO4 := Lib.hid hO4; replace o4 := Lib.hid o4; replace hz1 := Lib.hid hz1; replace hcl := Lib.hid hcl
    clear CD d6 d6f c63
    unfold ptr at CPl q60
    go_wp2_with fail
    refine CPl.out.mono ?_
    rintro e w7 ⟨rfl, hT7, o7⟩
    go_wp2_with fail
    go_ret
    exact ⟨rfl, hB5.out.trans (o7.below hT5.out.lo.2 (Nat.le_trans hbase.out hB5.out.size) hT5.out.gl), tt, hcl.out, hT5.out.placed hT7 o7⟩
  · obtain ⟨hi1, hqi, hwi, hi3, hi4, hi5⟩ := hxB.out hx
    replace hx := Lib.hid hx
    clear hxA hxB
    go_upto_region 11 with fail
    go_still_tail 21, (by kernel_rfl)
    change wpList _ _ _ _ _ w2.drew
    go_wp2_with fail
    refine CG.out.mono ?_
    rintro e w3 ⟨rfl, hh3, o3⟩
    have o3' : Off G h.bl w2 w3 := o3.undrew
    rw [← hh'.out] at hh3
    have hg' : h'.g = h.g ∧ h'.bl = h.bl := by rw [hh'.out]; exact ⟨T.grow_g _ _ _, T.grow_bl _ _ _⟩
    obtain ⟨ks3, hks3⟩ : ∃ ks3, ks3 = ks.set j h' := ⟨_, rfl⟩
    have hp3 : ptrs ks3 = ptrs ks := by
      rw [hks3]; unfold ptrs
      refine List.ext_getElem? fun q => ?_
      rw [List.getElem?_map, List.getElem?_map, List.getElem?_set]
      split
      · rename_i e
        subst e
        rw [hj.out]
        split
        · simp [hg'.1]
        · rename_i e; exact absurd (List.getElem?_eq_some_iff.1 hj.out).1 e
      · rfl
    have hhB : ∀ b ∈ h.bl, b ∈ blL ks := fun b hb => mem_blL.2 ⟨h, hhm.out, hb⟩
    have hbd := d2.out bb hbb.out
    have hA3 : At G w3 (upOf c0) n ks3 := by
      refine At.congr (ks := ks) (hA.out.off o3' fun b hb => ?_) hp3
      rw [hbb.out] at hb
      simp at hb
      rcases hb with rfl | rfl
      · exact fun hm => d1.out (hhB _ hm)
      · exact fun hm => hbd.1 (hhB _ hm)
    have hl3 : ks3.length = len := by rw [hks3, List.length_set, hlen0.out]
    have c63 : w3.cell? ⟨n.g, 6, none⟩ = some (.slice (some ⟨B, o, none⟩) len n.c) := by have := hA3.c6; rw [hAr.out, hl3] at this; exact this
    obtain ⟨cur3, hc3, hP3, hκ3⟩ := hA3.prow hbb.out hα.out (by rw [hl3]; omega)
    rw [hl3] at hP3
    obtain ⟨ks5, hks5e⟩ : ∃ ks5, ks5 = L ++ h' :: R := ⟨_, rfl⟩
    have htd : ks3.take i ++ ks3.drop (i + 1) = ks5 := by rw [hks3, hks5e]; exact hks5.out h'
    have CD : Calls Tryd.prog 38 #[.slice (some ⟨B, o, none⟩) len n.c, .int .i64 (i : Int), .int .i64 ((i : Int) + 1)] w3 (fun e w' => e = .returned (.slice (some ⟨B, o, none⟩) (len - 1) n.c) ∧ Hid ((∃ cur', PRow w' B o n.c (len - 1) (ptrs ks5) cur') ∧ Off G [bb] w3 w')) := by
      have := delete_any B o len n.c i ks3 cur3 w3 hl3.symm hile hP3
      rw [htd] at this
      exact this.mono fun e w' ⟨h1, cur', h2, h3⟩ => ⟨h1, Lib.hid ⟨⟨cur', h2⟩, h3.off hP3 hA3.m hc3 hκ3⟩⟩
    have hkd : ∀ w4, Off G [bb] w3 w4 → w4.cell? ⟨n.g, 6, none⟩ = some (.slice (some ⟨B, o, none⟩) len n.c) ∧ w4.frozen? ⟨n.g, 6, none⟩ = false := fun w4 h => by
      have e : w4.heap[n.g]? = w3.heap[n.g]? := h.wh hA3.q (lt_of_heap hA3.h) (by simp; exact fun e => hbd.2 e.symm)
      exact ⟨(World.cell?_of_block (a := ⟨n.g, 6, none⟩) e).trans c63, (World.frozen?_of_block (a := ⟨n.g, 6, none⟩) e).trans (hA3.free 6)⟩
    have hwj' := hwj.out
    replace hkd := Lib.hid hkd; replace hA3 := Lib.hid hA3; replace hP3 := Lib.hid hP3; replace hκ3 := Lib.hid hκ3; replace o3 := Lib.hid o3; replace o3' := Lib.hid o3'; replace hh3 := Lib.hid hh3; replace CD := Lib.hid CD; replace hp3 := Lib.hid hp3; replace hks3 := Lib.hid hks3; replace hks5e := Lib.hid hks5e; replace htd := Lib.hid htd; replace hg' := Lib.hid hg'; replace hhB := Lib.hid hhB; replace hbd := Lib.hid hbd; replace hl3 := Lib.hid hl3
    clear CG c6 c5 c7 q3 q7 hb0
    go_wp2_with fail
    refine CD.out.mono ?_
    rintro e w4 ⟨rfl, hP4⟩
    obtain ⟨d6, d6f⟩ := hkd.out w4 hP4.out.2
    go_upto_region 13 with fail
    obtain ⟨⟨cur4, hO4⟩, o4⟩ := hP4.out
    obtain ⟨W5, hW5⟩ : ∃ W5, W5 = w4.setCell ⟨n.g, 6, none⟩ (.slice (some ⟨B, o, none⟩) (len - 1) n.c) := ⟨_, rfl⟩
    have hbase2 : base ≤ w2.heap.size := Nat.le_trans hbase.out G1.out.size
    have hl5 : ks5.length = len - 1 := by rw [hks5e.out, List.length_append, List.length_cons]; exact len_shut hlenLR.out
    obtain ⟨hT5, o5⟩ := shut_any hT1.out hbase2 hks.out hks5e.out hlen0.out hl5 hbb.out hα.out o3'.out hh3.out hg'.out.1 hg'.out.2 o4 hO4 hW5
    have hB5 : Below base w W5 := by
      have b1 : Below base w w2 := ⟨G1.out.os, G1.out.tape, G1.out.output, G1.out.size, fun k hk => G1.out.block k (by have := hbase.out; omega) (by simp)⟩
      refine b1.trans (o5.below (B := base) ?_ hbase2 hT1.out.gl)
      intro b hb
      simp at hb
      rcases hb with hb | rfl | rfl
      · exact (hin.out b (by rw [T.bl_mk]; simp [hhB.out b hb])).2.2.1
      · exact (hin.out b (by rw [T.bl_mk]; simp [hbb.out])).2.2.1
      · exact (hin.out _ (by rw [T.bl_mk]; simp)).2.2.1
    have hA5 := ((TP_plug c0 _).1 hT5.p).2.at_
    have c56 : W5.cell? ⟨n.g, 6, none⟩ = some (.slice (some ⟨B, o, none⟩) (len - 1) n.c) := by have := hA5.c6; rw [hAr.out, hl5] at this; exact this
    rw [← hW5]
    obtain ⟨m, hm⟩ : ∃ m, m = len - 1 := ⟨_, rfl⟩
    rw [← hm] at c56
    by_cases hz1 : L.length = 0 ∧ R.length = 0
    · have hm1 : m = 1 := one_shut hlenLR.out hm hz1
      rw [hm1] at c56
      have hk5 : ks5 = [h'] := by
        rw [hks5e.out, List.eq_nil_of_length_eq_zero hz1.1, List.eq_nil_of_length_eq_zero hz1.2]; rfl
      obtain ⟨B', o', hb', c5b⟩ := hA5.kidc (i := 0) (k := h') (by rw [hk5]; rfl)
      rw [hAr.out] at hb'
      injection hb' with hb'
      injection hb' with hb1 hb2
      subst hb1; subst hb2
      replace c5b : W5.cell? ⟨B, o, none⟩ = some (ptr h'.g) := c5b
      rw [hk5] at hT5
      obtain ⟨uu, c57, huu⟩ : ∃ uu, W5.cell? ⟨n.g, 7, none⟩ = some (.pointer uu) ∧ uptr (upOf c0) = .pointer uu := by
        have := hA5.c7
        cases hc : upOf c0 with
        | none => rw [hc] at this; exact ⟨_, this, rfl⟩
        | some g => rw [hc] at this; exact ⟨_, this, rfl⟩
      have CPt := put_kidT hT5 (Nat.le_trans hbase.out hB5.size)
      rw [hg'.out.1] at CPt c5b
      replace hT5 := Lib.hid hT5; replace o5 := Lib.hid o5; replace hB5 := Lib.hid hB5; replace CPt := Lib.hid CPt; replace hA5 := Lib.hid hA5; replace hW5 := Lib.hid hW5; replace hm := Lib.hid hm; replace hl5 := Lib.hid hl5; replace hO4 := Lib.hid hO4; replace o4 := Lib.hid o4; replace hz1 := Lib.hid hz1; replace hk5 := Lib.hid hk5; replace huu := Lib.hid huu; replace hm1 := Lib.hid hm1
      clear CD d6 d6f c63
      unfold ptr at CPt c5b
      go_wp2_with fail
      refine CPt.out.mono ?_
      rintro e w6 ⟨rfl, hT6, hB6⟩
      have hT6h := ((TP_plug c0 _).1 hT6.p).2
      have c66 := hT6h.atn.c6
      obtain ⟨AA, hAA⟩ : ∃ AA, AA = adr G h'.n.A := ⟨_, rfl⟩
      replace c66 : w6.cell? ⟨h.g, 6, none⟩ = some (.slice AA h'.ks.length h'.n.c) := by rw [← hg'.out.1, hAA]; exact c66
      have q60 := hT6.c0
      obtain ⟨kl, hkl⟩ : ∃ kl, kl = h'.ks.length := ⟨_, rfl⟩
      rw [← hkl] at c66
      have hbase6 : base ≤ w6.heap.size := Nat.le_trans hbase.out (Nat.le_trans hB5.out.size hB6.size)
      by_cases hz3 : c0 = [] ∨ h'.ks = []
      · -- it stands where its parent stood
        obtain ⟨tt, htt⟩ : ∃ tt, tt = plug c0 h' := ⟨_, rfl⟩
        have hcl : Closed c0 n L R h' tt := .inl ⟨hz1.out.1, hz1.out.2, hz3, htt⟩
        rw [← htt] at hT6 q60
        have CPl := place_any tt none 0 0 w6 hT6.p hT6.nd (hw01.out tt hcl)
        have hkk : uu = none ∨ kl = 0 := by
          rcases hz3 with h | h
          · left
            have := huu.out
            rw [h] at this
            have h2 : uptr (upOf []) = .pointer none := rfl
            rw [h2] at this; injection this with this; exact this.symm
          · right; rw [hkl, h]; rfl
        have huu2 : uu = none ∨ ∃ a, uu = some a := by cases uu with
          | none => exact .inl rfl
          | some a => exact .inr ⟨a, rfl⟩
        replace hT6 := Lib.hid hT6; replace hB6 := Lib.hid hB6; replace CPl := Lib.hid CPl; replace hAA := Lib.hid hAA; replace hkl := Lib.hid hkl; replace htt := Lib.hid htt; replace hcl := Lib.hid hcl; replace hT6h := Lib.hid hT6h; replace hz3 := Lib.hid hz3
        clear CPt c56 c5b c57
        unfold ptr at CPl q60
        have hfin : ∀ w7, TP G w7 none (tt.place 0 0) → Off G tt.bl w6 w7 → Below base w w7 ∧ ∃ t2, Closed c0 n L R h' t2 ∧ Tr G base w7 tr (t2.place 0 0) := fun w7 hT7 o7 =>
          ⟨(hB5.out.trans hB6.out).trans (o7.below hT6.out.lo.2 hbase6 hT6.out.gl), tt, hcl.out, hT6.out.placed hT7 o7⟩
        replace hfin := Lib.hid hfin
        rcases huu2 with rfl | ⟨a, rfl⟩
        · clear hkk
          go_wp2_with fail
          refine CPl.out.mono ?_
          rintro e w7 ⟨rfl, hT7, o7⟩
          go_wp2_with fail
          go_ret
          exact ⟨rfl, hfin.out w7 hT7 o7⟩
        · obtain rfl : kl = 0 := by simpa using hkk
          clear hkk
          go_wp2_with fail
          refine CPl.out.mono ?_
          rintro e w7 ⟨rfl, hT7, o7⟩
          go_wp2_with fail
          go_ret
          exact ⟨rfl, hfin.out w7 hT7 o7⟩
      · -- its kids are laid into the split above
        have hz4 : c0 ≠ [] ∧ h'.ks ≠ [] := ⟨fun e => hz3 (.inl e), fun e => hz3 (.inr e)⟩
        obtain ⟨f, d, hfd⟩ : ∃ f d, c0 = f :: d := by
          cases c0 with
          | nil => exact absurd rfl hz4.1
          | cons f d => exact ⟨f, d, rfl⟩
        obtain ⟨k21, k22, k23⟩ := hk2.out hz4.2
        have k24 := k23 f d hfd
        have hT6f : Tr G base w6 tr (plug (f :: d) h') := by rw [← hfd]; exact hT6
        have hT6' : Tr G base w6 tr (plug d (.mk f.n (f.L ++ h' :: f.R))) := hT6f
        have hp6 := (TP_plug d _).1 hT6'.p
        have hA6 := hp6.2.at_
        have hK6 := TPs_iff.1 hp6.2.kids
        have huf : uu = some ⟨f.n.g, 0, none⟩ := by
          have := huu.out
          rw [hfd] at this
          have h2 : uptr (upOf (f :: d)) = .pointer (some ⟨f.n.g, 0, none⟩) := rfl
          rw [h2] at this; injection this with this; exact this.symm
        obtain ⟨bf, Bf, fo, curf, hbf, hαf, hfr, hPf, hκf, _⟩ := hA6.kid (i := f.L.length) (k := h') (by simp)
        obtain ⟨n6, hn6⟩ : ∃ n6, n6 = (f.L ++ h' :: f.R).length := ⟨_, rfl⟩
        have f66 : w6.cell? ⟨f.n.g, 6, none⟩ = some (.slice (some ⟨Bf, fo, none⟩) n6 f.n.c) := by have := hA6.c6; rw [hfr, ← hn6] at this; exact this
        have hR6 := hA6.rd
        rw [hfr] at hR6
        obtain ⟨nd6, hin6, hout6⟩ := hT6'.apart
        obtain ⟨g1, g2, g3⟩ := bl_apart nd6
        have hsep6 : ∀ s ∈ (f.L ++ h' :: f.R).take f.L.length, s.g ≠ h.g := by
          rw [List.take_left' rfl, ← hg'.out.1]
          exact g_sep g3
        have hn6b : n6 ≤ 1000 := by rw [hn6]; exact k24
        have CI2 := index_any (some ⟨Bf, fo, none⟩) n6 f.n.c h.g f.L.length (f.L ++ h' :: f.R) h' w6 hn6 (Nat.le_trans hn6b (by decide)) hR6 (by simp) hg'.out.1 hsep6 (fun s hs => (hK6 s hs).isC)
        have hkl1 : 2 ≤ kl ∧ kl ≤ 1000 := by rw [hkl]; exact ⟨k21, k22⟩
        obtain ⟨k0, hk0⟩ : ∃ k0, h'.ks[0]? = some k0 := ⟨h'.ks[0]'(by omega), List.getElem?_eq_getElem _⟩
        obtain ⟨bk, Bk, ko, curk, hbk, hαk, hAk', hPk, hκk, _⟩ := hT6h.atn.kid hk0
        have hAk : AA = some ⟨Bk, ko, none⟩ := by rw [hAA]; exact hAk'
        rw [hAk] at c66
        have hhN6 : h'.bl.Nodup := by rw [hg'.out.2]; exact hhN.out
        have hh6 : TP G w6 (some f.n.g) h' := hK6 h' (by simp)
        have hI0 := SpI.start hh6
        have hfg : f.n.g ∉ h'.bl := fun hm => g1 (mem_blL.2 ⟨h', by simp, hm⟩)
        have hbfh : bf ∉ h'.bl := fun hm => (g2 bf hbf).1 (mem_blL.2 ⟨h', by simp, hm⟩)
        have hbkm : bk ∈ h'.bl := by
          cases h' with | mk n2 ks2 =>
            have hb2 : n2.A = some bk := hbk
            rw [T.bl_mk, hb2]; simp
        have hbkf : bk ≠ bf := fun e => hbfh (e ▸ hbkm)
        have hsep : Sep Bf fo f.n.c Bk ko h'.n.c := sep_of (by have := hPf.nc; simp at this; omega) (by have := hPk.nc; omega) hκf hκk hbkf
        have hgl6 : base ≤ G.lo := hT6.gl
        have hm6 : G.m ≤ w6.heap.size := hT6.m
        have hkpos : (0 : Int) < (kl : Int) := by omega
        obtain ⟨lf, hlf⟩ : ∃ lf, lf = f.L.length := ⟨_, rfl⟩
        rw [← hlf] at CI2
        have hlfb : lf < n6 := by rw [hlf, hn6]; simp
        have hwlf : IntKind.i64.wrap ((lf : Int) + 1) = (lf : Int) + 1 := wrap_suc hlfb hn6b
        replace hz3 := Lib.hid hz3; replace hz4 := Lib.hid hz4; replace hfd := Lib.hid hfd; replace k21 := Lib.hid k21; replace k22 := Lib.hid k22; replace k23 := Lib.hid k23; replace k24 := Lib.hid k24; replace hT6 := Lib.hid hT6; replace hT6f := Lib.hid hT6f; replace hT6' := Lib.hid hT6'; replace hp6 := Lib.hid hp6; replace hA6 := Lib.hid hA6; replace hK6 := Lib.hid hK6; replace hbf := Lib.hid hbf; replace hfr := Lib.hid hfr; replace hn6 := Lib.hid hn6; replace hR6 := Lib.hid hR6; replace hαf := Lib.hid hαf; replace hPf := Lib.hid hPf; replace hκf := Lib.hid hκf; replace hαk := Lib.hid hαk; replace hPk := Lib.hid hPk; replace hκk := Lib.hid hκk; replace hAk' := Lib.hid hAk'; replace hsep := Lib.hid hsep; replace hm6 := Lib.hid hm6; replace nd6 := Lib.hid nd6; replace hin6 := Lib.hid hin6; replace hout6 := Lib.hid hout6; replace g1 := Lib.hid g1; replace g2 := Lib.hid g2; replace g3 := Lib.hid g3; replace hsep6 := Lib.hid hsep6; replace CI2 := Lib.hid CI2; replace hk0 := Lib.hid hk0; replace hbk := Lib.hid hbk
        replace hhN6 := Lib.hid hhN6; replace hh6 := Lib.hid hh6; replace hI0 := Lib.hid hI0; replace hfg := Lib.hid hfg; replace hbfh := Lib.hid hbfh; replace hbkm := Lib.hid hbkm; replace hbkf := Lib.hid hbkf; replace hlf := Lib.hid hlf; replace hB6 := Lib.hid hB6; replace hAA := Lib.hid hAA; replace hkl := Lib.hid hkl; replace hT6h := Lib.hid hT6h; replace hbase6 := Lib.hid hbase6
        subst hAk
        subst huf
        clear CPt c56 c5b c57
        unfold ptr at CI2 q60
        go_wp2_with fail
        refine CI2.out.mono ?_
        rintro e w7 ⟨rfl, rfl⟩
        clear CI2
        go_wp2_with fail
        go_loopw [109] (fun iv wr => ∃ q : Nat, q ≤ kl ∧ iv = .int .i64 q ∧ Hid (SpI G w7 f.n.g h' q wr)) (fun iv _ => kl - (intOf iv).toNat)
        case atStart => exact ⟨0, Nat.zero_le _, rfl, hI0⟩
        case round =>
          obtain ⟨q, hq, rfl, hI⟩ := hrel
          by_cases hlt : q < kl
          · obtain ⟨x, hx'⟩ : ∃ x, h'.ks[q]? = some x := ⟨h'.ks[q]'(by rw [← hkl.out]; exact hlt), List.getElem?_eq_getElem _⟩
            obtain ⟨Bk', ko', hbk', hxc⟩ := hI.out.a.kidc hx'
            rw [hAk'.out] at hbk'
            injection hbk' with hbk'
            injection hbk' with hb1 hb2
            subst hb1; subst hb2
            have hbk' := True.intro
            have hxT : TP G wr (some h'.g) x := by
              have := hI.out.r
              rw [drop_at hx', TPs] at this
              exact this.1
            have x7 : ∃ u, wr.cell? ⟨x.g, 7, none⟩ = some u := ⟨_, hxT.atn.c7⟩
            obtain ⟨u7, x7⟩ := x7
            have x7f : wr.frozen? ⟨x.g, 7, none⟩ = false := hxT.atn.free 7
            have hst := hI.out.step hhN6.out hx'
            have hqi : (q : Int) < (kl : Int) := by omega
            replace hxT := Lib.hid hxT; replace hx' := Lib.hid hx'; replace hst := Lib.hid hst; replace hbk' := Lib.hid hbk'
            unfold ptr at hxc
            go_wp2_with fail
            exact ⟨⟨q + 1, by omega, by go_num, hst⟩, by simp [intOf]; omega⟩
          · obtain rfl : q = kl := by omega
            have hI' := hI.out
            have f67 : wr.cell? ⟨f.n.g, 6, none⟩ = some (.slice (some ⟨Bf, fo, none⟩) n6 f.n.c) := by
              rw [World.cell?_of_block (hI'.o.wh hA6.out.q (hA6.out.lt _ (by simp)) hfg.out)]; exact f66
            have f67f : wr.frozen? ⟨f.n.g, 6, none⟩ = false := by
              rw [World.frozen?_of_block (hI'.o.wh hA6.out.q (hA6.out.lt _ (by simp)) hfg.out)]; exact hA6.out.free 6
            have h67 : wr.cell? ⟨h.g, 6, none⟩ = some (.slice (some ⟨Bk, ko, none⟩) q h'.n.c) := by
              have := hI'.a.c6
              rw [hAk'.out, ← hkl.out] at this
              rw [← hg'.out.1]; exact this
            have hAwr : At G wr (upOf d) f.n (f.L ++ h' :: f.R) := hA6.out.off hI'.o (fun b hb => by
              rw [hbf.out] at hb
              simp at hb
              rcases hb with rfl | rfl
              · exact hfg.out
              · exact hbfh.out)
            obtain ⟨curf2, hcf2, hOwr, hκf2⟩ := hAwr.prow hbf.out hαf.out (by rw [List.length_append, List.length_cons]; exact Nat.succ_le_of_lt (Nat.lt_add_left _ (Nat.succ_pos _)))
            obtain ⟨curk2, hck2, hVwr, hκk2⟩ := hI'.a.prow hbk.out hαk.out (by rw [← hkl.out]; omega)
            rw [← hn6.out] at hOwr
            rw [← hkl.out] at hVwr
            have CR := (replace_any Bf fo n6 f.n.c lf Bk ko h'.n.c q (f.L ++ h' :: f.R) h'.ks curf2 curk2 wr.drew hn6.out hlfb hn6b hkl.out hkl1.1 hkl1.2 (hOwr.heap rfl) (hVwr.heap rfl) hsep.out).mono fun e w' h => RepP.uni (G := G) (b := bf) h (hOwr.heap rfl) (show G.m ≤ wr.drew.heap.size from hI'.o.m') hcf2 hκf2 hαf.out (Nat.lt_of_lt_of_le (hA6.out.lt bf (by simp [hbf.out])) hI'.o.size)
            have hkp : ∀ w10, Off G [bf] wr.drew w10 → w10.cell? ⟨f.n.g, 6, none⟩ = some (.slice (some ⟨Bf, fo, none⟩) n6 f.n.c) ∧ w10.cell? ⟨h.g, 6, none⟩ = some (.slice (some ⟨Bk, ko, none⟩) q h'.n.c) ∧ w10.frozen? ⟨f.n.g, 6, none⟩ = false := fun w10 o => by
              have hne1 : f.n.g ∉ [bf] := by rw [List.mem_singleton]; exact fun e => (g2.out bf hbf.out).2 e.symm
              have hne2 : h.g ∉ [bf] := by rw [List.mem_singleton]; exact fun e => hbfh.out (e ▸ (hg'.out.1 ▸ h'.g_mem))
              have hl1 : f.n.g < wr.heap.size := Nat.lt_of_lt_of_le (hA6.out.lt _ (by simp)) hI'.o.size
              have hl2 : h.g < wr.heap.size := by rw [← hg'.out.1]; exact Nat.lt_of_lt_of_le (hT6h.out.lt _ _ _ h'.g_mem) hI'.o.size
              exact ⟨(World.cell?_of_block (a := ⟨f.n.g, 6, none⟩) (o.wh hA6.out.q hl1 hne1)).trans f67, (World.cell?_of_block (a := ⟨h.g, 6, none⟩) (o.wh (by rw [← hg'.out.1]; exact hT6h.out.atn.q) hl2 hne2)).trans h67, (World.frozen?_of_block (a := ⟨f.n.g, 6, none⟩) (o.wh hA6.out.q hl1 hne1)).trans f67f⟩
            replace CR := Lib.hid CR; replace hOwr := Lib.hid hOwr; replace hVwr := Lib.hid hVwr; replace hκf2 := Lib.hid hκf2; replace hκk2 := Lib.hid hκk2; replace hAwr := Lib.hid hAwr; replace hI' := Lib.hid hI'; replace hkp := Lib.hid hkp
            go_upto_region 24 with fail
            refine wp_region_row (S := fun w' => w'.cell? ⟨f.n.g, 6, none⟩ = some (.slice (some ⟨Bf, fo, none⟩) n6 f.n.c) ∧ w'.cell? ⟨h.g, 6, none⟩ = some (.slice (some ⟨Bk, ko, none⟩) q h'.n.c)) 12 13 (by kernel_rfl) (by kernel_rfl) (fun _ _ d _ _ h => by cases d <;> exact h) ⟨f67, h67⟩ ?_
            simp only [List.take_succ_cons, List.take_zero, List.drop_succ_cons, List.drop_zero]
            repeat
              (apply wpHeld_cons (by rfl)
               · intro w hSw
                 go_simp
                 try with_reducible rfl
               simp only [Act.put, List.setIfInBounds_toArray, List.set_cons_zero, List.set_cons_succ])
            refine wpHeld_nil ?_
            refine wpRow_succ (k := 0) (fun K hK => ?_)
            go_simp
            go_at_call 39
            refine CR.out.mono ?_
            rintro e w10 ⟨b', B', o', c', tot, htot, hα', rfl, hO10, o10, hb'⟩
            obtain ⟨f106, h106, f106f⟩ := hkp.out w10 o10
            refine hK.out _ _ ⟨f106, h106⟩ ?_
            clear hK K
            try simp only [Act.put, List.setIfInBounds_toArray, List.set_cons_zero, List.set_cons_succ]
            refine wpRow_zero ?_
            replace hα' := Lib.hid hα'; replace hO10 := Lib.hid hO10; replace o10 := Lib.hid o10; replace hb' := Lib.hid hb'; replace htot := Lib.hid htot
            clear CR
            go_upto_region 25 with fail
            obtain ⟨W11, hW11⟩ : ∃ W11, W11 = w10.setCell ⟨f.n.g, 6, none⟩ (.slice (some ⟨B', o', none⟩) tot c') := ⟨_, rfl⟩
            rw [← hW11]
            have htot2 : tot = f.L.length + h'.ks.length + f.R.length := tot_of htot.out
            have hO10' : RowAt G w10 (some b') c' tot (ptrs (f.L ++ h'.ks ++ f.R)) := by
              have h1 := hO10.out
              rw [hlf.out, List.take_left' rfl, show (f.L ++ h' :: f.R).drop (f.L.length + 1) = f.R by rw [List.drop_append]; simp] at h1
              exact h1
            have o10' : Off G [bf] wr w10 := o10.out.undrew
            have hIq : SpI G w7 f.n.g h' h'.ks.length wr := by rw [← hkl.out]; exact hI'.out
            obtain ⟨hT11, hB11⟩ := splice_end (W11 := W11) hT6f.out hbase6.out hbf.out hIq htot2 o10' hO10' hb'.out (by rw [show adr G (some b') = some ⟨B', o', none⟩ by unfold adr; simp [hα'.out]]; exact hW11)
            obtain ⟨tt, htt⟩ : ∃ tt, tt = plug d (.mk { f.n with A := some b', c := c' } (f.L ++ h'.ks ++ f.R)) := ⟨_, rfl⟩
            have hcl : Closed c0 n L R h' tt := .inr (.inl ⟨hz1.out.1, hz1.out.2, f, d, { f.n with A := some b', c := c' }, hfd.out, hz4.out.2, ⟨rfl, rfl, rfl, rfl⟩, htt⟩)
            rw [← htt] at hT11
            have CPl := place_any tt none 0 0 W11 hT11.p hT11.nd (hw01.out tt hcl)
            have q611 := hT11.c0
            have hfin : ∀ w7', TP G w7' none (tt.place 0 0) → Off G tt.bl W11 w7' → Below base w w7' ∧ ∃ t2, Closed c0 n L R h' t2 ∧ Tr G base w7' tr (t2.place 0 0) := fun w7' hT7 o7 =>
              ⟨((hB5.out.trans hB6.out).trans hB11).trans (o7.below hT11.lo.2 (Nat.le_trans hbase6.out hB11.size) hT11.gl), tt, hcl, hT11.placed hT7 o7⟩
            replace hT11 := Lib.hid hT11; replace hB11 := Lib.hid hB11; replace CPl := Lib.hid CPl; replace htt := Lib.hid htt; replace hcl := Lib.hid hcl; replace hfin := Lib.hid hfin; replace hW11 := Lib.hid hW11; replace htot2 := Lib.hid htot2; replace hO10' := Lib.hid hO10'; replace o10' := Lib.hid o10'; replace hIq := Lib.hid hIq
            clear f67 f67f h67 f106 h106 f106f q60 f66 c66
            unfold ptr at CPl q611
            go_wp2_with fail
            refine CPl.out.mono ?_
            rintro e w12 ⟨rfl, hT12, o12⟩
            go_wp2_with fail
            go_ret
            exact ⟨rfl, hfin.out w12 hT12 o12⟩
    have hq1 : ((m : Int) == 1) = false := beq_one m (not_shut hlenLR.out hm hz1)
    obtain ⟨tt, htt⟩ : ∃ tt, tt = plug c0 (.mk n (L ++ h' :: R)) := ⟨_, rfl⟩
    have hcl : Closed c0 n L R h' tt := .inr (.inr ⟨hz1, htt⟩)
    rw [hks5e.out, ← htt] at hT5
    have CPl := place_any tt none 0 0 W5 hT5.p hT5.nd (hw01.out tt hcl)
    have q60 := hT5.c0
    replace hT5 := Lib.hid hT5; replace o5 := Lib.hid o5; replace hB5 := Lib.hid hB5; replace CPl := Lib.hid CPl; replace hA5 := Lib.hid hA5; replace hW5 := Lib.hid hW5; replace hm := Lib.hid hm; replace htt := Lib.hid htt; replace hl5 := Lib.hid hl5; replace hO4 := Lib.hid hO4; replace o4 := Lib.hid o4; replace hz1 := Lib.hid hz1; replace hcl := Lib.hid hcl
    clear CD d6 d6f c63
    unfold ptr at CPl q60
    go_wp2_with fail
    refine CPl.out.mono ?_
    rintro e w7 ⟨rfl, hT7, o7⟩
    go_wp2_with fail
    go_ret
    exact ⟨rfl, hB5.out.trans (o7.below hT5.out.lo.2 (Nat.le_trans hbase.out hB5.out.size) hT5.out.gl), tt, hcl.out, hT5.out.placed hT7 o7⟩
end Go.Proofs.YtcklmkjlbpjojaaDoor.X
