/- Layout: Resize. -/
import Derived.Test.YtcklmkjlbpjojaaDoorM11
namespace Go.Proofs.YtcklmkjlbpjojaaDoor
open Go.RowKit
set_option linter.unusedSimpArgs false
set_option linter.unusedVariables false

theorem side_lt {z : Int} {i : Nat} (h : sideOf z = some i) : i < 4 := (side_some h).1

/-- The two of a row that share an edge. -/
theorem edge_of {L R : List T} {s : T} (h : 2 ≤ (L ++ s :: R).length) : ∃ (kk : Nat) (x y : T), (L ++ s :: R)[kk]? = some x ∧ (L ++ s :: R)[kk + 1]? = some y ∧ min (L.length : Int) (((L ++ s :: R).length : Int) - 2) = (kk : Int) := by
  cases R with
  | cons r R =>
    refine ⟨L.length, s, r, by simp, by simp, ?_⟩
    simp only [List.length_append, List.length_cons]; omega
  | nil =>
    rcases List.eq_nil_or_concat L with rfl | ⟨L', x, rfl⟩
    · simp at h
    · refine ⟨L'.length, x, s, by simp, by simp, ?_⟩
      simp only [List.length_append, List.length_cons, List.length_nil, List.length_concat, List.concat_eq_append]; omega
theorem wrap_less {len : Nat} (h : len ≤ 1000) : IntKind.i64.wrap ((len : Int) - 2) = (len : Int) - 2 := by rw [IntKind.wrap_i64]; omega
theorem edge_lt {kk len : Nat} (h1 : kk + 1 < len) (h2 : len ≤ 1000) : (kk : Int) < (len : Int) ∧ (kk : Int) + 1 < (len : Int) ∧ (0 : Int) ≤ (kk : Int) ∧ (0 : Int) ≤ (kk : Int) + 1 ∧ ((kk : Int) + 1).toNat = kk + 1 ∧ IntKind.i64.wrap ((kk : Int) + 1) = (kk : Int) + 1 := by
  refine ⟨by omega, by omega, by omega, by omega, by omega, ?_⟩
  rw [IntKind.wrap_i64]; omega

set_option maxHeartbeats 400000 in
set_option maxRecDepth 100000 in
theorem resize_any (base tr : Nat) (t : T) (k pane z nn : Int) (w : World) (hT : Tr base w tr t) (hbase : base ≤ w.heap.size) (hF : Fine t k) (hA : t.er.alt) (hp : pane ∈ t.er.ps) (hl : t.leaves.length ≤ 32) (hz : 0 ≤ z ∧ z ≤ 255) (hn : 1 ≤ nn ∧ nn ≤ 20) :
    Calls Tryd.prog 18 #[ptr tr, .int .i64 pane, .int .u8 z, .int .i64 nn] w (KeepPost base tr t k w) := by
  cases hf : t.find pane with
  | none => exact absurd hp (find_none_iff.1 hf)
  | some l =>
  obtain ⟨hlm, hlp⟩ := find_mem hf
  obtain ⟨c, hce⟩ := leaf_plug t l hlm
  have CL := Lib.hid (leaf_any base tr _ pane w hT (by omega))
  rw [hf] at CL
  have CI : Hid (∀ W, Calls Tryd.prog 40 #[.string ⟨#[76, 82, 85, 68]⟩, .int .u8 z] W fun e w' => e = .returned (.int .i64 (match sideOf z with | some i => (i : Int) | none => -1)) ∧ w' = W) := Lib.hid (fun W => ib_any z W hz.1 hz.2)
  simp only [Option.map_some, uptr] at CL
  have hno : ∀ (W : World) (err : Int), w.grownBy W none → KeepPost base tr t k w (.returned (.int .i64 err)) W := fun W err G => ⟨err, t, rfl, hT.grown G, ⟨G.os, G.tape, G.output, G.size, fun j hj => G.block j (by omega) (by simp)⟩, hF, hA, rfl⟩
  replace hno := Lib.hid hno; replace hT := Lib.hid hT; replace hbase := Lib.hid hbase; replace hF := Lib.hid hF; replace hA := Lib.hid hA; replace hf := Lib.hid hf; replace hp := Lib.hid hp; replace hlm := Lib.hid hlm; replace hce := Lib.hid hce; replace hl := Lib.hid hl
  unfold ptr at CL ⊢
  cases hs : sideOf z with
  | none =>
    rw [hs] at CI
    go_enter Tryd.func18, Tryd.ntmps18
    go_wp2_with fail
    refine CL.out.mono ?_
    rintro e w1 ⟨rfl, G1⟩
    replace G1 := Lib.hid G1
    clear CL
    go_wp2_with fail
    refine (CI.out _).mono ?_
    rintro e w2 ⟨rfl, rfl⟩
    go_wp2_with fail
    go_ret
    exact hno.out w2 1 G1.out
  | some i =>
    rw [hs] at CI
    have hi4 := side_lt hs
    obtain ⟨al, hal⟩ : ∃ al : Nat, al = i / 2 := ⟨_, rfl⟩
    have hal2 : al < 2 := by omega
    have hq : (i : Int).tdiv 2 = (al : Int) := by rw [Int.tdiv_eq_ediv_of_nonneg (by omega)]; omega
    have hr : (i : Int).tmod 2 = ((i % 2 : Nat) : Int) := by rw [Int.tmod_eq_emod_of_nonneg (by omega)]; omega
    have hi0 : ¬ ((i : Int) < 0) := by omega
    replace hs := Lib.hid hs; replace hal := Lib.hid hal
    go_enter Tryd.func18, Tryd.ntmps18
    go_wp2_with fail
    refine CL.out.mono ?_
    rintro e w1 ⟨rfl, G1⟩
    have hT1 := hT.out.grown G1
    replace G1 := Lib.hid G1; replace hT1 := Lib.hid hT1
    clear CL
    go_wp2_with fail
    refine (CI.out _).mono ?_
    rintro e w2 ⟨rfl, rfl⟩
    clear CI
    go_wp2_with fail
    go_loopw [9] (fun lv wr => ∃ (c' : List Fr) (s : T), lv = .pointer (some ⟨s.g, 0, none⟩) ∧ wr = w2 ∧ Hid (t = plug c' s ∧ c'.length ≤ c.length)) (fun lv wr => match lv with | .pointer (some a) => ups wr c.length a.block | _ => 0)
    case atStart => exact ⟨c, l, rfl, rfl, Lib.hid ⟨hce.out, Nat.le_refl _⟩⟩
    case round =>
      obtain ⟨c', s, rfl, rfl, hI⟩ := hrel
      have hT2 : Tr base wr tr (plug c' s) := by rw [← hI.out.1]; exact hT1.out
      have hp2 := (TP_plug c' s).1 hT2.p
      have hu := ups_ctx c.length c' s hT2.p hI.out.2
      cases c' with
      | nil =>
        have c7 : wr.cell? ⟨s.g, 7, none⟩ = some (.pointer none) := hp2.2.atn.c7
        replace hT2 := Lib.hid hT2; replace hp2 := Lib.hid hp2; replace hu := Lib.hid hu
        go_wp2_with fail
        go_ret
        exact hno.out wr 14 G1.out
      | cons f d =>
        have c7 : wr.cell? ⟨s.g, 7, none⟩ = some (.pointer (some ⟨f.n.g, 0, none⟩)) := hp2.2.atn.c7
        have hT3 : Tr base wr tr (plug d (.mk f.n (f.L ++ s :: f.R))) := hT2
        have hp3 := (TP_plug d _).1 hT3.p
        have hAf := hp3.2.at_
        have f5 := hAf.c5
        obtain ⟨fw, hfw⟩ : ∃ fw, fw = f.n.way := ⟨_, rfl⟩
        rw [← hfw] at f5
        have hu2 := ups_ctx c.length d (.mk f.n (f.L ++ s :: f.R)) hT3.p (by have := hI.out.2; simp at this; omega)
        have hmeas : ups wr c.length f.n.g < ups wr c.length s.g := by rw [hu]; rw [show f.n.g = (T.mk f.n (f.L ++ s :: f.R)).g from rfl, hu2]; simp
        replace hT2 := Lib.hid hT2; replace hp2 := Lib.hid hp2; replace hu := Lib.hid hu; replace hT3 := Lib.hid hT3; replace hp3 := Lib.hid hp3; replace hAf := Lib.hid hAf; replace hfw := Lib.hid hfw; replace hu2 := Lib.hid hu2
        by_cases hwa : fw = (al : Int)
        · replace hmeas := Lib.hid hmeas
          have hok : (plug d (.mk f.n (f.L ++ s :: f.R))).er.ok := by
            have := hF.out.ok; rw [hI.out.1] at this; exact this
          have hab : f.n.a ≤ 1000 ∧ f.n.b ≤ 1000 := by
            obtain ⟨B, hB⟩ := nds_ctx d
            have hm : f.n ∈ t.nds := by
              rw [hI.out.1]
              exact (hB (.mk f.n (f.L ++ s :: f.R)) f.n).2 (.inr (by rw [T.nds_mk]; simp))
            have := nds_ok t hF.out.ok f.n hm
            have := hF.out.sz
            omega
          have hnok := (ok_plug d (.mk f.n (f.L ++ s :: f.R)) (.mk f.n []) hok).1
          obtain ⟨ks, hks⟩ : ∃ ks, ks = f.L ++ s :: f.R := ⟨_, rfl⟩
          have hlen2 : 2 ≤ ks.length := by
            rw [hks]
            rcases ok_T.1 hnok with h | h
            · exact absurd h.1 (by simp)
            · exact h.2.2.2.1
          have hlen3 : ks.length ≤ 1000 := by rw [hks]; exact ok_len hnok hab.1 hab.2
          obtain ⟨kk, x, y, hx, hy, hmin⟩ := edge_of (by rw [← hks]; exact hlen2)
          have hidx : ks[f.L.length]? = some s := by rw [hks]; simp
          rw [← hks] at hx hy hmin
          obtain ⟨len, hlen⟩ : ∃ len, len = ks.length := ⟨_, rfl⟩
          obtain ⟨idx, hidxe⟩ : ∃ idx, idx = f.L.length := ⟨_, rfl⟩
          rw [← hlen, ← hidxe] at hmin
          rw [← hlen] at hlen2 hlen3
          rw [← hidxe] at hidx
          have hyl : kk + 1 < len := by rw [hlen]; exact (List.getElem?_eq_some_iff.1 hy).1
          obtain ⟨e1, e2, e3, e4, e5, e6⟩ := edge_lt hyl hlen3
          have hwl := wrap_less hlen3
          obtain ⟨bf, hbf, hxc⟩ := hAf.out.kid (i := kk) (k := x) (by rw [← hks]; exact hx)
          obtain ⟨bf', hbf', hyc⟩ := hAf.out.kid (i := kk + 1) (k := y) (by rw [← hks]; exact hy)
          have : bf' = bf := by rw [hbf] at hbf'; injection hbf' with e; exact e.symm
          subst this
          have hfr : adr f.n.A = some ⟨bf', 0, none⟩ := by rw [hbf]; rfl
          have f6 : wr.cell? ⟨f.n.g, 6, none⟩ = some (.slice (some ⟨bf', 0, none⟩) len f.n.c) := by have := hAf.out.c6; rw [hfr, ← hks, ← hlen] at this; exact this
          have hrow : f.n.row len = .slice (some ⟨bf', 0, none⟩) len f.n.c := by unfold Nd.row; rw [hfr]
          have hO : wr.ownsRow 0 55 1 (.slice (some ⟨bf', 0, none⟩) len f.n.c) len (ptrs ks) := by have := hAf.out.r; rw [← hks, ← hlen, hrow] at this; exact this
          obtain ⟨nd, hin, hout⟩ := hT3.out.apart
          rw [← hks] at nd
          obtain ⟨d1, d2, d3⟩ := bl_apart nd
          have hsep : ∀ r ∈ ks.take idx, r.g ≠ s.g := by
            rw [split_at hidx] at d3
            exact g_sep d3
          have hK := TPs_iff.1 hp3.out.2.kids
          rw [← hks] at hK
          have CX := index_any (some ⟨bf', 0, none⟩) len f.n.c s.g idx ks s wr hlen (Nat.le_trans hlen3 (by decide)) (own_Rd hO) hidx rfl hsep (fun r hr => (hK r hr).isC)
          replace hok := Lib.hid hok; replace hab := Lib.hid hab; replace hnok := Lib.hid hnok; replace hks := Lib.hid hks; replace hx := Lib.hid hx; replace hy := Lib.hid hy; replace hidx := Lib.hid hidx; replace hlen := Lib.hid hlen; replace hidxe := Lib.hid hidxe; replace hbf := Lib.hid hbf; replace hbf' := Lib.hid hbf'; replace hfr := Lib.hid hfr; replace hrow := Lib.hid hrow; replace hO := Lib.hid hO; replace nd := Lib.hid nd; replace hin := Lib.hid hin; replace hout := Lib.hid hout; replace d1 := Lib.hid d1; replace d2 := Lib.hid d2; replace d3 := Lib.hid d3; replace hsep := Lib.hid hsep; replace hK := Lib.hid hK; replace CX := Lib.hid CX
          replace hlen2 := Lib.hid hlen2; replace hlen3 := Lib.hid hlen3
          unfold ptr at hxc hyc CX
          go_wp2_with fail
          refine CX.out.mono ?_
          rintro e w3 ⟨rfl, rfl⟩
          clear CX
          go_upto_region 14 with fail
          refine wp_region_still_tail 10 (by kernel_rfl) (by kernel_rfl) ?_
          simp only [List.take_succ_cons, List.take_zero, List.drop_succ_cons, List.drop_zero]
          repeat still_step
          refine wpStill_nil ?_
          change wpList _ _ _ _ _ w3.drew
          go_upto_if 81 with fail
          go_cut [14, 15] (fun mv lv wx => ∃ (pm pq : Nat) (m q : T), mv = .pointer (some ⟨m.g, 0, none⟩) ∧ lv = .pointer (some ⟨q.g, 0, none⟩) ∧ wx = w3.drew ∧ Hid (ks[pm]? = some m ∧ ks[pq]? = some q ∧ pm ≠ pq))
          case first =>
            by_cases he : i % 2 = 0
            · have he2 : (((i % 2 : Nat) : Int) == 0) = true := by rw [he]; rfl
              replace he := Lib.hid he
              go_wp2_with fail
              go_meet
              exact ⟨kk + 1, kk, y, x, rfl, rfl, rfl, Lib.hid ⟨hy.out, hx.out, by omega⟩⟩
            · have he2 : (((i % 2 : Nat) : Int) == 0) = false := beq_eq_false_iff_ne.2 (by omega)
              replace he := Lib.hid he
              go_wp2_with fail
              go_meet
              exact ⟨kk, kk + 1, x, y, rfl, rfl, rfl, Lib.hid ⟨hx.out, hy.out, by omega⟩⟩
          case rest =>
            obtain ⟨pm, pq, m, q, rfl, rfl, rfl, hMQ⟩ := hcut
            obtain ⟨wx, hwx⟩ : ∃ wx, wx = w3.drew := ⟨_, rfl⟩
            rw [← hwx]
            obtain ⟨hm, hq', hpn⟩ := hMQ.out
            have hmm := List.mem_of_getElem? hm
            have hqm := List.mem_of_getElem? hq'
            obtain ⟨ma, mb, mc⟩ := ok_kid hnok.out (k := m) (by rw [← hks.out]; exact hmm)
            obtain ⟨qa, qb, qc⟩ := ok_kid hnok.out (k := q) (by rw [← hks.out]; exact hqm)
            obtain ⟨ab1, ab2⟩ := hab.out
            have hal3 : (al : Int) = 0 ∨ (al : Int) = 1 := by omega
            have hfal : f.n.way = (al : Int) := by rw [← hfw.out]; exact hwa
            have hTq : TP wx (some f.n.g) q := by rw [hwx]; exact (hK.out q hqm).same _ _ fun _ _ => rfl
            have hTm : TP wx (some f.n.g) m := by rw [hwx]; exact (hK.out m hmm).same _ _ fun _ _ => rfl
            have hqN : q.bl.Nodup := by
              have := d3.out
              rw [split_at hq'] at this
              exact (kid_apart this).1
            have hmN : m.bl.Nodup := by
              have := d3.out
              rw [split_at hm] at this
              exact (kid_apart this).1
            have hmq : ∀ b ∈ q.bl, b ∉ m.bl := kids_apart d3.out hq' hm (fun e => hpn e.symm)
            obtain ⟨qz, hqz⟩ : ∃ qz, qz = q.sz al := ⟨_, rfl⟩
            have q3 : wx.cell? ⟨q.g, 3 + al, none⟩ = some (.int .i64 qz) := by
              rw [hqz]
              rcases Nat.lt_or_ge al 1 with h | h
              · obtain rfl : al = 0 := by omega
                exact hTq.atn.c3
              · obtain rfl : al = 1 := by omega
                exact hTq.atn.c4
            obtain ⟨lk, hlk⟩ : ∃ lk, lk = q.least al := ⟨_, rfl⟩
            have hlq := least_le hal3 q qa
            have hqz1 : qz ≤ 1000 := by rw [hqz]; exact sz_le (Int.le_trans qb ab1) (Int.le_trans qc ab2) _
            rw [← hlk, ← hqz] at hlq
            have CLq := least_any (way := (al : Int)) hal3 q (some f.n.g) wx.drew (hTq.same _ _ fun _ _ => rfl) qa (Int.le_trans qb ab1) (Int.le_trans qc ab2)
            rw [← hlk] at CLq
            obtain ⟨zz, hzz⟩ : ∃ zz, zz = min nn (qz - lk) := ⟨_, rfl⟩
            have e8 : min nn (IntKind.i64.wrap (qz - lk)) = zz := by rw [IntKind.wrap_i64]; omega
            have hzz1 : 0 ≤ zz ∧ zz ≤ 20 ∧ lk ≤ qz - zz := by omega
            have CGm := grow_any hal3 m (some f.n.g) zz wx.drew (hTm.same _ _ fun _ _ => rfl) hmN ma (by have := least_le hal3 m ma; omega) (Int.le_trans mb ab1) (Int.le_trans mc ab2) (by omega)
            have CGq : ∀ W, TP W (some f.n.g) q → Calls Tryd.prog 37 #[ptr q.g, .int .i64 al, .int .i64 (-zz)] W fun e w' => e = .returned (.tuple #[]) ∧ TP w' (some f.n.g) (q.grow al (-zz)) ∧ Off q.bl W w' := fun W hW => grow_any hal3 q (some f.n.g) (-zz) W hW hqN qa (by rw [← hlk, ← hqz]; omega) (Int.le_trans qb ab1) (Int.le_trans qc ab2) (by omega)
            have hres := resized_ok (z := zz) (by have := hok.out; rw [← hks.out] at this; exact this) (by have := hA.out; rw [hI.out.1, show plug (f :: d) s = plug d (.mk f.n (f.L ++ s :: f.R)) from rfl, ← hks.out] at this; exact this) hm hq' hpn hzz1.1 (by rw [hfal, ← hlk]; show lk ≤ q.sz al - zz; rw [← hqz]; exact hzz1.2.2) _ rfl
            rw [hfal] at hres
            have hz0 := hzz1.1
            have hz20 := hzz1.2.1
            have hqzb : -1000 ≤ qz - lk ∧ qz - lk ≤ 1000 := by omega
            have hal4 : (al : Int) < 2 := by omega
            have hal5 : (0 : Int) ≤ (al : Int) := by omega
            replace hwx := Lib.hid hwx; replace hm := Lib.hid hm; replace hq' := Lib.hid hq'; replace hpn := Lib.hid hpn; replace hmm := Lib.hid hmm; replace hqm := Lib.hid hqm; replace ma := Lib.hid ma; replace mb := Lib.hid mb; replace mc := Lib.hid mc; replace qa := Lib.hid qa; replace qb := Lib.hid qb; replace qc := Lib.hid qc; replace ab1 := Lib.hid ab1; replace ab2 := Lib.hid ab2; replace hal3 := Lib.hid hal3; replace hfal := Lib.hid hfal; replace hTq := Lib.hid hTq; replace hTm := Lib.hid hTm; replace hqN := Lib.hid hqN; replace hmN := Lib.hid hmN; replace hmq := Lib.hid hmq; replace hqz := Lib.hid hqz; replace hlk := Lib.hid hlk; replace hlq := Lib.hid hlq; replace CLq := Lib.hid CLq; replace hzz := Lib.hid hzz; replace e8 := Lib.hid e8; replace hzz1 := Lib.hid hzz1; replace CGm := Lib.hid CGm; replace CGq := Lib.hid CGq; replace hres := Lib.hid hres
            unfold ptr at CLq CGm
            go_upto_region 17 with fail
            refine wp_region_still_tail 12 (by kernel_rfl) (by kernel_rfl) ?_
            simp only [List.take_succ_cons, List.take_zero, List.drop_succ_cons, List.drop_zero]
            repeat still_step
            still_call (CLq.out)
            repeat still_step
            refine wpStill_nil ?_
            change wpList _ _ _ _ _ wx.drew
            simp only [e8.out]
            have hG2 : w.grownBy wx.drew none := by rw [hwx.out]; exact g_drew (g_drew G1.out)
            replace hG2 := Lib.hid hG2
            by_cases hzero : zz = 0
            · subst hzero
              go_wp2_with fail
              go_ret
              exact hno.out _ 5 hG2.out
            have hzb : (zz == 0) = false := beq_eq_false_iff_ne.2 hzero
            go_wp2_with fail
            refine CGm.out.mono ?_
            rintro e w4 ⟨rfl, hTm4, o4⟩
            have o4' : Off m.bl w3 w4 := by
              have o := o4
              rw [hwx.out] at o
              exact ⟨o.os, o.tape, o.output, o.size, o.block⟩
            have CGq4 := CGq.out w4 ((hK.out q hqm.out).off o4' hmq.out)
            replace hTm4 := Lib.hid hTm4; replace o4 := Lib.hid o4; replace o4' := Lib.hid o4'; replace CGq4 := Lib.hid CGq4
            clear CGm CGq CLq
            unfold ptr at CGq4
            go_wp2_with fail
            refine CGq4.out.mono ?_
            rintro e w5 ⟨rfl, hTq5, o5⟩
            have o45 : Off (m.bl ++ q.bl) w3 w5 := (o4'.out.sub (S' := m.bl ++ q.bl) (fun b hb => .inl (by simp [hb]))).trans o5 (fun b hb => .inl (by simp [hb]))
            have hTm5 : TP w5 (some f.n.g) (m.grow al zz) := hTm4.out.off o5 (fun b hb hb2 => hmq.out b hb2 (by rwa [T.grow_bl] at hb))
            have hbase3 : base ≤ w3.heap.size := Nat.le_trans hbase.out G1.out.size
            obtain ⟨hT5, hB5⟩ := two_set (by have := hT3.out; rw [← hks.out] at this; exact this) hbase3 hm.out hq'.out hpn.out o45 hTm5 hTq5 (T.grow_g _ _ _) (T.grow_g _ _ _) (T.grow_bl _ _ _) (T.grow_bl _ _ _)
            obtain ⟨tt, htt⟩ : ∃ tt, tt = plug d (.mk f.n ((ks.set pm (m.grow al zz)).set pq (q.grow al (-zz)))) := ⟨_, rfl⟩
            have hres' := hres.out
            rw [← htt] at hT5 hres'
            obtain ⟨r1, r2, r3, r4, r5⟩ := hres'
            have htp : plug d (.mk f.n ks) = t := by rw [hks.out]; exact hI.out.1.symm
            rw [htp] at r3 r4 r5
            have hsz := hF.out.sz
            have hfine := fine_of hF.out r1 r5 (by omega) (by omega)
            have q60 := hT5.c0
            have CPl := place_any tt none 0 0 w5 hT5.p hT5.nd (ok_w01 r1)
            have hB : Below base w w5 := Below.trans ⟨G1.out.os, G1.out.tape, G1.out.output, G1.out.size, fun j hj => G1.out.block j (Nat.lt_of_lt_of_le hj hbase.out) (by simp)⟩ hB5
            have hfin : ∀ w6, TP w6 none (tt.place 0 0) → Off tt.bl w5 w6 → KeepPost base tr t k w (.returned (.int .i64 0)) w6 := fun w6 hT6 o6 =>
              ⟨0, tt.place 0 0, rfl, hT5.placed hT6 o6, hB.trans (o6.below hT5.lo.2 (Nat.le_trans hbase.out hB.size)), hfine.1, by rw [T.place_er]; exact r2, hfine.2⟩
            replace hfin := Lib.hid hfin; replace CPl := Lib.hid CPl; replace hB := Lib.hid hB; replace hfine := Lib.hid hfine; replace hsz := Lib.hid hsz; replace htp := Lib.hid htp; replace r1 := Lib.hid r1; replace r2 := Lib.hid r2; replace r3 := Lib.hid r3; replace r4 := Lib.hid r4; replace r5 := Lib.hid r5; replace htt := Lib.hid htt; replace hT5 := Lib.hid hT5; replace hB5 := Lib.hid hB5; replace hTm5 := Lib.hid hTm5; replace o45 := Lib.hid o45; replace hTq5 := Lib.hid hTq5; replace o5 := Lib.hid o5
            clear CGq4 f6 f5 c7 hxc hyc q3
            unfold ptr at CPl q60
            go_wp2_with fail
            refine CPl.out.mono ?_
            rintro e w6 ⟨rfl, hT6, o6⟩
            go_wp2_with fail
            go_ret
            exact hfin.out w6 hT6 o6
        · go_wp2_with fail
          refine ⟨⟨d, .mk f.n (f.L ++ s :: f.R), rfl, trivial, Lib.hid ⟨hI.out.1, by have := hI.out.2; simp at this; omega⟩⟩, ?_⟩
          exact hmeas
end Go.Proofs.YtcklmkjlbpjojaaDoor
