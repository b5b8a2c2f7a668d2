/- Layout: the reference's Read. Printed by tools/mkRN.py. -/
import Derived.Test.YtcklmkjlbpjojaaGreatDoorRM
namespace Go.Proofs.YtcklmkjlbpjojaaGreatDoor
open Go.RowKit
set_option linter.unusedSimpArgs false
set_option linter.unusedVariables false

theorem sg_len (c : UInt8) (s : List UInt8) (b : Bool) : (sg c s b).2.1.length ≤ s.length := by
  unfold sg
  exact Nat.le_trans (numP_len _ _) (nextP_len [c] s b).1
def sLen : Value → Nat
  | .string S => S.size
  | _ => 0
/-- A call's promise of Read. -/
def ReadPost (w : World) (R : P × List UInt8 × Bool) (e : Ending) (w' : World) : Prop :=
  w.grownBy w' none ∧ ((R.2.2 = true ∧ e = .returned (.tuple #[.pointer none, .string ⟨#[]⟩])) ∨ (R.2.2 = false ∧ ∃ t : T, e = .returned (.tuple #[ptr t.g, .string (st R.2.1)]) ∧ RP w' t ∧ t.pt = R.1 ∧ t.bl.Nodup ∧ ∀ b ∈ t.bl, w.heap.size ≤ b))
theorem grown_drewN (w : World) (n : Nat) : w.grownBy (w.drewN n) none := ⟨rfl, rfl, rfl, Nat.le_refl _, fun _ _ _ => rfl⟩
/-- Where the kids' loop stands. -/
structure KM (w : World) (gn : Nat) (x y a b : Int) (bs : Bool) (way : Int) (m : Nat) (KR : List P × List UInt8 × Bool) (sx : List UInt8) (wr : World) : Prop where
  out : ∃ (ks : List T) (A : Option Nat) (c q : Nat), KJ w gn x y a b bs A c ks wr ∧ 2 * sx.length + 3 ≤ q ∧ q ≤ m ∧ ks.length + sx.length ≤ 5000 ∧ ptL ks ++ (kidsP q way sx false).1 = KR.1 ∧ (kidsP q way sx false).2 = KR.2

set_option maxHeartbeats 4000000 in
set_option maxRecDepth 100000 in
theorem readR_any : ∀ (n : Nat) (s : List UInt8) (w : World), 2 * s.length + 2 ≤ n → s.length ≤ 5000 →
    Calls Tryz.prog 47 #[.string (st s)] w (ReadPost w (nodeP n s false)) := by
  intro n
  induction n using Nat.strongRecOn with
  | ind n ih =>
  intro s w hn hs
  obtain ⟨m, rfl⟩ : ∃ m, n = m + 1 := ⟨n - 1, by omega⟩
  have C1 : Calls Tryz.prog 87 #[.string (st s)] w fun e w' => e = TV (r1 s) ∧ ∃ k, w' = w.drewN k := numberR_any s w hs
  have l1 := numP_len s false
  have hbad : (r7 s).2.2 = true → (nodeP (m + 1) s false).2.2 = true := node_bad7
  have k1 : (r1 s).2.2 = true → (nodeP (m + 1) s false).2.2 = true := fun h => hbad (bad57 (bad35 (bad13 h)))
  have k3 : (r3 s).2.2 = true → (nodeP (m + 1) s false).2.2 = true := fun h => hbad (bad57 (bad35 h))
  have k5 : (r5 s).2.2 = true → (nodeP (m + 1) s false).2.2 = true := fun h => hbad (bad57 h)
  have e3 : r3 s = sg 120 (r1 s).2.1 (r1 s).2.2 := rfl
  have e5 : r5 s = sg 44 (r3 s).2.1 (r3 s).2.2 := rfl
  have e7 : r7 s = sg 44 (r5 s).2.1 (r5 s).2.2 := rfl
  have HN : ∀ r, (r7 s).2.2 = false → (r7 s).2.1 = 44 :: r → nodeP (m + 1) s false = _ := fun r => node_leaf (n := m) (s := s)
  have HS : ∀ (r : List UInt8) (c : UInt8) (way : Int), (r7 s).2.2 = false → (r7 s).2.1 = c :: r → (c = 123 ∧ way = 0) ∨ (c = 91 ∧ way = 1) → nodeP (m + 1) s false = _ := fun r c way => node_split (n := m) (s := s)
  have HX := node_none (n := m) (s := s)
  have HG : ∀ (r : List UInt8) (c : UInt8), _ := fun r c => node_sign (n := m) (s := s) (r := r) (c := c)
  obtain ⟨RR, hRR⟩ : ∃ RR, RR = nodeP (m + 1) s false := ⟨_, rfl⟩
  rw [← hRR] at hbad k1 k3 k5 HX ⊢
  simp only [← hRR] at HN HS HG
  have hl1 : (r1 s).2.1.length ≤ s.length := l1
  generalize hq1 : r1 s = q1 at *
  generalize hq3 : r3 s = q3 at *
  generalize hq5 : r5 s = q5 at *
  generalize hq7 : r7 s = q7 at *
  obtain ⟨n1, s1, b1⟩ := q1
  obtain ⟨n3, s3, b3⟩ := q3
  obtain ⟨n5, s5, b5⟩ := q5
  obtain ⟨n7, s7, b7⟩ := q7
  dsimp only at *
  obtain ⟨S, hS⟩ : ∃ S, S = st s := ⟨_, rfl⟩
  rw [← hS] at C1 ⊢
  have hNil : ∀ w', w.grownBy w' none → RR.2.2 = true → ReadPost w RR (.returned (.tuple #[.pointer none, .string ⟨#[]⟩])) w' := fun w' g h => ⟨g, .inl ⟨h, rfl⟩⟩
  replace C1 := Lib.hid C1; replace hbad := Lib.hid hbad; replace k1 := Lib.hid k1; replace k3 := Lib.hid k3; replace k5 := Lib.hid k5; replace e3 := Lib.hid e3; replace e5 := Lib.hid e5; replace e7 := Lib.hid e7; replace HN := Lib.hid HN; replace HS := Lib.hid HS; replace HX := Lib.hid HX; replace HG := Lib.hid HG; replace hRR := Lib.hid hRR; replace hq1 := Lib.hid hq1; replace hq3 := Lib.hid hq3; replace hq5 := Lib.hid hq5; replace hq7 := Lib.hid hq7; replace hNil := Lib.hid hNil; replace hS := Lib.hid hS; replace ih := Lib.hid ih
  clear l1
  go_enter Tryz.func47, Tryz.ntmps47
  go_wp2_with fail
  refine C1.out.mono ?_
  rintro e w1 ⟨rfl, i1, h1⟩
  have g1 : w.grownBy w1 none := by rw [h1]; exact grown_drewN w i1
  replace h1 := Lib.hid h1
  clear C1
  unfold TV
  cases b1 with
  | true =>
    replace g1 := Lib.hid g1
    go_wp2_with fail
    go_ret2
    exact hNil.out _ g1.out (by simp [k1.out])
  | false =>
  have C3 := signR_any s1 120 w1 (by omega)
  rw [← e3.out] at C3
  have l3 := sg_len 120 s1 false
  rw [← e3.out] at l3
  dsimp only at l3
  obtain ⟨S1, hS1⟩ : ∃ S, S = st s1 := ⟨_, rfl⟩
  rw [← hS1] at C3 ⊢
  replace C3 := Lib.hid C3; replace g1 := Lib.hid g1; replace hS1 := Lib.hid hS1
  go_wp2_with fail
  refine C3.out.mono ?_
  rintro e w3 ⟨rfl, i3, h3⟩
  have g3 : w.grownBy w3 none := by rw [h3]; exact g1.out.trans (grown_drewN w1 i3)
  replace h3 := Lib.hid h3
  clear C3
  unfold TV
  cases b3 with
  | true =>
    replace g3 := Lib.hid g3
    go_wp2_with fail
    go_ret2
    exact hNil.out _ g3.out (by simp [k3.out])
  | false =>
  have C5 := signR_any s3 44 w3 (by omega)
  rw [← e5.out] at C5
  have l5 := sg_len 44 s3 false
  rw [← e5.out] at l5
  dsimp only at l5
  obtain ⟨S3, hS3⟩ : ∃ S, S = st s3 := ⟨_, rfl⟩
  rw [← hS3] at C5 ⊢
  replace C5 := Lib.hid C5; replace g3 := Lib.hid g3; replace hS3 := Lib.hid hS3
  go_wp2_with fail
  refine C5.out.mono ?_
  rintro e w5 ⟨rfl, i5, h5⟩
  have g5 : w.grownBy w5 none := by rw [h5]; exact g3.out.trans (grown_drewN w3 i5)
  replace h5 := Lib.hid h5
  clear C5
  unfold TV
  cases b5 with
  | true =>
    replace g5 := Lib.hid g5
    go_wp2_with fail
    go_ret2
    exact hNil.out _ g5.out (by simp [k5.out])
  | false =>
  have C7 := signR_any s5 44 w5 (by omega)
  rw [← e7.out] at C7
  have l7 := sg_len 44 s5 false
  rw [← e7.out] at l7
  dsimp only at l7
  obtain ⟨S5, hS5⟩ : ∃ S, S = st s5 := ⟨_, rfl⟩
  rw [← hS5] at C7 ⊢
  replace C7 := Lib.hid C7; replace g5 := Lib.hid g5; replace hS5 := Lib.hid hS5
  go_wp2_with fail
  refine C7.out.mono ?_
  rintro e w7 ⟨rfl, i7, h7⟩
  have g7 : w.grownBy w7 none := by rw [h7]; exact g5.out.trans (grown_drewN w5 i7)
  replace h7 := Lib.hid h7
  clear C7
  unfold TV
  cases b7 with
  | true =>
    replace g7 := Lib.hid g7
    go_wp2_with fail
    go_ret2
    exact hNil.out _ g7.out (by simp [hbad.out])
  | false =>
  replace g7 := Lib.hid g7
  cases s7 with
  | nil =>
    have hl : (st ([] : List UInt8)).toList.isEmpty = true := by rw [st_tl]; rfl
    go_wp2_with fail
    go_ret2
    exact hNil.out _ g7.out (by simp [HX.out])
  | cons c r =>
  obtain ⟨S7, hS7⟩ : ∃ S, S = st (c :: r) := ⟨_, rfl⟩
  rw [← hS7]
  have hl : S7.toList.isEmpty = false := by rw [hS7, st_tl]; rfl
  obtain ⟨len, hlen⟩ : ∃ len, len = r.length := ⟨_, rfl⟩
  have hZ : S7.size = len + 1 := by rw [hS7, st_size, hlen]; rfl
  have hG : ∀ h, S7[0]'h = c := by subst hS7; intro h; rfl
  have hX : S7.extract 1 (len + 1) = st r := by rw [hS7]; exact st_drop (c :: r) 1 _ (by rw [hlen]; rfl)
  have lr : r.length + 1 ≤ s.length := by simp only [List.length_cons] at l7; omega
  have hlen5 : len < 5000 := by omega
  obtain ⟨gn, hgn⟩ : ∃ gn, gn = w7.heap.size := ⟨_, rfl⟩
  obtain ⟨V, hV⟩ : ∃ V, V = w7.alloc (.cells #[.int .i64 0, .int .i64 n5, .int .i64 n7, .int .i64 n1, .int .i64 n3, .bool false, .slice none 0 0] 55) := ⟨_, rfl⟩
  have hVh : V.heap[gn]? = some (.cells #[.int .i64 0, .int .i64 n5, .int .i64 n7, .int .i64 n1, .int .i64 n3, .bool false, .slice none 0 0] 55 (0, 0)) := by rw [hV, hgn]; exact heap_alloc_new w7 _
  have gV : w.grownBy V none := by rw [hV]; exact g7.out.trans (World.grownBy_alloc w7 _ none)
  have hgnw : w.heap.size ≤ gn := by rw [hgn]; exact g7.out.size
  have v0 : V.cell? ⟨gn, 0, none⟩ = some (.int .i64 0) := by rw [cell_of_heap hVh]; rfl
  have v0f : V.frozen? ⟨gn, 0, none⟩ = false := free_of_heap hVh 0
  have v5 : V.cell? ⟨gn, 5, none⟩ = some (.bool false) := by rw [cell_of_heap hVh]; rfl
  have v5f : V.frozen? ⟨gn, 5, none⟩ = false := free_of_heap hVh 5
  replace hgn := Lib.hid hgn; replace hV := Lib.hid hV; replace hVh := Lib.hid hVh; replace gV := Lib.hid gV; replace hS7 := Lib.hid hS7; replace hlen := Lib.hid hlen; replace hgnw := Lib.hid hgnw; replace l7 := Lib.hid l7; replace lr := Lib.hid lr; replace l5 := Lib.hid l5; replace l3 := Lib.hid l3; replace hl1 := Lib.hid hl1
  by_cases z1 : c.toNat = 44
  · have hc : c = 44 := UInt8.toNat_inj.1 z1
    have y1 : ((c.toNat : Int) == 44) = true := by rw [z1]; rfl
    have C9 := numberR_any r V (by have := lr.out; omega)
    unfold numV at C9
    have HN2 := HN.out r rfl (by rw [hc])
    rcases hq9 : numP r false with ⟨n9, s9, b9⟩
    rw [hq9] at C9 HN2
    dsimp only at C9 HN2
    replace C9 := Lib.hid C9; replace HN2 := Lib.hid HN2; replace hq9 := Lib.hid hq9; replace z1 := Lib.hid z1; replace hc := Lib.hid hc
    go_upto_region 14 with fail
    rw [← hV.out, ← hgn.out]
    go_wp2_with fail
    refine C9.out.mono ?_
    rintro e w9 ⟨rfl, i9, h9⟩
    have g9 : w.grownBy w9 none := by rw [h9]; exact gV.out.trans (grown_drewN V i9)
    have H9 : w9.heap[gn]? = V.heap[gn]? := by rw [h9]; rfl
    have v0' : w9.cell? ⟨gn, 0, none⟩ = some (.int .i64 0) := by rw [h9]; exact v0
    have v0f' : w9.frozen? ⟨gn, 0, none⟩ = false := by rw [h9]; exact v0f
    replace h9 := Lib.hid h9
    clear C9 v0 v0f v5 v5f
    replace g9 := Lib.hid g9; replace H9 := Lib.hid H9
    cases b9 with
    | true =>
      go_wp2_with fail
      go_ret2
      exact hNil.out _ g9.out (by rw [HN2.out])
    | false =>
      obtain ⟨S9, hS9⟩ : ∃ S, S = st s9 := ⟨_, rfl⟩
      rw [← hS9]
      replace hS9 := Lib.hid hS9
      go_wp2_with fail
      go_ret2
      have hh := heap_set (j := 0) (H9.out.trans hVh.out) (.int .i64 (n9 : Int))
      have oo := Off.set w9 ⟨gn, 0, none⟩ (.int .i64 (n9 : Int))
      have gg : w.grownBy (w9.setCell ⟨gn, 0, none⟩ (.int .i64 (n9 : Int))) none :=
        grown_own (r := some gn) g9.out ⟨oo.os, oo.tape, oo.output, oo.size, fun b hb hr => oo.block b hb (by simpa using fun e => hr (by rw [e]))⟩ (fun g hg => by injection hg with hg; have := hgnw.out; omega)
      refine ⟨gg, .inr ⟨by rw [HN2.out], .mk ⟨gn, none, 0, n9, n5, n7, n1, n3, 0⟩ [], ?_, .mk ⟨hh, World.ownsRow_nil _ _ _ _⟩ (by rw [RPs]; trivial), ?_, by simp [T.bl_mk, blL_nil], ?_⟩⟩
      · rw [HN2.out, hS9.out]; rfl
      · rw [HN2.out, T.pt_mk, ptL]
      · intro b hb
        simp [T.bl_mk, blL_nil] at hb
        rw [hb]; exact hgnw.out
  have y1 : ((c.toNat : Int) == 44) = false := beq_eq_false_iff_ne.2 (by omega)
  by_cases zz : c.toNat ≠ 123 ∧ c.toNat ≠ 91
  · have y2 : ((c.toNat : Int) != 123) = true := bne_iff_ne.2 (by omega)
    have y3 : ((c.toNat : Int) != 91) = true := bne_iff_ne.2 (by omega)
    have hgo := HG.out r c rfl rfl ⟨fun e => z1 (by rw [e]; rfl), fun e => zz.1 (by rw [e]; rfl), fun e => zz.2 (by rw [e]; rfl)⟩
    replace z1 := Lib.hid z1; replace zz := Lib.hid zz; replace hgo := Lib.hid hgo
    go_upto_region 14 with fail
    rw [← hV.out, ← hgn.out]
    go_wp2_with fail
    go_ret2
    exact hNil.out _ gV.out hgo.out
  clear v0 v0f
  rcases (by omega : c.toNat = 123 ∨ c.toNat = 91) with zc | zc
  · have hc : c = 123 := UInt8.toNat_inj.1 zc
    have y2 : ((c.toNat : Int) != 123) = false := by rw [zc]; rfl
    have y4 : ((c.toNat : Int) == 123) = true := by rw [zc]; rfl
    obtain ⟨KR, hKR⟩ : ∃ KR, KR = kidsP m 0 r false := ⟨_, rfl⟩
    have hfin : RR = (.mk 0 n5 n7 n1 n3 0 KR.1, KR.2) := by rw [hKR]; exact HS.out r c 0 rfl rfl (.inl ⟨hc, rfl⟩)
    have hbadK : KR.2.2 = true → RR.2.2 = true := fun h => by rw [hfin]; exact h
    have hq0 : 2 * r.length + 3 ≤ m := by have := lr.out; omega
    obtain ⟨V2, hV2⟩ : ∃ V2, V2 = V.setCell ⟨gn, 5, none⟩ (.bool true) := ⟨_, rfl⟩
    have hV2h := heap_set (j := 5) hVh.out (.bool true)
    rw [← hV2] at hV2h
    have gV2 : w.grownBy V2 none := by
      have oo := Off.set V ⟨gn, 5, none⟩ (.bool true)
      rw [hV2]
      exact grown_own (r := some gn) gV.out ⟨oo.os, oo.tape, oo.output, oo.size, fun b hb hr => oo.block b hb (by simpa using fun e => hr (by rw [e]))⟩ (fun g hg => by injection hg with hg; have := hgnw.out; omega)
    have hK0 : KJ w gn n5 n7 n1 n3 true none 0 [] V2 := ⟨hV2h, World.ownsRow_nil _ _ _ _, by rw [RPs]; trivial, gV2, ⟨hgnw.out, by simp [blL_nil]⟩, by simp [blL_nil]⟩
    have v25 : V2.cell? ⟨gn, 5, none⟩ = some (.bool true) := by rw [cell_of_heap hV2h]; rfl
    replace hKR := Lib.hid hKR; replace hfin := Lib.hid hfin; replace hbadK := Lib.hid hbadK; replace hq0 := Lib.hid hq0; replace hV2 := Lib.hid hV2; replace hV2h := Lib.hid hV2h; replace gV2 := Lib.hid gV2; replace hK0 := Lib.hid hK0; replace zc := Lib.hid zc; replace hc := Lib.hid hc; replace z1 := Lib.hid z1
    go_upto_region 14 with fail
    rw [← hV.out, ← hgn.out]
    go_upto_region 23 with fail
    rw [← hV2.out]
    clear v5 v5f
    go_wp2_with fail
    go_loopw [0] (fun sv wr => ∃ sx : List UInt8, sv = .string (st sx) ∧ Hid (KM w gn n5 n7 n1 n3 true 0 m KR sx wr)) (fun sv wr => sLen sv)
    case atStart => exact ⟨r, rfl, Lib.hid ⟨[], none, 0, m, hK0.out, hq0.out, Nat.le_refl _, by have := lr.out; simp; omega, by rw [hKR.out, ptL]; rfl, by rw [hKR.out]⟩⟩
    case round =>
      obtain ⟨sx, rfl, hM⟩ := hrel
      obtain ⟨ks, A, cc, q, hK, hq1', hq2', hs5, hk1, hk2⟩ := hM.out
      clear hM
      obtain ⟨q', rfl⟩ : ∃ q', q = q' + 1 := ⟨q - 1, by omega⟩
      have CK := ih.out q' (by omega) sx wr (by omega) (by omega)
      have hkl := (nodeP_len q').1 sx false
      have kb : (nodeP q' sx false).2.2 = true → KR.2.2 = true := fun h => by rw [← hk2]; exact kids_badk h
      rcases hkn : nodeP q' sx false with ⟨pk, sk, bk⟩
      rw [hkn] at CK hkl kb
      dsimp only at CK hkl kb
      have hmeas0 : sLen (.string (st sx)) = sx.length := st_size sx
      obtain ⟨SX, hSX⟩ : ∃ S, S = st sx := ⟨_, rfl⟩
      rw [← hSX] at CK hmeas0 ⊢
      replace hK := Lib.hid hK; replace hq1' := Lib.hid hq1'; replace hq2' := Lib.hid hq2'; replace hs5 := Lib.hid hs5; replace hk1 := Lib.hid hk1; replace hk2 := Lib.hid hk2; replace CK := Lib.hid CK; replace hkn := Lib.hid hkn; replace hmeas0 := Lib.hid hmeas0; replace hSX := Lib.hid hSX; replace hkl := Lib.hid hkl; replace kb := Lib.hid kb
      go_wp2_with fail
      refine CK.out.mono ?_
      rintro e w1' ⟨gk, hp⟩
      have gK1 := hK.out.o.trans gk
      clear CK
      rcases hp with ⟨hb, rfl⟩ | ⟨hb, tk, rfl, hTk, hpt, hdk, hbk⟩
      · dsimp only at hb
        replace gk := Lib.hid gk; replace gK1 := Lib.hid gK1; replace hb := Lib.hid hb
        go_wp2_with fail
        go_ret2
        exact hNil.out _ gK1.out (hbadK.out (kb.out hb.out))
      dsimp only at hb hpt ⊢
      subst hb
      cases sk with
      | nil =>
        have hl2 : (st ([] : List UInt8)).toList.isEmpty = true := by rw [st_tl]; rfl
        replace gk := Lib.hid gk; replace gK1 := Lib.hid gK1
        unfold ptr
        go_wp2_with fail
        go_ret2
        exact hNil.out _ gK1.out (hbadK.out (by rw [← hk2.out]; exact kids_nil hkn.out))
      | cons d rk =>
      obtain ⟨SK, hSK⟩ : ∃ S, S = st (d :: rk) := ⟨_, rfl⟩
      rw [← hSK]
      have hl2 : SK.toList.isEmpty = false := by rw [hSK, st_tl]; rfl
      obtain ⟨lk, hlk⟩ : ∃ lk, lk = rk.length := ⟨_, rfl⟩
      have hZ2 : SK.size = lk + 1 := by rw [hSK, st_size, hlk]; rfl
      have hG2 : ∀ h, SK[0]'h = d := by subst hSK; intro h; rfl
      have hX2 : SK.extract 1 (lk + 1) = st rk := by rw [hSK]; exact st_drop (d :: rk) 1 _ (by rw [hlk]; rfl)
      have hlk5 : lk < 5000 := by have := hkl.out; simp only [List.length_cons] at this; have := hs5.out; omega
      have hK1 := hK.out.call gk
      obtain ⟨ln, hln⟩ : ∃ ln, ln = ks.length := ⟨_, rfl⟩
      have hlnb : ln ≤ 5000 := by have := hs5.out; omega
      obtain ⟨AA, hAA⟩ : ∃ AA, AA = adr A := ⟨_, rfl⟩
      have hh1 := hK1.h
      rw [← hln, ← hAA] at hh1
      have g6 : w1'.cell? ⟨gn, 6, none⟩ = some (.slice AA ln cc) := by rw [cell_of_heap hh1]; rfl
      have hO1 : (w1'.alloc (.cells #[.pointer (some ⟨tk.g, 0, none⟩)] 52)).ownsRow w.heap.size 52 1 (.slice AA ln cc) ln (ptrs ks) := by
        have := hK1.r
        rw [← hln, ← hAA] at this
        exact this.alloc _
      have hR1 := Rd.new1 w1' (.pointer (some ⟨tk.g, 0, none⟩)) 52
      have hww : w.heap.size ≤ w1'.heap.size := gK1.size
      have hgW : gn < w1'.heap.size := lt_of_heap hh1
      have hkeep : ∀ w2, (w1'.alloc (.cells #[.pointer (some ⟨tk.g, 0, none⟩)] 52)).grownBy w2 (Value.slice AA ln cc).ownBlock → w2.heap[gn]? = w1'.heap[gn]? := fun w2 G => by
        rw [G.block gn (by simp; omega) (fun e => by
          rw [hAA, ob_adr] at e
          exact (hK1.A_lt gn e.symm).2.2.1 rfl), (World.grownBy_alloc w1' _ none).block gn hgW (by simp)]
      replace gk := Lib.hid gk; replace gK1 := Lib.hid gK1; replace hTk := Lib.hid hTk; replace hpt := Lib.hid hpt; replace hdk := Lib.hid hdk; replace hbk := Lib.hid hbk; replace hSK := Lib.hid hSK; replace hlk := Lib.hid hlk; replace hK1 := Lib.hid hK1; replace hln := Lib.hid hln; replace hAA := Lib.hid hAA; replace hh1 := Lib.hid hh1; replace hO1 := Lib.hid hO1; replace hR1 := Lib.hid hR1; replace hkeep := Lib.hid hkeep; replace hgW := Lib.hid hgW
      unfold ptr
      go_upto_region 31 with (first
        | (at_builtin; go_loud (refine apR rfl (.tmp 111) (.tmp 113) rfl w.heap.size (.slice AA ln cc) ln (ptrs ks) rfl hO1.out (some ⟨w1'.heap.size, 0, none⟩) 1 1 _ rfl rfl hR1.out (by intro u hu; simp at hu; subst hu; rfl) (by omega) (by simp; omega) ?_); intro A2 c2 w2 O2 G2 hh2; have hg2 := (hkeep.out w2 G2).trans hh1.out; have q26 : w2.cell? ⟨gn, 6, none⟩ = some (.slice AA ln cc) := by { rw [cell_of_heap hg2]; rfl }; have q26f : w2.frozen? ⟨gn, 6, none⟩ = false := free_of_heap hg2 6; replace hg2 := Lib.hid hg2)
        | fail)
      obtain ⟨W3, hW3⟩ : ∃ W3, W3 = w2.setCell ⟨gn, 6, none⟩ (.slice A2 (ln + 1) c2) := ⟨_, rfl⟩
      rw [← hW3]
      obtain ⟨b2, hA2, hK3⟩ := hK.out.push hln.out hTk.out gk.out hbk.out hdk.out O2 (by rw [← hAA.out]; exact G2) (by rw [← hAA.out]; exact hh2) hW3
      have hpl : ptL (ks ++ [tk]) = ptL ks ++ [pk] := by rw [ptL_map, ptL_map, List.map_append]; simp [hpt.out]
      clear q26 q26f g6 hA2
      replace hK3 := Lib.hid hK3; replace hpl := Lib.hid hpl; replace hW3 := Lib.hid hW3; replace O2 := Lib.hid O2; replace G2 := Lib.hid G2; replace hh2 := Lib.hid hh2
      by_cases zd : d.toNat = 125
      · have hd : d = endB 0 := UInt8.toNat_inj.1 zd
        have x1 : ((d.toNat : Int) == 125) = true := by rw [zd]; rfl
        have hend := kids_end (n := q') (way := 0) (s := sx) (r := rk) (p := pk) (by rw [hkn.out, hd])
        replace hd := Lib.hid hd; replace zd := Lib.hid zd; replace hend := Lib.hid hend
        go_wp2_with fail
        go_big_quiet ((fail))
        go_wp2_with fail
        go_ret2
        have hKf := hK3.out
        have h1 := hk1.out
        have h2 := hk2.out
        rw [hend.out] at h1 h2
        dsimp only at h1 h2
        refine ⟨hKf.o.trans (grown_drewN _ _), .inr ⟨by rw [hfin.out]; show KR.2.2 = false; rw [← h2], .mk ⟨gn, some b2, c2, 0, n5, n7, n1, n3, 0⟩ (ks ++ [tk]), ?_, ?_, ?_, ?_, ?_⟩⟩
        · rw [hfin.out]; show _ = Ending.returned (.tuple #[_, .string (st KR.2.1)]); rw [← h2]; rfl
        · refine (RP.mk ⟨?_, own_le hKf.r (Nat.zero_le _)⟩ hKf.k).grown (grown_drewN _ _)
          have := hKf.h
          have e : bsd ⟨gn, some b2, c2, 0, n5, n7, n1, n3, 0⟩ (ks ++ [tk]).length = true := by simp [bsd]
          rw [e]; exact this
        · rw [hfin.out, T.pt_mk]
          show P.mk _ _ _ _ _ _ _ = P.mk _ _ _ _ _ _ KR.1
          rw [hpl.out, ← h1]
        · rw [T.bl_mk]; exact hKf.d
        · intro b hb
          rw [T.bl_mk] at hb
          rcases List.mem_cons.1 hb with rfl | hb
          · exact hKf.b.1
          · rcases List.mem_append.1 hb with hb | hb
            · exact (hKf.A_lt b (by simpa [eq_comm] using hb)).1
            · exact hKf.b.2 b hb
      have x1 : ((d.toNat : Int) == 125) = false := beq_eq_false_iff_ne.2 (by omega)
      have hd1 : d ≠ endB 0 := fun e => zd (by rw [e]; rfl)
      by_cases zf : d.toNat = 44
      · have hd : d = 44 := UInt8.toNat_inj.1 zf
        have x2 : ((d.toNat : Int) != 44) = false := by rw [zf]; rfl
        have hmore := kids_more (n := q') (way := 0) (s := sx) (r := rk) (p := pk) (by rw [hkn.out, hd])
        have hrk : rk.length + 1 ≤ sx.length := by have := hkl.out; simp only [List.length_cons] at this; omega
        have hnext : KM w gn n5 n7 n1 n3 true 0 m KR rk W3 := by
          have h1 := hk1.out
          have h2 := hk2.out
          rw [hmore] at h1 h2
          dsimp only at h1 h2
          refine ⟨_, _, _, q', hK3.out, by have := hq1'.out; omega, by have := hq2'.out; omega, by have := hs5.out; rw [List.length_append, List.length_singleton]; omega, ?_, h2⟩
          rw [hpl.out, ← h1, List.append_assoc]; rfl
        have hmeas : sLen (.string (st rk)) < sLen (.string SX) := by rw [hmeas0.out]; show (st rk).size < _; rw [st_size]; omega
        replace hd := Lib.hid hd; replace zd := Lib.hid zd; replace zf := Lib.hid zf; replace hmore := Lib.hid hmore; replace hd1 := Lib.hid hd1; replace hrk := Lib.hid hrk; replace hnext := Lib.hid hnext; replace hmeas := Lib.hid hmeas
        go_wp2_with fail
        exact ⟨⟨rk, rfl, hnext⟩, hmeas.out⟩
      · have x2 : ((d.toNat : Int) != 44) = true := bne_iff_ne.2 (by omega)
        have hoth := kids_other hkn.out hd1 (fun e => zf (by rw [e]; rfl))
        rw [hk2.out] at hoth
        replace zd := Lib.hid zd; replace zf := Lib.hid zf; replace hoth := Lib.hid hoth; replace hd1 := Lib.hid hd1
        go_wp2_with fail
        go_ret2
        exact hNil.out _ hK3.out.o (hbadK.out hoth.out)
  · have hc : c = 91 := UInt8.toNat_inj.1 zc
    have y2 : ((c.toNat : Int) != 123) = true := by rw [zc]; rfl
    have y3 : ((c.toNat : Int) != 91) = false := by rw [zc]; rfl
    have y4 : ((c.toNat : Int) == 123) = false := by rw [zc]; rfl
    obtain ⟨KR, hKR⟩ : ∃ KR, KR = kidsP m 1 r false := ⟨_, rfl⟩
    have hfin : RR = (.mk 0 n5 n7 n1 n3 1 KR.1, KR.2) := by rw [hKR]; exact HS.out r c 1 rfl rfl (.inr ⟨hc, rfl⟩)
    have hbadK : KR.2.2 = true → RR.2.2 = true := fun h => by rw [hfin]; exact h
    have hq0 : 2 * r.length + 3 ≤ m := by have := lr.out; omega
    obtain ⟨V2, hV2⟩ : ∃ V2, V2 = V.setCell ⟨gn, 5, none⟩ (.bool false) := ⟨_, rfl⟩
    have hV2h := heap_set (j := 5) hVh.out (.bool false)
    rw [← hV2] at hV2h
    have gV2 : w.grownBy V2 none := by
      have oo := Off.set V ⟨gn, 5, none⟩ (.bool false)
      rw [hV2]
      exact grown_own (r := some gn) gV.out ⟨oo.os, oo.tape, oo.output, oo.size, fun b hb hr => oo.block b hb (by simpa using fun e => hr (by rw [e]))⟩ (fun g hg => by injection hg with hg; have := hgnw.out; omega)
    have hK0 : KJ w gn n5 n7 n1 n3 false none 0 [] V2 := ⟨hV2h, World.ownsRow_nil _ _ _ _, by rw [RPs]; trivial, gV2, ⟨hgnw.out, by simp [blL_nil]⟩, by simp [blL_nil]⟩
    have v25 : V2.cell? ⟨gn, 5, none⟩ = some (.bool false) := by rw [cell_of_heap hV2h]; rfl
    replace hKR := Lib.hid hKR; replace hfin := Lib.hid hfin; replace hbadK := Lib.hid hbadK; replace hq0 := Lib.hid hq0; replace hV2 := Lib.hid hV2; replace hV2h := Lib.hid hV2h; replace gV2 := Lib.hid gV2; replace hK0 := Lib.hid hK0; replace zc := Lib.hid zc; replace hc := Lib.hid hc; replace z1 := Lib.hid z1
    go_upto_region 14 with fail
    rw [← hV.out, ← hgn.out]
    go_upto_region 23 with fail
    rw [← hV2.out]
    clear v5 v5f
    go_wp2_with fail
    go_loopw [0] (fun sv wr => ∃ sx : List UInt8, sv = .string (st sx) ∧ Hid (KM w gn n5 n7 n1 n3 false 1 m KR sx wr)) (fun sv wr => sLen sv)
    case atStart => exact ⟨r, rfl, Lib.hid ⟨[], none, 0, m, hK0.out, hq0.out, Nat.le_refl _, by have := lr.out; simp; omega, by rw [hKR.out, ptL]; rfl, by rw [hKR.out]⟩⟩
    case round =>
      obtain ⟨sx, rfl, hM⟩ := hrel
      obtain ⟨ks, A, cc, q, hK, hq1', hq2', hs5, hk1, hk2⟩ := hM.out
      clear hM
      obtain ⟨q', rfl⟩ : ∃ q', q = q' + 1 := ⟨q - 1, by omega⟩
      have CK := ih.out q' (by omega) sx wr (by omega) (by omega)
      have hkl := (nodeP_len q').1 sx false
      have kb : (nodeP q' sx false).2.2 = true → KR.2.2 = true := fun h => by rw [← hk2]; exact kids_badk h
      rcases hkn : nodeP q' sx false with ⟨pk, sk, bk⟩
      rw [hkn] at CK hkl kb
      dsimp only at CK hkl kb
      have hmeas0 : sLen (.string (st sx)) = sx.length := st_size sx
      obtain ⟨SX, hSX⟩ : ∃ S, S = st sx := ⟨_, rfl⟩
      rw [← hSX] at CK hmeas0 ⊢
      replace hK := Lib.hid hK; replace hq1' := Lib.hid hq1'; replace hq2' := Lib.hid hq2'; replace hs5 := Lib.hid hs5; replace hk1 := Lib.hid hk1; replace hk2 := Lib.hid hk2; replace CK := Lib.hid CK; replace hkn := Lib.hid hkn; replace hmeas0 := Lib.hid hmeas0; replace hSX := Lib.hid hSX; replace hkl := Lib.hid hkl; replace kb := Lib.hid kb
      go_wp2_with fail
      refine CK.out.mono ?_
      rintro e w1' ⟨gk, hp⟩
      have gK1 := hK.out.o.trans gk
      clear CK
      rcases hp with ⟨hb, rfl⟩ | ⟨hb, tk, rfl, hTk, hpt, hdk, hbk⟩
      · dsimp only at hb
        replace gk := Lib.hid gk; replace gK1 := Lib.hid gK1; replace hb := Lib.hid hb
        go_wp2_with fail
        go_ret2
        exact hNil.out _ gK1.out (hbadK.out (kb.out hb.out))
      dsimp only at hb hpt ⊢
      subst hb
      cases sk with
      | nil =>
        have hl2 : (st ([] : List UInt8)).toList.isEmpty = true := by rw [st_tl]; rfl
        replace gk := Lib.hid gk; replace gK1 := Lib.hid gK1
        unfold ptr
        go_wp2_with fail
        go_ret2
        exact hNil.out _ gK1.out (hbadK.out (by rw [← hk2.out]; exact kids_nil hkn.out))
      | cons d rk =>
      obtain ⟨SK, hSK⟩ : ∃ S, S = st (d :: rk) := ⟨_, rfl⟩
      rw [← hSK]
      have hl2 : SK.toList.isEmpty = false := by rw [hSK, st_tl]; rfl
      obtain ⟨lk, hlk⟩ : ∃ lk, lk = rk.length := ⟨_, rfl⟩
      have hZ2 : SK.size = lk + 1 := by rw [hSK, st_size, hlk]; rfl
      have hG2 : ∀ h, SK[0]'h = d := by subst hSK; intro h; rfl
      have hX2 : SK.extract 1 (lk + 1) = st rk := by rw [hSK]; exact st_drop (d :: rk) 1 _ (by rw [hlk]; rfl)
      have hlk5 : lk < 5000 := by have := hkl.out; simp only [List.length_cons] at this; have := hs5.out; omega
      have hK1 := hK.out.call gk
      obtain ⟨ln, hln⟩ : ∃ ln, ln = ks.length := ⟨_, rfl⟩
      have hlnb : ln ≤ 5000 := by have := hs5.out; omega
      obtain ⟨AA, hAA⟩ : ∃ AA, AA = adr A := ⟨_, rfl⟩
      have hh1 := hK1.h
      rw [← hln, ← hAA] at hh1
      have g6 : w1'.cell? ⟨gn, 6, none⟩ = some (.slice AA ln cc) := by rw [cell_of_heap hh1]; rfl
      have hO1 : (w1'.alloc (.cells #[.pointer (some ⟨tk.g, 0, none⟩)] 52)).ownsRow w.heap.size 52 1 (.slice AA ln cc) ln (ptrs ks) := by
        have := hK1.r
        rw [← hln, ← hAA] at this
        exact this.alloc _
      have hR1 := Rd.new1 w1' (.pointer (some ⟨tk.g, 0, none⟩)) 52
      have hww : w.heap.size ≤ w1'.heap.size := gK1.size
      have hgW : gn < w1'.heap.size := lt_of_heap hh1
      have hkeep : ∀ w2, (w1'.alloc (.cells #[.pointer (some ⟨tk.g, 0, none⟩)] 52)).grownBy w2 (Value.slice AA ln cc).ownBlock → w2.heap[gn]? = w1'.heap[gn]? := fun w2 G => by
        rw [G.block gn (by simp; omega) (fun e => by
          rw [hAA, ob_adr] at e
          exact (hK1.A_lt gn e.symm).2.2.1 rfl), (World.grownBy_alloc w1' _ none).block gn hgW (by simp)]
      replace gk := Lib.hid gk; replace gK1 := Lib.hid gK1; replace hTk := Lib.hid hTk; replace hpt := Lib.hid hpt; replace hdk := Lib.hid hdk; replace hbk := Lib.hid hbk; replace hSK := Lib.hid hSK; replace hlk := Lib.hid hlk; replace hK1 := Lib.hid hK1; replace hln := Lib.hid hln; replace hAA := Lib.hid hAA; replace hh1 := Lib.hid hh1; replace hO1 := Lib.hid hO1; replace hR1 := Lib.hid hR1; replace hkeep := Lib.hid hkeep; replace hgW := Lib.hid hgW
      unfold ptr
      go_upto_region 31 with (first
        | (at_builtin; go_loud (refine apR rfl (.tmp 111) (.tmp 113) rfl w.heap.size (.slice AA ln cc) ln (ptrs ks) rfl hO1.out (some ⟨w1'.heap.size, 0, none⟩) 1 1 _ rfl rfl hR1.out (by intro u hu; simp at hu; subst hu; rfl) (by omega) (by simp; omega) ?_); intro A2 c2 w2 O2 G2 hh2; have hg2 := (hkeep.out w2 G2).trans hh1.out; have q26 : w2.cell? ⟨gn, 6, none⟩ = some (.slice AA ln cc) := by { rw [cell_of_heap hg2]; rfl }; have q26f : w2.frozen? ⟨gn, 6, none⟩ = false := free_of_heap hg2 6; replace hg2 := Lib.hid hg2)
        | fail)
      obtain ⟨W3, hW3⟩ : ∃ W3, W3 = w2.setCell ⟨gn, 6, none⟩ (.slice A2 (ln + 1) c2) := ⟨_, rfl⟩
      rw [← hW3]
      obtain ⟨b2, hA2, hK3⟩ := hK.out.push hln.out hTk.out gk.out hbk.out hdk.out O2 (by rw [← hAA.out]; exact G2) (by rw [← hAA.out]; exact hh2) hW3
      have hpl : ptL (ks ++ [tk]) = ptL ks ++ [pk] := by rw [ptL_map, ptL_map, List.map_append]; simp [hpt.out]
      clear q26 q26f g6 hA2
      replace hK3 := Lib.hid hK3; replace hpl := Lib.hid hpl; replace hW3 := Lib.hid hW3; replace O2 := Lib.hid O2; replace G2 := Lib.hid G2; replace hh2 := Lib.hid hh2
      by_cases zd : d.toNat = 93
      · have hd : d = endB 1 := UInt8.toNat_inj.1 zd
        have x1 : ((d.toNat : Int) == 93) = true := by rw [zd]; rfl
        have hend := kids_end (n := q') (way := 1) (s := sx) (r := rk) (p := pk) (by rw [hkn.out, hd])
        replace hd := Lib.hid hd; replace zd := Lib.hid zd; replace hend := Lib.hid hend
        go_wp2_with fail
        go_big_quiet ((fail))
        go_wp2_with fail
        go_ret2
        have hKf := hK3.out
        have h1 := hk1.out
        have h2 := hk2.out
        rw [hend.out] at h1 h2
        dsimp only at h1 h2
        refine ⟨hKf.o.trans (grown_drewN _ _), .inr ⟨by rw [hfin.out]; show KR.2.2 = false; rw [← h2], .mk ⟨gn, some b2, c2, 0, n5, n7, n1, n3, 1⟩ (ks ++ [tk]), ?_, ?_, ?_, ?_, ?_⟩⟩
        · rw [hfin.out]; show _ = Ending.returned (.tuple #[_, .string (st KR.2.1)]); rw [← h2]; rfl
        · refine (RP.mk ⟨?_, own_le hKf.r (Nat.zero_le _)⟩ hKf.k).grown (grown_drewN _ _)
          have := hKf.h
          have e : bsd ⟨gn, some b2, c2, 0, n5, n7, n1, n3, 1⟩ (ks ++ [tk]).length = false := by simp [bsd]
          rw [e]; exact this
        · rw [hfin.out, T.pt_mk]
          show P.mk _ _ _ _ _ _ _ = P.mk _ _ _ _ _ _ KR.1
          rw [hpl.out, ← h1]
        · rw [T.bl_mk]; exact hKf.d
        · intro b hb
          rw [T.bl_mk] at hb
          rcases List.mem_cons.1 hb with rfl | hb
          · exact hKf.b.1
          · rcases List.mem_append.1 hb with hb | hb
            · exact (hKf.A_lt b (by simpa [eq_comm] using hb)).1
            · exact hKf.b.2 b hb
      have x1 : ((d.toNat : Int) == 93) = false := beq_eq_false_iff_ne.2 (by omega)
      have hd1 : d ≠ endB 1 := fun e => zd (by rw [e]; rfl)
      by_cases zf : d.toNat = 44
      · have hd : d = 44 := UInt8.toNat_inj.1 zf
        have x2 : ((d.toNat : Int) != 44) = false := by rw [zf]; rfl
        have hmore := kids_more (n := q') (way := 1) (s := sx) (r := rk) (p := pk) (by rw [hkn.out, hd])
        have hrk : rk.length + 1 ≤ sx.length := by have := hkl.out; simp only [List.length_cons] at this; omega
        have hnext : KM w gn n5 n7 n1 n3 false 1 m KR rk W3 := by
          have h1 := hk1.out
          have h2 := hk2.out
          rw [hmore] at h1 h2
          dsimp only at h1 h2
          refine ⟨_, _, _, q', hK3.out, by have := hq1'.out; omega, by have := hq2'.out; omega, by have := hs5.out; rw [List.length_append, List.length_singleton]; omega, ?_, h2⟩
          rw [hpl.out, ← h1, List.append_assoc]; rfl
        have hmeas : sLen (.string (st rk)) < sLen (.string SX) := by rw [hmeas0.out]; show (st rk).size < _; rw [st_size]; omega
        replace hd := Lib.hid hd; replace zd := Lib.hid zd; replace zf := Lib.hid zf; replace hmore := Lib.hid hmore; replace hd1 := Lib.hid hd1; replace hrk := Lib.hid hrk; replace hnext := Lib.hid hnext; replace hmeas := Lib.hid hmeas
        go_wp2_with fail
        exact ⟨⟨rk, rfl, hnext⟩, hmeas.out⟩
      · have x2 : ((d.toNat : Int) != 44) = true := bne_iff_ne.2 (by omega)
        have hoth := kids_other hkn.out hd1 (fun e => zf (by rw [e]; rfl))
        rw [hk2.out] at hoth
        replace zd := Lib.hid zd; replace zf := Lib.hid zf; replace hoth := Lib.hid hoth; replace hd1 := Lib.hid hd1
        go_wp2_with fail
        go_ret2
        exact hNil.out _ hK3.out.o (hbadK.out hoth.out)
end Go.Proofs.YtcklmkjlbpjojaaGreatDoor
