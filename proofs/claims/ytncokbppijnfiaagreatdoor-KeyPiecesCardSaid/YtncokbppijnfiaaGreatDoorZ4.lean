/- Key: the walk of KeyPieces as a whole. -/
import Derived.Test.YtncokbppijnfiaaGreatDoorZ3
namespace Go.Proofs.YtncokbppijnfiaaGreatDoor
open Go.RowKit
set_option linter.unusedSimpArgs false
set_option linter.unusedVariables false

theorem st_cut (S : List UInt8) (a e : Nat) : (st S).extract a e = st ((S.take e).drop a) := by
  rw [Lib.extract_eq]
  simp only [st, List.drop_take]
theorem kp_piece (S : List UInt8) (L a : Nat) (z : Int) (hL : L = S.length) (hL2 : L ≤ 2000) (ha : a ≤ L) (hz : I64 z) (W : World) :
    ∃ (n e : Nat) (P : List UInt8), Calls Tryz.prog 16 #[.int .i64 z, .int .i64 ((L : Int) - (a : Int) + 1)] W (fun e' w' => e' = .returned (.int .i64 (n : Int)) ∧ w' = W) ∧ wrap64 ((L : Int) - (a : Int)) = (L : Int) - (a : Int) ∧ wrap64 ((L : Int) - (a : Int) + 1) = (L : Int) - (a : Int) + 1 ∧ wrap64 ((a : Int) + (n : Int)) = (e : Int) ∧ e ≤ L ∧ a ≤ e ∧ a + P.length = e ∧ n = P.length ∧ S.take a ++ P = S.take e ∧ (st S).extract a e = st P ∧ e ≤ 900000 := by
  have hp := pickL_in z ((L - a + 1 : Nat) : Int) (by omega)
  obtain ⟨n, hn⟩ : ∃ n : Nat, pickL z ((L - a + 1 : Nat) : Int) = n := ⟨(pickL z ((L - a + 1 : Nat) : Int)).toNat, by omega⟩
  rw [hn] at hp
  have hPl : ((S.take (a + n)).drop a).length = n := by rw [List.length_drop, List.length_take, ← hL]; omega
  refine ⟨n, a + n, (S.take (a + n)).drop a, ?_, IntWalk.wrap64_in _ (by omega), IntWalk.wrap64_in _ (by omega), ?_, by omega, by omega, by omega, hPl.symm, ?_, st_cut S a (a + n), by omega⟩
  · have := pick_any z ((L - a + 1 : Nat) : Int) hz (by omega) (by omega) W
    rw [hn, show ((L - a + 1 : Nat) : Int) = (L : Int) - (a : Int) + 1 by omega] at this
    exact this
  · rw [IntWalk.wrap64_in _ (by omega)]; omega
  · rw [show S.take a = (S.take (a + n)).take a by rw [List.take_take]; congr 1; omega, List.take_append_drop]
theorem kp_last (S : List UInt8) (L a : Nat) (hL : L = S.length) (hL2 : L ≤ 2000) (ha : a ≤ L) :
    ∃ (n : Nat) (P : List UInt8), a + P.length = L ∧ n = P.length ∧ S.take a ++ P = S.take L ∧ (st S).extract a L = st P ∧ L ≤ 900000 ∧ n ≤ 2000 ∧ S.take L = S := by
  have hPl : ((S.take L).drop a).length = L - a := by rw [List.length_drop, List.length_take, ← hL]; omega
  refine ⟨L - a, (S.take L).drop a, by omega, hPl.symm, ?_, st_cut S a L, by omega, by omega, by rw [hL, List.take_length]⟩
  rw [show S.take a = (S.take L).take a by rw [List.take_take]; congr 1; omega, List.take_append_drop]
theorem kp_inc (i n : Nat) (h : i < n) (hb : n ≤ 9223372036854775807) : wrap64 ((i : Int) + 1) = ((i + 1 : Nat) : Int) ∧ i + 1 ≤ n ∧ (i : Int) < n ∧ n - (i + 1) < n - i := by
  refine ⟨?_, by omega, by omega, by omega⟩
  rw [IntWalk.wrap64_in _ (by omega)]; omega
theorem kp_lt (i n : Nat) (h : i < n) : (i : Int) < n := by omega
theorem kp_nlt (i n : Nat) (h : ¬ i < n) : ¬ (i : Int) < n := by omega
theorem kp_sum (yl ol e : Nat) (h : yl + ol ≤ e) (he : e ≤ 900000) : yl + ol ≤ 1099511627776 := by omega
set_option maxHeartbeats 4000000 in
set_option maxRecDepth 100000 in
theorem keyPieces_any (S : List UInt8) (zs : List Int) (Ac : Option Addr) (nc cc : Nat) (w : World) (hnc : nc = zs.length) (hnb : nc ≤ 9223372036854775807) (hS64 : S.length ≤ 9223372036854775807) (hC : Rd w Ac (zs.map (.int .i64))) (hz : ∀ z ∈ zs, I64 z) (hW : Wd w) :
    Calls Tryz.prog 4 #[.string (st S), .slice Ac nc cc] w fun e w' => e = .returned (.bool true) ∧ w.grownBy w' none := by
  have wf0 : Wf w w := ⟨hW, Below.refl _ _⟩
  have CS := Lib.hid (shown_any w hW)
  obtain ⟨s, hs⟩ : ∃ s, s = st S := ⟨_, rfl⟩
  obtain ⟨L, hL⟩ : ∃ n, n = S.length := ⟨_, rfl⟩
  have hsz : s.size = L := by rw [hs, st_size, hL]
  rw [← hs]
  rw [← hL] at hS64
  replace hs := Lib.hid hs; replace hL := Lib.hid hL; replace wf0 := Lib.hid wf0; replace hW := Lib.hid hW; replace hC := Lib.hid hC; replace hz := Lib.hid hz; replace hnc := Lib.hid hnc
  go_enter Tryz.func4, Tryz.ntmps4
  go_wp2_with fail
  refine CS.out.mono ?_
  rintro e w1 ⟨rfl, g1⟩
  have CN := Lib.hid (newDec_any w1)
  replace g1 := Lib.hid g1
  clear CS
  go_wp2_with fail
  refine CN.out.mono ?_
  rintro e w2 ⟨rfl, g2, D2⟩
  obtain ⟨pa, hpa⟩ : ∃ p, p = w1.heap.size := ⟨_, rfl⟩
  rw [← hpa] at D2 ⊢
  have hpa0 : w.heap.size ≤ pa := by rw [hpa]; exact g1.out.size
  have G2 := g1.out.trans g2
  have CN2 := Lib.hid (newDec_any w2)
  replace D2 := Lib.hid D2; replace G2 := Lib.hid G2; replace hpa := Lib.hid hpa
  clear CN g2 g1
  go_wp2_with fail
  refine CN2.out.mono ?_
  rintro e w3 ⟨rfl, g3, E3⟩
  obtain ⟨pb, hpb⟩ : ∃ p, p = w2.heap.size := ⟨_, rfl⟩
  rw [← hpb] at E3 ⊢
  have hab : pa < pb := by rw [hpb]; exact D2.out.lt
  have D3 := D2.out.grown g3 (by simp)
  have G3 := G2.out.trans g3
  replace D3 := Lib.hid D3; replace G3 := Lib.hid G3; replace hpb := Lib.hid hpb; replace E3 := Lib.hid E3
  clear CN2 g3 D2 G2
  by_cases h2000 : 2000 < L
  · have h1 : (2000 : Int) < (L : Int) := by omega
    have h2 : decide ((2000 : Int) < (L : Int)) = true := decide_eq_true h1
    have h3 : decide (2000 < L) = true := decide_eq_true h2000
    go_wp2_with fail
    go_ret
    exact ⟨rfl, G3.out⟩
  have h1 : ¬ (2000 : Int) < (L : Int) := by omega
  have h2 : decide ((2000 : Int) < (L : Int)) = false := decide_eq_false h1
  have h3 : decide (2000 < L) = false := decide_eq_false h2000
  have hcv : ∀ W, (convert 9 32 (.string s)).run Tryz.prog W = .ok (.slice (some ⟨W.heap.size, 0, none⟩) L (grownCap W L 0 5)) (Lib.bytesWorld W 5 s) := fun W => by rw [hs.out, hL.out]; exact conv_run W S
  -- x := a.Feed([]byte(s))
  obtain ⟨W3, hW3⟩ : ∃ W, W = Lib.bytesWorld w3 5 s := ⟨_, rfl⟩
  have q3 : w3.grownBy W3 none := by rw [hW3]; exact bytes_grown _ _
  have R3 : Rd W3 (some ⟨w3.heap.size, 0, none⟩) (bs S) := by rw [hW3, hs.out]; exact bytes_rd _ _
  obtain ⟨xs, ra, tx, tx1, tx2, _⟩ := took_ex false _ S (Nat.le_refl _)
  have K3 := G3.out.trans q3
  have DA := D3.out.grown q3 (by simp)
  have DB3 := E3.out.grown q3 (by simp)
  have CF := feed_any (frG false) pa 0 0 w.heap.size L (grownCap w3 L 0 5) none (some ⟨w3.heap.size, 0, none⟩) [] S ra xs w W3 (wf0.out.grown K3 (by simp)) (Nat.le_refl _) hpa0 K3.size DA (World.ownsRow_nil _ _ _ _) rfl hL.out (by omega) R3 tx (frontAt_G false _ (by rw [List.nil_append, ← hL.out]; omega))
  have hpb3 : pb < W3.heap.size := DB3.lt
  replace CF := Lib.hid CF; replace hW3 := Lib.hid hW3; replace K3 := Lib.hid K3; replace DA := Lib.hid DA; replace DB3 := Lib.hid DB3; replace tx := Lib.hid tx; replace tx1 := Lib.hid tx1; replace tx2 := Lib.hid tx2; replace R3 := Lib.hid R3; replace q3 := Lib.hid q3; replace hpb3 := Lib.hid hpb3
  go_upto_region 7 with (go_at_call 13; rw [← hW3.out]; refine CF.out.mono ?_; rintro e w5 ⟨Ax, cx, Aa, ca, w4, rfl, OX, DA5, OA, g4, g5⟩; replace OX := Lib.hid OX; replace DA5 := Lib.hid DA5; replace OA := Lib.hid OA; replace g4 := Lib.hid g4; replace g5 := Lib.hid g5)
  have hne : pb ≠ pa := by omega
  have hpb0 : w.heap.size ≤ pb := by omega
  have g4' : W3.grownBy w4 none := g4.out
  have GA4 := K3.out.trans g4'
  have G5 : w.grownBy w5 none := g_rows GA4 (fun g h => by injection h with h; omega) g5.out
  have wf5 : Wf w w5 := wf0.out.grown G5 (by simp)
  have D5 : DB w5 pb (.slice none 0 0) := (DB3.out.grown g4' (by simp)).grown g5.out (fun e => hne (by injection e))
  have hpb5 : pb < w5.heap.size := D5.lt
  have hP0 : Pi5 w w5 pb S 0 [] [] (.slice none 0 0) (.slice none 0 0) w5 := ⟨wf5, World.grownBy.refl _ _, D5, World.ownsRow_nil _ _ _ _, World.ownsRow_nil _ _ _ _, by rw [List.take_zero]; exact Took.nil, Nat.le_refl _⟩
  have hL2 : L ≤ 2000 := Nat.le_of_not_lt h2000
  obtain ⟨xl, hxl⟩ : ∃ n, n = xs.length := ⟨_, rfl⟩
  obtain ⟨rl, hrl⟩ : ∃ n, n = ra.length := ⟨_, rfl⟩
  have hxL : xl + rl ≤ L := by rw [hxl, hrl, hL.out]; exact tx2.out
  rw [← hxl] at OX ⊢
  rw [← hrl] at DA5 OA
  replace hxl := Lib.hid hxl; replace hrl := Lib.hid hrl; replace G5 := Lib.hid G5; replace wf5 := Lib.hid wf5; replace D5 := Lib.hid D5; replace hP0 := Lib.hid hP0; replace hpb5 := Lib.hid hpb5; replace hpb0 := Lib.hid hpb0; replace hxL := Lib.hid hxL; replace hne := Lib.hid hne
  clear GA4 g4' CF hcv h1 h2 h3
  have CSame : Hid (∀ (l : List Ms) (A B : Option Addr) (n c1 c2 : Nat) (W : World), n = l.length → n ≤ 1000000 → Rd W A (msCells l) → Rd W B (msCells l) → Calls Tryz.prog 17 #[.slice A n c1, .slice B n c2] W fun e w' => e = .returned (.bool true) ∧ W.grownBy w' none) := Lib.hid fun l A B n c1 c2 W a b c d => same_eq l A B n c1 c2 W a b c d
  go_wp2_with fail
  go_loopw [9, 10, 11] (fun yv av iv wr => ∃ (a i yl : Nat) (ys : List Ms) (rb : List UInt8) (Ay Ab : Option Addr) (cy cb : Nat), av = .int .i64 a ∧ iv = .int .i64 i ∧ yv = .slice Ay yl cy ∧ a ≤ L ∧ i ≤ nc ∧ Hid (yl = ys.length) ∧ Hid (Pi5 w w5 pb S a ys rb (.slice Ay yl cy) (.slice Ab rb.length cb) wr)) (fun _ _ iv _ => nc - (match iv with | .int _ i => i | _ => 0).toNat)
  case atStart => exact ⟨0, 0, 0, [], [], none, none, 0, 0, rfl, rfl, rfl, Nat.zero_le _, Nat.zero_le _, Lib.hid rfl, hP0⟩
  case round =>
    obtain ⟨a, i, yl, ys, rb, Ay, Ab, cy, cb, rfl, rfl, rfl, ha, hi, hyl, hI⟩ := hrel
    obtain ⟨bb, hbb⟩ : ∃ bb : Bool, bb = decide (i < nc ∧ a < L) := ⟨_, rfl⟩
    have hbt : bb = true → i < nc ∧ a < L := fun h => by rw [hbb] at h; simpa using h
    have hbf : i < nc ∧ a < L → bb = true := fun h => by rw [hbb]; simpa using h
    clear hbb
    replace hbt := Lib.hid hbt; replace hbf := Lib.hid hbf
    go_upto_region 10 with fail
    go_cut [59] (fun tv wx => tv = .bool bb ∧ wx = wr)
    case first =>
      by_cases h1 : i < nc
      · have h1' := kp_lt i nc h1
        by_cases h2 : a < L
        · have h2' := kp_lt a L h2
          obtain rfl : bb = true := hbf.out ⟨h1, h2⟩
          go_wp2_with fail
          go_meet
          exact ⟨rfl, rfl⟩
        · have h2' := kp_nlt a L h2
          obtain rfl : bb = false := by
            rcases bb with _ | _
            · rfl
            · exact absurd (hbt.out rfl).2 h2
          go_wp2_with fail
          go_meet
          exact ⟨rfl, rfl⟩
      · have h1' := kp_nlt i nc h1
        obtain rfl : bb = false := by
          rcases bb with _ | _
          · rfl
          · exact absurd (hbt.out rfl).1 h1
        go_wp2_with fail
        go_meet
        exact ⟨rfl, rfl⟩
    case rest =>
      obtain ⟨rfl, rfl⟩ := hcut
      rcases bb with _ | _
      · obtain ⟨n, Pc, haP, hPl, hPe, hX0, he9, hn2, hSL⟩ := kp_last S L a hL.out hL2 ha
        obtain ⟨p, hp⟩ : ∃ p, p = st Pc := ⟨_, rfl⟩
        have hX : s.extract a L = p := by rw [hs.out, hp]; exact hX0
        have hcv : ∀ W, (convert 9 32 (.string p)).run Tryz.prog W = .ok (.slice (some ⟨W.heap.size, 0, none⟩) n (grownCap W n 0 5)) (Lib.bytesWorld W 5 p) := fun W => by rw [hp, hPl]; exact conv_run W Pc
        obtain ⟨W4, hW4⟩ : ∃ W, W = Lib.bytesWorld wc 5 p := ⟨_, rfl⟩
        have q4 : wc.grownBy W4 none := by rw [hW4]; exact bytes_grown _ _
        have R4 : Rd W4 (some ⟨wc.heap.size, 0, none⟩) (bs Pc) := by rw [hW4, hp]; exact bytes_rd _ _
        have hI' := hI.out
        obtain ⟨o', r', ⟨ho1, ho2⟩, CF⟩ := hI'.feed Pc hPe haP he9 hpb0.out hpb5.out W4 q4 (some ⟨wc.heap.size, 0, none⟩) n (grownCap wc n 0 5) hPl R4
        obtain ⟨ol, hol⟩ : ∃ n, n = o'.length := ⟨_, rfl⟩
        rw [← hol] at CF ho1
        rw [← hyl.out] at CF ho1
        have h2l : (msCells o').length = ol * 5 := by rw [msCells_len, hol]
        have h2o : ∀ u ∈ msCells o', u.oneCell' = true := fun u hu => by
          obtain ⟨k, _, hk⟩ := List.mem_flatMap.1 hu
          exact msC_one k u hk
        replace CF := Lib.hid CF; replace hW4 := Lib.hid hW4; replace hp := Lib.hid hp; replace hPl := Lib.hid hPl; replace hPe := Lib.hid hPe; replace hX0 := Lib.hid hX0; replace haP := Lib.hid haP; replace he9 := Lib.hid he9; replace q4 := Lib.hid q4; replace R4 := Lib.hid R4; replace hol := Lib.hid hol; replace h2l := Lib.hid h2l; replace h2o := Lib.hid h2o; replace hI' := Lib.hid hI'; replace hSL := Lib.hid hSL
        have hsum := kp_sum yl ol L ho1 he9.out
        clear hbt hbf
        go_wp2_with fail
        rw [← hW4.out]
        refine CF.out.mono ?_
        rintro e7 w7 ⟨Ao, co, Ab', cb', rfl, R7, y7, s7, fin⟩
        replace R7 := Lib.hid R7; replace y7 := Lib.hid y7; replace fin := Lib.hid fin
        clear CF
        go_upto_region 18 with (at_builtin; refine ap34 rfl (.tmp 93) (.tmp 94) rfl w5.heap.size _ yl (msCells ys) rfl y7.out Ao ol co (msCells o') rfl h2l.out R7.out h2o.out hsum s7 ?_; intro A10 c10 w10 r1 r2 r3; have I10 := fin.out _ w10 r1 r2; replace I10 := Lib.hid I10; clear r1 r2 r3)
        have I9 := I10.out
        have tt := I9.t
        rw [hSL.out] at tt
        obtain ⟨ex, er⟩ := took_det tx.out tt
        rw [← ex, ← er] at I9
        rw [← hrl.out] at I9
        have hyx : yl + ol = xl := by rw [hxl.out, ex, List.length_append, hyl.out, hol.out]
        rw [hyx] at I9 ⊢
        have hOX := own_but OX.out I9.g hpb3.out
        have RX := Rd.own_row hOX
        have RY : Rd w10 A10 (msCells xs) := by
          have := I9.y
          obtain ⟨A', c', e1, k1, _⟩ := Rd.of_own this
          injection e1 with e1
          subst e1; exact k1
        have CS1 := CSame.out xs Ax A10 xl cx c10 w10 hxl.out (by have := hxL.out; omega) RX RY
        replace CS1 := Lib.hid CS1; replace I9 := Lib.hid I9; replace tt := Lib.hid tt; replace ex := Lib.hid ex; replace er := Lib.hid er; replace hyx := Lib.hid hyx
        clear RX RY hOX hcv
        go_wp2_with fail
        refine CS1.out.mono ?_
        rintro e8 w8 ⟨rfl, g8⟩
        have I8 := I9.out.grown g8
        have hOX := own_but OX.out I8.g hpb3.out
        have G10 : w.grownBy w8 none := grown_of_below I8.wf.b
        have DA10 := DA5.out.grown I8.g (fun e => hne.out (by injection e with e; exact e.symm))
        have OA10 := own_but OA.out I8.g hpb3.out
        obtain ⟨o2, r2, t2, u1, u2, u3⟩ := took_ex true _ ra (Nat.le_refl _)
        have hr2 := u3 rfl
        subst hr2
        obtain ⟨l2, hl2⟩ : ∃ n, n = o2.length := ⟨_, rfl⟩
        have hl2b : l2 ≤ rl := by rw [hl2, hrl.out]; simpa using u2
        have CTa := time_any (frG true) pa rl ca Aa ra [] o2 w8 (hW.out.grown G10) DA10 (own_Rd OA10) hrl.out (by have := hxL.out; omega) (own_cap OA10) t2 (frontAt_G true ra (by rw [← hrl.out]; have := hxL.out; omega))
        rw [← hl2] at CTa
        have hpb10 : pb < w8.heap.size := I8.d.lt
        have hpa5 : pa < w5.heap.size := Nat.lt_trans hab hpb5.out
        replace CTa := Lib.hid CTa; replace I8 := Lib.hid I8; replace hOX := Lib.hid hOX; replace G10 := Lib.hid G10; replace DA10 := Lib.hid DA10; replace OA10 := Lib.hid OA10; replace t2 := Lib.hid t2; replace hl2 := Lib.hid hl2; replace hl2b := Lib.hid hl2b; replace hpb10 := Lib.hid hpb10; replace hpa5 := Lib.hid hpa5
        clear u1 u2 u3 CS1 g8
        go_wp2_with fail
        refine CTa.out.mono ?_
        rintro e12 w12 ⟨A1, c1, A12, c12, rfl, O1, DA12, OA12, g12⟩
        have D12 := I8.out.d.grown g12 (fun e => hne.out (by injection e))
        have OB12 := own_but I8.out.o g12 hpa5.out
        rw [← hrl.out] at OB12
        have G12 : w.grownBy w12 none := g_rows G10.out (fun g h => by injection h with h; omega) g12
        have X12 := own_but hOX.out g12 (Nat.lt_trans hab hpb3.out)
        have CTb := time_any (frG true) pb rl cb' Ab' ra [] o2 w12 (hW.out.grown G12) D12 (own_Rd OB12) hrl.out (by have := hxL.out; omega) (own_cap OB12) t2.out (frontAt_G true ra (by rw [← hrl.out]; have := hxL.out; omega))
        rw [← hl2.out] at CTb
        replace CTb := Lib.hid CTb; replace O1 := Lib.hid O1; replace DA12 := Lib.hid DA12; replace D12 := Lib.hid D12; replace OB12 := Lib.hid OB12; replace G12 := Lib.hid G12; replace X12 := Lib.hid X12
        clear OA12 g12 CTa
        go_wp2_with fail
        refine CTb.out.mono ?_
        rintro e13 w13 ⟨A2, c2, A13, c13, rfl, O2, DB13, OB13, g13⟩
        have DA13 := DA12.out.grown g13 (fun e => hne.out (by injection e with e; exact e.symm))
        have G13 : w.grownBy w13 none := g_rows G12.out (fun g h => by injection h with h; have := hpb0.out; omega) g13
        have X13 := own_but X12.out g13 hpb3.out
        have RX13 := Rd.own_row X13
        have R1 := Rd.own_row (own_but O1.out g13 hpb10.out)
        have R2 := Rd.own_row O2
        have CS2 := CSame.out o2 A1 A2 l2 c1 c2 w13 hl2.out (by have := hxL.out; have := hl2b.out; omega) R1 R2
        replace CS2 := Lib.hid CS2; replace DA13 := Lib.hid DA13; replace DB13 := Lib.hid DB13; replace G13 := Lib.hid G13; replace RX13 := Lib.hid RX13
        clear R1 R2 X13 OB13 O2 g13 CTb O1 X12 OB12 D12 DA12
        go_wp2_with fail
        refine CS2.out.mono ?_
        rintro e14 w14 ⟨rfl, g14⟩
        replace DA13 := Lib.hid (DA13.out.grown g14 (by simp)); replace DB13 := Lib.hid (DB13.out.grown g14 (by simp)); replace G13 := Lib.hid (G13.out.trans g14); replace RX13 := Lib.hid (RX13.out.grown g14 (.inl rfl))
        clear CS2 g14
        have DA13 := DA13.out; have DB13 := DB13.out
        have hlen0 : (([] : List UInt8).length) = 0 := rfl
        rw [hlen0] at DA13 DB13
        replace hlen0 := Lib.hid hlen0; replace DA13 := Lib.hid DA13; replace DB13 := Lib.hid DB13
        have hxb : xl ≤ 2000 := by have := hxL.out; omega
        go_wp2_with fail
        go_loopw [17] (fun iv wr => ∃ j : Nat, j ≤ xl ∧ iv = .int .i64 j ∧ Hid (w14.grownBy wr none)) (fun iv _ => xl - (match iv with | .int _ i => i | _ => 0).toNat)
        case atStart => exact ⟨0, Nat.zero_le _, rfl, Lib.hid (World.grownBy.refl _ _)⟩
        case round =>
          obtain ⟨j, hj, rfl, gj⟩ := hrel
          by_cases hjx : j < xl
          · obtain ⟨hj1, hj2, hjx', hj3⟩ := kp_inc j xl hjx (Nat.le_trans hxb (by decide))
            obtain ⟨k, hk⟩ : ∃ k, xs[j]? = some k := ⟨xs[j]'(by rw [← hxl.out]; exact hjx), List.getElem?_eq_getElem _⟩
            have hkm := List.mem_of_getElem? hk
            have hkr := took_right tx.out k hkm
            have hkc := (took_in tx.out k hkm)
            obtain ⟨bx, ox, hAx, x0, x1, _, _, _⟩ := (RX13.out.grown gj.out (.inl rfl)).key hk
            have CR := right_any k.c k.m (by unfold I64; omega) wr (hW.out.grown (G13.out.trans gj.out))
            rw [hkr] at CR
            unfold keyV at CR
            subst hAx
            replace CR := Lib.hid CR; replace hk := Lib.hid hk; replace hkm := Lib.hid hkm; replace hkr := Lib.hid hkr; replace hkc := Lib.hid hkc
            go_wp2_with fail
            refine CR.out.mono ?_
            rintro e15 w15 ⟨rfl, g15⟩
            have g16 := Lib.hid (gj.out.trans g15)
            clear g15
            go_wp2_with fail
            refine ⟨⟨j + 1, hj2, congrArg _ hj1, g16⟩, by rw [hj1]; exact hj3⟩
          · have hjx' := kp_nlt j xl hjx
            have CWa := wait_any pa 0 c12 A12 wr (DA13.out.grown gj.out (by simp))
            have CWb := wait_any pb 0 c13 A13 wr (DB13.out.grown gj.out (by simp))
            replace CWa := Lib.hid CWa; replace CWb := Lib.hid CWb
            go_wp2_with fail
            refine CWa.out.mono ?_
            rintro e15 w15 ⟨rfl, rfl⟩
            go_wp2_with fail
            refine CWb.out.mono ?_
            rintro e16 w16 ⟨rfl, rfl⟩
            go_wp2_with fail
            go_ret
            exact ⟨rfl, G13.out.trans gj.out⟩
      · obtain ⟨h1, h2⟩ := hbt.out rfl
        have hf := hI.out.wf
        have gt : w.grownBy wc none := grown_of_below hf.b
        obtain ⟨z, hz1⟩ : ∃ z, zs[i]? = some z := ⟨zs[i]'(by rw [← hnc.out]; exact h1), List.getElem?_eq_getElem _⟩
        have hz64 := hz.out z (List.mem_of_getElem? hz1)
        obtain ⟨bc, oc, hAc, _, hcc⟩ := (hC.out.grown gt (.inl rfl)).at_ (j := i) (u := .int .i64 z) (by simp [hz1])
        obtain ⟨n, e, Pc, CP, hw1, hw2, hw3, heL, hae, haP, hPl, hPe, hX0, he9⟩ := kp_piece S L a z hL.out hL2 ha hz64 wc
        obtain ⟨p, hp⟩ : ∃ p, p = st Pc := ⟨_, rfl⟩
        have hX : s.extract a e = p := by rw [hs.out, hp]; exact hX0
        have hcv : ∀ W, (convert 9 32 (.string p)).run Tryz.prog W = .ok (.slice (some ⟨W.heap.size, 0, none⟩) n (grownCap W n 0 5)) (Lib.bytesWorld W 5 p) := fun W => by rw [hp, hPl]; exact conv_run W Pc
        obtain ⟨W4, hW4⟩ : ∃ W, W = Lib.bytesWorld wc 5 p := ⟨_, rfl⟩
        have q4 : wc.grownBy W4 none := by rw [hW4]; exact bytes_grown _ _
        have R4 : Rd W4 (some ⟨wc.heap.size, 0, none⟩) (bs Pc) := by rw [hW4, hp]; exact bytes_rd _ _
        have hI' := hI.out
        obtain ⟨o', r', ⟨ho1, ho2⟩, CF⟩ := hI'.feed Pc hPe haP he9 hpb0.out hpb5.out W4 q4 (some ⟨wc.heap.size, 0, none⟩) n (grownCap wc n 0 5) hPl R4
        obtain ⟨ol, hol⟩ : ∃ n, n = o'.length := ⟨_, rfl⟩
        rw [← hol] at CF ho1
        rw [← hyl.out] at CF ho1
        have h2l : (msCells o').length = ol * 5 := by rw [msCells_len, hol]
        have h2o : ∀ u ∈ msCells o', u.oneCell' = true := fun u hu => by
          obtain ⟨k, _, hk⟩ := List.mem_flatMap.1 hu
          exact msC_one k u hk
        obtain ⟨hi1, hi2, h1', hi3⟩ := kp_inc i nc h1 hnb
        have hsum := kp_sum yl ol e ho1 he9
        subst hAc
        replace CP := Lib.hid CP; replace CF := Lib.hid CF; replace hW4 := Lib.hid hW4; replace hp := Lib.hid hp; replace hPl := Lib.hid hPl; replace hPe := Lib.hid hPe; replace hX0 := Lib.hid hX0; replace haP := Lib.hid haP; replace he9 := Lib.hid he9; replace q4 := Lib.hid q4; replace R4 := Lib.hid R4; replace hz1 := Lib.hid hz1; replace hz64 := Lib.hid hz64; replace gt := Lib.hid gt; replace hf := Lib.hid hf; replace hol := Lib.hid hol; replace h2l := Lib.hid h2l; replace h2o := Lib.hid h2o; replace hI' := Lib.hid hI'
        go_wp2_with fail
        refine CP.out.mono ?_
        rintro e6 w6 ⟨rfl, rfl⟩
        go_wp2_with fail
        rw [← hW4.out]
        refine CF.out.mono ?_
        rintro e7 w7 ⟨Ao, co, Ab', cb', rfl, R7, y7, s7, fin⟩
        replace R7 := Lib.hid R7; replace y7 := Lib.hid y7; replace fin := Lib.hid fin
        clear CF CP
        go_wp2_with (at_builtin; refine ap34 rfl (.tmp 81) (.tmp 82) rfl w5.heap.size _ yl (msCells ys) rfl y7.out Ao ol co (msCells o') rfl h2l.out R7.out h2o.out hsum s7 ?_; intro A10 c10 w10 r1 r2 r3)
        have I10 := fin.out _ w10 r1 r2
        replace I10 := Lib.hid I10
        clear r1 r2 r3
        go_wp2_with fail
        refine ⟨⟨e, i + 1, yl + ol, ys ++ o', r', A10, Ab', c10, cb', congrArg _ hw3, congrArg _ hi1, rfl, heL, hi2, Lib.hid (by rw [List.length_append, hyl.out, hol.out]), I10⟩, by rw [hi1]; exact hi3⟩
end Go.Proofs.YtncokbppijnfiaaGreatDoor
