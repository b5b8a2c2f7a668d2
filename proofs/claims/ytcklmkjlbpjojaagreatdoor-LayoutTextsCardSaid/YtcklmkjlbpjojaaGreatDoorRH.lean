/- Layout: the reference's four, body, Print. -/
import Derived.Test.YtcklmkjlbpjojaaGreatDoorRG
import Derived.Test.YtcklmkjlbpjojaaGreatDoorR11
namespace Go.Proofs.YtcklmkjlbpjojaaGreatDoor
open Go.RowKit
set_option linter.unusedSimpArgs false
set_option linter.unusedVariables false

theorem hex_ext : ∀ a, a < 16 → (⟨#[48, 49, 50, 51, 52, 53, 54, 55, 56, 57, 97, 98, 99, 100, 101, 102]⟩ : ByteArray).extract a (a + 1) = st [hexd a] := by decide
set_option maxHeartbeats 1000000 in
set_option maxRecDepth 100000 in
theorem fourR (n : Nat) (w : World) (hn : n < 65536) : Calls Tryz.prog 46 #[.int .i64 n] w fun e w' => e = .returned (.string (st (fourB n))) ∧ ∃ k, w' = w.drewN k := by
  rw [fourB_hexs hn, hexs_four]
  have e1 : (n : Int) / 4096 = ((n / 4096 % 16 : Nat) : Int) := by omega
  have e2 : (n : Int) / 256 % 16 = ((n / 256 % 16 : Nat) : Int) := by omega
  have e3 : (n : Int) / 16 % 16 = ((n / 16 % 16 : Nat) : Int) := by omega
  have e4 : (n : Int) % 16 = ((n % 16 : Nat) : Int) := by omega
  have a1 : n / 4096 % 16 < 16 := by omega
  have a2 : n / 256 % 16 < 16 := by omega
  have a3 : n / 16 % 16 < 16 := by omega
  have a4 : n % 16 < 16 := by omega
  generalize n / 4096 % 16 = d1 at *
  generalize n / 256 % 16 = d2 at *
  generalize n / 16 % 16 = d3 at *
  generalize n % 16 = d4 at *
  have x1 := hex_ext d1 a1
  have x2 := hex_ext d2 a2
  have x3 := hex_ext d3 a3
  have x4 := hex_ext d4 a4
  generalize hexd d1 = c1 at *
  generalize hexd d2 = c2 at *
  generalize hexd d3 = c3 at *
  generalize hexd d4 = c4 at *
  have s1 := add_run [c1] [c2] (by simp)
  have s2 := add_run [c1, c2] [c3] (by simp)
  have s3 := add_run [c1, c2, c3] [c4] (by simp)
  have b1 : (0 : Int) ≤ (d1 : Int) := by omega
  have b2 : (0 : Int) ≤ (d2 : Int) := by omega
  have b3 : (0 : Int) ≤ (d3 : Int) := by omega
  have b4 : (0 : Int) ≤ (d4 : Int) := by omega
  have f1 : (d1 : Int) + 1 ≤ 16 := by omega
  have f2 : (d2 : Int) + 1 ≤ 16 := by omega
  have f3 : (d3 : Int) + 1 ≤ 16 := by omega
  have f4 : (d4 : Int) + 1 ≤ 16 := by omega
  have w1 : IntKind.i64.wrap ((d1 : Int) + 1) = (d1 : Int) + 1 := IntWalk.i64_in _ (by omega)
  have w2 : IntKind.i64.wrap ((d2 : Int) + 1) = (d2 : Int) + 1 := IntWalk.i64_in _ (by omega)
  have w3 : IntKind.i64.wrap ((d3 : Int) + 1) = (d3 : Int) + 1 := IntWalk.i64_in _ (by omega)
  have w4 : IntKind.i64.wrap ((d4 : Int) + 1) = (d4 : Int) + 1 := IntWalk.i64_in _ (by omega)
  go_enter Tryz.func46, Tryz.ntmps46
  go_wp2_with fail
  go_big_quiet ((fail))
  go_wp2_with fail
  go_ret
  exact ⟨rfl, nq, rfl⟩
theorem join_take (l : List (List UInt8)) (j : Nat) (x : List UInt8) (h : l[j]? = some x) : Lib.join (l.take (j + 1)) [44] = if j = 0 then x else Lib.join (l.take j) [44] ++ [44] ++ x := by
  cases l with
  | nil => simp at h
  | cons a r =>
    cases j with
    | zero => simp at h; subst h; rw [if_pos rfl]; simp [Lib.join_one]
    | succ j =>
      rw [if_neg (by omega), List.take_succ_cons, List.take_succ_cons, Lib.join_cons, Lib.join_cons]
      simp only [List.getElem?_cons_succ] at h
      rw [take_succ' h]
      unfold Lib.joinTail
      simp
theorem join_take_le (l : List (List UInt8)) (j : Nat) : (Lib.join (l.take j) [44]).length ≤ (Lib.join l [44]).length := by
  have key : ∀ d j, j + d = l.length → (Lib.join (l.take j) [44]).length ≤ (Lib.join l [44]).length := by
    intro d
    induction d with
    | zero => intro j hj; rw [List.take_of_length_le (by omega)]; exact Nat.le_refl _
    | succ d ih =>
      intro j hj
      obtain ⟨x, hx⟩ : ∃ x, l[j]? = some x := ⟨l[j]'(by omega), List.getElem?_eq_getElem _⟩
      have h1 := ih (j + 1) (by omega)
      rw [join_take l j x hx] at h1
      split at h1
      · rename_i h0; subst h0; simp [Lib.join_nil]
      · simp only [List.length_append] at h1; omega
  rcases Nat.lt_or_ge l.length j with h | h
  · rw [List.take_of_length_le (by omega)]; exact Nat.le_refl _
  · exact key (l.length - j) j (by omega)
theorem itoa_dd (z : Int) (h : 0 ≤ z) : Lib.itoa z = Lib.decDigits z.toNat := by unfold Lib.itoa; rw [if_neg (by omega)]
/-- digits of an int that is not below 0. -/
theorem digR (z : Int) (w : World) (h : 0 ≤ z ∧ z < 1000000000) : Calls Tryz.prog 113 #[.int .i64 z] w fun e w' => e = .returned (.string (st (Lib.itoa z))) ∧ ∃ k, w' = w.drewN k := by
  have := digitsR_any z.toNat w (by omega)
  rw [Int.toNat_of_nonneg h.1] at this
  rw [itoa_dd z h.1]
  exact this
theorem itoa_len18 (z : Int) (h : 0 ≤ z ∧ z < 1000000000) : (Lib.itoa z).length ≤ 18 := by
  rw [itoa_dd z h.1]
  exact dd_len _ (by omega)
theorem drewN_calls {f : FuncId} {args : Array Value} {w : World} {v : Ending} (h : ∀ W, (∃ n, W = w.drewN n) → Calls Tryz.prog f args W fun e w' => e = v ∧ ∃ k, w' = W.drewN k) : ∀ n, Calls Tryz.prog f args (w.drewN n) fun e w' => e = v ∧ ∃ m, w' = w.drewN m := fun n =>
  (h _ ⟨n, rfl⟩).mono fun e w' h => ⟨h.1, by obtain ⟨m, hm⟩ := h.2; exact ⟨n + m, by rw [hm]; simp⟩⟩
theorem cell_drewN (w : World) (n : Nat) (a : Addr) : (w.drewN n).cell? a = w.cell? a := rfl
theorem RP_drewN {t : T} {w : World} (n : Nat) (h : RP w t) : RP (w.drewN n) t := h.same _ fun _ _ => rfl
/-- The text ahead of the kid j. -/
def preB (n : Nd) (ks : List T) (j : Nat) : List UInt8 := if j = 0 then headB n else headB n ++ [if n.way = 0 then 123 else 91] ++ Lib.join ((bodyL ks).take j) [44]
theorem body_kid_le (n : Nd) (ks : List T) (k : T) (hk : k ∈ ks) : k.body.length ≤ (T.mk n ks).body.length := by
  have h0 : ¬ ks.length = 0 := by intro h; rw [List.eq_nil_of_length_eq_zero h] at hk; cases hk
  rw [T.body_mk, if_neg h0]
  have := (join_len_ge (bodyL ks) 44).1 k.body (by rw [bodyL_map]; exact List.mem_map_of_mem hk)
  simp only [List.length_append, List.length_cons, List.length_nil]
  omega
set_option maxHeartbeats 2000000 in
set_option maxRecDepth 100000 in
theorem bodyR_any : ∀ (t : T) (w : World), RP w t → (∀ m ∈ t.nds, m.sm) → t.w01 → t.body.length ≤ 900000 →
    Calls Tryz.prog 89 #[ptr t.g] w fun e w' => e = .returned (.string (st t.body)) ∧ ∃ k, w' = w.drewN k := by
  intro t
  induction t using T.ind with
  | h n ks ih =>
    intro w hT hsm hw hL
    have hAt := hT.at_
    have c0 := hAt.c0; have c1 := hAt.c1; have c2 := hAt.c2; have c3 := hAt.c3; have c4 := hAt.c4; have c5 := hAt.c5; have c6 := hAt.c6
    have hs := hsm n (by rw [T.nds_mk]; simp)
    obtain ⟨sp, sx, sy, sa, sb⟩ := hs
    have Dp := Lib.hid (drewN_calls (w := w) (fun W _ => digR n.p W sp))
    have Dx := Lib.hid (drewN_calls (w := w) (fun W _ => digR n.x W sx))
    have Dy := Lib.hid (drewN_calls (w := w) (fun W _ => digR n.y W sy))
    have Da := Lib.hid (drewN_calls (w := w) (fun W _ => digR n.a W sa))
    have Db := Lib.hid (drewN_calls (w := w) (fun W _ => digR n.b W sb))
    have lp := itoa_len18 n.p sp; have lx := itoa_len18 n.x sx; have ly := itoa_len18 n.y sy; have la := itoa_len18 n.a sa; have lb := itoa_len18 n.b sb
    obtain ⟨dp, hdp⟩ : ∃ d, d = Lib.itoa n.p := ⟨_, rfl⟩
    obtain ⟨dx, hdx⟩ : ∃ d, d = Lib.itoa n.x := ⟨_, rfl⟩
    obtain ⟨dy, hdy⟩ : ∃ d, d = Lib.itoa n.y := ⟨_, rfl⟩
    obtain ⟨da, hda⟩ : ∃ d, d = Lib.itoa n.a := ⟨_, rfl⟩
    obtain ⟨db, hdb⟩ : ∃ d, d = Lib.itoa n.b := ⟨_, rfl⟩
    rw [← hdp] at Dp lp; rw [← hdx] at Dx lx; rw [← hdy] at Dy ly; rw [← hda] at Da la; rw [← hdb] at Db lb
    have hh : headB n = da ++ [120] ++ db ++ [44] ++ dx ++ [44] ++ dy := by unfold headB; rw [hda, hdb, hdx, hdy]
    obtain ⟨va, hva⟩ : ∃ v, v = st da := ⟨_, rfl⟩
    obtain ⟨vb, hvb⟩ : ∃ v, v = st db := ⟨_, rfl⟩
    obtain ⟨vx, hvx⟩ : ∃ v, v = st dx := ⟨_, rfl⟩
    obtain ⟨vy, hvy⟩ : ∃ v, v = st dy := ⟨_, rfl⟩
    obtain ⟨vp, hvp⟩ : ∃ v, v = st dp := ⟨_, rfl⟩
    obtain ⟨vH, hvH⟩ : ∃ v, v = st (headB n) := ⟨_, rfl⟩
    obtain ⟨t1, t2, t3, t4, t5, q1, q2, q3, q4, q5, q6⟩ : ∃ t1 t2 t3 t4 t5, (∀ w, Sem.run Tryz.prog (Op.stringOp .add va ⟨#[120]⟩) w = .ok (.string t1) w) ∧ (∀ w, Sem.run Tryz.prog (Op.stringOp .add t1 vb) w = .ok (.string t2) w) ∧ (∀ w, Sem.run Tryz.prog (Op.stringOp .add t2 ⟨#[44]⟩) w = .ok (.string t3) w) ∧
        (∀ w, Sem.run Tryz.prog (Op.stringOp .add t3 vx) w = .ok (.string t4) w) ∧ (∀ w, Sem.run Tryz.prog (Op.stringOp .add t4 ⟨#[44]⟩) w = .ok (.string t5) w) ∧ (∀ w, Sem.run Tryz.prog (Op.stringOp .add t5 vy) w = .ok (.string vH) w) := by
      rw [hva, hvb, hvx, hvy, hvH, hh]
      exact ⟨_, _, _, _, _, add_run da [120] (by simp; omega), add_run (da ++ [120]) db (by simp; omega), add_run (da ++ [120] ++ db) [44] (by simp; omega), add_run (da ++ [120] ++ db ++ [44]) dx (by simp; omega), add_run (da ++ [120] ++ db ++ [44] ++ dx) [44] (by simp; omega), add_run (da ++ [120] ++ db ++ [44] ++ dx ++ [44]) dy (by simp; omega)⟩
    rw [← hvp] at Dp; rw [← hvx] at Dx; rw [← hvy] at Dy; rw [← hva] at Da; rw [← hvb] at Db
    have hhl : (headB n).length ≤ 100 := by rw [hh]; simp; omega
    obtain ⟨len, hln⟩ : ∃ len, len = ks.length := ⟨_, rfl⟩
    obtain ⟨bs, hbs⟩ : ∃ bs, bs = bsd n ks.length := ⟨_, rfl⟩
    rw [← hln] at c6
    rw [← hbs] at c5
    have hsmall := hAt.small
    rw [← hln] at hsmall
    replace hsm := Lib.hid hsm; replace hw := Lib.hid hw; replace hL := Lib.hid hL; replace hAt := Lib.hid hAt; replace hT := Lib.hid hT; replace ih := Lib.hid ih
    replace hdp := Lib.hid hdp; replace hdx := Lib.hid hdx; replace hdy := Lib.hid hdy; replace hda := Lib.hid hda; replace hdb := Lib.hid hdb; replace hln := Lib.hid hln; replace hbs := Lib.hid hbs
    replace hh := Lib.hid hh; replace hva := Lib.hid hva; replace hvb := Lib.hid hvb; replace hvx := Lib.hid hvx; replace hvy := Lib.hid hvy; replace hvp := Lib.hid hvp; replace hvH := Lib.hid hvH
    show Calls Tryz.prog 89 #[ptr n.g] w _
    unfold ptr
    go_enter Tryz.func89, Tryz.ntmps89
    go_wp2_with fail
    go_big_quiet ((go_at_call 113; first | with_reducible exact Da.out _ | with_reducible exact Db.out _ | with_reducible exact Dx.out _ | with_reducible exact Dy.out _))
    obtain ⟨W1, hW1⟩ : ∃ W, W = w.drewN nq := ⟨_, rfl⟩
    rw [← hW1]
    have r0 : W1.cell? ⟨n.g, 0, none⟩ = some (.int .i64 n.p) := by rw [hW1]; exact c0
    have r5 : W1.cell? ⟨n.g, 5, none⟩ = some (.bool bs) := by rw [hW1]; exact c5
    obtain ⟨AA, hAA⟩ : ∃ AA, AA = adr n.A := ⟨_, rfl⟩
    have r6 : W1.cell? ⟨n.g, 6, none⟩ = some (.slice AA len n.c) := by rw [hW1, hAA]; exact c6
    replace hAA := Lib.hid hAA
    clear c0 c1 c2 c3 c4 c5 c6 q1 q2 q3 q4 q5 q6 Da Db Dx Dy
    by_cases h0 : len = 0
    · have hk0 : ks = [] := List.eq_nil_of_length_eq_zero (by rw [← hln.out]; exact h0)
      have hbody : (T.mk n ks).body = headB n ++ [44] ++ dp := by rw [T.body_mk, if_pos (by rw [hk0]; rfl), hdp.out]
      have Dp2 := Dp.out nq
      rw [← hW1] at Dp2
      obtain ⟨u1, p1, p2⟩ : ∃ u1, (∀ w, Sem.run Tryz.prog (Op.stringOp .add vH ⟨#[44]⟩) w = .ok (.string u1) w) ∧ (∀ w, Sem.run Tryz.prog (Op.stringOp .add u1 vp) w = .ok (.string (st (T.mk n ks).body)) w) := by
        rw [hvH.out, hvp.out, hbody]
        exact ⟨_, add_run (headB n) [44] (by simp; omega), add_run (headB n ++ [44]) dp (by simp; omega)⟩
      subst h0
      replace Dp2 := Lib.hid Dp2; replace hbody := Lib.hid hbody; replace hW1 := Lib.hid hW1; replace hk0 := Lib.hid hk0
      go_wp2_with fail
      refine Dp2.out.mono ?_
      rintro e w2 ⟨rfl, hm⟩
      replace hm := Lib.hid hm
      go_wp2_with fail
      go_ret
      exact ⟨rfl, hm.out⟩
    · have hne0 : ((len : Int) == 0) = false := by simp; omega
      replace hW1 := Lib.hid hW1
      rcases hw.out.n with hway | hway
      · have hbt : bs = true := by
          rw [hbs.out]; unfold bsd
          rw [← hln.out, show (len != 0) = true by simp; omega, hway]; rfl
        have hpre : ∀ j, j ≠ 0 → preB n ks j = headB n ++ [123] ++ Lib.join ((bodyL ks).take j) [44] := fun j hj => by unfold preB; rw [if_neg hj, if_pos hway]
        have hbody : (T.mk n ks).body = headB n ++ [123] ++ Lib.join (bodyL ks) [44] ++ [125] := by
          rw [T.body_mk, if_neg (by rw [← hln.out]; exact h0), if_pos hway, if_pos hway]
        have hLb : (headB n).length + (Lib.join (bodyL ks) [44]).length + 2 ≤ 900000 := by
          have := hL.out
          rw [hbody] at this
          simp only [List.length_append, List.length_cons, List.length_nil] at this
          omega
        have hpl : ∀ j, (preB n ks j).length + 1 ≤ 900000 := fun j => by
          by_cases hj : j = 0
          · unfold preB; rw [if_pos hj]; omega
          · rw [hpre j hj]
            have := join_take_le (bodyL ks) j
            simp only [List.length_append, List.length_cons, List.length_nil]
            omega
        have hend : ∀ w, Sem.run Tryz.prog (Op.stringOp .add (st (preB n ks len)) ⟨#[125]⟩) w = .ok (.string (st (T.mk n ks).body)) w := by
          rw [hbody, hpre len h0, List.take_of_length_le (by rw [bodyL_map, List.length_map, ← hln.out]; exact Nat.le_refl _)]
          exact add_run _ [125] (by simp only [List.length_append, List.length_cons, List.length_nil]; omega)
        have hpre0 : vH = st (preB n ks 0) := by rw [hvH.out]; unfold preB; rw [if_pos rfl]
        subst hbt
        have hlpos : (len : Int) ≠ 0 := by omega
        replace hway := Lib.hid hway; replace hpre := Lib.hid hpre; replace hbody := Lib.hid hbody; replace hLb := Lib.hid hLb; replace hpl := Lib.hid hpl; replace hpre0 := Lib.hid hpre0; replace hend := Lib.hid hend
        go_wp2_with fail
        go_loopw [3, 6] (fun sv iv wr => ∃ j : Nat, j ≤ len ∧ iv = .int .i64 j ∧ ∃ S, sv = .string S ∧ Hid (S = st (preB n ks j)) ∧ Hid (∃ m, wr = w.drewN m)) (fun _ iv _ => len - (intOf iv).toNat)
        case atStart => exact ⟨0, Nat.zero_le _, rfl, vH, rfl, hpre0, Lib.hid ⟨nq, hW1.out⟩⟩
        case round =>
          obtain ⟨j, hj, rfl, S, rfl, hS, hdr⟩ := hrel
          obtain ⟨m, hm⟩ := hdr.out
          have r6' : wr.cell? ⟨n.g, 6, none⟩ = some (.slice AA len n.c) := by rw [hm, cell_drewN, ← cell_drewN w nq, ← hW1.out]; exact r6
          by_cases hlt : j < len
          · obtain ⟨k, hk⟩ : ∃ k, ks[j]? = some k := ⟨ks[j]'(by rw [← hln.out]; exact hlt), List.getElem?_eq_getElem _⟩
            obtain ⟨b, hA, hc⟩ := hAt.out.kid hk
            have hc2 : wr.cell? ⟨b, j, none⟩ = some (ptr k.g) := by rw [hm, cell_drewN]; exact hc
            have hmem : k ∈ ks := List.mem_of_getElem? hk
            have hkT : RP wr k := by rw [hm]; exact RP_drewN m (RPs_iff.1 hT.out.kids k hmem)
            have CK := ih.out k hmem wr hkT (fun a ha => hsm.out a (by rw [T.nds_mk]; simp [mem_ndsL.2 ⟨k, hmem, ha⟩])) (hw.out.k hmem) (Nat.le_trans (body_kid_le n ks k hmem) hL.out)
            have hbk : (bodyL ks)[j]? = some k.body := by rw [bodyL_map, List.getElem?_map, hk]; rfl
            have hjt := join_take (bodyL ks) j k.body hbk
            have hpj := hpl.out j
            have hpj1 := hpl.out (j + 1)
            rw [hpre.out (j + 1) (by omega), hjt] at hpj1
            have hadr : AA = some ⟨b, 0, none⟩ := by rw [hAA.out, hA]; rfl
            subst hadr
            obtain ⟨vk, hvk⟩ : ∃ v, v = st k.body := ⟨_, rfl⟩
            rw [← hvk] at CK
            by_cases hj0 : j = 0
            · subst hj0
              rw [if_pos rfl] at hjt hpj1
              obtain ⟨u1, p1, p2⟩ : ∃ u1, (∀ w, Sem.run Tryz.prog (Op.stringOp .add S ⟨#[123]⟩) w = .ok (.string u1) w) ∧ (∀ w, Sem.run Tryz.prog (Op.stringOp .add u1 vk) w = .ok (.string (st (preB n ks 1))) w) := by
                rw [hS.out, hvk, hpre.out 1 (by decide), hjt]
                have e0 : preB n ks 0 = headB n := by unfold preB; rw [if_pos rfl]
                rw [e0]
                simp only [List.length_append, List.length_cons, List.length_nil] at hpj1
                exact ⟨_, add_run (headB n) [123] (by simp; omega), add_run (headB n ++ [123]) k.body (by simp; omega)⟩
              replace hk := Lib.hid hk; replace hm := Lib.hid hm; replace hvk := Lib.hid hvk; replace CK := Lib.hid CK; replace hkT := Lib.hid hkT; replace hA := Lib.hid hA; replace hbk := Lib.hid hbk; replace hjt := Lib.hid hjt
              unfold ptr at hc2 CK
              go_wp2_with fail
              refine CK.out.mono ?_
              rintro e w2 ⟨rfl, hm2⟩
              replace hm2 := Lib.hid hm2
              go_wp2_with fail
              refine ⟨⟨1, by omega, by go_num, _, rfl, Lib.hid rfl, Lib.hid ?_⟩, by simp [intOf]; omega⟩
              obtain ⟨m2, hm2⟩ := hm2.out
              exact ⟨m + m2, by rw [hm2, hm.out]; simp⟩
            · rw [if_neg hj0] at hjt hpj1
              have hjb : ((j : Int) == 0) = false := by simp; omega
              obtain ⟨u1, p1, p2⟩ : ∃ u1, (∀ w, Sem.run Tryz.prog (Op.stringOp .add S ⟨#[44]⟩) w = .ok (.string u1) w) ∧ (∀ w, Sem.run Tryz.prog (Op.stringOp .add u1 vk) w = .ok (.string (st (preB n ks (j + 1)))) w) := by
                have e1 : preB n ks (j + 1) = preB n ks j ++ [44] ++ k.body := by rw [hpre.out (j + 1) (by omega), hpre.out j hj0, hjt]; simp
                rw [hS.out, hvk, e1]
                rw [hpre.out j hj0] at hpj
                have hb : (preB n ks j).length + 1 + k.body.length ≤ 900000 := by
                  rw [hpre.out j hj0]
                  simp only [List.length_append, List.length_cons, List.length_nil] at hpj1 ⊢
                  omega
                exact ⟨_, add_run (preB n ks j) [44] (by simp; omega), add_run (preB n ks j ++ [44]) k.body (by simp; omega)⟩
              replace hk := Lib.hid hk; replace hm := Lib.hid hm; replace hvk := Lib.hid hvk; replace CK := Lib.hid CK; replace hkT := Lib.hid hkT; replace hA := Lib.hid hA; replace hbk := Lib.hid hbk; replace hjt := Lib.hid hjt; replace hpj1 := Lib.hid hpj1; replace hpj := Lib.hid hpj
              unfold ptr at hc2 CK
              go_wp2_with fail
              refine CK.out.mono ?_
              rintro e w2 ⟨rfl, hm2⟩
              replace hm2 := Lib.hid hm2
              go_wp2_with fail
              refine ⟨⟨j + 1, by omega, by go_num, _, rfl, Lib.hid rfl, Lib.hid ?_⟩, by simp [intOf]; omega⟩
              obtain ⟨m2, hm2⟩ := hm2.out
              exact ⟨m + m2, by rw [hm2, hm.out]; simp⟩
          · have : j = len := by omega
            subst this
            have p1 := hend.out
            rw [← hS.out] at p1
            replace hm := Lib.hid hm
            go_wp2_with fail
            go_ret
            exact ⟨rfl, m, hm.out⟩
      · have hbt : bs = false := by
          rw [hbs.out]; unfold bsd
          rw [← hln.out, show (len != 0) = true by simp; omega, hway]; rfl
        have hpre : ∀ j, j ≠ 0 → preB n ks j = headB n ++ [91] ++ Lib.join ((bodyL ks).take j) [44] := fun j hj => by unfold preB; rw [if_neg hj, if_neg (by rw [hway]; decide)]
        have hbody : (T.mk n ks).body = headB n ++ [91] ++ Lib.join (bodyL ks) [44] ++ [93] := by
          rw [T.body_mk, if_neg (by rw [← hln.out]; exact h0), if_neg (by rw [hway]; decide), if_neg (by rw [hway]; decide)]
        have hLb : (headB n).length + (Lib.join (bodyL ks) [44]).length + 2 ≤ 900000 := by
          have := hL.out
          rw [hbody] at this
          simp only [List.length_append, List.length_cons, List.length_nil] at this
          omega
        have hpl : ∀ j, (preB n ks j).length + 1 ≤ 900000 := fun j => by
          by_cases hj : j = 0
          · unfold preB; rw [if_pos hj]; omega
          · rw [hpre j hj]
            have := join_take_le (bodyL ks) j
            simp only [List.length_append, List.length_cons, List.length_nil]
            omega
        have hend : ∀ w, Sem.run Tryz.prog (Op.stringOp .add (st (preB n ks len)) ⟨#[93]⟩) w = .ok (.string (st (T.mk n ks).body)) w := by
          rw [hbody, hpre len h0, List.take_of_length_le (by rw [bodyL_map, List.length_map, ← hln.out]; exact Nat.le_refl _)]
          exact add_run _ [93] (by simp only [List.length_append, List.length_cons, List.length_nil]; omega)
        have hpre0 : vH = st (preB n ks 0) := by rw [hvH.out]; unfold preB; rw [if_pos rfl]
        subst hbt
        have hlpos : (len : Int) ≠ 0 := by omega
        replace hway := Lib.hid hway; replace hpre := Lib.hid hpre; replace hbody := Lib.hid hbody; replace hLb := Lib.hid hLb; replace hpl := Lib.hid hpl; replace hpre0 := Lib.hid hpre0; replace hend := Lib.hid hend
        go_wp2_with fail
        go_loopw [3, 6] (fun sv iv wr => ∃ j : Nat, j ≤ len ∧ iv = .int .i64 j ∧ ∃ S, sv = .string S ∧ Hid (S = st (preB n ks j)) ∧ Hid (∃ m, wr = w.drewN m)) (fun _ iv _ => len - (intOf iv).toNat)
        case atStart => exact ⟨0, Nat.zero_le _, rfl, vH, rfl, hpre0, Lib.hid ⟨nq, hW1.out⟩⟩
        case round =>
          obtain ⟨j, hj, rfl, S, rfl, hS, hdr⟩ := hrel
          obtain ⟨m, hm⟩ := hdr.out
          have r6' : wr.cell? ⟨n.g, 6, none⟩ = some (.slice AA len n.c) := by rw [hm, cell_drewN, ← cell_drewN w nq, ← hW1.out]; exact r6
          by_cases hlt : j < len
          · obtain ⟨k, hk⟩ : ∃ k, ks[j]? = some k := ⟨ks[j]'(by rw [← hln.out]; exact hlt), List.getElem?_eq_getElem _⟩
            obtain ⟨b, hA, hc⟩ := hAt.out.kid hk
            have hc2 : wr.cell? ⟨b, j, none⟩ = some (ptr k.g) := by rw [hm, cell_drewN]; exact hc
            have hmem : k ∈ ks := List.mem_of_getElem? hk
            have hkT : RP wr k := by rw [hm]; exact RP_drewN m (RPs_iff.1 hT.out.kids k hmem)
            have CK := ih.out k hmem wr hkT (fun a ha => hsm.out a (by rw [T.nds_mk]; simp [mem_ndsL.2 ⟨k, hmem, ha⟩])) (hw.out.k hmem) (Nat.le_trans (body_kid_le n ks k hmem) hL.out)
            have hbk : (bodyL ks)[j]? = some k.body := by rw [bodyL_map, List.getElem?_map, hk]; rfl
            have hjt := join_take (bodyL ks) j k.body hbk
            have hpj := hpl.out j
            have hpj1 := hpl.out (j + 1)
            rw [hpre.out (j + 1) (by omega), hjt] at hpj1
            have hadr : AA = some ⟨b, 0, none⟩ := by rw [hAA.out, hA]; rfl
            subst hadr
            obtain ⟨vk, hvk⟩ : ∃ v, v = st k.body := ⟨_, rfl⟩
            rw [← hvk] at CK
            by_cases hj0 : j = 0
            · subst hj0
              rw [if_pos rfl] at hjt hpj1
              obtain ⟨u1, p1, p2⟩ : ∃ u1, (∀ w, Sem.run Tryz.prog (Op.stringOp .add S ⟨#[91]⟩) w = .ok (.string u1) w) ∧ (∀ w, Sem.run Tryz.prog (Op.stringOp .add u1 vk) w = .ok (.string (st (preB n ks 1))) w) := by
                rw [hS.out, hvk, hpre.out 1 (by decide), hjt]
                have e0 : preB n ks 0 = headB n := by unfold preB; rw [if_pos rfl]
                rw [e0]
                simp only [List.length_append, List.length_cons, List.length_nil] at hpj1
                exact ⟨_, add_run (headB n) [91] (by simp; omega), add_run (headB n ++ [91]) k.body (by simp; omega)⟩
              replace hk := Lib.hid hk; replace hm := Lib.hid hm; replace hvk := Lib.hid hvk; replace CK := Lib.hid CK; replace hkT := Lib.hid hkT; replace hA := Lib.hid hA; replace hbk := Lib.hid hbk; replace hjt := Lib.hid hjt
              unfold ptr at hc2 CK
              go_wp2_with fail
              refine CK.out.mono ?_
              rintro e w2 ⟨rfl, hm2⟩
              replace hm2 := Lib.hid hm2
              go_wp2_with fail
              refine ⟨⟨1, by omega, by go_num, _, rfl, Lib.hid rfl, Lib.hid ?_⟩, by simp [intOf]; omega⟩
              obtain ⟨m2, hm2⟩ := hm2.out
              exact ⟨m + m2, by rw [hm2, hm.out]; simp⟩
            · rw [if_neg hj0] at hjt hpj1
              have hjb : ((j : Int) == 0) = false := by simp; omega
              obtain ⟨u1, p1, p2⟩ : ∃ u1, (∀ w, Sem.run Tryz.prog (Op.stringOp .add S ⟨#[44]⟩) w = .ok (.string u1) w) ∧ (∀ w, Sem.run Tryz.prog (Op.stringOp .add u1 vk) w = .ok (.string (st (preB n ks (j + 1)))) w) := by
                have e1 : preB n ks (j + 1) = preB n ks j ++ [44] ++ k.body := by rw [hpre.out (j + 1) (by omega), hpre.out j hj0, hjt]; simp
                rw [hS.out, hvk, e1]
                rw [hpre.out j hj0] at hpj
                have hb : (preB n ks j).length + 1 + k.body.length ≤ 900000 := by
                  rw [hpre.out j hj0]
                  simp only [List.length_append, List.length_cons, List.length_nil] at hpj1 ⊢
                  omega
                exact ⟨_, add_run (preB n ks j) [44] (by simp; omega), add_run (preB n ks j ++ [44]) k.body (by simp; omega)⟩
              replace hk := Lib.hid hk; replace hm := Lib.hid hm; replace hvk := Lib.hid hvk; replace CK := Lib.hid CK; replace hkT := Lib.hid hkT; replace hA := Lib.hid hA; replace hbk := Lib.hid hbk; replace hjt := Lib.hid hjt; replace hpj1 := Lib.hid hpj1; replace hpj := Lib.hid hpj
              unfold ptr at hc2 CK
              go_wp2_with fail
              refine CK.out.mono ?_
              rintro e w2 ⟨rfl, hm2⟩
              replace hm2 := Lib.hid hm2
              go_wp2_with fail
              refine ⟨⟨j + 1, by omega, by go_num, _, rfl, Lib.hid rfl, Lib.hid ?_⟩, by simp [intOf]; omega⟩
              obtain ⟨m2, hm2⟩ := hm2.out
              exact ⟨m + m2, by rw [hm2, hm.out]; simp⟩
          · have : j = len := by omega
            subst this
            have p1 := hend.out
            rw [← hS.out] at p1
            replace hm := Lib.hid hm
            go_wp2_with fail
            go_ret
            exact ⟨rfl, m, hm.out⟩
end Go.Proofs.YtcklmkjlbpjojaaGreatDoor
