/- Layout: the reference's right. Printed by tools/mkRO.py. -/
import Derived.Test.YtcklmkjlbpjojaaGreatDoorRN
import Derived.Test.YtcklmkjlbpjojaaGreatDoorR5
namespace Go.Proofs.YtcklmkjlbpjojaaGreatDoor
open Go.RowKit
set_option linter.unusedSimpArgs false
set_option linter.unusedVariables false

theorem leaves_pos : ∀ t : T, 1 ≤ t.leaves.length := by
  intro t
  induction t using T.ind with
  | h n ks ih =>
    rw [T.leaves_mk]
    cases ks with
    | nil => simp
    | cons k ks =>
      have := ih k (by simp)
      simp only [leavesL_cons, List.length_append]
      omega
theorem leavesL_len : ∀ ks : List T, ks.length ≤ (leavesL ks).length
  | [] => by simp
  | k :: ks => by
    have := leavesL_len ks
    have := leaves_pos k
    rw [leavesL_cons, List.length_append, List.length_cons]; omega
theorem kid_leaves {n : Nd} {ks : List T} {k : T} (hk : k ∈ ks) : k.leaves.length ≤ (T.mk n ks).leaves.length := by
  obtain ⟨a, b, rfl⟩ := List.append_of_mem hk
  rw [T.leaves_mk]
  simp only [leavesL_app, leavesL_cons, List.length_append]
  omega
theorem kids_leaves {n : Nd} {ks : List T} : ks.length ≤ (T.mk n ks).leaves.length := by
  have := leavesL_len ks
  rw [T.leaves_mk, List.length_append]; omega
theorem sizeRN (g : Nat) (a b : Int) (w : World) (h3 : w.cell? ⟨g, 3, none⟩ = some (.int .i64 a)) (h4 : w.cell? ⟨g, 4, none⟩ = some (.int .i64 b)) :
    (∀ n, Calls Tryz.prog 36 #[.pointer (some ⟨g, 0, none⟩), .bool true] (w.drewN n) fun e w' => e = .returned (.int .i64 a) ∧ ∃ m, w' = w.drewN m) ∧
    (∀ n, Calls Tryz.prog 36 #[.pointer (some ⟨g, 0, none⟩), .bool false] (w.drewN n) fun e w' => e = .returned (.int .i64 b) ∧ ∃ m, w' = w.drewN m) :=
  ⟨fun n => (sizeR g a b true (w.drewN n) h3 h4).mono fun e w' h => ⟨h.1, n, h.2⟩, fun n => (sizeR g a b false (w.drewN n) h3 h4).mono fun e w' h => ⟨h.1, n, h.2⟩⟩
theorem bsd_eq {n : Nd} {k : Nat} (h : k ≠ 0) (hw : n.way = 0 ∨ n.way = 1) : bsd n k = decide (n.way = 0) := by
  unfold bsd
  rcases hw with hw | hw <;> simp [hw, h]

set_option maxHeartbeats 2000000 in
set_option maxRecDepth 100000 in
theorem rightR_bad (n : Nd) (ks : List T) (x y : Int) (w : World) (hT : RP w (.mk n ks)) (hb : ¬ (n.x = x ∧ n.y = y ∧ 1 ≤ n.a ∧ 1 ≤ n.b)) :
    Calls Tryz.prog 48 #[ptr n.g, .int .i64 x, .int .i64 y] w fun e w' => e = .returned (.bool false) ∧ ∃ k, w' = w.drewN k := by
  have hAt := hT.at_
  have c1 := hAt.c1; have c2 := hAt.c2; have c3 := hAt.c3; have c4 := hAt.c4
  replace hAt := Lib.hid hAt; replace hT := Lib.hid hT
  unfold ptr
  by_cases h1 : n.x = x
  · have e1 : (n.x != x) = false := by rw [h1]; simp
    by_cases h2 : n.y = y
    · have e2 : (n.y != y) = false := by rw [h2]; simp
      by_cases h3 : 1 ≤ n.a
      · have h4 : n.b < 1 := by have : ¬ 1 ≤ n.b := fun h => hb ⟨h1, h2, h3, h⟩; omega
        replace hb := Lib.hid hb; replace h1 := Lib.hid h1; replace h2 := Lib.hid h2
        go_enter Tryz.func48, Tryz.ntmps48
        go_wp2_with fail
        go_ret
        exact ⟨rfl, 0, rfl⟩
      · have h3' : n.a < 1 := by omega
        replace hb := Lib.hid hb; replace h1 := Lib.hid h1; replace h2 := Lib.hid h2; replace h3 := Lib.hid h3
        go_enter Tryz.func48, Tryz.ntmps48
        go_wp2_with fail
        go_ret
        exact ⟨rfl, 0, rfl⟩
    · have e2 : (n.y != y) = true := bne_iff_ne.2 h2
      replace hb := Lib.hid hb; replace h1 := Lib.hid h1; replace h2 := Lib.hid h2
      go_enter Tryz.func48, Tryz.ntmps48
      go_wp2_with fail
      go_ret
      exact ⟨rfl, 0, rfl⟩
  · have e1 : (n.x != x) = true := bne_iff_ne.2 h1
    replace hb := Lib.hid hb; replace h1 := Lib.hid h1
    go_enter Tryz.func48, Tryz.ntmps48
    go_wp2_with fail
    go_ret
    exact ⟨rfl, 0, rfl⟩

structure RK0 (w : World) (n : Nd) (ks : List T) (x y : Int) (j : Nat) (S : Int) (wr : World) : Prop where
  g : ∃ m, wr = w.drewN m
  s : S = ((ks.take j).map fun k => k.sz n.way + 1).sum
  r : rightL n ks x y = rightL n (ks.drop j) (x + S) y
  u : 0 ≤ S ∧ x + S ≤ 3000000000
theorem RK0.next {w : World} {n : Nd} {ks : List T} {x y : Int} {j : Nat} {S : Int} {wr w2 : World} (h : RK0 w n ks x y j S wr) {k : T} (hk : ks[j]? = some k) (hw : n.way = 0)
    (h1 : k.right (x + S) y = true) (h2 : ¬ (k.ks.length ≠ 0 ∧ k.n.way = 0)) (h3 : k.n.b = n.b) (hbd : k.bd) (g2 : ∃ m, w2 = wr.drewN m) (a : Int) (ha : a = k.n.a) : RK0 w n ks x y (j + 1) (S + (a + 1)) w2 := by
  subst ha
  have hs := h.s
  have e1 : k.sz n.way = k.n.a := by rw [hw]; rfl
  have e2 : k.sz (1 - n.way) = k.n.b := by rw [hw]; rfl
  have e3 : n.sz (1 - n.way) = n.b := by rw [hw]; rfl
  refine ⟨?_, ?_, ?_, ?_⟩
  · obtain ⟨m, hm⟩ := h.g
    obtain ⟨m2, hm2⟩ := g2
    exact ⟨m + m2, by rw [hm2, hm]; simp⟩
  · rw [take_succ' hk, List.map_append, List.sum_append, ← hs]
    simp [e1]
  · rw [h.r, drop_cons hk, rightL_cons, h1, e1, e2, e3, hw, if_pos rfl, if_pos rfl]
    rw [decide_eq_true h3, decide_eq_false h2]
    simp [Int.add_assoc]
  · obtain ⟨n', ks'⟩ := k
    rw [T.right_mk] at h1
    have h4 := of_decide_eq_true (Bool.and_eq_true_iff.1 h1).1
    have h5 := hbd n' (by rw [T.nds_mk]; simp)
    have h6 := h.u
    show 0 ≤ S + (n'.a + 1) ∧ x + (S + (n'.a + 1)) ≤ 3000000000
    obtain ⟨q1, q2, q3, q4⟩ := h4
    obtain ⟨⟨p1, p2⟩, ⟨p3, p4⟩, ⟨p5, p6⟩, ⟨p7, p8⟩, _⟩ := h5
    omega
set_option maxHeartbeats 4000000 in
set_option maxRecDepth 100000 in
theorem rightR_good0 (n : Nd) (ks : List T) (hway : n.way = 0) (ih : ∀ k ∈ ks, ∀ (x y : Int) (w : World), RP w k → k.bd → k.leaves.length ≤ 100000 → 0 ≤ x ∧ x ≤ 3000000000 → 0 ≤ y ∧ y ≤ 3000000000 → Calls Tryz.prog 48 #[ptr k.g, .int .i64 x, .int .i64 y] w fun e w' => e = .returned (.bool (k.right x y)) ∧ ∃ m, w' = w.drewN m)
    (x y : Int) (w : World) (hT : RP w (.mk n ks)) (hbd : (T.mk n ks).bd) (hlv : (T.mk n ks).leaves.length ≤ 100000) (hx1 : n.x = x) (hy1 : n.y = y) (ha1 : 1 ≤ n.a) (hb1' : 1 ≤ n.b) :
    Calls Tryz.prog 48 #[ptr n.g, .int .i64 x, .int .i64 y] w fun e w' => e = .returned (.bool (decide (ks.length = 0) || (rightL n ks x y && decide (1 < ks.length ∧ (ks.map fun k => k.sz n.way + 1).sum = n.sz n.way + 1)))) ∧ ∃ m, w' = w.drewN m := by
  have hAt := hT.at_
  have hK := RPs_iff.1 hT.kids
  have c1 := hAt.c1; have c2 := hAt.c2; have c3 := hAt.c3; have c4 := hAt.c4; have c5 := hAt.c5; have c6 := hAt.c6
  obtain ⟨b1, b2, b3, b4, b5⟩ := hbd n (by rw [T.nds_mk]; simp)
  have e1 : (n.x != x) = false := by rw [hx1]; simp
  have e2 : (n.y != y) = false := by rw [hy1]; simp
  rw [hx1] at b1; rw [hy1] at b2
  have hll := Nat.le_trans (kids_leaves (n := n)) hlv
  have hbs : ks.length ≠ 0 → bsd n ks.length = true := fun h => by rw [bsd_eq h b5, hway]; rfl
  obtain ⟨bs, hbs2⟩ : ∃ bs, bs = bsd n ks.length := ⟨_, rfl⟩
  rw [← hbs2] at c5 hbs
  obtain ⟨len, hln⟩ : ∃ len, len = ks.length := ⟨_, rfl⟩
  rw [← hln] at c6 hll hbs ⊢
  obtain ⟨AA, hAA⟩ : ∃ AA, AA = adr n.A := ⟨_, rfl⟩
  rw [← hAA] at c6
  obtain ⟨RB, hRB⟩ : ∃ RB, RB = (decide (len = 0) || (rightL n ks x y && decide (1 < len ∧ (ks.map fun k => k.sz n.way + 1).sum = n.sz n.way + 1))) := ⟨_, rfl⟩
  rw [← hRB]
  have hR0 : RK0 w n ks x y 0 0 w := ⟨⟨0, rfl⟩, by simp, by simp, by omega⟩
  replace hT := Lib.hid hT; replace hAt := Lib.hid hAt; replace hK := Lib.hid hK; replace ih := Lib.hid ih; replace hbd := Lib.hid hbd; replace hln := Lib.hid hln; replace hAA := Lib.hid hAA; replace hRB := Lib.hid hRB; replace hlv := Lib.hid hlv; replace hbs := Lib.hid hbs; replace hbs2 := Lib.hid hbs2; replace hR0 := Lib.hid hR0
  replace b5 := Lib.hid b5; replace hway := Lib.hid hway; replace hx1 := Lib.hid hx1; replace hy1 := Lib.hid hy1
  unfold ptr
  go_enter Tryz.func48, Tryz.ntmps48
  by_cases h0 : len = 0
  · subst h0
    go_wp2_with fail
    go_ret
    exact ⟨by rw [hRB.out]; simp, 0, rfl⟩
  have h0' : ((len : Int) == 0) = false := beq_eq_false_iff_ne.2 (by omega)
  obtain rfl := hbs.out h0
  by_cases hone : len = 1
  · subst hone
    go_wp2_with fail
    go_ret
    exact ⟨by rw [hRB.out]; simp, 0, rfl⟩
  have h1' : ((len : Int) == 1) = false := beq_eq_false_iff_ne.2 (by omega)
  go_wp2_with fail
  go_loopw [1, 2, 7, 8] (fun xv yv sv iv wr => ∃ (j : Nat) (S : Int), j ≤ len ∧ xv = .int .i64 (x + S) ∧ yv = .int .i64 y ∧ sv = .int .i64 ((len : Int) - 1 + S - j) ∧ iv = .int .i64 j ∧ Hid (RK0 w n ks x y j S wr)) (fun _ _ _ iv _ => len - (intOf iv).toNat)
  case atStart => exact ⟨0, 0, Nat.zero_le _, by simp, by simp, by simp, rfl, hR0⟩
  case round =>
    obtain ⟨j, S, hj, rfl, rfl, rfl, rfl, hR⟩ := hrel
    obtain ⟨m, hm⟩ := hR.out.g
    have f3 : wr.cell? ⟨n.g, 3, none⟩ = some (.int .i64 n.a) := by rw [hm]; exact c3
    have f4 : wr.cell? ⟨n.g, 4, none⟩ = some (.int .i64 n.b) := by rw [hm]; exact c4
    have f5 : wr.cell? ⟨n.g, 5, none⟩ = some (.bool true) := by rw [hm]; exact c5
    have f6 : wr.cell? ⟨n.g, 6, none⟩ = some (.slice AA len n.c) := by rw [hm]; exact c6
    have hu := hR.out.u
    by_cases hlt : j < len
    · obtain ⟨k, hk⟩ : ∃ k, ks[j]? = some k := ⟨ks[j]'(by rw [← hln.out]; exact hlt), List.getElem?_eq_getElem _⟩
      obtain ⟨b, hA, hc⟩ := hAt.out.kid hk
      have hmem : k ∈ ks := List.mem_of_getElem? hk
      have hc' : wr.cell? ⟨b, j, none⟩ = some (ptr k.g) := by rw [hm]; exact hc
      have hTk : RP wr k := by rw [hm]; exact RP_drewN m (hK.out k hmem)
      have hbk : k.bd := hbd.out.k hmem
      have hAtk : RAt wr k.n k.ks := by cases k; exact hTk.at_
      have hkg : k.n.g = k.g := by cases k; rfl
      have e3 := hAtk.c3; have e4 := hAtk.c4; have e5 := hAtk.c5; have e6 := hAtk.c6
      have hsmk := hAtk.small
      obtain ⟨q1, q2, q3, q4, q5⟩ := hbk k.n (by cases k; rw [T.nds_mk]; simp [T.n])
      obtain ⟨kl, hkl⟩ : ∃ kl, kl = k.ks.length := ⟨_, rfl⟩
      obtain ⟨kA, hkA⟩ : ∃ kA, kA = adr k.n.A := ⟨_, rfl⟩
      obtain ⟨kw, hkw⟩ : ∃ kw, kw = k.n.way := ⟨_, rfl⟩
      obtain ⟨ka, hka⟩ : ∃ ka, ka = k.n.a := ⟨_, rfl⟩
      obtain ⟨kb, hkb⟩ : ∃ kb, kb = k.n.b := ⟨_, rfl⟩
      obtain ⟨kc, hkc⟩ : ∃ kc, kc = k.n.c := ⟨_, rfl⟩
      have hkbs : kl ≠ 0 → bsd k.n k.ks.length = decide (kw = 0) := fun h => by rw [bsd_eq (by rw [← hkl]; exact h) q5, hkw]
      obtain ⟨kbs, hkbs2⟩ : ∃ z, z = bsd k.n k.ks.length := ⟨_, rfl⟩
      rw [← hkbs2] at hkbs e5
      rw [← hkl, ← hkA, ← hkc, hkg] at e6
      rw [← hkl] at hsmk
      rw [hkg] at e5
      rw [← hka, hkg] at e3
      rw [← hkb, hkg] at e4
      rw [← hka] at q3
      rw [← hkb] at q4
      rw [← hkw] at q5
      have hAb : AA = some ⟨b, 0, none⟩ := by rw [hAA.out, hA]; rfl
      subst hAb
      have CK := ih.out k hmem (x + S) y wr hTk hbk (Nat.le_trans (kid_leaves hmem) hlv.out) (by omega) (by omega)
      obtain ⟨r, hr⟩ : ∃ r, r = k.right (x + S) y := ⟨_, rfl⟩
      rw [← hr] at CK
      have hbad : (r = false ∨ (kl ≠ 0 ∧ kw = 0) ∨ k.n.b ≠ n.b) → RB = false := fun hb => by
        have hrl : rightL n ks x y = false := by
          rw [hR.out.r, drop_cons hk, rightL_cons, hway.out, ← hr, ← hkl, ← hkw]
          rcases hb with hb | hb | hb
          · rw [hb]; rfl
          · rw [decide_eq_true hb]; simp
          · have : ¬ (k.sz (1 - 0) = n.sz (1 - 0)) := hb
            rw [decide_eq_false this]; simp
        rw [hRB.out, hrl]
        simp [h0]
      have hgood : ∀ w2, (∃ m, w2 = wr.drewN m) → r = true → ¬ (kl ≠ 0 ∧ kw = 0) → k.n.b = n.b → RK0 w n ks x y (j + 1) (S + (ka + 1)) w2 := fun w2 g2 h1 h2 h3 =>
        hR.out.next hk hway.out (by rw [← hr]; exact h1) (by rw [← hkl, ← hkw]; exact h2) h3 hbk g2 _ hka
      rw [← hkb] at hbad hgood
      obtain ⟨kg, hkg2⟩ : ∃ kg, kg = k.g := ⟨_, rfl⟩
      rw [← hkg2] at CK hc' e3 e4 e5 e6
      obtain ⟨ZZ, hZZ⟩ : ∃ ZZ, ZZ = (x + S) := ⟨_, rfl⟩
      rw [← hZZ] at CK ⊢
      have hZ4 : 0 ≤ ZZ ∧ ZZ ≤ 3000000000 := by omega
      obtain ⟨SS, hSS⟩ : ∃ SS, SS = (len : Int) - 1 + S - j := ⟨_, rfl⟩
      rw [← hSS]
      have hS4 : 0 ≤ SS ∧ SS ≤ 4000000000 := by omega
      have gm : ∃ m, wr = w.drewN m := ⟨m, hm⟩
      replace hbad := Lib.hid hbad; replace hgood := Lib.hid hgood; replace hr := Lib.hid hr; replace CK := Lib.hid CK; replace hkbs := Lib.hid hkbs; replace hkbs2 := Lib.hid hkbs2; replace hm := Lib.hid hm; replace gm := Lib.hid gm
      replace hk := Lib.hid hk; replace hA := Lib.hid hA; replace hkl := Lib.hid hkl; replace hkA := Lib.hid hkA; replace hkw := Lib.hid hkw; replace hka := Lib.hid hka; replace hkb := Lib.hid hkb; replace hkc := Lib.hid hkc; replace hkg := Lib.hid hkg; replace hTk := Lib.hid hTk; replace hbk := Lib.hid hbk; replace hAtk := Lib.hid hAtk; replace hkg2 := Lib.hid hkg2; replace hZZ := Lib.hid hZZ; replace hSS := Lib.hid hSS
      clear hc
      unfold ptr at CK hc'
      go_upto_region 13 with fail
      refine CK.out.mono ?_
      rintro e w2 ⟨rfl, hw2⟩
      have d3 : w2.cell? ⟨n.g, 3, none⟩ = some (.int .i64 n.a) := by obtain ⟨m2, rfl⟩ := hw2; exact f3
      have d4 : w2.cell? ⟨n.g, 4, none⟩ = some (.int .i64 n.b) := by obtain ⟨m2, rfl⟩ := hw2; exact f4
      have d5 : w2.cell? ⟨n.g, 5, none⟩ = some (.bool true) := by obtain ⟨m2, rfl⟩ := hw2; exact f5
      have g3 : w2.cell? ⟨kg, 3, none⟩ = some (.int .i64 ka) := by obtain ⟨m2, rfl⟩ := hw2; exact e3
      have g4 : w2.cell? ⟨kg, 4, none⟩ = some (.int .i64 kb) := by obtain ⟨m2, rfl⟩ := hw2; exact e4
      have g5 : w2.cell? ⟨kg, 5, none⟩ = some (.bool kbs) := by obtain ⟨m2, rfl⟩ := hw2; exact e5
      have g6 : w2.cell? ⟨kg, 6, none⟩ = some (.slice kA kl kc) := by obtain ⟨m2, rfl⟩ := hw2; exact e6
      have Z1 := Lib.hid (sizeRN kg ka kb w2 g3 g4)
      have Z2 := Lib.hid (sizeRN n.g n.a n.b w2 d3 d4)
      have hout : ∀ k3 B, RB = B → (Ending.returned (Value.bool B) = .returned (.bool RB) ∧ ∃ m, w2.drewN k3 = w.drewN m) := fun k3 B hB => by
        obtain ⟨m1, h1⟩ := gm.out
        obtain ⟨m2, h2⟩ := hw2
        exact ⟨by rw [hB], m1 + m2 + k3, by rw [h2, h1]; simp⟩
      have hnx : ∀ k3, r = true → ¬ (kl ≠ 0 ∧ kw = 0) → kb = n.b → RK0 w n ks x y (j + 1) (S + (ka + 1)) (w2.drewN k3) := fun k3 => hgood.out _ (by
        obtain ⟨m2, h2⟩ := hw2
        exact ⟨m2 + k3, by rw [h2]; simp⟩)
      replace hw2 := Lib.hid hw2; replace hout := Lib.hid hout; replace hnx := Lib.hid hnx
      clear CK f3 f4 f5 e3 e4 e5 e6 c1 c2 c3 c4 c5 c6
      cases r
      · go_wp2_with fail
        go_big_quiet ((go_at_call 36; fail))
        go_wp2_with fail
        go_ret
        exact hout.out _ _ (hbad.out (by simp))
      · by_cases hsame : kl ≠ 0 ∧ kw = 0
        · have hkp : 0 < kl := by omega
          obtain rfl : kbs = true := by rw [hkbs.out hsame.1, hsame.2]; rfl
          have hb := hbad.out (.inr (.inl hsame))
          replace hsame := Lib.hid hsame; replace hb := Lib.hid hb
          go_wp2_with fail
          go_big_quiet ((go_at_call 36; fail))
          go_wp2_with fail
          go_ret
          exact hout.out _ _ hb.out
        · by_cases h3 : kb = n.b
          · have z3 : (kb != n.b) = false := by rw [h3]; simp
            have hnx2 := fun k3 => hnx.out k3 rfl hsame h3
            have Z3 := Lib.hid (fun k3 => (sizeR kg ka kb true (w2.drewN k3) g3 g4))
            have u3 : ∀ k3, (w2.drewN k3).cell? ⟨kg, 3, none⟩ = some (.int .i64 ka) := fun _ => g3
            have u5 : ∀ k3, (w2.drewN k3).cell? ⟨n.g, 5, none⟩ = some (.bool true) := fun _ => d5
            simp only [if_true, Bool.false_eq_true, if_false] at Z3
            replace h3 := Lib.hid h3; replace hnx2 := Lib.hid hnx2
            rcases Nat.eq_zero_or_pos kl with hk0 | hk0
            · replace hkbs := Lib.hid hkbs; subst hk0
              replace hsame := Lib.hid hsame
              go_wp2_with fail
              go_big_quiet ((go_at_call 36; first | with_reducible exact Z1.out.1 _ | with_reducible exact Z1.out.2 _ | with_reducible exact Z2.out.1 _ | with_reducible exact Z2.out.2 _))
              go_wp2_with fail
              refine (Z3.out _).mono ?_
              rintro e w4 ⟨rfl, rfl⟩
              have u3' := u3 nq
              have u5' := u5 nq
              go_wp2_with fail
              go_roundw
              case rel =>
                have hz3 := hZZ.out; have hs3 := hSS.out
                refine ⟨j + 1, S + (ka + 1), by omega, by go_num, by go_num, by go_num, by go_num, Lib.hid (hnx2.out _)⟩
              case measure => simp [intOf]; omega
            · have hkp : 0 < kl := hk0
              obtain rfl : kbs = false := by
                rw [hkbs.out (by omega)]
                have : ¬ kw = 0 := fun h => hsame ⟨by omega, h⟩
                rw [decide_eq_false this]
              replace hk0 := Lib.hid hk0; replace hsame := Lib.hid hsame
              go_wp2_with fail
              go_big_quiet ((go_at_call 36; first | with_reducible exact Z1.out.1 _ | with_reducible exact Z1.out.2 _ | with_reducible exact Z2.out.1 _ | with_reducible exact Z2.out.2 _))
              go_wp2_with fail
              refine (Z3.out _).mono ?_
              rintro e w4 ⟨rfl, rfl⟩
              have u3' := u3 nq
              have u5' := u5 nq
              go_wp2_with fail
              go_roundw
              case rel =>
                have hz3 := hZZ.out; have hs3 := hSS.out
                refine ⟨j + 1, S + (ka + 1), by omega, by go_num, by go_num, by go_num, by go_num, Lib.hid (hnx2.out _)⟩
              case measure => simp [intOf]; omega
          · have z3 : (kb != n.b) = true := bne_iff_ne.2 h3
            have hb := hbad.out (.inr (.inr h3))
            replace h3 := Lib.hid h3; replace hb := Lib.hid hb
            rcases Nat.eq_zero_or_pos kl with hk0 | hk0
            · replace hkbs := Lib.hid hkbs; subst hk0
              replace hsame := Lib.hid hsame
              go_wp2_with fail
              go_big_quiet ((go_at_call 36; first | with_reducible exact Z1.out.1 _ | with_reducible exact Z1.out.2 _ | with_reducible exact Z2.out.1 _ | with_reducible exact Z2.out.2 _))
              go_wp2_with fail
              go_ret
              exact hout.out _ _ hb.out
            · have hkp : 0 < kl := hk0
              obtain rfl : kbs = false := by
                rw [hkbs.out (by omega)]
                have : ¬ kw = 0 := fun h => hsame ⟨by omega, h⟩
                rw [decide_eq_false this]
              replace hk0 := Lib.hid hk0; replace hsame := Lib.hid hsame
              go_wp2_with fail
              go_big_quiet ((go_at_call 36; first | with_reducible exact Z1.out.1 _ | with_reducible exact Z1.out.2 _ | with_reducible exact Z2.out.1 _ | with_reducible exact Z2.out.2 _))
              go_wp2_with fail
              go_ret
              exact hout.out _ _ hb.out
    · have hje : j = len := by omega
      subst hje
      have hfin : RB = decide (S - 1 = n.a) := by
        have hs := hR.out.s
        rw [hln.out, List.take_length] at hs
        have hr := hR.out.r
        rw [hln.out, List.drop_length, rightL_nil] at hr
        have e1 : n.sz n.way = n.a := by rw [hway.out]; rfl
        rw [hRB.out, hr, ← hs, e1, decide_eq_false h0, Bool.false_or, Bool.true_and]
        exact decide_eq_decide.2 ⟨fun h => by omega, fun h => ⟨by omega, by omega⟩⟩
      have CZ := sizeR n.g n.a n.b true wr f3 f4
      simp only [if_true, Bool.false_eq_true, if_false] at CZ
      unfold ptr at CZ
      replace CZ := Lib.hid CZ; replace hfin := Lib.hid hfin; replace hm := Lib.hid hm
      clear c1 c2 c3 c4 c5 c6
      have hse : (j : Int) - 1 + S - j = S - 1 := by omega
      rw [hse]
      go_wp2_with fail
      refine CZ.out.mono ?_
      rintro e w2 ⟨rfl, rfl⟩
      go_wp2_with fail
      go_ret
      refine ⟨?_, m, hm.out⟩
      rw [hfin.out]
      by_cases h : S - 1 = n.a <;> simp [h]

structure RK1 (w : World) (n : Nd) (ks : List T) (x y : Int) (j : Nat) (S : Int) (wr : World) : Prop where
  g : ∃ m, wr = w.drewN m
  s : S = ((ks.take j).map fun k => k.sz n.way + 1).sum
  r : rightL n ks x y = rightL n (ks.drop j) x (y + S)
  u : 0 ≤ S ∧ y + S ≤ 3000000000
theorem RK1.next {w : World} {n : Nd} {ks : List T} {x y : Int} {j : Nat} {S : Int} {wr w2 : World} (h : RK1 w n ks x y j S wr) {k : T} (hk : ks[j]? = some k) (hw : n.way = 1)
    (h1 : k.right x (y + S) = true) (h2 : ¬ (k.ks.length ≠ 0 ∧ k.n.way = 1)) (h3 : k.n.a = n.a) (hbd : k.bd) (g2 : ∃ m, w2 = wr.drewN m) (a : Int) (ha : a = k.n.b) : RK1 w n ks x y (j + 1) (S + (a + 1)) w2 := by
  subst ha
  have hs := h.s
  have e1 : k.sz n.way = k.n.b := by rw [hw]; rfl
  have e2 : k.sz (1 - n.way) = k.n.a := by rw [hw]; rfl
  have e3 : n.sz (1 - n.way) = n.a := by rw [hw]; rfl
  refine ⟨?_, ?_, ?_, ?_⟩
  · obtain ⟨m, hm⟩ := h.g
    obtain ⟨m2, hm2⟩ := g2
    exact ⟨m + m2, by rw [hm2, hm]; simp⟩
  · rw [take_succ' hk, List.map_append, List.sum_append, ← hs]
    simp [e1]
  · rw [h.r, drop_cons hk, rightL_cons, h1, e1, e2, e3, hw, if_neg (by decide), if_neg (by decide)]
    rw [decide_eq_true h3, decide_eq_false h2]
    simp [Int.add_assoc]
  · obtain ⟨n', ks'⟩ := k
    rw [T.right_mk] at h1
    have h4 := of_decide_eq_true (Bool.and_eq_true_iff.1 h1).1
    have h5 := hbd n' (by rw [T.nds_mk]; simp)
    have h6 := h.u
    show 0 ≤ S + (n'.b + 1) ∧ y + (S + (n'.b + 1)) ≤ 3000000000
    obtain ⟨q1, q2, q3, q4⟩ := h4
    obtain ⟨⟨p1, p2⟩, ⟨p3, p4⟩, ⟨p5, p6⟩, ⟨p7, p8⟩, _⟩ := h5
    omega
set_option maxHeartbeats 4000000 in
set_option maxRecDepth 100000 in
theorem rightR_good1 (n : Nd) (ks : List T) (hway : n.way = 1) (ih : ∀ k ∈ ks, ∀ (x y : Int) (w : World), RP w k → k.bd → k.leaves.length ≤ 100000 → 0 ≤ x ∧ x ≤ 3000000000 → 0 ≤ y ∧ y ≤ 3000000000 → Calls Tryz.prog 48 #[ptr k.g, .int .i64 x, .int .i64 y] w fun e w' => e = .returned (.bool (k.right x y)) ∧ ∃ m, w' = w.drewN m)
    (x y : Int) (w : World) (hT : RP w (.mk n ks)) (hbd : (T.mk n ks).bd) (hlv : (T.mk n ks).leaves.length ≤ 100000) (hx1 : n.x = x) (hy1 : n.y = y) (ha1 : 1 ≤ n.a) (hb1' : 1 ≤ n.b) :
    Calls Tryz.prog 48 #[ptr n.g, .int .i64 x, .int .i64 y] w fun e w' => e = .returned (.bool (decide (ks.length = 0) || (rightL n ks x y && decide (1 < ks.length ∧ (ks.map fun k => k.sz n.way + 1).sum = n.sz n.way + 1)))) ∧ ∃ m, w' = w.drewN m := by
  have hAt := hT.at_
  have hK := RPs_iff.1 hT.kids
  have c1 := hAt.c1; have c2 := hAt.c2; have c3 := hAt.c3; have c4 := hAt.c4; have c5 := hAt.c5; have c6 := hAt.c6
  obtain ⟨b1, b2, b3, b4, b5⟩ := hbd n (by rw [T.nds_mk]; simp)
  have e1 : (n.x != x) = false := by rw [hx1]; simp
  have e2 : (n.y != y) = false := by rw [hy1]; simp
  rw [hx1] at b1; rw [hy1] at b2
  have hll := Nat.le_trans (kids_leaves (n := n)) hlv
  have hbs : ks.length ≠ 0 → bsd n ks.length = false := fun h => by rw [bsd_eq h b5, hway]; rfl
  obtain ⟨bs, hbs2⟩ : ∃ bs, bs = bsd n ks.length := ⟨_, rfl⟩
  rw [← hbs2] at c5 hbs
  obtain ⟨len, hln⟩ : ∃ len, len = ks.length := ⟨_, rfl⟩
  rw [← hln] at c6 hll hbs ⊢
  obtain ⟨AA, hAA⟩ : ∃ AA, AA = adr n.A := ⟨_, rfl⟩
  rw [← hAA] at c6
  obtain ⟨RB, hRB⟩ : ∃ RB, RB = (decide (len = 0) || (rightL n ks x y && decide (1 < len ∧ (ks.map fun k => k.sz n.way + 1).sum = n.sz n.way + 1))) := ⟨_, rfl⟩
  rw [← hRB]
  have hR0 : RK1 w n ks x y 0 0 w := ⟨⟨0, rfl⟩, by simp, by simp, by omega⟩
  replace hT := Lib.hid hT; replace hAt := Lib.hid hAt; replace hK := Lib.hid hK; replace ih := Lib.hid ih; replace hbd := Lib.hid hbd; replace hln := Lib.hid hln; replace hAA := Lib.hid hAA; replace hRB := Lib.hid hRB; replace hlv := Lib.hid hlv; replace hbs := Lib.hid hbs; replace hbs2 := Lib.hid hbs2; replace hR0 := Lib.hid hR0
  replace b5 := Lib.hid b5; replace hway := Lib.hid hway; replace hx1 := Lib.hid hx1; replace hy1 := Lib.hid hy1
  unfold ptr
  go_enter Tryz.func48, Tryz.ntmps48
  by_cases h0 : len = 0
  · subst h0
    go_wp2_with fail
    go_ret
    exact ⟨by rw [hRB.out]; simp, 0, rfl⟩
  have h0' : ((len : Int) == 0) = false := beq_eq_false_iff_ne.2 (by omega)
  obtain rfl := hbs.out h0
  by_cases hone : len = 1
  · subst hone
    go_wp2_with fail
    go_ret
    exact ⟨by rw [hRB.out]; simp, 0, rfl⟩
  have h1' : ((len : Int) == 1) = false := beq_eq_false_iff_ne.2 (by omega)
  go_wp2_with fail
  go_loopw [1, 2, 7, 8] (fun xv yv sv iv wr => ∃ (j : Nat) (S : Int), j ≤ len ∧ xv = .int .i64 x ∧ yv = .int .i64 (y + S) ∧ sv = .int .i64 ((len : Int) - 1 + S - j) ∧ iv = .int .i64 j ∧ Hid (RK1 w n ks x y j S wr)) (fun _ _ _ iv _ => len - (intOf iv).toNat)
  case atStart => exact ⟨0, 0, Nat.zero_le _, by simp, by simp, by simp, rfl, hR0⟩
  case round =>
    obtain ⟨j, S, hj, rfl, rfl, rfl, rfl, hR⟩ := hrel
    obtain ⟨m, hm⟩ := hR.out.g
    have f3 : wr.cell? ⟨n.g, 3, none⟩ = some (.int .i64 n.a) := by rw [hm]; exact c3
    have f4 : wr.cell? ⟨n.g, 4, none⟩ = some (.int .i64 n.b) := by rw [hm]; exact c4
    have f5 : wr.cell? ⟨n.g, 5, none⟩ = some (.bool false) := by rw [hm]; exact c5
    have f6 : wr.cell? ⟨n.g, 6, none⟩ = some (.slice AA len n.c) := by rw [hm]; exact c6
    have hu := hR.out.u
    by_cases hlt : j < len
    · obtain ⟨k, hk⟩ : ∃ k, ks[j]? = some k := ⟨ks[j]'(by rw [← hln.out]; exact hlt), List.getElem?_eq_getElem _⟩
      obtain ⟨b, hA, hc⟩ := hAt.out.kid hk
      have hmem : k ∈ ks := List.mem_of_getElem? hk
      have hc' : wr.cell? ⟨b, j, none⟩ = some (ptr k.g) := by rw [hm]; exact hc
      have hTk : RP wr k := by rw [hm]; exact RP_drewN m (hK.out k hmem)
      have hbk : k.bd := hbd.out.k hmem
      have hAtk : RAt wr k.n k.ks := by cases k; exact hTk.at_
      have hkg : k.n.g = k.g := by cases k; rfl
      have e3 := hAtk.c3; have e4 := hAtk.c4; have e5 := hAtk.c5; have e6 := hAtk.c6
      have hsmk := hAtk.small
      obtain ⟨q1, q2, q3, q4, q5⟩ := hbk k.n (by cases k; rw [T.nds_mk]; simp [T.n])
      obtain ⟨kl, hkl⟩ : ∃ kl, kl = k.ks.length := ⟨_, rfl⟩
      obtain ⟨kA, hkA⟩ : ∃ kA, kA = adr k.n.A := ⟨_, rfl⟩
      obtain ⟨kw, hkw⟩ : ∃ kw, kw = k.n.way := ⟨_, rfl⟩
      obtain ⟨ka, hka⟩ : ∃ ka, ka = k.n.a := ⟨_, rfl⟩
      obtain ⟨kb, hkb⟩ : ∃ kb, kb = k.n.b := ⟨_, rfl⟩
      obtain ⟨kc, hkc⟩ : ∃ kc, kc = k.n.c := ⟨_, rfl⟩
      have hkbs : kl ≠ 0 → bsd k.n k.ks.length = decide (kw = 0) := fun h => by rw [bsd_eq (by rw [← hkl]; exact h) q5, hkw]
      obtain ⟨kbs, hkbs2⟩ : ∃ z, z = bsd k.n k.ks.length := ⟨_, rfl⟩
      rw [← hkbs2] at hkbs e5
      rw [← hkl, ← hkA, ← hkc, hkg] at e6
      rw [← hkl] at hsmk
      rw [hkg] at e5
      rw [← hka, hkg] at e3
      rw [← hkb, hkg] at e4
      rw [← hka] at q3
      rw [← hkb] at q4
      rw [← hkw] at q5
      have hAb : AA = some ⟨b, 0, none⟩ := by rw [hAA.out, hA]; rfl
      subst hAb
      have CK := ih.out k hmem x (y + S) wr hTk hbk (Nat.le_trans (kid_leaves hmem) hlv.out) (by omega) (by omega)
      obtain ⟨r, hr⟩ : ∃ r, r = k.right x (y + S) := ⟨_, rfl⟩
      rw [← hr] at CK
      have hbad : (r = false ∨ (kl ≠ 0 ∧ kw = 1) ∨ k.n.a ≠ n.a) → RB = false := fun hb => by
        have hrl : rightL n ks x y = false := by
          rw [hR.out.r, drop_cons hk, rightL_cons, hway.out, ← hr, ← hkl, ← hkw]
          rcases hb with hb | hb | hb
          · rw [hb]; rfl
          · rw [decide_eq_true hb]; simp
          · have : ¬ (k.sz (1 - 1) = n.sz (1 - 1)) := hb
            rw [decide_eq_false this]; simp
        rw [hRB.out, hrl]
        simp [h0]
      have hgood : ∀ w2, (∃ m, w2 = wr.drewN m) → r = true → ¬ (kl ≠ 0 ∧ kw = 1) → k.n.a = n.a → RK1 w n ks x y (j + 1) (S + (kb + 1)) w2 := fun w2 g2 h1 h2 h3 =>
        hR.out.next hk hway.out (by rw [← hr]; exact h1) (by rw [← hkl, ← hkw]; exact h2) h3 hbk g2 _ hkb
      rw [← hka] at hbad hgood
      obtain ⟨kg, hkg2⟩ : ∃ kg, kg = k.g := ⟨_, rfl⟩
      rw [← hkg2] at CK hc' e3 e4 e5 e6
      obtain ⟨ZZ, hZZ⟩ : ∃ ZZ, ZZ = (y + S) := ⟨_, rfl⟩
      rw [← hZZ] at CK ⊢
      have hZ4 : 0 ≤ ZZ ∧ ZZ ≤ 3000000000 := by omega
      obtain ⟨SS, hSS⟩ : ∃ SS, SS = (len : Int) - 1 + S - j := ⟨_, rfl⟩
      rw [← hSS]
      have hS4 : 0 ≤ SS ∧ SS ≤ 4000000000 := by omega
      have gm : ∃ m, wr = w.drewN m := ⟨m, hm⟩
      replace hbad := Lib.hid hbad; replace hgood := Lib.hid hgood; replace hr := Lib.hid hr; replace CK := Lib.hid CK; replace hkbs := Lib.hid hkbs; replace hkbs2 := Lib.hid hkbs2; replace hm := Lib.hid hm; replace gm := Lib.hid gm
      replace hk := Lib.hid hk; replace hA := Lib.hid hA; replace hkl := Lib.hid hkl; replace hkA := Lib.hid hkA; replace hkw := Lib.hid hkw; replace hka := Lib.hid hka; replace hkb := Lib.hid hkb; replace hkc := Lib.hid hkc; replace hkg := Lib.hid hkg; replace hTk := Lib.hid hTk; replace hbk := Lib.hid hbk; replace hAtk := Lib.hid hAtk; replace hkg2 := Lib.hid hkg2; replace hZZ := Lib.hid hZZ; replace hSS := Lib.hid hSS
      clear hc
      unfold ptr at CK hc'
      go_upto_region 13 with fail
      refine CK.out.mono ?_
      rintro e w2 ⟨rfl, hw2⟩
      have d3 : w2.cell? ⟨n.g, 3, none⟩ = some (.int .i64 n.a) := by obtain ⟨m2, rfl⟩ := hw2; exact f3
      have d4 : w2.cell? ⟨n.g, 4, none⟩ = some (.int .i64 n.b) := by obtain ⟨m2, rfl⟩ := hw2; exact f4
      have d5 : w2.cell? ⟨n.g, 5, none⟩ = some (.bool false) := by obtain ⟨m2, rfl⟩ := hw2; exact f5
      have g3 : w2.cell? ⟨kg, 3, none⟩ = some (.int .i64 ka) := by obtain ⟨m2, rfl⟩ := hw2; exact e3
      have g4 : w2.cell? ⟨kg, 4, none⟩ = some (.int .i64 kb) := by obtain ⟨m2, rfl⟩ := hw2; exact e4
      have g5 : w2.cell? ⟨kg, 5, none⟩ = some (.bool kbs) := by obtain ⟨m2, rfl⟩ := hw2; exact e5
      have g6 : w2.cell? ⟨kg, 6, none⟩ = some (.slice kA kl kc) := by obtain ⟨m2, rfl⟩ := hw2; exact e6
      have Z1 := Lib.hid (sizeRN kg ka kb w2 g3 g4)
      have Z2 := Lib.hid (sizeRN n.g n.a n.b w2 d3 d4)
      have hout : ∀ k3 B, RB = B → (Ending.returned (Value.bool B) = .returned (.bool RB) ∧ ∃ m, w2.drewN k3 = w.drewN m) := fun k3 B hB => by
        obtain ⟨m1, h1⟩ := gm.out
        obtain ⟨m2, h2⟩ := hw2
        exact ⟨by rw [hB], m1 + m2 + k3, by rw [h2, h1]; simp⟩
      have hnx : ∀ k3, r = true → ¬ (kl ≠ 0 ∧ kw = 1) → ka = n.a → RK1 w n ks x y (j + 1) (S + (kb + 1)) (w2.drewN k3) := fun k3 => hgood.out _ (by
        obtain ⟨m2, h2⟩ := hw2
        exact ⟨m2 + k3, by rw [h2]; simp⟩)
      replace hw2 := Lib.hid hw2; replace hout := Lib.hid hout; replace hnx := Lib.hid hnx
      clear CK f3 f4 f5 e3 e4 e5 e6 c1 c2 c3 c4 c5 c6
      cases r
      · go_wp2_with fail
        go_big_quiet ((go_at_call 36; fail))
        go_wp2_with fail
        go_ret
        exact hout.out _ _ (hbad.out (by simp))
      · by_cases hsame : kl ≠ 0 ∧ kw = 1
        · have hkp : 0 < kl := by omega
          obtain rfl : kbs = false := by rw [hkbs.out hsame.1, hsame.2]; rfl
          have hb := hbad.out (.inr (.inl hsame))
          replace hsame := Lib.hid hsame; replace hb := Lib.hid hb
          go_wp2_with fail
          go_big_quiet ((go_at_call 36; fail))
          go_wp2_with fail
          go_ret
          exact hout.out _ _ hb.out
        · by_cases h3 : ka = n.a
          · have z3 : (ka != n.a) = false := by rw [h3]; simp
            have hnx2 := fun k3 => hnx.out k3 rfl hsame h3
            have Z3 := Lib.hid (fun k3 => (sizeR kg ka kb false (w2.drewN k3) g3 g4))
            have u3 : ∀ k3, (w2.drewN k3).cell? ⟨kg, 4, none⟩ = some (.int .i64 kb) := fun _ => g4
            have u5 : ∀ k3, (w2.drewN k3).cell? ⟨n.g, 5, none⟩ = some (.bool false) := fun _ => d5
            simp only [if_true, Bool.false_eq_true, if_false] at Z3
            replace h3 := Lib.hid h3; replace hnx2 := Lib.hid hnx2
            rcases Nat.eq_zero_or_pos kl with hk0 | hk0
            · replace hkbs := Lib.hid hkbs; subst hk0
              replace hsame := Lib.hid hsame
              go_wp2_with fail
              go_big_quiet ((go_at_call 36; first | with_reducible exact Z1.out.1 _ | with_reducible exact Z1.out.2 _ | with_reducible exact Z2.out.1 _ | with_reducible exact Z2.out.2 _))
              go_wp2_with fail
              refine (Z3.out _).mono ?_
              rintro e w4 ⟨rfl, rfl⟩
              have u3' := u3 nq
              have u5' := u5 nq
              go_wp2_with fail
              go_roundw
              case rel =>
                have hz3 := hZZ.out; have hs3 := hSS.out
                refine ⟨j + 1, S + (kb + 1), by omega, by go_num, by go_num, by go_num, by go_num, Lib.hid (hnx2.out _)⟩
              case measure => simp [intOf]; omega
            · have hkp : 0 < kl := hk0
              obtain rfl : kbs = true := by
                rw [hkbs.out (by omega)]
                have : ¬ kw = 1 := fun h => hsame ⟨by omega, h⟩
                rw [decide_eq_true (by omega : kw = 0)]
              replace hk0 := Lib.hid hk0; replace hsame := Lib.hid hsame
              go_wp2_with fail
              go_big_quiet ((go_at_call 36; first | with_reducible exact Z1.out.1 _ | with_reducible exact Z1.out.2 _ | with_reducible exact Z2.out.1 _ | with_reducible exact Z2.out.2 _))
              go_wp2_with fail
              refine (Z3.out _).mono ?_
              rintro e w4 ⟨rfl, rfl⟩
              have u3' := u3 nq
              have u5' := u5 nq
              go_wp2_with fail
              go_roundw
              case rel =>
                have hz3 := hZZ.out; have hs3 := hSS.out
                refine ⟨j + 1, S + (kb + 1), by omega, by go_num, by go_num, by go_num, by go_num, Lib.hid (hnx2.out _)⟩
              case measure => simp [intOf]; omega
          · have z3 : (ka != n.a) = true := bne_iff_ne.2 h3
            have hb := hbad.out (.inr (.inr h3))
            replace h3 := Lib.hid h3; replace hb := Lib.hid hb
            rcases Nat.eq_zero_or_pos kl with hk0 | hk0
            · replace hkbs := Lib.hid hkbs; subst hk0
              replace hsame := Lib.hid hsame
              go_wp2_with fail
              go_big_quiet ((go_at_call 36; first | with_reducible exact Z1.out.1 _ | with_reducible exact Z1.out.2 _ | with_reducible exact Z2.out.1 _ | with_reducible exact Z2.out.2 _))
              go_wp2_with fail
              go_ret
              exact hout.out _ _ hb.out
            · have hkp : 0 < kl := hk0
              obtain rfl : kbs = true := by
                rw [hkbs.out (by omega)]
                have : ¬ kw = 1 := fun h => hsame ⟨by omega, h⟩
                rw [decide_eq_true (by omega : kw = 0)]
              replace hk0 := Lib.hid hk0; replace hsame := Lib.hid hsame
              go_wp2_with fail
              go_big_quiet ((go_at_call 36; first | with_reducible exact Z1.out.1 _ | with_reducible exact Z1.out.2 _ | with_reducible exact Z2.out.1 _ | with_reducible exact Z2.out.2 _))
              go_wp2_with fail
              go_ret
              exact hout.out _ _ hb.out
    · have hje : j = len := by omega
      subst hje
      have hfin : RB = decide (S - 1 = n.b) := by
        have hs := hR.out.s
        rw [hln.out, List.take_length] at hs
        have hr := hR.out.r
        rw [hln.out, List.drop_length, rightL_nil] at hr
        have e1 : n.sz n.way = n.b := by rw [hway.out]; rfl
        rw [hRB.out, hr, ← hs, e1, decide_eq_false h0, Bool.false_or, Bool.true_and]
        exact decide_eq_decide.2 ⟨fun h => by omega, fun h => ⟨by omega, by omega⟩⟩
      have CZ := sizeR n.g n.a n.b false wr f3 f4
      simp only [if_true, Bool.false_eq_true, if_false] at CZ
      unfold ptr at CZ
      replace CZ := Lib.hid CZ; replace hfin := Lib.hid hfin; replace hm := Lib.hid hm
      clear c1 c2 c3 c4 c5 c6
      have hse : (j : Int) - 1 + S - j = S - 1 := by omega
      rw [hse]
      go_wp2_with fail
      refine CZ.out.mono ?_
      rintro e w2 ⟨rfl, rfl⟩
      go_wp2_with fail
      go_ret
      refine ⟨?_, m, hm.out⟩
      rw [hfin.out]
      by_cases h : S - 1 = n.b <;> simp [h]

theorem rightR_any : ∀ (t : T) (x y : Int) (w : World), RP w t → t.bd → t.leaves.length ≤ 100000 → 0 ≤ x ∧ x ≤ 3000000000 → 0 ≤ y ∧ y ≤ 3000000000 →
    Calls Tryz.prog 48 #[ptr t.g, .int .i64 x, .int .i64 y] w fun e w' => e = .returned (.bool (t.right x y)) ∧ ∃ k, w' = w.drewN k := by
  intro t
  induction t using T.ind with
  | h n ks ih =>
    intro x y w hT hbd hlv hx hy
    rw [T.right_mk]
    by_cases hg : n.x = x ∧ n.y = y ∧ 1 ≤ n.a ∧ 1 ≤ n.b
    · rw [decide_eq_true hg, Bool.true_and]
      obtain ⟨h1, h2, h3, h4⟩ := hg
      rcases (hbd n (by rw [T.nds_mk]; simp)).2.2.2.2 with hw | hw
      · exact rightR_good0 n ks hw ih x y w hT hbd hlv h1 h2 h3 h4
      · exact rightR_good1 n ks hw ih x y w hT hbd hlv h1 h2 h3 h4
    · rw [decide_eq_false hg, Bool.false_and]
      exact rightR_bad n ks x y w hT hg
end Go.Proofs.YtcklmkjlbpjojaaGreatDoor
