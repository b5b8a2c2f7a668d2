/- Key: bracket. -/
import Derived.Test.YtncokbppijnfiaaGreatDoorC7
namespace Go.Proofs.YtncokbppijnfiaaGreatDoor
open Go.RowKit
set_option linter.unusedSimpArgs false
set_option linter.unusedVariables false

theorem tw_facts (p : UInt8 → Bool) : ∀ l : List UInt8, (∀ j, j < (l.takeWhile p).length → ∃ c, l[j]? = some c ∧ p c = true) ∧ (l.takeWhile p).length ≤ l.length ∧ ((l.takeWhile p).length = l.length ∨ ∃ c, l[(l.takeWhile p).length]? = some c ∧ p c = false)
  | [] => ⟨fun j h => by simp at h, by simp, .inl rfl⟩
  | c :: l => by
    obtain ⟨h1, h2, h3⟩ := tw_facts p l
    rw [List.takeWhile_cons]
    by_cases hc : p c = true
    · rw [if_pos hc]
      refine ⟨fun j hj => ?_, by simpa using h2, ?_⟩
      · cases j with
        | zero => exact ⟨c, rfl, hc⟩
        | succ j => simpa using h1 j (by simpa using hj)
      · rcases h3 with h3 | h3
        · left; simpa using h3
        · right; simpa using h3
    · rw [if_neg hc]
      exact ⟨fun j h => by simp at h, by simp, .inr ⟨c, rfl, by simpa using hc⟩⟩
/-- Where a sequence's parameters end. -/
def brK (b : List UInt8) : Nat := 2 + (((b.drop 2).take 31).takeWhile parB).length
theorem brK_facts (b : List UInt8) (hb : 2 ≤ b.length) : 2 ≤ brK b ∧ brK b ≤ b.length ∧ brK b ≤ 33 ∧ (∀ j, 2 ≤ j → j < brK b → ∃ c, b[j]? = some c ∧ parB c = true) ∧ (brK b = b.length ∨ brK b = 33 ∨ ∃ c, b[brK b]? = some c ∧ parB c = false) := by
  obtain ⟨h1, h2, h3⟩ := tw_facts parB ((b.drop 2).take 31)
  have hl : ((b.drop 2).take 31).length = min 31 (b.length - 2) := by rw [List.length_take, List.length_drop]
  unfold brK
  generalize (((b.drop 2).take 31).takeWhile parB).length = K at *
  rw [hl] at h2 h3
  refine ⟨by omega, by omega, by omega, fun j hj hK => ?_, ?_⟩
  · obtain ⟨c, hc, hp⟩ := h1 (j - 2) (by omega)
    rw [List.getElem?_take, if_pos (by omega), List.getElem?_drop] at hc
    exact ⟨c, by rw [← hc]; congr 1; omega, hp⟩
  · rcases h3 with h3 | ⟨c, hc, hp⟩
    · rcases Nat.le_total 31 (b.length - 2) with h | h
      · right; left; omega
      · left; omega
    · rw [List.getElem?_take] at hc
      split at hc
      · rw [List.getElem?_drop] at hc
        exact .inr (.inr ⟨c, hc, hp⟩)
      · cases hc
set_option maxHeartbeats 1000000 in
set_option maxRecDepth 100000 in
theorem bracket_any (b : List UInt8) (A : Option Addr) (n cap : Nat) (up : Bool) (w : World) (hW : Wd w) (hn : n = b.length) (h2 : 2 ≤ n) (hbig : n ≤ 1000000) (hcap : n ≤ cap) (hR : Rd w A (bs b))
    (hSq : ∀ z, b[brK b]? = some z → 64 ≤ z.toNat → z.toNat ≤ 126 → ∀ W, Wd W → Calls Tryz.prog 75 #[.string (st ((b.take (brK b)).drop 2)), .int .u8 (z.toNat : Int)] W fun e w' => e = .returned (.tuple #[msV (sequenceL ((b.take (brK b)).drop 2) z).1, .bool (sequenceL ((b.take (brK b)).drop 2) z).2]) ∧ W.grownBy w' none) :
    Calls Tryz.prog 61 #[.slice A n cap, .bool up] w fun e w' => e = .returned (.tuple #[msV (bracketL b up).1, .int .i64 (bracketL b up).2.1, .int .i64 (bracketL b up).2.2]) ∧ w.grownBy w' none := by
  have hres : Tryz.f61.results = #[.cell 4 40, .tmp 5, .tmp 6] := by kernel_rfl
  obtain ⟨k1, k2, k3, k4, k5⟩ := brK_facts b (by omega)
  obtain ⟨K, hK⟩ : ∃ K, K = brK b := ⟨_, rfl⟩
  obtain ⟨BL, hBL⟩ : ∃ r, r = bracketL b up := ⟨_, rfl⟩
  rw [← hK] at k1 k2 k3 k4 k5 hSq
  rw [← hBL]
  have hK2 : BL = ((if 32 < K then (msOne 91 2, 2, 2)
  else match b[K]? with
    | none => if up then (msOne 91 2, 2, 2) else (msNone, 0, 0)
    | some z => if 64 ≤ z.toNat ∧ z.toNat ≤ 126 then (if (sequenceL ((b.take K).drop 2) z).2 then ((sequenceL ((b.take K).drop 2) z).1, 2, K + 1) else (msNone, 1, K + 1)) else (msOne 91 2, 2, 2)) : Ms × Int × Nat) := by
    rw [hBL, hK]; rfl
  rw [← hn] at k2 k5
  obtain ⟨z0, hz0⟩ : ∃ z, b[0]? = some z := ⟨b[0]'(by omega), List.getElem?_eq_getElem _⟩
  have hbs : ∀ (j : Nat) (c : UInt8), b[j]? = some c → (bs b)[j]? = some (.int .u8 (c.toNat : Int)) := fun j c h => by rw [bs, List.getElem?_map, h]; rfl
  obtain ⟨B, off, rfl, _, _⟩ := hR.at_ (hbs 0 z0 hz0)
  have hcell : ∀ (j : Nat) (c : UInt8), b[j]? = some c → w.cell? ⟨B, off + j, none⟩ = some (.int .u8 (c.toNat : Int)) := fun j c h => by
    obtain ⟨b', o', e, _, hc⟩ := hR.at_ (hbs j c h)
    cases e; exact hc
  obtain ⟨W0, hW0⟩ : ∃ W, W = w.alloc (.cells #[.int .i64 0, .int .i64 0, .int .i64 0, .int .i64 0, .int .i64 0] 40) := ⟨_, rfl⟩
  have g0 : w.grownBy W0 none := by rw [hW0]; exact World.grownBy_alloc _ _ _
  obtain ⟨bR, hbR⟩ : ∃ n, n = w.heap.size := ⟨_, rfl⟩
  have hR0 : MC W0 bR msNone := by rw [hW0, hbR]; exact MC.new w msNone
  replace hW := Lib.hid hW; replace hres := Lib.hid hres; replace hW0 := Lib.hid hW0; replace hbR := Lib.hid hbR; replace hR0 := Lib.hid hR0; replace g0 := Lib.hid g0; replace hcell := Lib.hid hcell; replace hK := Lib.hid hK; replace hBL := Lib.hid hBL; replace hK2 := Lib.hid hK2; replace hSq := Lib.hid hSq; replace hn := Lib.hid hn; replace hbs := Lib.hid hbs; replace k4 := Lib.hid k4; replace k5 := Lib.hid k5; replace hR := Lib.hid hR; replace hz0 := Lib.hid hz0
  go_enter Tryz.func61, Tryz.ntmps61
  go_wp2_with fail
  rw [← hW0.out, ← hbR.out]
  have C1 : Hid (∀ W, Calls Tryz.prog 60 #[.int .i64 91, .int .i64 2] W fun e w' => e = .returned (msV (msOne 91 2)) ∧ W.grownBy w' none) := Lib.hid fun W => one_any 91 2 W
  have hcW : Hid (∀ (j : Nat) (c : UInt8), b[j]? = some c → W0.cell? ⟨B, off + j, none⟩ = some (.int .u8 (c.toNat : Int))) := Lib.hid fun j c h => g0.out.cell (hcell.out j c h) (by simp)
  obtain ⟨x0, x1, x2, x3, x4, x5⟩ := hR0.out.cells
  have f0 := x5 0; have f1 := x5 1; have f2 := x5 2; have f3 := x5 3; have f4 := x5 4
  clear x5
  -- the way out by '['
  have hOut : Hid (∀ W, W0.grownBy W none → BL = (msOne 91 2, 2, 2) → MC W bR msNone ∧ w.grownBy W none) := Lib.hid fun W g _ => ⟨hR0.out.grown g, g0.out.trans g⟩
  go_loopw [7] (fun kv wr => ∃ k : Nat, kv = .int .i64 k ∧ 2 ≤ k ∧ k ≤ K ∧ wr = W0) (fun kv _ => K - (match kv with | .int _ i => i | _ => 0).toNat)
  case atStart => exact ⟨2, rfl, by omega, k1, rfl⟩
  case round =>
    obtain ⟨k, rfl, hk2, hkK, rfl⟩ := hrel
    by_cases hlt : k < K
    · obtain ⟨c, hc, hp⟩ := k4.out k hk2 hlt
      have y := hcW.out k c hc
      obtain ⟨ci, hci⟩ : ∃ i : Int, i = c.toNat := ⟨_, rfl⟩
      rw [← hci] at y
      unfold parB at hp
      simp only [Bool.and_eq_true, decide_eq_true_eq] at hp
      have p1 : 48 ≤ ci := by omega
      have p2 : ci ≤ 63 := by omega
      have hkn : (k : Int) < n := by omega
      replace hci := Lib.hid hci; replace hc := Lib.hid hc; replace hp := Lib.hid hp
      go_wp2_with fail
      exact ⟨⟨k + 1, by go_num, by omega, by omega, by trivial⟩, by simp; omega⟩
    · have hkK : k = K := by omega
      subst hkK
      by_cases h33 : 32 < k
      · have h33' : k = 33 := by omega
        have hb : BL = (msOne 91 2, 2, 2) := by rw [hK2.out, if_pos h33]
        subst h33'
        replace hb := Lib.hid hb
        by_cases hkn : 33 < n
        · have hkn' : (33 : Int) < n := by omega
          go_wp2_with fail
          refine (C1.out _).mono ?_
          rintro e w5 ⟨rfl, g5⟩
          have hR5 := hR0.out.grown g5
          have G5 := g0.out.trans g5
          clear x0 x1 x2 x3 x4 f0 f1 f2 f3 f4
          obtain ⟨x0, x1, x2, x3, x4, x5⟩ := hR5.cells
          have f0 := x5 0; have f1 := x5 1; have f2 := x5 2; have f3 := x5 3; have f4 := x5 4
          replace hR5 := Lib.hid hR5; replace G5 := Lib.hid G5
          clear x5 g5
          go_wp2_with fail
          refine bodyPost_ret (res_ms3 hres.out _ rfl (hR5.out.set5 (msOne 91 2)) rfl rfl) rfl ⟨?_, ?_⟩
          · rw [hb.out]; rfl
          · exact set5_grown (msOne 91 2) G5.out (Nat.le_of_eq hbR.out.symm)
        · have hkn' : n = 33 := by omega
          subst hkn'
          go_wp2_with fail
          refine (C1.out _).mono ?_
          rintro e w5 ⟨rfl, g5⟩
          have hR5 := hR0.out.grown g5
          have G5 := g0.out.trans g5
          clear x0 x1 x2 x3 x4 f0 f1 f2 f3 f4
          obtain ⟨x0, x1, x2, x3, x4, x5⟩ := hR5.cells
          have f0 := x5 0; have f1 := x5 1; have f2 := x5 2; have f3 := x5 3; have f4 := x5 4
          replace hR5 := Lib.hid hR5; replace G5 := Lib.hid G5
          clear x5 g5
          go_wp2_with fail
          refine bodyPost_ret (res_ms3 hres.out _ rfl (hR5.out.set5 (msOne 91 2)) rfl rfl) rfl ⟨?_, ?_⟩
          · rw [hb.out]; rfl
          · exact set5_grown (msOne 91 2) G5.out (Nat.le_of_eq hbR.out.symm)
      by_cases hkn : k = n
      · subst hkn
        have hnone : b[k]? = none := by rw [List.getElem?_eq_none]; rw [← hn.out]; exact Nat.le_refl _
        cases up
        · have hb : BL = (msNone, 0, 0) := by rw [hK2.out, if_neg h33, hnone]; rfl
          replace hb := Lib.hid hb; replace hnone := Lib.hid hnone
          go_wp2_with fail
          refine bodyPost_ret (res_ms3 hres.out _ rfl (hR0.out.set5 msNone) rfl rfl) rfl ⟨?_, ?_⟩
          · rw [hb.out]; rfl
          · exact set5_grown msNone g0.out (Nat.le_of_eq hbR.out.symm)
        · have hb : BL = (msOne 91 2, 2, 2) := by rw [hK2.out, if_neg h33, hnone]; rfl
          replace hb := Lib.hid hb; replace hnone := Lib.hid hnone
          go_wp2_with fail
          refine (C1.out _).mono ?_
          rintro e w5 ⟨rfl, g5⟩
          have hR5 := hR0.out.grown g5
          have G5 := g0.out.trans g5
          clear x0 x1 x2 x3 x4 f0 f1 f2 f3 f4
          obtain ⟨x0, x1, x2, x3, x4, x5⟩ := hR5.cells
          have f0 := x5 0; have f1 := x5 1; have f2 := x5 2; have f3 := x5 3; have f4 := x5 4
          replace hR5 := Lib.hid hR5; replace G5 := Lib.hid G5
          clear x5 g5
          go_wp2_with fail
          refine bodyPost_ret (res_ms3 hres.out _ rfl (hR5.out.set5 (msOne 91 2)) rfl rfl) rfl ⟨?_, ?_⟩
          · rw [hb.out]; rfl
          · exact set5_grown (msOne 91 2) G5.out (Nat.le_of_eq hbR.out.symm)
      have hkl : (k : Int) < n := by omega
      obtain ⟨c, hc⟩ : ∃ c, b[k]? = some c := ⟨b[k]'(by have := hn.out; omega), List.getElem?_eq_getElem _⟩
      have hp : parB c = false := by
        rcases k5.out with h | h | ⟨c', hc', hp'⟩
        · exact absurd h hkn
        · omega
        · rw [hc] at hc'; cases hc'; exact hp'
      have y := hcW.out k c hc
      obtain ⟨ci, hci⟩ : ∃ i : Int, i = c.toNat := ⟨_, rfl⟩
      rw [← hci] at y
      have hp2 : ci < 48 ∨ 63 < ci := by
        unfold parB at hp
        simp at hp
        omega
      replace hp := Lib.hid hp
      by_cases hq : 64 ≤ ci ∧ ci ≤ 126
      · obtain ⟨q1, q2⟩ := hq
        obtain ⟨PS, hPS⟩ : ∃ p, p = (b.take k).drop 2 := ⟨_, rfl⟩
        obtain ⟨SQ, hSQ⟩ : ∃ r, r = sequenceL PS c := ⟨_, rfl⟩
        obtain ⟨SM, SB⟩ := SQ
        have hb : BL = (if SB = true then (SM, 2, k + 1) else (msNone, 1, k + 1)) := by
          rw [hK2.out, if_neg h33, hc]; dsimp only; rw [if_pos (by omega), ← hPS, ← hSQ]
        obtain ⟨S, hS⟩ : ∃ S, S = st PS := ⟨_, rfl⟩
        have hpl : PS.length = k - 2 := by rw [hPS, List.length_drop, List.length_take, ← hn.out]; omega
        have hRP : Rd wr (some ⟨B, off + 2, none⟩) (bs PS) := fun _ => ⟨B, off + 2, rfl, by
            obtain ⟨b', o', e, hl, _⟩ := hR.out.at_ (hbs.out k c hc)
            cases e; exact Nat.lt_of_lt_of_le hl g0.out.size, fun j u hj => by
          rw [bs, List.getElem?_map] at hj
          cases hd : PS[j]? with
          | none => rw [hd] at hj; cases hj
          | some d =>
            rw [hd] at hj
            simp at hj
            subst hj
            have hd2 : b[2 + j]? = some d := by
              rw [hPS, List.getElem?_drop, List.getElem?_take] at hd
              split at hd
              · exact hd
              · cases hd
            have := hcW.out (2 + j) d hd2
            rw [← Nat.add_assoc] at this
            exact this⟩
        have hcv : ∀ W, wr.grownBy W none → (convert 32 9 (.slice (some ⟨B, off + 2, none⟩) (k - 2) (cap - 2))).run Tryz.prog W = .ok (.string S) W := fun W hg => by
          rw [hS]
          exact conv_str W 32 9 5 Tryz.underlying32 Tryz.underlying5 Tryz.underlying9 (some ⟨B, off + 2, none⟩) (k - 2) (cap - 2) PS hpl.symm (hRP.grown hg (.inl rfl))
        have hcv0 := hcv wr.drew (g_drew (World.grownBy.refl wr none))
        have CSq : Hid (∀ W, wr.grownBy W none → Calls Tryz.prog 75 #[.string S, .int .u8 ci] W fun e w' => e = .returned (.tuple #[msV SM, .bool SB]) ∧ W.grownBy w' none) := Lib.hid fun W hg => by
          have := hSq.out c hc (by omega) (by omega) W ((hW.out.grown g0.out).grown hg)
          rw [← hPS, ← hSQ, ← hS, ← hci] at this
          exact this
        replace hb := Lib.hid hb; replace hci := Lib.hid hci; replace hc := Lib.hid hc; replace hPS := Lib.hid hPS; replace hSQ := Lib.hid hSQ; replace hS := Lib.hid hS; replace hpl := Lib.hid hpl; replace hRP := Lib.hid hRP; replace hcv := Lib.hid hcv
        have hk33 : (k : Int) < 33 := by omega
        have hp3 : 63 < ci := by omega
        clear hp2
        have hAll : Hid (∀ w', wr.grownBy w' none → (w'.cell? ⟨B, off + k, none⟩ = some (.int .u8 ci) ∧ (convert 32 9 (.slice (some ⟨B, off + 2, none⟩) (k - 2) (cap - 2))).run Tryz.prog w' = .ok (.string S) w' ∧ wr.grownBy w' none)) := Lib.hid fun w' hg => ⟨hg.cell y (by simp), hcv.out w' hg, hg⟩
        have s1 : (2 : Int) ≤ (k : Int) := by omega
        have s2 : (k : Int) ≤ (cap : Int) := by omega
        have s3 : k ≤ cap := by omega
        have s4 : (0 : Int) ≤ (k : Int) := by omega
        have s5 : ¬ (cap = 2) := by omega
        have hd0 : wr.grownBy wr.drew none := g_drew (World.grownBy.refl wr none)
        have hd1 : ∀ c, wr.grownBy (wr.alloc c).drew none := fun c => g_drew (World.grownBy_alloc wr c none)
        have hd2 : MC (wr.alloc (.cells #[.int .i64 0, .int .i64 0, .int .i64 0, .int .i64 0, .int .i64 0] 40)).drew wr.heap.size msNone := MC.new wr msNone
        go_upto_region 9 with fail
        go_region_held3 (fun w' => w'.cell? ⟨B, off + k, none⟩ = some (.int .u8 ci) ∧ (convert 32 9 (.slice (some ⟨B, off + 2, none⟩) (k - 2) (cap - 2))).run Tryz.prog w' = .ok (.string S) w' ∧ wr.grownBy w' none)
          (first
            | (with_reducible exact hAll.out _ hd0)
            | (with_reducible exact hAll.out _ (hd1 _))
            | (with_reducible exact hAll.out _ (hd0.trans GS))
            | (with_reducible exact hAll.out _ ((hd1 _).trans GS))
            | (with_reducible exact hAll.out _ ((hd0.trans GS).trans (World.grownBy_alloc _ _ _)))
            | (with_reducible exact hAll.out _ (set_grown (set_grown (set_grown (set_grown (set_grown ((hd1 _).trans GS) (Nat.le_refl _)) (Nat.le_refl _)) (Nat.le_refl _)) (Nat.le_refl _)) (Nat.le_refl _)))
            | (with_reducible exact hAll.out _ (set_grown (set_grown (set_grown (set_grown (set_grown ((hd0.trans GS).trans (World.grownBy_alloc _ _ _)) (hd0.trans GS).size) (hd0.trans GS).size) (hd0.trans GS).size) (hd0.trans GS).size) (hd0.trans GS).size))
            | fail)
          ((first
            | (go_at_call 75; refine (CSq.out _ (by first | (with_reducible exact hd0) | (with_reducible exact hd1 _))).mono ?_; rintro e w8 ⟨rfl, GS⟩; try (have hMz : MC w8 wr.heap.size msNone := (hd2 : MC _ _ _).grown GS; obtain ⟨m0, m1, m2, m3, m4, m5⟩ := hMz.cells; have n0 := m5 0; have n1 := m5 1; have n2 := m5 2; have n3 := m5 3; have n4 := m5 4; replace hMz := Lib.hid hMz; clear m5))
            | fail))
        all_goals
          first
            | (have hkw : IntKind.i64.wrap ((k : Int) + 1) = (k : Int) + 1 := by rw [IntKind.wrap_i64]; omega
               have hMf := MC.new w8 SM
               have gF := (hd0.trans GS).trans (World.grownBy_alloc w8 (.cells #[.int .i64 SM.c, .int .i64 SM.m, .int .i64 SM.b, .int .i64 SM.x, .int .i64 SM.y] 40) none)
               obtain ⟨Wf, hWf⟩ : ∃ W, W = w8.alloc (.cells #[.int .i64 SM.c, .int .i64 SM.m, .int .i64 SM.b, .int .i64 SM.x, .int .i64 SM.y] 40) := ⟨_, rfl⟩
               obtain ⟨bM, hbM⟩ : ∃ n, n = w8.heap.size := ⟨_, rfl⟩
               rw [← hWf, ← hbM]
               rw [← hWf, ← hbM] at hMf
               rw [← hWf] at gF
               have hRf := hR0.out.grown gF
               have Gf := g0.out.trans gF
               clear x0 x1 x2 x3 x4 f0 f1 f2 f3 f4
               obtain ⟨x0, x1, x2, x3, x4, x5⟩ := hRf.cells
               obtain ⟨y0, y1, y2, y3, y4, _⟩ := hMf.cells
               have f0 := x5 0; have f1 := x5 1; have f2 := x5 2; have f3 := x5 3; have f4 := x5 4
               replace hRf := Lib.hid hRf; replace Gf := Lib.hid Gf; replace hMf := Lib.hid hMf; replace gF := Lib.hid gF; replace hWf := Lib.hid hWf; replace hbM := Lib.hid hbM; replace GS := Lib.hid GS
               clear x5 hd0 hd1 hd2 hcv0 y
               cases SB
               · go_wp2_with fail
                 refine bodyPost_ret (res_ms3 hres.out _ rfl (hRf.out.set5 msNone) rfl rfl) rfl ⟨?_, ?_⟩
                 · rw [hb.out]; rfl
                 · exact set5_grown msNone Gf.out (Nat.le_of_eq hbR.out.symm)
               · go_wp2_with fail
                 refine bodyPost_ret (res_ms3 hres.out _ rfl (hRf.out.set5 SM) rfl rfl) rfl ⟨?_, ?_⟩
                 · rw [hb.out]; rfl
                 · exact set5_grown SM Gf.out (Nat.le_of_eq hbR.out.symm))
            | (have hkw : IntKind.i64.wrap ((k : Int) + 1) = (k : Int) + 1 := by rw [IntKind.wrap_i64]; omega
               have hMf := hMz.out.set5 SM
               have gF := set5_grown SM ((hd1 _).trans GS) (Nat.le_refl _)
               unfold set5 at hMf gF
               obtain ⟨Wf, hWf⟩ : ∃ W, W = ((((w8.setCell ⟨wr.heap.size, 0, none⟩ (.int .i64 SM.c)).setCell ⟨wr.heap.size, 1, none⟩ (.int .i64 SM.m)).setCell ⟨wr.heap.size, 2, none⟩ (.int .i64 SM.b)).setCell ⟨wr.heap.size, 3, none⟩ (.int .i64 SM.x)).setCell ⟨wr.heap.size, 4, none⟩ (.int .i64 SM.y) := ⟨_, rfl⟩
               obtain ⟨bM, hbM⟩ : ∃ n, n = wr.heap.size := ⟨_, rfl⟩
               rw [← hWf, ← hbM]
               rw [← hWf, ← hbM] at hMf
               rw [← hWf] at gF
               have hRf := hR0.out.grown gF
               have Gf := g0.out.trans gF
               clear x0 x1 x2 x3 x4 f0 f1 f2 f3 f4
               obtain ⟨x0, x1, x2, x3, x4, x5⟩ := hRf.cells
               obtain ⟨y0, y1, y2, y3, y4, _⟩ := hMf.cells
               have f0 := x5 0; have f1 := x5 1; have f2 := x5 2; have f3 := x5 3; have f4 := x5 4
               replace hRf := Lib.hid hRf; replace Gf := Lib.hid Gf; replace hMf := Lib.hid hMf; replace gF := Lib.hid gF; replace hWf := Lib.hid hWf; replace hbM := Lib.hid hbM; replace GS := Lib.hid GS
               clear x5 hd0 hd1 hd2 hcv0 y m0 m1 m2 m3 m4 n0 n1 n2 n3 n4
               cases SB
               · go_wp2_with fail
                 refine bodyPost_ret (res_ms3 hres.out _ rfl (hRf.out.set5 msNone) rfl rfl) rfl ⟨?_, ?_⟩
                 · rw [hb.out]; rfl
                 · exact set5_grown msNone Gf.out (Nat.le_of_eq hbR.out.symm)
               · go_wp2_with fail
                 refine bodyPost_ret (res_ms3 hres.out _ rfl (hRf.out.set5 SM) rfl rfl) rfl ⟨?_, ?_⟩
                 · rw [hb.out]; rfl
                 · exact set5_grown SM Gf.out (Nat.le_of_eq hbR.out.symm))
      · have hb : BL = (msOne 91 2, 2, 2) := by rw [hK2.out, if_neg h33, hc]; dsimp only; rw [if_neg (by omega)]
        replace hb := Lib.hid hb; replace hci := Lib.hid hci; replace hc := Lib.hid hc
        have hq2 : ci < 64 ∨ 126 < ci := by omega
        replace hq := Lib.hid hq
        have hk33 : (k : Int) < 33 := by omega
        have hp3 : ci < 48 ∨ (63 < ci ∧ ci < 64) ∨ 126 < ci := by omega
        rcases hp3 with hp3 | ⟨hp3, hp4⟩ | hp3
        · clear hp2 hq2
          go_wp2_with fail
          refine (C1.out _).mono ?_
          rintro e w5 ⟨rfl, g5⟩
          have hR5 := hR0.out.grown g5
          have G5 := g0.out.trans g5
          clear x0 x1 x2 x3 x4 f0 f1 f2 f3 f4
          obtain ⟨x0, x1, x2, x3, x4, x5⟩ := hR5.cells
          have f0 := x5 0; have f1 := x5 1; have f2 := x5 2; have f3 := x5 3; have f4 := x5 4
          replace hR5 := Lib.hid hR5; replace G5 := Lib.hid G5
          clear x5 g5
          go_wp2_with fail
          refine bodyPost_ret (res_ms3 hres.out _ rfl (hR5.out.set5 (msOne 91 2)) rfl rfl) rfl ⟨?_, ?_⟩
          · rw [hb.out]; rfl
          · exact set5_grown (msOne 91 2) G5.out (Nat.le_of_eq hbR.out.symm)
        · omega
        · clear hp2 hq2
          go_wp2_with fail
          refine (C1.out _).mono ?_
          rintro e w5 ⟨rfl, g5⟩
          have hR5 := hR0.out.grown g5
          have G5 := g0.out.trans g5
          clear x0 x1 x2 x3 x4 f0 f1 f2 f3 f4
          obtain ⟨x0, x1, x2, x3, x4, x5⟩ := hR5.cells
          have f0 := x5 0; have f1 := x5 1; have f2 := x5 2; have f3 := x5 3; have f4 := x5 4
          replace hR5 := Lib.hid hR5; replace G5 := Lib.hid G5
          clear x5 g5
          go_wp2_with fail
          refine bodyPost_ret (res_ms3 hres.out _ rfl (hR5.out.set5 (msOne 91 2)) rfl rfl) rfl ⟨?_, ?_⟩
          · rw [hb.out]; rfl
          · exact set5_grown (msOne 91 2) G5.out (Nat.le_of_eq hbR.out.symm)
end Go.Proofs.YtncokbppijnfiaaGreatDoor
