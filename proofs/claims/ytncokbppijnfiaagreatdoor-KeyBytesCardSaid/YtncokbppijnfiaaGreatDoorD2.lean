/- Key: code: the code of a name. -/
import Derived.Test.YtncokbppijnfiaaGreatDoorD1
namespace Go.Proofs.YtncokbppijnfiaaGreatDoor
open Go.RowKit
set_option linter.unusedSimpArgs false
set_option linter.unusedVariables false

theorem st_toList (l : List UInt8) : (st l).toList = l := ByteArray.toList_mk l
theorem beq_st (a b : List UInt8) : ((st a).toList == (st b).toList) = decide (a = b) := by
  rw [st_toList, st_toList]
  by_cases h : a = b
  · subst h; simp
  · simp [h]
theorem st_inj {a b : List UInt8} (h : st a = st b) : a = b := by rw [← st_data a, ← st_data b, h]
theorem idxFS (s : List UInt8) : ∀ (l : List (List UInt8)) (i : Nat), Lib.idxFromS (l.map st) (st s) i = if s ∈ l then ((i + l.idxOf s : Nat) : Int) else -1
  | [], i => by simp [Lib.idxFromS]
  | a :: l, i => by
    rw [List.map_cons, Lib.idxFromS]
    by_cases h : a = s
    · subst h
      rw [if_pos (by simp), if_pos List.mem_cons_self, List.idxOf_cons_self]; rfl
    · have hne : ¬ st a = st s := fun e => h (st_inj e)
      rw [if_neg (by simpa using hne), idxFS s l (i + 1)]
      by_cases hm : s ∈ l
      · rw [if_pos hm, if_pos (List.mem_cons_of_mem _ hm)]
        have hb : (a == s) = false := by rw [beq_eq_false_iff_ne]; exact h
        have : (a :: l).idxOf s = l.idxOf s + 1 := by rw [List.idxOf_cons, hb]; rfl
        rw [this]; omega
      · rw [if_neg hm, if_neg (fun hc => by
          rcases List.mem_cons.1 hc with e | e
          · exact h e.symm
          · exact hm e)]
theorem idxS (l : List (List UInt8)) (s : List UInt8) : Lib.idxOfS (l.map st) (st s) = if s ∈ l then (l.idxOf s : Int) else -1 := by
  unfold Lib.idxOfS
  rw [idxFS s l 0, Nat.zero_add]
theorem decodeN_in (n b0 b1 b2 b3 : Nat) : (Lib.decodeN n b0 b1 b2 b3).1 ≤ 1114111 := by
  unfold Lib.decodeN
  repeat' split
  all_goals first | (show (65533 : Nat) ≤ _; omega) | (dsimp only; omega)
theorem decodeGo_in (s : ByteArray) : (Lib.decodeGo s).1 ≤ 1114111 := by
  unfold Lib.decodeGo
  split
  · show (65533 : Nat) ≤ _; omega
  · rw [Lib.decode_at]; exact decodeN_in _ _ _ _ _
def c4 : List Int := [9, 13, 32, 127]
/-- The first of the four whose name it is. -/
def four (s : List UInt8) : List Int → Option Int
  | [] => none
  | c :: r => if nameC c = s then some c else four s r
def codeR (s : List UInt8) : Int :=
  if s ∈ specialsL then 1114112 + (specialsL.idxOf s : Int)
  else if (Lib.decodeGo (st s)).2 = 0 ∨ (Lib.decodeGo (st s)).2 ≠ s.length ∨ ((Lib.decodeGo (st s)).1 = 65533 ∧ (Lib.decodeGo (st s)).2 = 1) ∨ nameC ((Lib.decodeGo (st s)).1 : Int) ≠ s then -1 else ((Lib.decodeGo (st s)).1 : Int)
theorem code_four (s : List UInt8) : codeL s = (four s c4).getD (codeR s) := by
  unfold codeL c4 four four four four four codeR
  by_cases h1 : s = nameC 9
  · rw [if_pos h1, if_pos h1.symm]; rfl
  rw [if_neg h1, if_neg (show ¬ nameC 9 = s from fun e => h1 e.symm)]
  by_cases h2 : s = nameC 13
  · rw [if_pos h2, if_pos h2.symm]; rfl
  rw [if_neg h2, if_neg (show ¬ nameC 13 = s from fun e => h2 e.symm)]
  by_cases h3 : s = nameC 32
  · rw [if_pos h3, if_pos h3.symm]; rfl
  rw [if_neg h3, if_neg (show ¬ nameC 32 = s from fun e => h3 e.symm)]
  by_cases h4 : s = nameC 127
  · rw [if_pos h4, if_pos h4.symm]; rfl
  rw [if_neg h4, if_neg (show ¬ nameC 127 = s from fun e => h4 e.symm)]; rfl
set_option maxHeartbeats 2000000 in
set_option maxRecDepth 100000 in
theorem code_any (s : List UInt8) (hs : s.length ≤ 1000000) (w : World) (hW : Wd w) :
    Calls Tryz.prog 23 #[.string (st s)] w fun e w' => e = .returned (.int .i64 (codeL s)) ∧ w.grownBy w' none := by
  have CN : Hid (∀ c, I64 c → ∀ W, Wd W → Calls Tryz.prog 21 #[.int .i64 c] W fun e w' => e = .returned (.string (st (nameC c))) ∧ W.grownBy w' none) := Lib.hid fun c hc W h => named_any c hc W h
  obtain ⟨S, hS⟩ : ∃ S, S = st s := ⟨_, rfl⟩
  have hB : ∀ a, ((st a).toList == S.toList) = decide (a = s) := fun a => by rw [hS]; exact beq_st a s
  rw [← hS, code_four]
  have hR1 := Rd.newL w [.int .i64 9, .int .i64 13, .int .i64 32, .int .i64 127] 3
  obtain ⟨W0, hW0⟩ : ∃ W, W = w.alloc (.cells #[.int .i64 9, .int .i64 13, .int .i64 32, .int .i64 127] 3) := ⟨_, rfl⟩
  have g0 : w.grownBy W0 none := by rw [hW0]; exact World.grownBy_alloc _ _ _
  obtain ⟨bR, hbR⟩ : ∃ n, n = w.heap.size := ⟨_, rfl⟩
  have hcell : ∀ j c, c4[j]? = some c → W0.cell? ⟨bR, j, none⟩ = some (.int .i64 c) := fun j c hj => by
    rw [hW0, hbR]
    unfold World.cell?
    rw [heap_alloc_new]
    have : j < 4 := (List.getElem?_eq_some_iff.1 hj).1
    have h4 : j = 0 ∨ j = 1 ∨ j = 2 ∨ j = 3 := by omega
    rcases h4 with rfl | rfl | rfl | rfl <;> (simp [c4] at hj; subst hj; rfl)
  obtain ⟨R, hR⟩ : ∃ r, r = four s c4 := ⟨_, rfl⟩
  obtain ⟨T, hT⟩ : ∃ r, r = codeR s := ⟨_, rfl⟩
  rw [← hR, ← hT]
  clear hR1
  replace hW := Lib.hid hW; replace hW0 := Lib.hid hW0; replace g0 := Lib.hid g0; replace hbR := Lib.hid hbR; replace hcell := Lib.hid hcell; replace hR := Lib.hid hR; replace hT := Lib.hid hT; replace hS := Lib.hid hS; replace hB := Lib.hid hB
  go_enter Tryz.func23, Tryz.ntmps23
  go_wp2_with fail
  rw [← hW0.out, ← hbR.out]
  go_loopw [10] (fun iv wr => ∃ j : Nat, j ≤ 4 ∧ iv = .int .i64 j ∧ Hid (R = four s (c4.drop j)) ∧ Hid (W0.grownBy wr none)) (fun iv _ => 4 - (match iv with | .int _ i => i | _ => 0).toNat)
  case atStart => exact ⟨0, Nat.zero_le _, rfl, hR, Lib.hid (World.grownBy.refl _ _)⟩
  case round =>
    obtain ⟨j, hj, rfl, hI, hG⟩ := hrel
    by_cases hlt : j < 4
    · obtain ⟨c, hc⟩ : ∃ c, c4[j]? = some c := ⟨c4[j]'(by show j < 4; exact hlt), List.getElem?_eq_getElem _⟩
      have y := hG.out.cell (hcell.out j c hc) (by simp)
      have hc64 : I64 c := by
        have h4 : j = 0 ∨ j = 1 ∨ j = 2 ∨ j = 3 := by omega
        unfold I64
        rcases h4 with rfl | rfl | rfl | rfl <;> (simp [c4] at hc; omega)
      have hdrop : c4.drop j = c :: c4.drop (j + 1) := by
        obtain ⟨h1, h2⟩ := List.getElem?_eq_some_iff.1 hc
        rw [List.drop_eq_getElem_cons h1, h2]
      have CNc := CN.out c hc64 wr ((hW.out.grown g0.out).grown hG.out)
      obtain ⟨NB, hNB⟩ : ∃ N, N = st (nameC c) := ⟨_, rfl⟩
      have hb := hB.out (nameC c)
      rw [← hNB] at CNc hb
      replace CNc := Lib.hid CNc; replace hNB := Lib.hid hNB; replace hc := Lib.hid hc; replace hc64 := Lib.hid hc64
      by_cases he : nameC c = s
      · rw [decide_eq_true he] at hb
        have e1 : R = some c := by rw [hI.out, hdrop, four, if_pos he]
        replace e1 := Lib.hid e1; replace hdrop := Lib.hid hdrop; replace he := Lib.hid he
        go_wp2_with fail
        refine CNc.out.mono ?_
        rintro e w1 ⟨rfl, g1⟩
        have G1 := (g0.out.trans hG.out).trans g1
        replace G1 := Lib.hid G1; clear g1
        go_wp2_with fail
        go_ret
        exact ⟨by rw [e1.out]; rfl, G1.out⟩
      · rw [decide_eq_false he] at hb
        have e1 : R = four s (c4.drop (j + 1)) := by rw [hI.out, hdrop, four, if_neg he]
        replace e1 := Lib.hid e1; replace hdrop := Lib.hid hdrop; replace he := Lib.hid he
        go_wp2_with fail
        refine CNc.out.mono ?_
        rintro e w1 ⟨rfl, g1⟩
        have G1 := hG.out.trans g1
        replace G1 := Lib.hid G1; clear g1
        go_wp2_with fail
        exact ⟨⟨j + 1, by omega, by go_num, e1, G1⟩, by simp; omega⟩
    · have hj4 : j = 4 := by omega
      subst hj4
      have e1 : R = none := by rw [hI.out]; rfl
      subst e1
      have W1 := (hW.out.grown g0.out).grown hG.out
      have CF := fields_any wr W1
      have GR := g0.out.trans hG.out
      replace W1 := Lib.hid W1; replace CF := Lib.hid CF; replace GR := Lib.hid GR
      clear hI hcell hR
      have hSz : S.size = s.length := by rw [hS.out, st_size]
      obtain ⟨L, hL⟩ : ∃ n, n = s.length := ⟨_, rfl⟩
      rw [← hL] at hSz hs
      go_wp2_with fail
      obtain ⟨X, hX⟩ : ∃ X : ByteArray, X = ⟨specialsT.toArray⟩ := ⟨_, rfl⟩
      rw [← hX] at CF
      have hX2 := Lib.hid hX
      clear hX
      refine Calls.mono (calls_str CF.out ?_) ?_
      · rw [hX2.out]
        kernel_rfl
      rintro e w1 ⟨rfl, g1, hcell⟩
      have G1 := GR.out.trans g1
      have W1' := W1.out.grown g1
      obtain ⟨bF, hbF⟩ : ∃ n, n = wr.heap.size := ⟨_, rfl⟩
      rw [← hbF] at hcell ⊢
      obtain ⟨ix, hix⟩ : ∃ z : Int, z = if s ∈ specialsL then (specialsL.idxOf s : Int) else -1 := ⟨_, rfl⟩
      have CI : Calls Tryz.prog 37 #[.slice (some ⟨bF, 0, none⟩) 31 31, .string S] w1 fun e w' => e = .returned (.int .i64 ix) ∧ w' = w1 := by
        have := Tryz.slices_Index_string bF 0 31 31 (specialsL.map st) S w1 (by decide) (by decide) (fun j hj => by
          rw [List.length_map] at hj
          obtain ⟨x, hx⟩ : ∃ x, specialsL[j]? = some x := ⟨specialsL[j], List.getElem?_eq_getElem hj⟩
          rw [Nat.zero_add, hcell j x hx, List.getD_eq_getElem?_getD, List.getElem?_map, hx]; rfl)
        rw [List.take_of_length_le (by decide), hS.out, idxS, ← hix] at this
        rw [hS.out]; exact this
      have CD : Hid (Calls Tryz.prog 38 #[.string S] w1 fun e w' => e = .returned (.tuple #[.int .i32 (Lib.decodeGo S).1, .int .i64 (Lib.decodeGo S).2]) ∧ Below w1.heap.size w1 w') := Lib.hid (Tryz.utf8_DecodeRuneInString S w1 W1'.ut)
      have hTd : Hid (T = if s ∈ specialsL then 1114112 + (specialsL.idxOf s : Int)
  else if (Lib.decodeGo S).2 = 0 ∨ (Lib.decodeGo S).2 ≠ s.length ∨ ((Lib.decodeGo S).1 = 65533 ∧ (Lib.decodeGo S).2 = 1) ∨ nameC ((Lib.decodeGo S).1 : Int) ≠ s then -1 else ((Lib.decodeGo S).1 : Int)) := Lib.hid (by rw [hT.out, hS.out]; rfl)
      rw [← hL] at hTd
      have hdl : (Lib.decodeGo S).1 ≤ 1114111 := decodeGo_in S
      obtain ⟨D, hD⟩ : ∃ D, D = Lib.decodeGo S := ⟨_, rfl⟩
      rw [← hD] at CD hTd hdl
      obtain ⟨r, n⟩ := D
      obtain ⟨ri, hri⟩ : ∃ z : Int, z = (r : Int) := ⟨_, rfl⟩
      dsimp only at CD hTd hdl
      rw [← hri] at CD
      replace CI := Lib.hid CI; replace hcell := Lib.hid hcell; replace G1 := Lib.hid G1; replace W1' := Lib.hid W1'; replace hbF := Lib.hid hbF; replace hD := Lib.hid hD; replace hL := Lib.hid hL
      clear CF hX2 g1
      go_wp2_with fail
      refine CI.out.mono ?_
      rintro e w2 ⟨rfl, rfl⟩
      clear CI
      by_cases hm : s ∈ specialsL
      · rw [if_pos hm] at hix
        have e1 : T = 1114112 + ix := by rw [hTd.out, if_pos hm, hix]
        have h0 : 0 ≤ ix := by omega
        have h1 : ix ≤ 30 := by
          have : specialsL.idxOf s < specialsL.length := List.idxOf_lt_length_of_mem hm
          have hl : specialsL.length = 31 := by decide
          omega
        replace e1 := Lib.hid e1; replace hix := Lib.hid hix; replace hm := Lib.hid hm
        have hw : wrap64 (1114112 + ix) = T := by rw [e1.out]; exact IntWalk.wrap64_in _ (by omega)
        go_wp2_with fail
        go_ret
        exact ⟨by show Ending.returned (.int .i64 (1114112 + ix)) = .returned (.int .i64 T); rw [e1.out], G1.out⟩
      · rw [if_neg hm] at hix
        subst hix
        rw [if_neg hm] at hTd
        have hri0 : 0 ≤ ri := by omega
        have hri1 : ri ≤ 1114111 := by omega
        have hbad : Hid (n = 0 ∨ n ≠ L ∨ (r = 65533 ∧ n = 1) ∨ nameC (r : Int) ≠ s → T = -1) := Lib.hid fun h => by rw [hTd.out, if_pos h]
        replace hm := Lib.hid hm
        go_wp2_with fail
        refine CD.out.mono ?_
        rintro e w3 ⟨rfl, b3⟩
        have G3 := G1.out.trans (grown_of_below b3)
        have W3 := W1'.out.grown (grown_of_below b3)
        replace G3 := Lib.hid G3
        clear b3 CD
        by_cases q1 : n = 0
        · have e1 := hbad.out (.inl q1)
          subst q1
          replace e1 := Lib.hid e1
          go_wp2_with fail
          go_ret
          exact ⟨by rw [e1.out]; rfl, G3.out⟩
        by_cases q2 : n = L
        rotate_left
        · have e1 := hbad.out (.inr (.inl q2))
          have q3 : ¬ (n : Int) = (L : Int) := by omega
          have q4 : ¬ (n : Int) = 0 := by omega
          replace e1 := Lib.hid e1
          go_wp2_with fail
          go_ret
          exact ⟨by rw [e1.out]; rfl, G3.out⟩
        have q4 : ¬ (n : Int) = 0 := by omega
        subst q2
        by_cases q5 : ri = 65533 ∧ n = 1
        · obtain ⟨q5, q6⟩ := q5
          have e1 := hbad.out (.inr (.inr (.inl ⟨by omega, q6⟩)))
          subst q6; subst q5
          replace e1 := Lib.hid e1; replace hri := Lib.hid hri
          go_wp2_with fail
          go_ret
          exact ⟨by rw [e1.out]; rfl, G3.out⟩
        have CNr := Lib.hid (CN.out ri (by unfold I64; omega) w3 W3)
        obtain ⟨NB, hNB⟩ : ∃ N, N = st (nameC ri) := ⟨_, rfl⟩
        have hb := hB.out (nameC ri)
        rw [← hNB] at CNr hb
        have hTe : Hid (nameC ri = s → T = ri) := Lib.hid fun h => by
          rw [hTd.out, if_neg, hri]
          rintro (h' | h' | h' | h')
          · exact q1 h'
          · exact h' rfl
          · exact q5 ⟨by omega, h'.2⟩
          · exact h' (by rw [← hri]; exact h)
        have hTn : Hid (nameC ri ≠ s → T = -1) := Lib.hid fun h => hbad.out (.inr (.inr (.inr (by rw [← hri]; exact h))))
        replace hNB := Lib.hid hNB; replace hri := Lib.hid hri; replace W3 := Lib.hid W3
        have hw1 : IntKind.i64.wrap ri = ri := by rw [IntWalk.i64_left]; exact IntWalk.wrap64_in _ (by omega)
        have hfin : nameC ri = s ∨ nameC ri ≠ s := by by_cases h : nameC ri = s; exact .inl h; exact .inr h
        have q6 : ¬ ri = 65533 ∨ (ri = 65533 ∧ ¬ (n : Int) = 1) := by omega
        replace hfin := Lib.hid hfin
        rcases q6 with q6 | ⟨q6, q7⟩
        · rcases hfin.out with he | he
          · have e1 := hTe.out he
            rw [decide_eq_true he] at hb
            replace he := Lib.hid he; replace e1 := Lib.hid e1
            clear q5
            go_wp2_with fail
            refine CNr.out.mono ?_
            rintro e w4 ⟨rfl, g4⟩
            have G4 := G3.out.trans g4
            replace G4 := Lib.hid G4; clear g4
            go_wp2_with fail
            go_ret
            exact ⟨by show Ending.returned (.int .i64 ri) = .returned (.int .i64 T); rw [e1.out], G4.out⟩
          · have e1 := hTn.out he
            rw [decide_eq_false he] at hb
            replace he := Lib.hid he; replace e1 := Lib.hid e1
            clear q5
            go_wp2_with fail
            refine CNr.out.mono ?_
            rintro e w4 ⟨rfl, g4⟩
            have G4 := G3.out.trans g4
            replace G4 := Lib.hid G4; clear g4
            go_wp2_with fail
            go_ret
            exact ⟨by show Ending.returned (.int .i64 (-1)) = .returned (.int .i64 T); rw [e1.out], G4.out⟩
        · subst q6
          have q8 : ((n : Int) == 1) = false := by rw [beq_eq_false_iff_ne]; exact q7
          have q9 : ((n : Int) == 0) = false := by rw [beq_eq_false_iff_ne]; exact q4
          rcases hfin.out with he | he
          · have e1 := hTe.out he
            rw [decide_eq_true he] at hb
            replace he := Lib.hid he; replace e1 := Lib.hid e1
            clear q5
            go_wp2_with fail
            refine CNr.out.mono ?_
            rintro e w4 ⟨rfl, g4⟩
            have G4 := G3.out.trans g4
            replace G4 := Lib.hid G4; clear g4
            go_wp2_with fail
            go_ret
            exact ⟨by show Ending.returned (.int .i64 65533) = .returned (.int .i64 T); rw [e1.out], G4.out⟩
          · have e1 := hTn.out he
            rw [decide_eq_false he] at hb
            replace he := Lib.hid he; replace e1 := Lib.hid e1
            clear q5
            go_wp2_with fail
            refine CNr.out.mono ?_
            rintro e w4 ⟨rfl, g4⟩
            have G4 := G3.out.trans g4
            replace G4 := Lib.hid G4; clear g4
            go_wp2_with fail
            go_ret
            exact ⟨by show Ending.returned (.int .i64 (-1)) = .returned (.int .i64 T); rw [e1.out], G4.out⟩
end Go.Proofs.YtncokbppijnfiaaGreatDoor
