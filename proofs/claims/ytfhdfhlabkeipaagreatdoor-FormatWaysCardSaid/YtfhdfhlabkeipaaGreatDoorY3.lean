/- Format: FormatWays returns true. -/
import Derived.Test.YtfhdfhlabkeipaaGreatDoorE2
import Derived.Test.YtfhdfhlabkeipaaGreatDoorW1
namespace Go.Proofs.YtfhdfhlabkeipaaGreatDoor
open Go.RowKit
set_option linter.unusedSimpArgs false
set_option linter.unusedVariables false

theorem st_appW (a b : B) : st a ++ st b = st (a ++ b) := by
  apply ByteArray.ext
  simp [st]
theorem truth_any (b : Bool) (y n : ByteArray) (w : World) : Calls Tryz.prog 11 #[.bool b, .string y, .string n] w fun e w' => e = .returned (.string (if b = true then y else n)) ∧ w' = w := by
  cases b with
  | true =>
    go_enter Tryz.func11, Tryz.ntmps11
    go_wp2_with fail
    go_ret
    exact ⟨rfl, rfl⟩
  | false =>
    go_enter Tryz.func11, Tryz.ntmps11
    go_wp2_with fail
    go_ret
    exact ⟨rfl, rfl⟩
set_option maxRecDepth 100000 in
set_option maxHeartbeats 4000000 in
theorem ways_any (a c : B) (w : World) (hTB : TB w.heap.size w) :
    Calls Tryz.prog 3 #[.string (st a), .string (st c)] w fun e w' => e = .returned (.bool true) ∧ w.grownBy w' none := by
  have CS := Lib.hid (shown_any w hTB)
  have CE : Hid (∀ (W : World) (g : Nat), w.grownBy W none → W.heap[g]? = some (.cells (pc [([97], a), ([98], c)]).toArray 24 (0, 0)) → Calls Tryz.prog 10 #[.string (st sW), .agg #[.slice (some ⟨g, 0, none⟩) 2 2, .slice none 0 0]] W fun e w' => e = .returned (.tuple #[.string (st (outV (expandL [some (scW a c)] sW)).1), .int .i64 (outV (expandL [some (scW a c)] sW)).2]) ∧ W.grownBy w' none) := Lib.hid fun W g gr hg =>
    Expand_any allOk W (hTB.up gr) sW (some (scW a c)) (some ⟨g, 0, none⟩) none 2 2 0 0 (fun sc h => by
      injection h with h
      rw [← h]
      exact ⟨vars_block [([97], a), ([98], c)] 2 rfl (by omega) hg (Array.getElem?_eq_some_iff.1 hg).1, none, 0, 0, rfl, rfl, by omega, [], Rd.nil _ _, (fun b h => by cases h), (fun j p hj => by simp [scW] at hj)⟩) (by
      by_cases h : a.length ≤ 8192 ∧ c.length ≤ 8192
      · rw [ways_ok a c h.1 h.2]; simp
      · rw [ways_bad a c h]; simp)
  have CTa : Hid (∀ W, Calls Tryz.prog 12 #[.string (st a)] W fun e w' => e = .returned (.bool (trueL a)) ∧ w' = W) := Lib.hid fun W => true_any a W
  have CTc : Hid (∀ W, Calls Tryz.prog 12 #[.string (st c)] W fun e w' => e = .returned (.bool (trueL c)) ∧ w' = W) := Lib.hid fun W => true_any c W
  have hq : ((st a).toList == (st c).toList) = (a == c) := eq_str a c
  have hlt : Op.bytesLess (st a).toList (st c).toList = Op.bytesLess a c := by rw [st_toList, st_toList]
  have hpc : (pc [([97], a), ([98], c)]).toArray = #[.string ⟨#[97]⟩, .string (st a), .string ⟨#[98]⟩, .string (st c)] := rfl
  rw [hpc] at CE
  obtain ⟨SA, hSA⟩ : ∃ S, S = st a := ⟨_, rfl⟩
  obtain ⟨SC, hSC⟩ : ∃ S, S = st c := ⟨_, rfl⟩
  obtain ⟨la, hla⟩ : ∃ l, l = a.length := ⟨_, rfl⟩
  obtain ⟨lc, hlc⟩ : ∃ l, l = c.length := ⟨_, rfl⟩
  have hZA : SA.size = la := by rw [hSA, st_size, hla]
  have hZC : SC.size = lc := by rw [hSC, st_size, hlc]
  obtain ⟨ta, hta⟩ : ∃ t, t = trueL a := ⟨_, rfl⟩
  obtain ⟨tc, htc⟩ : ∃ t, t = trueL c := ⟨_, rfl⟩
  obtain ⟨eq, heq⟩ : ∃ t, t = (a == c) := ⟨_, rfl⟩
  obtain ⟨lt, hltd⟩ : ∃ t, t = Op.bytesLess a c := ⟨_, rfl⟩
  obtain ⟨SW, hSW⟩ : ∃ S, S = st sW := ⟨_, rfl⟩
  obtain ⟨V, hV⟩ : ∃ V, V = st (outV (expandL [some (scW a c)] sW)).1 := ⟨_, rfl⟩
  obtain ⟨E, hE⟩ : ∃ V, V = (outV (expandL [some (scW a c)] sW)).2 := ⟨_, rfl⟩
  rw [← hSA, ← hSC, ← heq] at hq
  rw [← hSA, ← hSC, ← hltd] at hlt
  rw [← hSA, ← hSC, ← hV, ← hE] at CE
  rw [← hSA, ← hta] at CTa
  rw [← hSC, ← htc] at CTc
  rw [← hSA, ← hSC]
  unfold st sW at CE
  replace hSA := Lib.hid hSA; replace hSC := Lib.hid hSC; replace hla := Lib.hid hla; replace hlc := Lib.hid hlc; replace hTB := Lib.hid hTB; replace hta := Lib.hid hta; replace htc := Lib.hid htc; replace heq := Lib.hid heq; replace hltd := Lib.hid hltd; replace hV := Lib.hid hV; replace hE := Lib.hid hE; replace hpc := Lib.hid hpc
  go_enter Tryz.func3, Tryz.ntmps3
  go_wp2_with fail
  refine CS.out.mono ?_
  rintro e w1 ⟨rfl, G1⟩
  replace G1 := Lib.hid G1
  go_wp2_with fail
  obtain ⟨W2, hW2⟩ : ∃ W, W = (w1.alloc (.cells #[.string ⟨#[97]⟩, .string SA, .string ⟨#[98]⟩, .string SC] 24)).alloc (.cells #[.slice (some ⟨w1.heap.size, 0, none⟩) 2 2, .slice none 0 0] 28) := ⟨_, rfl⟩
  have G2 : w.grownBy W2 none := by rw [hW2]; exact g_alloc (g_alloc G1.out _) _
  have hh : W2.heap[w1.heap.size]? = some (.cells #[.string ⟨#[97]⟩, .string SA, .string ⟨#[98]⟩, .string SC] 24 (0, 0)) := by
    rw [hW2, alloc_get, if_neg (by rw [alloc_size]; omega), alloc_get, if_pos rfl]
  rw [← hW2]
  replace hW2 := Lib.hid hW2; replace G2 := Lib.hid G2; replace hh := Lib.hid hh
  refine (CE.out W2 _ G2.out hh.out).mono ?_
  rintro e w3 ⟨rfl, G⟩
  have G3 := G2.out.trans G
  replace G3 := Lib.hid G3
  clear G
  by_cases hs : a.length ≤ 8192 ∧ c.length ≤ 8192
  · have hok := ways_ok a c hs.1 hs.2
    have hE0 : E = 0 := by rw [hE.out, hok]; rfl
    have hVw : V = st (wantW a c) := by rw [hV.out, hok]; rfl
    have hs1 : ¬ ((8192 : Int) < (la : Int)) := by have := hs.1; have := hla.out; omega
    have hs2 : ¬ ((8192 : Int) < (lc : Int)) := by have := hs.2; have := hlc.out; omega
    obtain ⟨T1, hT1⟩ : ∃ T, T = st (tf ta) := ⟨_, rfl⟩
    obtain ⟨T2, hT2⟩ : ∃ T, T = st (tf tc) := ⟨_, rfl⟩
    obtain ⟨T3, hT3⟩ : ∃ T, T = st (flagL (ta && tc)) := ⟨_, rfl⟩
    obtain ⟨T4, hT4⟩ : ∃ T, T = st (flagL (ta || tc)) := ⟨_, rfl⟩
    obtain ⟨T5, hT5⟩ : ∃ T, T = st (flagL eq) := ⟨_, rfl⟩
    obtain ⟨T6, hT6⟩ : ∃ T, T = st (flagL (!eq)) := ⟨_, rfl⟩
    obtain ⟨T7, hT7⟩ : ∃ T, T = st (flagL lt) := ⟨_, rfl⟩
    obtain ⟨T8, hT8⟩ : ∃ T, T = st (flagL (!lt)) := ⟨_, rfl⟩
    have z1 : T1.size = 1 := by rw [hT1, st_size, tf_len]
    have z2 : T2.size = 1 := by rw [hT2, st_size, tf_len]
    have z3 : T3.size = 1 := by rw [hT3, st_size, wflag_len]
    have z4 : T4.size = 1 := by rw [hT4, st_size, wflag_len]
    have z5 : T5.size = 1 := by rw [hT5, st_size, wflag_len]
    have z6 : T6.size = 1 := by rw [hT6, st_size, wflag_len]
    have z7 : T7.size = 1 := by rw [hT7, st_size, wflag_len]
    have z8 : T8.size = 1 := by rw [hT8, st_size, wflag_len]
    have hfin : V = T1 ++ T2 ++ T3 ++ T4 ++ T5 ++ T6 ++ T7 ++ T8 := by
      rw [hVw, hT1, hT2, hT3, hT4, hT5, hT6, hT7, hT8]
      simp only [st_appW]
      rw [hta.out, htc.out, heq.out, hltd.out]
      rfl
    have hVV : (V.toList == (T1 ++ T2 ++ T3 ++ T4 ++ T5 ++ T6 ++ T7 ++ T8).toList) = true := by rw [← hfin, beq_self_eq_true]
    have tT : ∀ (b : Bool) (W : World), Calls Tryz.prog 11 #[.bool b, .string ⟨#[84]⟩, .string ⟨#[70]⟩] W fun e w' => e = .returned (.string (st (tf b))) ∧ w' = W := fun b W => by
      have := truth_any b ⟨#[84]⟩ ⟨#[70]⟩ W
      cases b <;> exact this
    have tF : ∀ (b : Bool) (W : World), Calls Tryz.prog 11 #[.bool b, .string ⟨#[49]⟩, .string ⟨#[48]⟩] W fun e w' => e = .returned (.string (st (flagL b))) ∧ w' = W := fun b W => by
      have := truth_any b ⟨#[49]⟩ ⟨#[48]⟩ W
      cases b <;> exact this
    have C1 := Lib.hid (tT ta); have C2 := Lib.hid (tT tc); have C3 := Lib.hid (tF (ta && tc)); have C4 := Lib.hid (tF (ta || tc)); have C5 := Lib.hid (tF eq); have C6 := Lib.hid (tF (!eq)); have C7 := Lib.hid (tF lt); have C8 := Lib.hid (tF (!lt))
    rw [← hT1] at C1
    rw [← hT2] at C2
    rw [← hT3] at C3
    rw [← hT4] at C4
    rw [← hT5] at C5
    rw [← hT6] at C6
    rw [← hT7] at C7
    rw [← hT8] at C8
    subst hE0
    replace hT1 := Lib.hid hT1; replace hT2 := Lib.hid hT2; replace hT3 := Lib.hid hT3; replace hT4 := Lib.hid hT4; replace hT5 := Lib.hid hT5; replace hT6 := Lib.hid hT6; replace hT7 := Lib.hid hT7; replace hT8 := Lib.hid hT8; replace hs := Lib.hid hs; replace hok := Lib.hid hok; replace hVw := Lib.hid hVw; replace hfin := Lib.hid hfin
    clear tT tF
    go_wp2_with fail
    refine (CTa.out _).mono ?_
    rintro e v1 ⟨rfl, rfl⟩
    go_wp2_with fail
    refine (C1.out _).mono ?_
    rintro e v2 ⟨rfl, rfl⟩
    go_wp2_with fail
    refine (CTc.out _).mono ?_
    rintro e v3 ⟨rfl, rfl⟩
    go_wp2_with fail
    refine (C2.out _).mono ?_
    rintro e v4 ⟨rfl, rfl⟩
    go_wp2_with fail
    refine (CTa.out _).mono ?_
    rintro e v5 ⟨rfl, rfl⟩
    cases ta with
    | true =>
      simp only [Bool.true_and, Bool.true_or] at C3 C4
      go_wp2_with fail
      refine (CTc.out _).mono ?_
      rintro e x1 ⟨rfl, rfl⟩
      go_wp2_with fail
      refine (C3.out _).mono ?_
      rintro e x2 ⟨rfl, rfl⟩
      go_wp2_with fail
      refine (CTa.out _).mono ?_
      rintro e x3 ⟨rfl, rfl⟩
      go_wp2_with fail
      refine (C4.out _).mono ?_
      rintro e x4 ⟨rfl, rfl⟩
      go_wp2_with fail
      refine (C5.out _).mono ?_
      rintro e x5 ⟨rfl, rfl⟩
      go_wp2_with fail
      refine (C6.out _).mono ?_
      rintro e x6 ⟨rfl, rfl⟩
      go_wp2_with fail
      refine (C7.out _).mono ?_
      rintro e x7 ⟨rfl, rfl⟩
      go_wp2_with fail
      refine (C8.out _).mono ?_
      rintro e x8 ⟨rfl, rfl⟩
      go_wp2_with fail
      go_ret
      exact ⟨by first | rfl | simp, G3.out⟩
    | false =>
      simp only [Bool.false_and, Bool.false_or] at C3 C4
      go_wp2_with fail
      refine (C3.out _).mono ?_
      rintro e x2 ⟨rfl, rfl⟩
      go_wp2_with fail
      refine (CTa.out _).mono ?_
      rintro e x3 ⟨rfl, rfl⟩
      go_wp2_with fail
      refine (CTc.out _).mono ?_
      rintro e x1 ⟨rfl, rfl⟩
      go_wp2_with fail
      refine (C4.out _).mono ?_
      rintro e x4 ⟨rfl, rfl⟩
      go_wp2_with fail
      refine (C5.out _).mono ?_
      rintro e x5 ⟨rfl, rfl⟩
      go_wp2_with fail
      refine (C6.out _).mono ?_
      rintro e x6 ⟨rfl, rfl⟩
      go_wp2_with fail
      refine (C7.out _).mono ?_
      rintro e x7 ⟨rfl, rfl⟩
      go_wp2_with fail
      refine (C8.out _).mono ?_
      rintro e x8 ⟨rfl, rfl⟩
      go_wp2_with fail
      go_ret
      exact ⟨by first | rfl | simp, G3.out⟩
  · have hbad := ways_bad a c hs
    have hE2 : E = 2 := by rw [hE.out, hbad]; rfl
    subst hE2
    by_cases h1 : (8192 : Int) < (la : Int)
    · replace hs := Lib.hid hs; replace hbad := Lib.hid hbad
      go_wp2_with fail
      go_ret
      exact ⟨rfl, G3.out⟩
    · have h2 : (8192 : Int) < (lc : Int) := by
        have := hla.out; have := hlc.out
        omega
      replace hs := Lib.hid hs; replace hbad := Lib.hid hbad
      go_wp2_with fail
      go_ret
      exact ⟨rfl, G3.out⟩
end Go.Proofs.YtfhdfhlabkeipaaGreatDoor
