/- Format: shown: all examples of the chapter come out right. -/
import Derived.Test.YtfhdfhlabkeipaaGreatDoorE1
namespace Go.Proofs.YtfhdfhlabkeipaaGreatDoor
open Go.RowKit
set_option linter.unusedSimpArgs false
set_option linter.unusedVariables false

theorem TB.up {w w1 : World} (h : TB w.heap.size w) (g : w.grownBy w1 none) : TB w1.heap.size w1 := fun w' hb => h w' (Below.trans (g_below g) ⟨hb.os, hb.tape, hb.output, hb.size, fun k hk => hb.block k (Nat.lt_of_lt_of_le hk g.size)⟩)
/-- Expand at the examples' scope. -/
theorem ex_expand (w : World) (hTB : TB w.heap.size w) (s : B) (g1 g2 : Nat) (hs : ScAt w.heap.size w exSc (.slice (some ⟨g1, 0, none⟩) 4 4) (.slice (some ⟨g2, 0, none⟩) 1 1)) (hno : expandL [some exSc] s ≠ .no) :
    Calls Tryz.prog 10 #[.string (st s), .agg #[.slice (some ⟨g1, 0, none⟩) 4 4, .slice (some ⟨g2, 0, none⟩) 1 1]] w fun e w' => e = .returned (.tuple #[.string (st (outV (expandL [some exSc] s)).1), .int .i64 (outV (expandL [some exSc] s)).2]) ∧ w.grownBy w' none :=
  Expand_any allOk w hTB s (some exSc) (some ⟨g1, 0, none⟩) (some ⟨g2, 0, none⟩) 4 4 1 1 (fun sc h => by injection h with h; rw [← h]; exact hs) hno
theorem ex_steps (w : World) (hTB : TB w.heap.size w) (s : B) (g1 g2 : Nat) (hs : ScAt w.heap.size w exSc (.slice (some ⟨g1, 0, none⟩) 4 4) (.slice (some ⟨g2, 0, none⟩) 1 1)) (hno : expandL [some exSc] s ≠ .no) :
    Calls Tryz.prog 16 #[.string (st s), .agg #[.slice (some ⟨g1, 0, none⟩) 4 4, .slice (some ⟨g2, 0, none⟩) 1 1]] w fun e w' => e = .returned (.tuple #[.int .i64 ((outN (expandL [some exSc] s)).1 : Int), .int .i64 (outV (expandL [some exSc] s)).2]) ∧ w.grownBy w' none :=
  Steps_any allOk w hTB s (some exSc) (some ⟨g1, 0, none⟩) (some ⟨g2, 0, none⟩) 4 4 1 1 (fun sc h => by injection h with h; rw [← h]; exact hs) hno

set_option maxRecDepth 100000 in
set_option maxHeartbeats 2000000 in
theorem is_ex (s v : B) (n : Nat) (w : World) (hTB : TB w.heap.size w) (h : expandL [some exSc] s = .ok v n) :
    Calls Tryz.prog 18 #[.string (st s), .string (st v)] w fun e w' => e = .returned (.bool true) ∧ w.grownBy w' none := by
  have CX : Hid (∀ W, Calls Tryz.prog 19 #[] W fun e w' => W.grownBy w' none ∧ ∃ (g1 g2 : Nat), e = .returned (.agg #[.slice (some ⟨g1, 0, none⟩) 4 4, .slice (some ⟨g2, 0, none⟩) 1 1]) ∧ ScAt w'.heap.size w' exSc (.slice (some ⟨g1, 0, none⟩) 4 4) (.slice (some ⟨g2, 0, none⟩) 1 1)) := Lib.hid example_any
  have CE : Hid (∀ W, w.grownBy W none → ∀ g1 g2, ScAt W.heap.size W exSc (.slice (some ⟨g1, 0, none⟩) 4 4) (.slice (some ⟨g2, 0, none⟩) 1 1) → Calls Tryz.prog 10 #[.string (st s), .agg #[.slice (some ⟨g1, 0, none⟩) 4 4, .slice (some ⟨g2, 0, none⟩) 1 1]] W fun e w' => e = .returned (.tuple #[.string (st v), .int .i64 0]) ∧ W.grownBy w' none) := Lib.hid fun W g g1 g2 hs => by
    have := ex_expand W (hTB.up g) s g1 g2 hs (by rw [h]; simp)
    rw [h] at this
    exact this
  obtain ⟨S, hS⟩ : ∃ S, S = st s := ⟨_, rfl⟩
  obtain ⟨V, hV⟩ : ∃ S, S = st v := ⟨_, rfl⟩
  rw [← hS, ← hV] at CE
  rw [← hS, ← hV]
  replace hS := Lib.hid hS; replace hV := Lib.hid hV; replace hTB := Lib.hid hTB; replace h := Lib.hid h
  go_enter Tryz.func18, Tryz.ntmps18
  go_wp2_with fail
  refine (CX.out _).mono ?_
  rintro e w1 ⟨G1, g1, g2, rfl, hs⟩
  replace G1 := Lib.hid G1; replace hs := Lib.hid hs
  go_wp2_with fail
  refine (CE.out _ G1.out g1 g2 hs.out).mono ?_
  rintro e w2 ⟨rfl, G2⟩
  have hG := G1.out.trans G2
  replace G2 := Lib.hid G2; replace hG := Lib.hid hG
  go_wp2_with fail
  go_ret
  exact ⟨rfl, hG.out⟩

set_option maxRecDepth 100000 in
set_option maxHeartbeats 2000000 in
theorem shown_any (w : World) (hTB : TB w.heap.size w) : Calls Tryz.prog 9 #[] w fun e w' => e = .returned (.bool true) ∧ w.grownBy w' none := by
  have CX : Hid (∀ W, Calls Tryz.prog 19 #[] W fun e w' => W.grownBy w' none ∧ ∃ (g1 g2 : Nat), e = .returned (.agg #[.slice (some ⟨g1, 0, none⟩) 4 4, .slice (some ⟨g2, 0, none⟩) 1 1]) ∧ ScAt w'.heap.size w' exSc (.slice (some ⟨g1, 0, none⟩) 4 4) (.slice (some ⟨g2, 0, none⟩) 1 1)) := Lib.hid example_any
  have Ca : Hid (∀ W, w.grownBy W none → Calls Tryz.prog 18 #[.string (st xaS), .string (st xaW)] W fun e w' => e = .returned (.bool true) ∧ W.grownBy w' none) := Lib.hid fun W g => is_ex xaS xaW 2 W (hTB.up g) xa_ok
  have Cb : Hid (∀ W, w.grownBy W none → Calls Tryz.prog 18 #[.string (st xbS), .string (st xbW)] W fun e w' => e = .returned (.bool true) ∧ W.grownBy w' none) := Lib.hid fun W g => is_ex xbS xbW 2 W (hTB.up g) xb_ok
  have Cc : Hid (∀ W, w.grownBy W none → Calls Tryz.prog 18 #[.string (st xcS), .string (st xcW)] W fun e w' => e = .returned (.bool true) ∧ W.grownBy w' none) := Lib.hid fun W g => is_ex xcS xcW 4 W (hTB.up g) xc_ok
  have Cd : Hid (∀ W, w.grownBy W none → Calls Tryz.prog 18 #[.string (st xdS), .string (st xdW)] W fun e w' => e = .returned (.bool true) ∧ W.grownBy w' none) := Lib.hid fun W g => is_ex xdS xdW 3 W (hTB.up g) xd_ok
  have Cf : Hid (∀ W, w.grownBy W none → Calls Tryz.prog 18 #[.string (st xfS), .string (st xfW)] W fun e w' => e = .returned (.bool true) ∧ W.grownBy w' none) := Lib.hid fun W g => is_ex xfS xfW 2 W (hTB.up g) xf_ok
  have Cg : Hid (∀ W, w.grownBy W none → ∀ g1 g2, ScAt W.heap.size W exSc (.slice (some ⟨g1, 0, none⟩) 4 4) (.slice (some ⟨g2, 0, none⟩) 1 1) → Calls Tryz.prog 10 #[.string (st xgS), .agg #[.slice (some ⟨g1, 0, none⟩) 4 4, .slice (some ⟨g2, 0, none⟩) 1 1]] W fun e w' => e = .returned (.tuple #[.string ⟨#[]⟩, .int .i64 4]) ∧ W.grownBy w' none) := Lib.hid fun W g g1 g2 hs => by
    have := ex_expand W (hTB.up g) xgS g1 g2 hs (by rw [xg_ok]; simp)
    rw [xg_ok] at this
    exact this
  have Ch : Hid (∀ W, w.grownBy W none → ∀ g1 g2, ScAt W.heap.size W exSc (.slice (some ⟨g1, 0, none⟩) 4 4) (.slice (some ⟨g2, 0, none⟩) 1 1) → Calls Tryz.prog 16 #[.string (st xhS), .agg #[.slice (some ⟨g1, 0, none⟩) 4 4, .slice (some ⟨g2, 0, none⟩) 1 1]] W fun e w' => e = .returned (.tuple #[.int .i64 4, .int .i64 0]) ∧ W.grownBy w' none) := Lib.hid fun W g g1 g2 hs => by
    have := ex_steps W (hTB.up g) xhS g1 g2 hs (by rw [xh_ok]; simp)
    rw [xh_ok] at this
    exact this
  have Ct : Hid (∀ W, Calls Tryz.prog 12 #[.string (st [49])] W fun e w' => e = .returned (.bool true) ∧ w' = W) := Lib.hid fun W => true_any [49] W
  have Cu : Hid (∀ W, Calls Tryz.prog 12 #[.string (st [48])] W fun e w' => e = .returned (.bool false) ∧ w' = W) := Lib.hid fun W => true_any [48] W
  unfold st xaS xaW at Ca
  unfold st xbS xbW at Cb
  unfold st xcS xcW at Cc
  unfold st xdS xdW at Cd
  unfold st xfS xfW at Cf
  unfold st xgS at Cg
  unfold st xhS at Ch
  unfold st at Ct Cu
  replace hTB := Lib.hid hTB
  go_enter Tryz.func9, Tryz.ntmps9
  go_wp2_with fail
  refine (Ca.out _ (World.grownBy.refl _ _)).mono ?_
  rintro e w1 ⟨rfl, G1⟩
  replace G1 := Lib.hid G1
  go_wp2_with fail
  refine (Cb.out _ G1.out).mono ?_
  rintro e w2 ⟨rfl, G⟩
  have G2 := G1.out.trans G
  replace G2 := Lib.hid G2
  clear G
  go_wp2_with fail
  refine (Cc.out _ G2.out).mono ?_
  rintro e w3 ⟨rfl, G⟩
  have G3 := G2.out.trans G
  replace G3 := Lib.hid G3
  clear G
  go_wp2_with fail
  refine (Cd.out _ G3.out).mono ?_
  rintro e w4 ⟨rfl, G⟩
  have G4 := G3.out.trans G
  replace G4 := Lib.hid G4
  clear G
  go_wp2_with fail
  refine (Cf.out _ G4.out).mono ?_
  rintro e w5 ⟨rfl, G⟩
  have G5 := G4.out.trans G
  replace G5 := Lib.hid G5
  clear G
  go_wp2_with fail
  refine (CX.out _).mono ?_
  rintro e w6 ⟨G, g1, g2, rfl, hs⟩
  have G6 := G5.out.trans G
  replace G6 := Lib.hid G6; replace hs := Lib.hid hs
  clear G
  go_wp2_with fail
  refine (Cg.out _ G6.out g1 g2 hs.out).mono ?_
  rintro e w7 ⟨rfl, G⟩
  have G7 := G6.out.trans G
  replace G7 := Lib.hid G7
  clear G hs
  go_wp2_with fail
  refine (CX.out _).mono ?_
  rintro e w8 ⟨G, g3, g4, rfl, hs⟩
  have G8 := G7.out.trans G
  replace G8 := Lib.hid G8; replace hs := Lib.hid hs
  clear G
  go_wp2_with fail
  refine (Ch.out _ G8.out g3 g4 hs.out).mono ?_
  rintro e w9 ⟨rfl, G⟩
  have G9 := G8.out.trans G
  replace G9 := Lib.hid G9
  clear G hs
  go_wp2_with fail
  refine (Ct.out _).mono ?_
  rintro e w10 ⟨rfl, rfl⟩
  go_wp2_with fail
  refine (Cu.out _).mono ?_
  rintro e w11 ⟨rfl, rfl⟩
  go_wp2_with fail
  go_ret
  exact ⟨rfl, G9.out⟩
end Go.Proofs.YtfhdfhlabkeipaaGreatDoor
