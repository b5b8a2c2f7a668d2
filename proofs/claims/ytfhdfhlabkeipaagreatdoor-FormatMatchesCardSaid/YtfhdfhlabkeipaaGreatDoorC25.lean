/- Format: modified by l; by b, at the examples' x. -/
import Derived.Test.YtfhdfhlabkeipaaGreatDoorC24
namespace Go.Proofs.YtfhdfhlabkeipaaGreatDoor
open Go.RowKit
set_option linter.unusedSimpArgs false
set_option linter.unusedVariables false

theorem cells5 {w : World} {base c g : Nat} {x0 x1 x2 x3 x4 : Value} (h : w.ownsRow base 109 5 (.slice (some ⟨g, 0, none⟩) 1 c) 1 [x0, x1, x2, x3, x4]) : w.cell? ⟨g, 0, none⟩ = some x0 ∧ w.cell? ⟨g, 1, none⟩ = some x1 ∧ w.cell? ⟨g, 2, none⟩ = some x2 ∧ w.cell? ⟨g, 3, none⟩ = some x3 ∧ w.cell? ⟨g, 4, none⟩ = some x4 := by
  have hr := own_rd h
  have key : ∀ (j : Nat) (u : Value), ([x0, x1, x2, x3, x4] : List Value)[j]? = some u → w.cell? ⟨g, j, none⟩ = some u := fun j u hu => by
    obtain ⟨b, off, e2, _, h2⟩ := hr.at_ hu
    cases e2
    rwa [Nat.zero_add] at h2
  exact ⟨key 0 _ rfl, key 1 _ rfl, key 2 _ rfl, key 3 _ rfl, key 4 _ rfl⟩

set_option maxRecDepth 100000 in
set_option maxHeartbeats 4000000 in
theorem modified_l (base mb deep : Nat) (scs : List (Option Sc)) (r : B) (n ab cap : Nat) (W : World) (hr : r.length ≤ 8192) (hM : Mk base mb W ab cap scs deep n) (hB : base ≤ W.heap.size) :
    Calls Tryz.prog 60 #[.pointer (some ⟨mb, 0, none⟩), .string (st (108 :: 58 :: r))] W (ResP base mb scs deep ab W (.ok r n)) := by
  have CMo := modifiers_one 108 r W (.inr (.inr rfl)) (by omega)
  unfold MdP letC at CMo
  have CSh := Lib.hid (fun w => short_ok r w hr)
  have CA := Lib.hid (fun w => apply_l r w (by omega))
  obtain ⟨S, hS⟩ : ∃ S, S = st (108 :: 58 :: r) := ⟨_, rfl⟩
  obtain ⟨SR, hSR⟩ : ∃ S, S = st r := ⟨_, rfl⟩
  rw [← hS, ← hSR] at CMo
  rw [← hSR] at CSh CA
  rw [← hS]
  have fin : ∀ w', W.grownBy w' none → ResP base mb scs deep ab W (.ok r n) (.returned (.string SR)) w' := fun w' g => ⟨by rw [hSR], Kp.refl.grow0 g, ab, cap, hM.grown hB g, .inl rfl⟩
  replace CMo := Lib.hid CMo; replace hS := Lib.hid hS; replace hSR := Lib.hid hSR; replace hM := Lib.hid hM; replace hB := Lib.hid hB; replace fin := Lib.hid fin
  go_enter Tryz.func60, Tryz.ntmps60
  go_wp2_with fail
  refine CMo.out.mono ?_
  rintro e w1 ⟨A, cp, rfl, hO, hG⟩
  obtain ⟨g2, rfl⟩ := own_some hO (by omega)
  obtain ⟨d0, d1, d2, d3, d4⟩ := cells5 hO
  have d0' : w1.cell? ⟨g2, 0, none⟩ = some (.int .u8 108) := d0
  clear d0
  have hgl := (own_lt hO rfl).2
  replace hO := Lib.hid hO; replace hG := Lib.hid hG; replace hgl := Lib.hid hgl
  go_wp2_with fail
  refine wp_loop_in (loopWp_round ?_)
  go_wp2_with fail
  obtain ⟨W2, hW2⟩ : ∃ W2, W2 = w1.alloc (.cells #[.int .u8 108, .int .i64 0, .bool false, .string ⟨#[]⟩, .string ⟨#[]⟩] 109) := ⟨_, rfl⟩
  rw [← hW2]
  have g12 : w1.grownBy W2 none := by rw [hW2]; exact World.grownBy_alloc _ _ none
  have e0 := g12.cell d0' (by simp)
  have e1 := g12.cell d1 (by simp)
  have e2 := g12.cell d2 (by simp)
  have e3 := g12.cell d3 (by simp)
  have e4 := g12.cell d4 (by simp)
  clear d0' d1 d2 d3 d4
  replace hW2 := Lib.hid hW2; replace g12 := Lib.hid g12
  refine loopWp_round ?_
  go_wp2_with fail
  refine (CSh.out _).mono ?_
  rintro e w3 ⟨rfl, rfl⟩
  go_wp2_with fail
  refine wp_loop_in (loopWp_round ?_)
  go_wp2_with fail
  refine (CA.out _).mono ?_
  rintro e w4 ⟨rfl, G4⟩
  have hGG := (hG.out.trans g12.out).trans ((World.grownBy_alloc w3 (.cells #[.int .u8 108, .int .i64 0, .bool false, .string ⟨#[]⟩, .string ⟨#[]⟩] 109) none).trans G4)
  replace G4 := Lib.hid G4; replace hGG := Lib.hid hGG
  go_wp2_with fail
  refine (CSh.out _).mono ?_
  rintro e w5 ⟨rfl, rfl⟩
  go_wp2_with fail
  refine loopWp_round ?_
  go_wp2_with fail
  go_ret
  exact fin.out _ hGG.out
set_option maxRecDepth 100000 in
set_option maxHeartbeats 4000000 in
theorem modified_b (base mb deep : Nat) (scs : List (Option Sc)) (n ab cap : Nat) (W : World) (hl : scs.length ≤ 100) (hv : valueL scs xN = some (some xV)) (hM : Mk base mb W ab cap scs deep n) (hB : base ≤ W.heap.size) :
    Calls Tryz.prog 60 #[.pointer (some ⟨mb, 0, none⟩), .string (st [98, 58, 120])] W (ResP base mb scs deep ab W (.ok [98, 46, 99] n)) := by
  have CMo := modifiers_one 98 [120] W (.inl rfl) (by decide)
  unfold MdP letC at CMo
  have CSh := Lib.hid (fun w => short_ok xV w (by decide))
  have CSh2 := Lib.hid (fun w => short_ok [98, 46, 99] w (by decide))
  have CV := Lib.hid (fun w (g : W.grownBy w none) => value_any base mb ab cap deep n scs xN w (hM.grown hB g) (Nat.le_trans hB g.size) (by omega) (some xV) hv)
  unfold inV at CV
  dsimp only [Option.getD_some, Option.isSome_some] at CV
  have CA := Lib.hid apply_b
  obtain ⟨S, hS⟩ : ∃ S, S = st [98, 58, 120] := ⟨_, rfl⟩
  obtain ⟨SN, hSN⟩ : ∃ S, S = st xN := ⟨_, rfl⟩
  obtain ⟨SX, hSX⟩ : ∃ S, S = st xV := ⟨_, rfl⟩
  obtain ⟨SR, hSR⟩ : ∃ S, S = st [98, 46, 99] := ⟨_, rfl⟩
  rw [show st [120] = st xN from rfl] at CMo
  rw [← hS, ← hSN] at CMo
  rw [← hSX] at CSh CA CV
  rw [← hSN] at CV
  rw [← hSR] at CSh2 CA
  rw [← hS]
  have fin : ∀ w', W.grownBy w' none → ResP base mb scs deep ab W (.ok [98, 46, 99] n) (.returned (.string SR)) w' := fun w' g => ⟨by rw [hSR], Kp.refl.grow0 g, ab, cap, hM.grown hB g, .inl rfl⟩
  replace CMo := Lib.hid CMo; replace hS := Lib.hid hS; replace hSR := Lib.hid hSR; replace hSN := Lib.hid hSN; replace hSX := Lib.hid hSX; replace hv := Lib.hid hv; replace hM := Lib.hid hM; replace hB := Lib.hid hB; replace fin := Lib.hid fin
  go_enter Tryz.func60, Tryz.ntmps60
  go_wp2_with fail
  refine CMo.out.mono ?_
  rintro e w1 ⟨A, cp, rfl, hO, hG⟩
  obtain ⟨g2, rfl⟩ := own_some hO (by omega)
  obtain ⟨d0, d1, d2, d3, d4⟩ := cells5 hO
  have d0' : w1.cell? ⟨g2, 0, none⟩ = some (.int .u8 98) := d0
  clear d0
  have hgl := (own_lt hO rfl).2
  replace hO := Lib.hid hO; replace hG := Lib.hid hG; replace hgl := Lib.hid hgl
  go_wp2_with fail
  refine wp_loop_in (loopWp_round ?_)
  go_wp2_with fail
  obtain ⟨W2, hW2⟩ : ∃ W2, W2 = w1.alloc (.cells #[.int .u8 98, .int .i64 0, .bool false, .string ⟨#[]⟩, .string ⟨#[]⟩] 109) := ⟨_, rfl⟩
  rw [← hW2]
  have g12 : w1.grownBy W2 none := by rw [hW2]; exact World.grownBy_alloc _ _ none
  have e0 := g12.cell d0' (by simp)
  have e1 := g12.cell d1 (by simp)
  have e2 := g12.cell d2 (by simp)
  have e3 := g12.cell d3 (by simp)
  have e4 := g12.cell d4 (by simp)
  clear d0' d1 d2 d3 d4
  replace hW2 := Lib.hid hW2; replace g12 := Lib.hid g12
  refine loopWp_round ?_
  go_wp2_with fail
  refine (CV.out _ (hG.out.trans g12.out)).mono ?_
  rintro e w7 ⟨rfl, G7⟩
  have f0 := G7.cell e0 (by simp)
  have f1 := G7.cell e1 (by simp)
  have f2 := G7.cell e2 (by simp)
  have f3 := G7.cell e3 (by simp)
  have f4 := G7.cell e4 (by simp)
  clear e0 e1 e2 e3 e4
  replace G7 := Lib.hid G7
  go_wp2_with fail
  refine (CSh.out _).mono ?_
  rintro e w3 ⟨rfl, rfl⟩
  go_wp2_with fail
  refine wp_loop_in (loopWp_round ?_)
  go_wp2_with fail
  refine (CA.out _).mono ?_
  rintro e w4 ⟨rfl, G4⟩
  have hGG := ((hG.out.trans g12.out).trans G7.out).trans ((World.grownBy_alloc w3 (.cells #[.int .u8 98, .int .i64 0, .bool false, .string ⟨#[]⟩, .string ⟨#[]⟩] 109) none).trans G4)
  replace G4 := Lib.hid G4; replace hGG := Lib.hid hGG
  go_wp2_with fail
  refine (CSh2.out _).mono ?_
  rintro e w5 ⟨rfl, rfl⟩
  go_wp2_with fail
  refine loopWp_round ?_
  go_wp2_with fail
  go_ret
  exact fin.out _ hGG.out
end Go.Proofs.YtfhdfhlabkeipaaGreatDoor
