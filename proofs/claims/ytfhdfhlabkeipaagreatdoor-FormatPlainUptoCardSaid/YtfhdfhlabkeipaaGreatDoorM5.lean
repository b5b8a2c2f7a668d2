/- Format: modified by one modifier, by two, at the examples' x. -/
import Derived.Test.YtfhdfhlabkeipaaGreatDoorM4
namespace Go.Proofs.YtfhdfhlabkeipaaGreatDoor
open Go.RowKit
set_option linter.unusedSimpArgs false
set_option linter.unusedVariables false

set_option maxRecDepth 100000 in
set_option maxHeartbeats 4000000 in
theorem modified_one (base mb deep : Nat) (scs : List (Option Sc)) (n ab cap : Nat) (W : World) (hl : scs.length ≤ 100) (hv : valueL scs xN = some (some xV)) (hM : Mk base mb W ab cap scs deep n) (hB : base ≤ W.heap.size)
    (T v : B) (c : UInt8) (z : Int) (sa sb : ByteArray) (hc1 : ¬ ((c.toNat : Int) = 108)) (hc2 : ¬ ((c.toNat : Int) = 69)) (hvl : v.length ≤ 8192)
    (CMo : Calls Tryz.prog 75 #[.string (st T)] W (MdP (modL5 c z sa sb) 1 xN W))
    (CA : ∀ w, W.grownBy w none → Calls Tryz.prog 76 #[.agg #[.int .u8 (c.toNat : Int), .int .i64 z, .bool false, .string sa, .string sb], .string (st xV)] w fun e w' => e = .returned (.string (st v)) ∧ w.grownBy w' none) :
    Calls Tryz.prog 60 #[.pointer (some ⟨mb, 0, none⟩), .string (st T)] W (ResP base mb scs deep ab W (.ok v n)) := by
  unfold MdP modL5 at CMo
  have hb1 : ((c.toNat : Int) == 108) = false := by simpa using hc1
  have hb2 : ((c.toNat : Int) == 69) = false := by simpa using hc2
  have CSh := Lib.hid (fun w => short_ok xV w (by decide))
  have CSh2 := Lib.hid (fun w => short_ok v w hvl)
  have CV := Lib.hid (fun w (g : W.grownBy w none) => value_any base mb ab cap deep n scs xN w (hM.grown hB g) (Nat.le_trans hB g.size) (by omega) (some xV) hv)
  unfold inV at CV
  dsimp only [Option.getD_some, Option.isSome_some] at CV
  obtain ⟨S, hS⟩ : ∃ S, S = st T := ⟨_, rfl⟩
  obtain ⟨SN, hSN⟩ : ∃ S, S = st xN := ⟨_, rfl⟩
  obtain ⟨SX, hSX⟩ : ∃ S, S = st xV := ⟨_, rfl⟩
  obtain ⟨SR, hSR⟩ : ∃ S, S = st v := ⟨_, rfl⟩
  rw [← hS, ← hSN] at CMo
  rw [← hSX] at CSh CA CV
  rw [← hSN] at CV
  rw [← hSR] at CSh2 CA
  rw [← hS]
  have fin : ∀ w', W.grownBy w' none → ResP base mb scs deep ab W (.ok v n) (.returned (.string SR)) w' := fun w' g => ⟨by rw [hSR], Kp.refl.grow0 g, ab, cap, hM.grown hB g, .inl rfl⟩
  replace CMo := Lib.hid CMo; replace CA := Lib.hid CA; replace hS := Lib.hid hS; replace hSR := Lib.hid hSR; replace hSN := Lib.hid hSN; replace hSX := Lib.hid hSX; replace hv := Lib.hid hv; replace hM := Lib.hid hM; replace hB := Lib.hid hB; replace fin := Lib.hid fin
  go_enter Tryz.func60, Tryz.ntmps60
  go_wp2_with fail
  refine CMo.out.mono ?_
  rintro e w1 ⟨A, cp, rfl, hO, hG⟩
  obtain ⟨g2, rfl⟩ := own_some hO (by omega)
  obtain ⟨d0, d1, d2, d3, d4⟩ := cells5 hO
  have d0' : w1.cell? ⟨g2, 0, none⟩ = some (.int .u8 (c.toNat : Int)) := d0
  clear d0
  have hgl := (own_lt hO rfl).2
  replace hO := Lib.hid hO; replace hG := Lib.hid hG; replace hgl := Lib.hid hgl
  go_wp2_with fail
  refine wp_loop_in (loopWp_round ?_)
  go_wp2_with fail
  obtain ⟨W2, hW2⟩ : ∃ W2, W2 = w1.alloc (.cells #[.int .u8 (c.toNat : Int), .int .i64 z, .bool false, .string sa, .string sb] 109) := ⟨_, rfl⟩
  rw [← hW2]
  have g12 : w1.grownBy W2 none := by rw [hW2]; exact World.grownBy_alloc _ _ none
  have e0 := g12.cell d0' (by simp)
  have e1 := g12.cell d1 (by simp)
  have e2 := g12.cell d2 (by simp)
  have e3 := g12.cell d3 (by simp)
  have e4 := g12.cell d4 (by simp)
  clear d0' d1 d2 d3 d4
  replace hW2 := Lib.hid hW2; replace g12 := Lib.hid g12
  refine loopWp_round ?_
  go_wp2_with fail
  refine (CV.out _ (hG.out.trans g12.out)).mono ?_
  rintro e w7 ⟨rfl, G7⟩
  have f0 := G7.cell e0 (by simp)
  have f1 := G7.cell e1 (by simp)
  have f2 := G7.cell e2 (by simp)
  have f3 := G7.cell e3 (by simp)
  have f4 := G7.cell e4 (by simp)
  clear e0 e1 e2 e3 e4
  replace G7 := Lib.hid G7
  go_wp2_with fail
  refine (CSh.out _).mono ?_
  rintro e w3 ⟨rfl, rfl⟩
  go_wp2_with fail
  refine wp_loop_in (loopWp_round ?_)
  go_wp2_with fail
  refine (CA.out _ ?hgA).mono ?_
  case hgA => exact ((hG.out.trans g12.out).trans G7.out).trans (World.grownBy_alloc _ _ none)
  rintro e w4 ⟨rfl, G4⟩
  have hGG := ((hG.out.trans g12.out).trans G7.out).trans ((World.grownBy_alloc w3 (.cells #[.int .u8 (c.toNat : Int), .int .i64 z, .bool false, .string sa, .string sb] 109) none).trans G4)
  replace G4 := Lib.hid G4; replace hGG := Lib.hid hGG
  go_wp2_with fail
  refine (CSh2.out _).mono ?_
  rintro e w5 ⟨rfl, rfl⟩
  go_wp2_with fail
  refine loopWp_round ?_
  go_wp2_with fail
  go_ret
  exact fin.out _ hGG.out
theorem cellsN {w : World} {base c g k : Nat} {xs : List Value} (h : w.ownsRow base 109 5 (.slice (some ⟨g, 0, none⟩) k c) k xs) : ∀ (j : Nat) (u : Value), xs[j]? = some u → w.cell? ⟨g, j, none⟩ = some u := fun j u hu => by
  obtain ⟨b, off, e2, _, h2⟩ := (own_rd h).at_ hu
  cases e2
  rwa [Nat.zero_add] at h2

set_option maxRecDepth 100000 in
set_option maxHeartbeats 4000000 in
theorem modified_two (base mb deep : Nat) (scs : List (Option Sc)) (n ab cap : Nat) (W : World) (hl : scs.length ≤ 100) (hv : valueL scs xN = some (some xV)) (hM : Mk base mb W ab cap scs deep n) (hB : base ≤ W.heap.size)
    (T v1 v2 : B) (hv1 : v1.length ≤ 8192) (hv2 : v2.length ≤ 8192)
    (CMo : Calls Tryz.prog 75 #[.string (st T)] W (MdP (modL5 61 3 ⟨#[]⟩ ⟨#[]⟩ ++ modL5 117 0 ⟨#[]⟩ ⟨#[]⟩) 2 xN W))
    (CA : ∀ w, W.grownBy w none → Calls Tryz.prog 76 #[.agg #[.int .u8 61, .int .i64 3, .bool false, .string ⟨#[]⟩, .string ⟨#[]⟩], .string (st xV)] w fun e w' => e = .returned (.string (st v1)) ∧ w.grownBy w' none)
    (CA2 : ∀ w, W.grownBy w none → Calls Tryz.prog 76 #[.agg #[.int .u8 117, .int .i64 0, .bool false, .string ⟨#[]⟩, .string ⟨#[]⟩], .string (st v1)] w fun e w' => e = .returned (.string (st v2)) ∧ w.grownBy w' none) :
    Calls Tryz.prog 60 #[.pointer (some ⟨mb, 0, none⟩), .string (st T)] W (ResP base mb scs deep ab W (.ok v2 n)) := by
  unfold MdP at CMo
  have CSh := Lib.hid (fun w => short_ok xV w (by decide))
  have CSh1 := Lib.hid (fun w => short_ok v1 w hv1)
  have CSh2 := Lib.hid (fun w => short_ok v2 w hv2)
  have CV := Lib.hid (fun w (g : W.grownBy w none) => value_any base mb ab cap deep n scs xN w (hM.grown hB g) (Nat.le_trans hB g.size) (by omega) (some xV) hv)
  unfold inV at CV
  dsimp only [Option.getD_some, Option.isSome_some] at CV
  obtain ⟨S, hS⟩ : ∃ S, S = st T := ⟨_, rfl⟩
  obtain ⟨SN, hSN⟩ : ∃ S, S = st xN := ⟨_, rfl⟩
  obtain ⟨SX, hSX⟩ : ∃ S, S = st xV := ⟨_, rfl⟩
  obtain ⟨S1, hS1⟩ : ∃ S, S = st v1 := ⟨_, rfl⟩
  obtain ⟨SR, hSR⟩ : ∃ S, S = st v2 := ⟨_, rfl⟩
  rw [← hS, ← hSN] at CMo
  rw [← hSX] at CSh CA CV
  rw [← hSN] at CV
  rw [← hS1] at CSh1 CA CA2
  rw [← hSR] at CSh2 CA2
  rw [← hS]
  have fin : ∀ w', W.grownBy w' none → ResP base mb scs deep ab W (.ok v2 n) (.returned (.string SR)) w' := fun w' g => ⟨by rw [hSR], Kp.refl.grow0 g, ab, cap, hM.grown hB g, .inl rfl⟩
  replace CMo := Lib.hid CMo; replace CA := Lib.hid CA; replace CA2 := Lib.hid CA2; replace hS := Lib.hid hS; replace hS1 := Lib.hid hS1; replace hSR := Lib.hid hSR; replace hSN := Lib.hid hSN; replace hSX := Lib.hid hSX; replace hv := Lib.hid hv; replace hM := Lib.hid hM; replace hB := Lib.hid hB; replace fin := Lib.hid fin
  go_enter Tryz.func60, Tryz.ntmps60
  go_wp2_with fail
  refine CMo.out.mono ?_
  rintro e w1 ⟨A, cp, rfl, hO, hG⟩
  obtain ⟨g2, rfl⟩ := own_some hO (by omega)
  have cs := cellsN hO
  have hgl := (own_lt hO rfl).2
  have d0 : w1.cell? ⟨g2, 0, none⟩ = some (.int .u8 61) := cs 0 _ rfl
  have d1 : w1.cell? ⟨g2, 1, none⟩ = some (.int .i64 3) := cs 1 _ rfl
  have d2 : w1.cell? ⟨g2, 2, none⟩ = some (.bool false) := cs 2 _ rfl
  have d3 : w1.cell? ⟨g2, 3, none⟩ = some (.string ⟨#[]⟩) := cs 3 _ rfl
  have d4 : w1.cell? ⟨g2, 4, none⟩ = some (.string ⟨#[]⟩) := cs 4 _ rfl
  have d5 : w1.cell? ⟨g2, 5, none⟩ = some (.int .u8 117) := cs 5 _ rfl
  have d6 : w1.cell? ⟨g2, 6, none⟩ = some (.int .i64 0) := cs 6 _ rfl
  have d7 : w1.cell? ⟨g2, 7, none⟩ = some (.bool false) := cs 7 _ rfl
  have d8 : w1.cell? ⟨g2, 8, none⟩ = some (.string ⟨#[]⟩) := cs 8 _ rfl
  have d9 : w1.cell? ⟨g2, 9, none⟩ = some (.string ⟨#[]⟩) := cs 9 _ rfl
  clear cs
  replace hO := Lib.hid hO; replace hG := Lib.hid hG; replace hgl := Lib.hid hgl
  go_wp2_with fail
  refine wp_loop_in (loopWp_round ?_)
  go_wp2_with fail
  obtain ⟨W2, hW2⟩ : ∃ W2, W2 = w1.alloc (.cells #[.int .u8 61, .int .i64 3, .bool false, .string ⟨#[]⟩, .string ⟨#[]⟩] 109) := ⟨_, rfl⟩
  rw [← hW2]
  have g12 : w1.grownBy W2 none := by rw [hW2]; exact World.grownBy_alloc _ _ none
  have e0 := g12.cell d0 (by simp); have e1 := g12.cell d1 (by simp); have e2 := g12.cell d2 (by simp); have e3 := g12.cell d3 (by simp); have e4 := g12.cell d4 (by simp)
  have e5 := g12.cell d5 (by simp); have e6 := g12.cell d6 (by simp); have e7 := g12.cell d7 (by simp); have e8 := g12.cell d8 (by simp); have e9 := g12.cell d9 (by simp)
  clear d0 d1 d2 d3 d4 d5 d6 d7 d8 d9
  replace hW2 := Lib.hid hW2; replace g12 := Lib.hid g12
  refine loopWp_round ?_
  go_wp2_with fail
  obtain ⟨W3, hW3⟩ : ∃ W, W = W2.alloc (.cells #[.int .u8 117, .int .i64 0, .bool false, .string ⟨#[]⟩, .string ⟨#[]⟩] 109) := ⟨_, rfl⟩
  rw [← hW3]
  have g23 : W2.grownBy W3 none := by rw [hW3]; exact World.grownBy_alloc _ _ none
  have f0 := g23.cell e0 (by simp); have f1 := g23.cell e1 (by simp); have f2 := g23.cell e2 (by simp); have f3 := g23.cell e3 (by simp); have f4 := g23.cell e4 (by simp); have f5 := g23.cell e5 (by simp); have f6 := g23.cell e6 (by simp); have f7 := g23.cell e7 (by simp); have f8 := g23.cell e8 (by simp); have f9 := g23.cell e9 (by simp)
  clear e0 e1 e2 e3 e4 e5 e6 e7 e8 e9
  have G13 := (hG.out.trans g12.out).trans g23
  replace hW3 := Lib.hid hW3; replace g23 := Lib.hid g23; replace G13 := Lib.hid G13
  refine loopWp_round ?_
  go_wp2_with fail
  refine (CV.out _ G13.out).mono ?_
  rintro e w7 ⟨rfl, G7⟩
  have d0 := G7.cell f0 (by simp); have d1 := G7.cell f1 (by simp); have d2 := G7.cell f2 (by simp); have d3 := G7.cell f3 (by simp); have d4 := G7.cell f4 (by simp); have d5 := G7.cell f5 (by simp); have d6 := G7.cell f6 (by simp); have d7 := G7.cell f7 (by simp); have d8 := G7.cell f8 (by simp); have d9 := G7.cell f9 (by simp)
  clear f0 f1 f2 f3 f4 f5 f6 f7 f8 f9
  have G17 := G13.out.trans G7
  replace G7 := Lib.hid G7; replace G17 := Lib.hid G17
  go_wp2_with fail
  refine (CSh.out _).mono ?_
  rintro e w3 ⟨rfl, rfl⟩
  go_wp2_with fail
  refine wp_loop_in (loopWp_round ?_)
  go_wp2_with fail
  refine (CA.out _ (g_alloc G17.out _)).mono ?_
  rintro e w4 ⟨rfl, G4⟩
  have G34 := (World.grownBy_alloc w3 (.cells #[.int .u8 61, .int .i64 3, .bool false, .string ⟨#[]⟩, .string ⟨#[]⟩] 109) none).trans G4
  have e0 := G34.cell d0 (by simp); have e1 := G34.cell d1 (by simp); have e2 := G34.cell d2 (by simp); have e3 := G34.cell d3 (by simp); have e4 := G34.cell d4 (by simp); have e5 := G34.cell d5 (by simp); have e6 := G34.cell d6 (by simp); have e7 := G34.cell d7 (by simp); have e8 := G34.cell d8 (by simp); have e9 := G34.cell d9 (by simp)
  clear d0 d1 d2 d3 d4 d5 d6 d7 d8 d9
  have G14 := G17.out.trans G34
  replace G4 := Lib.hid G4; replace G34 := Lib.hid G34; replace G14 := Lib.hid G14
  go_wp2_with fail
  refine (CSh1.out _).mono ?_
  rintro e w5 ⟨rfl, rfl⟩
  go_wp2_with fail
  refine loopWp_round ?_
  go_wp2_with fail
  refine (CA2.out _ (g_alloc G14.out _)).mono ?_
  rintro e w6 ⟨rfl, G6⟩
  have hGG := (g_alloc G14.out (.cells #[.int .u8 117, .int .i64 0, .bool false, .string ⟨#[]⟩, .string ⟨#[]⟩] 109)).trans G6
  replace G6 := Lib.hid G6; replace hGG := Lib.hid hGG
  go_wp2_with fail
  refine (CSh2.out _).mono ?_
  rintro e w8 ⟨rfl, rfl⟩
  go_wp2_with fail
  refine loopWp_round ?_
  go_wp2_with fail
  go_ret
  exact fin.out _ hGG.out
end Go.Proofs.YtfhdfhlabkeipaaGreatDoor
