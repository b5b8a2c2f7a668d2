/- Key: the examples hold. -/
import Derived.Test.YtncokbppijnfiaaGreatDoorS2
namespace Go.Proofs.YtncokbppijnfiaaGreatDoor
open Go.RowKit
set_option linter.unusedSimpArgs false
set_option linter.unusedVariables false

set_option maxRecDepth 100000 in
theorem parse1 : parseL [77, 45, 67, 45, 120] = some (120, 6) := by kernel_rfl
set_option maxRecDepth 100000 in
theorem parse2 : parseL [83, 45, 97] = none := by kernel_rfl
set_option maxRecDepth 100000 in
theorem name1 : nameK 120 6 = [67, 45, 77, 45, 120] := by kernel_rfl
def x1 : List UInt8 := [27, 91]
def x2 : List UInt8 := [27, 91, 49, 59, 51, 65, 27]
set_option maxRecDepth 100000 in
theorem fr1 : frF false x1 = (msNone, 0, 0) := by kernel_rfl
set_option maxRecDepth 100000 in
theorem fr2 : frF false x2 = (msOne 1114112 2, 2, 6) := by kernel_rfl
theorem fr3 : frF false [27] = (msNone, 0, 0) := by kernel_rfl
theorem fr4 : frF true [27] = (msOne 1114135 0, 2, 1) := by kernel_rfl
theorem took1 : Took (frF false) ([] ++ x1) [] x1 := .waits x1 (by decide) (by rw [fr1])
theorem took2 : Took (frF false) (x1 ++ [49, 59, 51, 65, 27]) [msOne 1114112 2] [27] := by
  have h := Took.is (F := frF false) x2 [] [27] (by decide) (by rw [fr2]) (by rw [fr2]; decide) (by rw [fr2]; decide) (by rw [fr2]; exact .waits [27] (by decide) (by rw [fr3]))
  rw [fr2] at h
  exact h
theorem took3 : Took (frF true) [27] [msOne 1114135 0] [] := by
  have h := Took.is (F := frF true) [27] [] [] (by decide) (by rw [fr4]) (by rw [fr4]; decide) (by rw [fr4]; decide) (by rw [fr4]; exact .nil)
  rw [fr4] at h
  exact h
set_option maxRecDepth 100000 in
theorem seq_x2 : brK x2 = 5 := by kernel_rfl
set_option maxRecDepth 100000 in
theorem seqL_x2 : sequenceL [49, 59, 51] 65 = (msOne 1114112 2, true) := by kernel_rfl
theorem frontAt1 : FrontAt (frF false) false ([] ++ x1) := frontAt_F false x1 (by decide) (by decide) fun k hk => by
  have hk2 : k = 0 ∨ k = 1 ∨ 2 ≤ k := by omega
  rcases hk2 with rfl | rfl | h
  · right
    refine ⟨by decide, fun z hz => ?_⟩
    have : brK (x1.drop 0) = 2 := by kernel_rfl
    rw [this] at hz; simp [x1] at hz
  · simp [x1] at hk
  · rw [List.drop_of_length_le (by simpa [x1] using h)] at hk; simp at hk
theorem frontAt2 : FrontAt (frF false) false (x1 ++ [49, 59, 51, 65, 27]) := frontAt_F false x2 (by decide) (by decide) fun k hk => by
  have hk2 : k = 0 ∨ k = 1 ∨ k = 2 ∨ k = 3 ∨ k = 4 ∨ k = 5 ∨ k = 6 ∨ 7 ≤ k := by omega
  rcases hk2 with rfl | rfl | rfl | rfl | rfl | rfl | rfl | h
  · right
    refine ⟨by decide, fun z hz _ _ W hW => ?_⟩
    have e1 : brK (x2.drop 0) = 5 := seq_x2
    rw [e1] at hz ⊢
    have hz2 : z = 65 := by simp [x2] at hz; exact hz.symm
    subst hz2
    have e2 : ((x2.drop 0).take 5).drop 2 = [49, 59, 51] := rfl
    rw [e2, seqL_x2]
    exact sequence_13 W hW
  · simp [x2] at hk
  · simp [x2] at hk
  · simp [x2] at hk
  · simp [x2] at hk
  · simp [x2] at hk
  · left; decide
  · rw [List.drop_of_length_le (by simpa [x2] using h)] at hk; simp at hk
theorem frontAt3 : FrontAt (frF true) true [27] := frontAt_F true [27] (by decide) (by decide) fun k hk => by
  have hk2 : k = 0 ∨ 1 ≤ k := by omega
  rcases hk2 with rfl | h
  · left; decide
  · rw [List.drop_of_length_le (by simpa using h)] at hk; simp at hk
theorem KC.grown' {w w' : World} {b : Nat} {c m : Int} (h : KC w b c m) {r : Option Nat} (g : w.grownBy w' r) (hr : some b ≠ r) : KC w' b c m := (g.block b h.lt hr).trans h
theorem own_cap {w : World} {base n c size : Nat} {e : TypeId} {A : Option Addr} {xs : List Value} (h : w.ownsRow base e size (.slice A n c) n xs) : n ≤ c := by
  obtain ⟨_, _, e, _, _, h, _⟩ := Rd.of_own h
  injection e with _ _ e3; omega
theorem g_rows {w0 w1 w2 : World} {r : Option Nat} (h : w0.grownBy w1 none) (hr : ∀ g, r = some g → w0.heap.size ≤ g) (h2 : w1.grownBy w2 r) : w0.grownBy w2 none :=
  ⟨h2.os.trans h.os, h2.tape.trans h.tape, h2.output.trans h.output, Nat.le_trans h.size h2.size, fun k hk _ => (h2.block k (Nat.lt_of_lt_of_le hk h.size) (by intro e; have := hr k e.symm; omega)).trans (h.block k hk (by simp))⟩
theorem Rd.own_row {w : World} {base n c : Nat} {A : Option Addr} {xs : List Value} (h : w.ownsRow base 40 5 (.slice A n c) n xs) : Rd w A xs := by
  obtain ⟨A', c', e, h1, _⟩ := Rd.of_own h
  injection e with e
  subst e; exact h1
set_option maxHeartbeats 4000000 in
set_option maxRecDepth 100000 in
theorem shown_any (w : World) (hW : Wd w) : Calls Tryz.prog 7 #[] w fun e w' => e = .returned (.bool true) ∧ w.grownBy w' none := by
  have P1 : Calls Tryz.prog 11 #[.string (st [77, 45, 67, 45, 120])] w fun e w' => e = .returned (.tuple #[keyV 120 6, .int .i64 0]) ∧ w.grownBy w' none := by
    have := parse_any [77, 45, 67, 45, 120] (by decide) w hW
    rwa [parse1] at this
  have P2 : Hid (∀ W, Wd W → Calls Tryz.prog 11 #[.string (st [83, 45, 97])] W fun e w' => e = .returned (.tuple #[keyV 0 0, .int .i64 6]) ∧ W.grownBy w' none) := Lib.hid fun W h => by
    have := parse_any [83, 45, 97] (by decide) W h
    rwa [parse2] at this
  have wf0 : Wf w w := ⟨hW, Below.refl _ _⟩
  replace P1 := Lib.hid P1; replace hW := Lib.hid hW; replace wf0 := Lib.hid wf0
  unfold keyV at *
  go_enter Tryz.func7, Tryz.ntmps7
  go_wp2_with fail
  refine (P1.out).mono ?_
  rintro e w1 ⟨rfl, g1⟩
  clear P1
  have G2 := g_alloc g1 (.cells #[.int .i64 120, .int .i64 6] 23)
  have K2 := KC.new w1 120 6
  obtain ⟨bk, hbk⟩ : ∃ n, n = w1.heap.size := ⟨_, rfl⟩
  have hbk0 : w.heap.size ≤ bk := by rw [hbk]; exact g1.size
  rw [← hbk] at K2
  obtain ⟨W2, hW2⟩ : ∃ W, W = w1.alloc (.cells #[.int .i64 120, .int .i64 6] 23) := ⟨_, rfl⟩
  rw [← hW2] at G2 K2
  have P22 := Lib.hid (P2.out W2 (hW.out.grown G2))
  replace hbk := Lib.hid hbk; replace hW2 := Lib.hid hW2; replace G2 := Lib.hid G2; replace K2 := Lib.hid K2
  clear P2 g1
  go_upto_region 2 with fail
  rw [← hbk.out, ← hW2.out]
  go_wp2_with fail
  refine P22.out.mono ?_
  rintro e w3 ⟨rfl, g3⟩
  clear P22
  have G4 := g_alloc (G2.out.trans g3) (.cells #[.int .i64 0, .int .i64 0] 23)
  have K4 := (K2.out.grown g3).grown (World.grownBy_alloc w3 (.cells #[.int .i64 0, .int .i64 0] 23) none)
  obtain ⟨W4, hW4⟩ : ∃ W, W = w3.alloc (.cells #[.int .i64 0, .int .i64 0] 23) := ⟨_, rfl⟩
  rw [← hW4] at G4 K4
  have CN := Lib.hid (newDec_any W4)
  replace hW4 := Lib.hid hW4; replace G4 := Lib.hid G4; replace K4 := Lib.hid K4
  clear g3
  go_upto_region 3 with fail
  rw [← hW4.out]
  go_wp2_with fail
  refine CN.out.mono ?_
  rintro e w5 ⟨rfl, g5, D5⟩
  obtain ⟨p, hp⟩ : ∃ p, p = W4.heap.size := ⟨_, rfl⟩
  rw [← hp] at D5 ⊢
  have hp0 : w.heap.size ≤ p := by rw [hp]; exact G4.out.size
  have hbkp : bk ≠ p := by have := K4.out.lt; omega
  have G5 := G4.out.trans g5
  have K5 := K4.out.grown g5
  replace D5 := Lib.hid D5; replace G5 := Lib.hid G5; replace K5 := Lib.hid K5; replace hp := Lib.hid hp
  clear CN g5
  -- the first bytes
  have hkc6 : ∀ (n c : Nat), (convert 32 32 (.slice (some ⟨w5.heap.size, 0, none⟩) n c)).run Tryz.prog (w5.alloc (.cells #[.int .u8 27, .int .u8 91] 5)) = .ok (.slice (some ⟨w5.heap.size, 0, none⟩) n c) (w5.alloc (.cells #[.int .u8 27, .int .u8 91] 5 (2, 3))) := fun n c => Lib.run_convert_bytes_const w5 32 5 _ n c Tryz.underlying32 Tryz.underlying5
  have M6 : MB (w5.alloc (.cells #[.int .u8 27, .int .u8 91] 5 (2, 3))) w5.heap.size 2 [27, 91] := MB.const w5 [27, 91]
  have g6 := World.grownBy_alloc w5 (.cells #[.int .u8 27, .int .u8 91] 5 (2, 3)) none
  obtain ⟨W6, hW6⟩ : ∃ W, W = w5.alloc (.cells #[.int .u8 27, .int .u8 91] 5 (2, 3)) := ⟨_, rfl⟩
  rw [← hW6] at M6 g6
  simp only [← hW6] at hkc6
  have G6 := G5.out.trans g6
  have wf6 : Wf w W6 := wf0.out.grown G6 (by simp)
  have D6 := D5.out.grown g6 (by simp)
  have K6 := K5.out.grown g6
  have C6 := Lib.hid (feed_any (frF false) p 0 0 W6.heap.size 2 2 none (some ⟨w5.heap.size, 0, none⟩) [] [27, 91] x1 [] w W6 wf6 G6.size hp0 (Nat.le_refl _) D6 (World.ownsRow_nil _ _ _ _) rfl rfl (by omega) M6.rd took1 frontAt1)
  replace hW6 := Lib.hid hW6; replace G6 := Lib.hid G6; replace wf6 := Lib.hid wf6; replace D6 := Lib.hid D6; replace K6 := Lib.hid K6
  clear M6 g6
  go_wp2_with fail
  refine C6.out.mono ?_
  rintro e w8 ⟨Aa, ca, A8, c8, w7, rfl, Oa, D8, O8, g7, g8⟩
  have hs8 : W6.heap.size ≤ w8.heap.size := Nat.le_trans g7.size g8.size
  have G8 : w.grownBy w8 none := g_rows (G6.out.trans g7) (fun g h => by injection h with h; omega) g8
  have K8 : KC w8 bk 120 6 := (K6.out.grown g7).grown' g8 (fun e => hbkp (by injection e))
  have hbk8 : bk < W6.heap.size := K6.out.lt
  have hp8 : p < W6.heap.size := D6.out.lt
  have wf8 : Wf w w8 := wf0.out.grown G8 (by simp)
  replace O8 := Lib.hid O8; replace D8 := Lib.hid D8; replace G8 := Lib.hid G8; replace K8 := Lib.hid K8; replace wf8 := Lib.hid wf8
  clear C6 Oa g7 g8
  -- the second bytes
  have hkc9 : ∀ (n c : Nat), (convert 32 32 (.slice (some ⟨w8.heap.size, 0, none⟩) n c)).run Tryz.prog (w8.alloc (.cells #[.int .u8 49, .int .u8 59, .int .u8 51, .int .u8 65, .int .u8 27] 5)) = .ok (.slice (some ⟨w8.heap.size, 0, none⟩) n c) (w8.alloc (.cells #[.int .u8 49, .int .u8 59, .int .u8 51, .int .u8 65, .int .u8 27] 5 (5, 6))) := fun n c => Lib.run_convert_bytes_const w8 32 5 _ n c Tryz.underlying32 Tryz.underlying5
  have M9 : MB (w8.alloc (.cells #[.int .u8 49, .int .u8 59, .int .u8 51, .int .u8 65, .int .u8 27] 5 (5, 6))) w8.heap.size 5 [49, 59, 51, 65, 27] := MB.const w8 [49, 59, 51, 65, 27]
  have g9 := World.grownBy_alloc w8 (.cells #[.int .u8 49, .int .u8 59, .int .u8 51, .int .u8 65, .int .u8 27] 5 (5, 6)) none
  obtain ⟨W9, hW9⟩ : ∃ W, W = w8.alloc (.cells #[.int .u8 49, .int .u8 59, .int .u8 51, .int .u8 65, .int .u8 27] 5 (5, 6)) := ⟨_, rfl⟩
  rw [← hW9] at M9 g9
  simp only [← hW9] at hkc9
  have G9 := G8.out.trans g9
  have wf9 : Wf w W9 := wf0.out.grown G9 (by simp)
  have D9 := D8.out.grown g9 (by simp)
  have K9 := K8.out.grown g9
  have O9 := own_keep O8.out g9
  have hs9 : W6.heap.size ≤ W9.heap.size := Nat.le_trans hs8 g9.size
  have C9 := Lib.hid (feed_any (frF false) p 2 c8 W6.heap.size 5 5 A8 (some ⟨w8.heap.size, 0, none⟩) x1 [49, 59, 51, 65, 27] [27] [msOne 1114112 2] w W9 wf9 G6.out.size hp0 hs9 D9 O9 rfl rfl (by omega) M9.rd took2 frontAt2)
  have hO9 : ∀ g, (Value.slice A8 2 c8).ownBlock = some g → W6.heap.size ≤ g := fun g h => (O9.lt g h).1
  replace hW9 := Lib.hid hW9; replace G9 := Lib.hid G9; replace wf9 := Lib.hid wf9; replace D9 := Lib.hid D9; replace K9 := Lib.hid K9; replace O9 := Lib.hid O9; replace hO9 := Lib.hid hO9
  clear M9 g9
  go_wp2_with fail
  refine C9.out.mono ?_
  rintro e w11 ⟨Ab, cb, A11, c11, w10, rfl, Ob, D11, O11, g10, g11⟩
  have h69 := G6.out.size
  have G10 : w.grownBy w10 none := g_rows G9.out (fun g h => by have := hO9.out g h; omega) g10
  have G11 : w.grownBy w11 none := g_rows G10 (fun g h => by injection h with h; omega) g11
  have K11 : KC w11 bk 120 6 := (K9.out.grown' g10 (fun e => by have := hO9.out bk e.symm; omega)).grown' g11 (fun e => hbkp (by injection e))
  have wf11 : Wf w w11 := wf0.out.grown G11 (by simp)
  have hp11 : p < W9.heap.size := D9.out.lt
  have C12 := Lib.hid (time_any (frF true) p 1 c11 A11 [27] [] [msOne 1114135 0] w11 wf11.wd D11 (own_Rd O11) rfl (by omega) (own_cap O11) took3 frontAt3)
  replace Ob := Lib.hid Ob; replace O11 := Lib.hid O11; replace D11 := Lib.hid D11; replace G11 := Lib.hid G11; replace K11 := Lib.hid K11; replace wf11 := Lib.hid wf11
  clear C9 g10 g11 G10
  go_wp2_with fail
  refine C12.out.mono ?_
  rintro e w12 ⟨Ac, cc, A12, c12, rfl, Oc, D12, O12, g12⟩
  have G12 : w.grownBy w12 none := g_rows G11.out (fun g h => by injection h with h; omega) g12
  have K12 : KC w12 bk 120 6 := K11.out.grown' g12 (fun e => hbkp (by injection e))
  have Ob2 := own_but Ob.out g12 hp11
  have RB := Rd.own_row Ob2
  have RC := Rd.own_row Oc
  have W12 := hW.out.grown G12
  have CNm := Lib.hid (name_any 120 6 (by unfold I64; omega) w12 W12)
  rw [name1] at CNm
  obtain ⟨k0, k1, _⟩ := K12.cells
  replace RB := Lib.hid RB; replace RC := Lib.hid RC; replace G12 := Lib.hid G12; replace K12 := Lib.hid K12; replace D12 := Lib.hid D12
  clear C12 Ob Oc O12 O11 Ob2 g12
  unfold keyV at CNm
  go_wp2_with fail
  refine CNm.out.mono ?_
  rintro e w13 ⟨rfl, g13⟩
  have G13 := G12.out.trans g13
  have RB3 := RB.out.grown g13 (.inl rfl)
  have RC3 := RC.out.grown g13 (.inl rfl)
  have D13 := D12.out.grown g13 (by simp)
  have CB := Lib.hid (bytes_up w13 (hW.out.grown G13))
  have hE1 : (st [67, 45, 77, 45, 120]).toList = [67, 45, 77, 45, 120] := st_toList _
  unfold keyV at CB
  replace RB3 := Lib.hid RB3; replace RC3 := Lib.hid RC3; replace G13 := Lib.hid G13; replace D13 := Lib.hid D13
  clear CNm k0 k1 g13 RB RC
  go_wp2_with fail
  refine CB.out.mono ?_
  rintro e w14 ⟨A14, n14, c14, rfl, hn14, hc14, R14, g14⟩
  have hcv := conv_str (P := Tryz.prog) w14 32 9 5 Tryz.underlying32 Tryz.underlying5 Tryz.underlying9 A14 n14 c14 [27, 79, 65] hn14 R14
  have hE2 : (st [27, 79, 65]).toList = [27, 79, 65] := st_toList _
  have RB4 := RB3.out.grown g14 (.inl rfl)
  have RC4 := RC3.out.grown g14 (.inl rfl)
  have D14 := D13.out.grown g14 (by simp)
  have G14 := G13.out.trans g14
  obtain ⟨bB, oB, rfl, _, b0⟩ := RB4.at_ (j := 0) (u := .int .i64 1114112) rfl
  obtain ⟨_, _, e1, _, b1⟩ := RB4.at_ (j := 1) (u := .int .i64 2) rfl
  cases e1
  obtain ⟨bC, oC, rfl, _, q0⟩ := RC4.at_ (j := 0) (u := .int .i64 1114135) rfl
  rw [Nat.add_zero] at b0 q0
  have CW := Lib.hid (wait_any p 0 c12 A12 w14 D14)
  replace hn14 := Lib.hid hn14; replace hc14 := Lib.hid hc14; replace R14 := Lib.hid R14; replace D14 := Lib.hid D14; replace G14 := Lib.hid G14; replace RB4 := Lib.hid RB4; replace RC4 := Lib.hid RC4
  clear CB g14
  go_wp2_with fail
  refine CW.out.mono ?_
  rintro e w15 ⟨rfl, rfl⟩
  go_wp2_with fail
  go_ret
  exact ⟨by simp, G14.out⟩
end Go.Proofs.YtncokbppijnfiaaGreatDoor
