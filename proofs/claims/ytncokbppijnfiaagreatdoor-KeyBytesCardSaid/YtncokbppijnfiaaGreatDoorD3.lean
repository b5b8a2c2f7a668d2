/- Key: Name and Parse. (Printed by wip/tools/mkD3.py.) -/
import Derived.Test.YtncokbppijnfiaaGreatDoorD2
import Derived.Test.YtncokbppijnfiaaGreatDoorM1
import Derived.Deep.DeepCutAuto
import Derived.Deep.CutBlock
namespace Go.Proofs.YtncokbppijnfiaaGreatDoor
open Go.RowKit
set_option linter.unusedSimpArgs false
set_option linter.unusedVariables false

theorem and_k {m k : Int} (h0 : 0 ≤ m) (h7 : m ≤ 7) (hk : k = 1 ∨ k = 2 ∨ k = 4) : bits .and .i64 m k = if m / k % 2 = 1 then k else 0 := by
  have hm : m = 0 ∨ m = 1 ∨ m = 2 ∨ m = 3 ∨ m = 4 ∨ m = 5 ∨ m = 6 ∨ m = 7 := by omega
  rcases hk with rfl | rfl | rfl <;> rcases hm with rfl | rfl | rfl | rfl | rfl | rfl | rfl | rfl <;> decide
theorem or_k {m k : Int} (h0 : 0 ≤ m) (h7 : m ≤ 7) (hk : k = 1 ∨ k = 2 ∨ k = 4) (h : ¬ m / k % 2 = 1) : bits .or .i64 m k = m + k ∧ m + k ≤ 7 := by
  have hm : m = 0 ∨ m = 1 ∨ m = 2 ∨ m = 3 ∨ m = 4 ∨ m = 5 ∨ m = 6 ∨ m = 7 := by omega
  rcases hk with rfl | rfl | rfl <;> rcases hm with rfl | rfl | rfl | rfl | rfl | rfl | rfl | rfl <;> first | (exact absurd (by decide) h) | decide
theorem encode_le4 (i : Int) : (Utf8.encode i).size ≤ 4 := by
  unfold Utf8.encode
  dsimp only
  repeat' split
  all_goals simp [ByteArray.size]
theorem nameC_len (c : Int) : (nameC c).length ≤ 20 := by
  unfold nameC
  repeat' split
  all_goals first | decide | skip
  · rename_i h1 h2
    obtain ⟨j, hj⟩ : ∃ j : Nat, (c - 1114112).toNat = j := ⟨_, rfl⟩
    have hjl : j < 31 := by omega
    rw [hj]
    have : ∀ j, j < 31 → (specialsL.getD j []).length ≤ 20 := by decide
    exact this j hjl
  · have := encode_le4 c
    have e1 : (Utf8.encode c).data.toList.length = (Utf8.encode c).size := by rw [Array.length_toList]; rfl
    omega
set_option maxHeartbeats 4000000 in
set_option maxRecDepth 100000 in
theorem name_any (c m : Int) (hc : I64 c) (w : World) (hW : Wd w) : Calls Tryz.prog 10 #[keyV c m] w fun e w' => e = .returned (.string (st (nameK c m))) ∧ w.grownBy w' none := by
  have CR : Hid (∀ W, Wd W → Calls Tryz.prog 8 #[keyV c m] W fun e w' => e = .returned (.bool (rightK c m)) ∧ W.grownBy w' none) := Lib.hid fun W h => right_any c m hc W h
  have CN : Hid (∀ W, Wd W → Calls Tryz.prog 21 #[.int .i64 c] W fun e w' => e = .returned (.string (st (nameC c))) ∧ W.grownBy w' none) := Lib.hid fun W h => named_any c hc W h
  have hrt := fun (h : rightK c m = true) => right_mods h
  have hnl := nameC_len c
  obtain ⟨W0, hW0⟩ : ∃ W, W = w.alloc (.cells #[.int .i64 c, .int .i64 m] 23) := ⟨_, rfl⟩
  have g0 : w.grownBy W0 none := by rw [hW0]; exact World.grownBy_alloc _ _ _
  obtain ⟨bR, hbR⟩ : ∃ n, n = w.heap.size := ⟨_, rfl⟩
  have hR0 : KC W0 bR c m := by rw [hW0, hbR]; exact KC.new w c m
  obtain ⟨x0, x1, _⟩ := hR0.cells
  have CR0 := Lib.hid (CR.out W0 (hW.grown g0))
  obtain ⟨NK, hNK⟩ : ∃ r, r = nameK c m := ⟨_, rfl⟩
  obtain ⟨r, hr⟩ : ∃ r, r = rightK c m := ⟨_, rfl⟩
  rw [← hr] at CR0 hrt
  rw [← hNK]
  unfold nameK at hNK
  rw [← hr] at hNK
  replace hW := Lib.hid hW; replace hW0 := Lib.hid hW0; replace g0 := Lib.hid g0; replace hbR := Lib.hid hbR; replace hR0 := Lib.hid hR0; replace hr := Lib.hid hr; replace hNK := Lib.hid hNK
  clear CR
  unfold keyV at *
  go_enter Tryz.func10, Tryz.ntmps10
  go_wp2_with fail
  rw [← hW0.out, ← hbR.out]
  refine CR0.out.mono ?_
  rintro e w1 ⟨rfl, g1⟩
  have G1 := g0.out.trans g1
  have W1 := hW.out.grown G1
  have y0 := g1.cell x0 (by simp); have y1 := g1.cell x1 (by simp)
  have CN1 := Lib.hid (CN.out w1 W1)
  replace G1 := Lib.hid G1; replace W1 := Lib.hid W1
  clear x0 x1 CR0 CN g1
  cases r with
  | false =>
    have e1 : NK = [] := by rw [hNK.out, if_neg (by simp)]
    subst e1
    go_wp2_with fail
    go_ret
    exact ⟨rfl, G1.out⟩
  | true =>
    have hN2 : NK = (if m / 4 % 2 = 1 then [67, 45] else []) ++ (if m / 2 % 2 = 1 then [77, 45] else []) ++ (if m % 2 = 1 then [83, 45] else []) ++ nameC c := by rw [hNK.out, if_pos rfl]
    obtain ⟨m0, m7, _⟩ := hrt rfl
    have b4 := and_k (k := 4) m0 m7 (.inr (.inr rfl)); have b2 := and_k (k := 2) m0 m7 (.inr (.inl rfl)); have b1 := and_k (k := 1) m0 m7 (.inl rfl)
    rw [show m / 1 = m by omega] at b1
    obtain ⟨nc, hnc⟩ : ∃ r, r = nameC c := ⟨_, rfl⟩
    rw [← hnc] at CN1 hN2 hnl
    replace hnc := Lib.hid hnc
    clear hNK hrt
    have fin : ∀ l : List UInt8, NK = l ++ nc → Hid (NK = l ++ nc) := fun l h => Lib.hid h
    by_cases h4 : m / 4 % 2 = 1
    · rw [if_pos h4] at b4 hN2; replace h4 := Lib.hid h4
      by_cases h2 : m / 2 % 2 = 1
      · rw [if_pos h2] at b2 hN2; replace h2 := Lib.hid h2
        by_cases h1 : m % 2 = 1
        · rw [if_pos h1] at b1 hN2; replace h1 := Lib.hid h1
          have ad0 : Adds ⟨#[]⟩ ⟨#[67, 45]⟩ ⟨#[67, 45]⟩ := adds_st [] [67, 45] (by decide)
          have ad1 : Adds ⟨#[67, 45]⟩ ⟨#[77, 45]⟩ ⟨#[67, 45, 77, 45]⟩ := adds_st [67, 45] [77, 45] (by decide)
          have ad2 : Adds ⟨#[67, 45, 77, 45]⟩ ⟨#[83, 45]⟩ ⟨#[67, 45, 77, 45, 83, 45]⟩ := adds_st [67, 45, 77, 45] [83, 45] (by decide)
          have hEq : NK = [67, 45, 77, 45, 83, 45] ++ nc := by rw [hN2]; rfl
          have ad9 : Adds ⟨#[67, 45, 77, 45, 83, 45]⟩ (st nc) (st NK) := by rw [hEq]; exact adds_st [67, 45, 77, 45, 83, 45] nc (by simp; omega)
          unfold Adds at *
          replace hN2 := Lib.hid hN2; replace hEq := Lib.hid hEq
          go_wp2_with fail
          refine CN1.out.mono ?_
          rintro e w2 ⟨rfl, g2⟩
          have G2 := G1.out.trans g2
          replace G2 := Lib.hid G2; clear g2
          go_wp2_with fail
          go_ret
          exact ⟨rfl, G2.out⟩
        · rw [if_neg h1] at b1 hN2; replace h1 := Lib.hid h1
          have ad0 : Adds ⟨#[]⟩ ⟨#[67, 45]⟩ ⟨#[67, 45]⟩ := adds_st [] [67, 45] (by decide)
          have ad1 : Adds ⟨#[67, 45]⟩ ⟨#[77, 45]⟩ ⟨#[67, 45, 77, 45]⟩ := adds_st [67, 45] [77, 45] (by decide)
          have hEq : NK = [67, 45, 77, 45] ++ nc := by rw [hN2]; rfl
          have ad9 : Adds ⟨#[67, 45, 77, 45]⟩ (st nc) (st NK) := by rw [hEq]; exact adds_st [67, 45, 77, 45] nc (by simp; omega)
          unfold Adds at *
          replace hN2 := Lib.hid hN2; replace hEq := Lib.hid hEq
          go_wp2_with fail
          refine CN1.out.mono ?_
          rintro e w2 ⟨rfl, g2⟩
          have G2 := G1.out.trans g2
          replace G2 := Lib.hid G2; clear g2
          go_wp2_with fail
          go_ret
          exact ⟨rfl, G2.out⟩
      · rw [if_neg h2] at b2 hN2; replace h2 := Lib.hid h2
        by_cases h1 : m % 2 = 1
        · rw [if_pos h1] at b1 hN2; replace h1 := Lib.hid h1
          have ad0 : Adds ⟨#[]⟩ ⟨#[67, 45]⟩ ⟨#[67, 45]⟩ := adds_st [] [67, 45] (by decide)
          have ad1 : Adds ⟨#[67, 45]⟩ ⟨#[83, 45]⟩ ⟨#[67, 45, 83, 45]⟩ := adds_st [67, 45] [83, 45] (by decide)
          have hEq : NK = [67, 45, 83, 45] ++ nc := by rw [hN2]; rfl
          have ad9 : Adds ⟨#[67, 45, 83, 45]⟩ (st nc) (st NK) := by rw [hEq]; exact adds_st [67, 45, 83, 45] nc (by simp; omega)
          unfold Adds at *
          replace hN2 := Lib.hid hN2; replace hEq := Lib.hid hEq
          go_wp2_with fail
          refine CN1.out.mono ?_
          rintro e w2 ⟨rfl, g2⟩
          have G2 := G1.out.trans g2
          replace G2 := Lib.hid G2; clear g2
          go_wp2_with fail
          go_ret
          exact ⟨rfl, G2.out⟩
        · rw [if_neg h1] at b1 hN2; replace h1 := Lib.hid h1
          have ad0 : Adds ⟨#[]⟩ ⟨#[67, 45]⟩ ⟨#[67, 45]⟩ := adds_st [] [67, 45] (by decide)
          have hEq : NK = [67, 45] ++ nc := by rw [hN2]; rfl
          have ad9 : Adds ⟨#[67, 45]⟩ (st nc) (st NK) := by rw [hEq]; exact adds_st [67, 45] nc (by simp; omega)
          unfold Adds at *
          replace hN2 := Lib.hid hN2; replace hEq := Lib.hid hEq
          go_wp2_with fail
          refine CN1.out.mono ?_
          rintro e w2 ⟨rfl, g2⟩
          have G2 := G1.out.trans g2
          replace G2 := Lib.hid G2; clear g2
          go_wp2_with fail
          go_ret
          exact ⟨rfl, G2.out⟩
    · rw [if_neg h4] at b4 hN2; replace h4 := Lib.hid h4
      by_cases h2 : m / 2 % 2 = 1
      · rw [if_pos h2] at b2 hN2; replace h2 := Lib.hid h2
        by_cases h1 : m % 2 = 1
        · rw [if_pos h1] at b1 hN2; replace h1 := Lib.hid h1
          have ad0 : Adds ⟨#[]⟩ ⟨#[77, 45]⟩ ⟨#[77, 45]⟩ := adds_st [] [77, 45] (by decide)
          have ad1 : Adds ⟨#[77, 45]⟩ ⟨#[83, 45]⟩ ⟨#[77, 45, 83, 45]⟩ := adds_st [77, 45] [83, 45] (by decide)
          have hEq : NK = [77, 45, 83, 45] ++ nc := by rw [hN2]; rfl
          have ad9 : Adds ⟨#[77, 45, 83, 45]⟩ (st nc) (st NK) := by rw [hEq]; exact adds_st [77, 45, 83, 45] nc (by simp; omega)
          unfold Adds at *
          replace hN2 := Lib.hid hN2; replace hEq := Lib.hid hEq
          go_wp2_with fail
          refine CN1.out.mono ?_
          rintro e w2 ⟨rfl, g2⟩
          have G2 := G1.out.trans g2
          replace G2 := Lib.hid G2; clear g2
          go_wp2_with fail
          go_ret
          exact ⟨rfl, G2.out⟩
        · rw [if_neg h1] at b1 hN2; replace h1 := Lib.hid h1
          have ad0 : Adds ⟨#[]⟩ ⟨#[77, 45]⟩ ⟨#[77, 45]⟩ := adds_st [] [77, 45] (by decide)
          have hEq : NK = [77, 45] ++ nc := by rw [hN2]; rfl
          have ad9 : Adds ⟨#[77, 45]⟩ (st nc) (st NK) := by rw [hEq]; exact adds_st [77, 45] nc (by simp; omega)
          unfold Adds at *
          replace hN2 := Lib.hid hN2; replace hEq := Lib.hid hEq
          go_wp2_with fail
          refine CN1.out.mono ?_
          rintro e w2 ⟨rfl, g2⟩
          have G2 := G1.out.trans g2
          replace G2 := Lib.hid G2; clear g2
          go_wp2_with fail
          go_ret
          exact ⟨rfl, G2.out⟩
      · rw [if_neg h2] at b2 hN2; replace h2 := Lib.hid h2
        by_cases h1 : m % 2 = 1
        · rw [if_pos h1] at b1 hN2; replace h1 := Lib.hid h1
          have ad0 : Adds ⟨#[]⟩ ⟨#[83, 45]⟩ ⟨#[83, 45]⟩ := adds_st [] [83, 45] (by decide)
          have hEq : NK = [83, 45] ++ nc := by rw [hN2]; rfl
          have ad9 : Adds ⟨#[83, 45]⟩ (st nc) (st NK) := by rw [hEq]; exact adds_st [83, 45] nc (by simp; omega)
          unfold Adds at *
          replace hN2 := Lib.hid hN2; replace hEq := Lib.hid hEq
          go_wp2_with fail
          refine CN1.out.mono ?_
          rintro e w2 ⟨rfl, g2⟩
          have G2 := G1.out.trans g2
          replace G2 := Lib.hid G2; clear g2
          go_wp2_with fail
          go_ret
          exact ⟨rfl, G2.out⟩
        · rw [if_neg h1] at b1 hN2; replace h1 := Lib.hid h1
          have hEq : NK = [] ++ nc := by rw [hN2]; rfl
          have ad9 : Adds ⟨#[]⟩ (st nc) (st NK) := by rw [hEq]; exact adds_st [] nc (by simp; omega)
          unfold Adds at *
          replace hN2 := Lib.hid hN2; replace hEq := Lib.hid hEq
          go_wp2_with fail
          refine CN1.out.mono ?_
          rintro e w2 ⟨rfl, g2⟩
          have G2 := G1.out.trans g2
          replace G2 := Lib.hid G2; clear g2
          go_wp2_with fail
          go_ret
          exact ⟨rfl, G2.out⟩
end Go.Proofs.YtncokbppijnfiaaGreatDoor
