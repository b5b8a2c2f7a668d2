/- Key: ended, lettered. -/
import Derived.Test.YtncokbppijnfiaaGreatDoorC2
namespace Go.Proofs.YtncokbppijnfiaaGreatDoor
open Go.RowKit
set_option linter.unusedSimpArgs false
set_option linter.unusedVariables false

theorem u8_in {z : Int} (h0 : 0 ≤ z) (h1 : z < 256) : IntKind.u8.wrap z = z := by
  have : IntKind.u8.wrap z = z % 256 := by simp [IntKind.wrap]; rfl
  rw [this]; omega
theorem Wd.letter {w : World} (h : Wd w) (j : Nat) (hj : j < 6) : w.cell? ⟨1, j, none⟩ = some (.int .u8 (([65, 66, 68, 67, 72, 70] : List Int).getD j 0)) := by
  exact h.le.cell (g := 1) (by kernel_rfl) j hj
set_option maxHeartbeats 1000000 in
set_option maxRecDepth 100000 in
theorem ended_any (c : Int) (w : World) (hW : Wd w) : Calls Tryz.prog 27 #[.int .i64 c] w fun e w' => e = .returned (.tuple #[.int .u8 ((endedL c).1.toNat : Int), .bool (endedL c).2]) ∧ w' = w := by
  have h0 := hW.letter 0 (by omega); have h1 := hW.letter 1 (by omega); have h2 := hW.letter 2 (by omega); have h3 := hW.letter 3 (by omega); have h4 := hW.letter 4 (by omega); have h5 := hW.letter 5 (by omega)
  replace hW := Lib.hid hW
  by_cases ha : c < 1114112
  · have hr : endedL c = (0, false) := by unfold endedL; rw [if_neg (by omega), if_neg (by omega)]
    rw [hr]
    replace hr := Lib.hid hr
    go_enter Tryz.func27, Tryz.ntmps27
    go_wp2_with fail
    all_goals (go_ret2; exact ⟨rfl, rfl⟩)
  by_cases hb : 1114125 < c
  · have hr : endedL c = (0, false) := by unfold endedL; rw [if_neg (by omega), if_neg (by omega)]
    rw [hr]
    replace hr := Lib.hid hr
    go_enter Tryz.func27, Tryz.ntmps27
    go_wp2_with fail
    all_goals (go_ret2; exact ⟨rfl, rfl⟩)
  have hc : c = 1114112 ∨ c = 1114113 ∨ c = 1114114 ∨ c = 1114115 ∨ c = 1114116 ∨ c = 1114117 ∨ c = 1114118 ∨ c = 1114119 ∨ c = 1114120 ∨ c = 1114121 ∨ c = 1114122 ∨ c = 1114123 ∨ c = 1114124 ∨ c = 1114125 := by omega
  rcases hc with rfl | rfl | rfl | rfl | rfl | rfl | rfl | rfl | rfl | rfl | rfl | rfl | rfl | rfl
  all_goals
    clear ha hb
    go_enter Tryz.func27, Tryz.ntmps27
    go_wp2_with fail
    all_goals (go_ret2; exact ⟨rfl, rfl⟩)
def keys14 : List Int := [1114112, 1114113, 1114114, 1114115, 1114116, 1114117, 1114118, 1114119, 1114120, 1114121, 1114122, 1114123, 1114124, 1114125]
def scanL (z : UInt8) : List Int → Int
  | [] => 0
  | k :: ks => if (endedL k).1 = z ∧ z ≠ 0 then k else scanL z ks
set_option maxRecDepth 100000 in
theorem scan_eq (z : UInt8) : scanL z keys14 = letteredL z := by
  have h : ∀ n, n < 256 → scanL (UInt8.ofNat n) keys14 = letteredL (UInt8.ofNat n) := by decide
  have := h z.toNat z.toNat_lt
  rwa [UInt8.ofNat_toNat] at this
set_option maxHeartbeats 1000000 in
set_option maxRecDepth 100000 in
theorem lettered_any (z : UInt8) (w : World) (hW : Wd w) : Calls Tryz.prog 62 #[.int .u8 (z.toNat : Int)] w fun e w' => e = .returned (.int .i64 (letteredL z)) ∧ w' = w := by
  have CE : Hid (∀ c, Calls Tryz.prog 27 #[.int .i64 c] w fun e w' => e = .returned (.tuple #[.int .u8 ((endedL c).1.toNat : Int), .bool (endedL c).2]) ∧ w' = w) := Lib.hid fun c => ended_any c w hW
  replace hW := Lib.hid hW
  rw [← scan_eq]
  obtain ⟨zi, hzi⟩ : ∃ zi : Int, zi = z.toNat := ⟨_, rfl⟩
  rw [← hzi]
  replace hzi := Lib.hid hzi
  go_enter Tryz.func62, Tryz.ntmps62
  go_wp2_with fail
  go_loopw [3] (fun kv wr => ∃ (k : Int) (j : Nat), kv = .int .i64 k ∧ 1114112 ≤ k ∧ k ≤ 1114126 ∧ wr = w ∧ Hid (k = 1114112 + (j : Int)) ∧ Hid (scanL z keys14 = scanL z (keys14.drop j))) (fun kv _ => (1114126 - (match kv with | .int _ i => i | _ => 0)).toNat)
  case atStart => exact ⟨1114112, 0, rfl, by omega, by omega, rfl, Lib.hid (by omega), Lib.hid rfl⟩
  case round =>
    obtain ⟨k, j, rfl, hk0, hk1, rfl, hkj, hI⟩ := hrel
    by_cases hlt : k ≤ 1114125
    · have CK := CE.out k
      obtain ⟨lz, hlz⟩ : ∃ l : UInt8, l = (endedL k).1 := ⟨_, rfl⟩
      obtain ⟨lb, hlb⟩ : ∃ b : Bool, b = (endedL k).2 := ⟨_, rfl⟩
      rw [← hlz, ← hlb] at CK
      obtain ⟨li, hli⟩ : ∃ i : Int, i = lz.toNat := ⟨_, rfl⟩
      rw [← hli] at CK
      have hdrop : keys14.drop j = k :: keys14.drop (j + 1) := by
        have h := hkj.out
        have hj : j < 14 := by omega
        have : ∀ j, j < 14 → keys14.drop j = (1114112 + (j : Int)) :: keys14.drop (j + 1) := by decide
        rw [h]; exact this j hj
      have hsc : scanL z keys14 = if lz = z ∧ z ≠ 0 then k else scanL z (keys14.drop (j + 1)) := by
        rw [hI.out, hdrop, scanL, hlz]
      replace CK := Lib.hid CK; replace hlz := Lib.hid hlz; replace hlb := Lib.hid hlb; replace hli := Lib.hid hli; replace hdrop := Lib.hid hdrop; replace hsc := Lib.hid hsc
      have hw : IntKind.i64.wrap (k + 1) = k + 1 := by rw [IntKind.wrap_i64]; omega
      by_cases h1 : li = zi
      · have e1 : lz = z := UInt8.toNat_inj.1 (by have := hli.out; have := hzi.out; omega)
        by_cases h2 : zi = 0
        · have e2 : z = 0 := UInt8.toNat_inj.1 (by have := hzi.out; show z.toNat = 0; omega)
          subst h2
          have hn : scanL z keys14 = scanL z (keys14.drop (j + 1)) := by rw [hsc.out, if_neg (fun h => h.2 e2)]
          replace hn := Lib.hid hn; replace e1 := Lib.hid e1; replace e2 := Lib.hid e2
          go_wp2_with fail
          refine CK.out.mono ?_
          rintro e w1 ⟨rfl, rfl⟩
          go_wp2_with fail
          exact ⟨⟨k + 1, j + 1, by first | rfl | go_num, by omega, by omega, by trivial, Lib.hid (by have := hkj.out; omega), Lib.hid hn.out⟩, by simp; omega⟩
        · have e2 : z ≠ 0 := fun e => h2 (by rw [hzi.out, e]; rfl)
          have hn : scanL z keys14 = k := by rw [hsc.out, if_pos ⟨e1, e2⟩]
          replace hn := Lib.hid hn; replace e1 := Lib.hid e1; replace e2 := Lib.hid e2
          go_wp2_with fail
          refine CK.out.mono ?_
          rintro e w1 ⟨rfl, rfl⟩
          go_wp2_with fail
          go_ret
          exact ⟨by rw [hn.out]; rfl, by trivial⟩
      · have e1 : lz ≠ z := fun e => h1 (by rw [hli.out, hzi.out, e])
        have hn : scanL z keys14 = scanL z (keys14.drop (j + 1)) := by rw [hsc.out, if_neg (fun h => e1 h.1)]
        replace hn := Lib.hid hn; replace e1 := Lib.hid e1
        go_wp2_with fail
        refine CK.out.mono ?_
        rintro e w1 ⟨rfl, rfl⟩
        go_wp2_with fail
        exact ⟨⟨k + 1, j + 1, by first | rfl | go_num, by omega, by omega, by trivial, Lib.hid (by have := hkj.out; omega), Lib.hid hn.out⟩, by simp; omega⟩
    · have hn : scanL z keys14 = 0 := by
        have h := hkj.out
        have hj : j = 14 := by omega
        rw [hI.out, hj]; rfl
      replace hn := Lib.hid hn
      go_wp2_with fail
      go_ret
      exact ⟨by rw [hn.out]; rfl, by trivial⟩
end Go.Proofs.YtncokbppijnfiaaGreatDoor
