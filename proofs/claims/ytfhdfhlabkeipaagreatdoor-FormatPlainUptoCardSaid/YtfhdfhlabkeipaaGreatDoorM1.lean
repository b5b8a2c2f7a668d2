/- Format: apply at =, s and u, at the examples' x. -/
import Derived.Test.YtfhdfhlabkeipaaGreatDoorC25
import Derived.Test.YtfhdfhlabkeipaaGreatDoorShelf
import Derived.Test.YtfhdfhlabkeipaaGreatDoorX1
import Derived.Test.YtfhdfhlabkeipaaGreatDoorX5
import Derived.Lib.ConvBytes
import Derived.BigQuiet
namespace Go.Proofs.YtfhdfhlabkeipaaGreatDoor
open Go.RowKit
set_option linter.unusedSimpArgs false
set_option linter.unusedVariables false

set_option maxRecDepth 100000 in
set_option maxHeartbeats 2000000 in
theorem apply_eq (w : World) :
    Calls Tryz.prog 76 #[.agg #[.int .u8 61, .int .i64 3, .bool false, .string ⟨#[]⟩, .string ⟨#[]⟩], .string (st xV)] w fun e w' => e = .returned (.string (st [97, 47, 98])) ∧ w.grownBy w' none := by
  have CL : Hid (∀ W, Calls Tryz.prog 92 #[.string (st xV), .int .u8 47] W fun e w' => e = .returned (.int .i64 1) ∧ w' = W) := Lib.hid fun W => lastIndexByte_any xV 47 W (by decide)
  have CC := Lib.hid cut_x
  obtain ⟨S, hS⟩ : ∃ S, S = st xV := ⟨_, rfl⟩
  obtain ⟨R, hR⟩ : ∃ S, S = st [97, 47, 98] := ⟨_, rfl⟩
  rw [← hS] at CL CC ⊢
  rw [← hR] at CC ⊢
  replace hS := Lib.hid hS; replace hR := Lib.hid hR
  go_enter Tryz.func76, Tryz.ntmps76
  go_wp2_with fail
  refine (CL.out _).mono ?_
  rintro e w1 ⟨rfl, rfl⟩
  go_wp2_with fail
  refine (CC.out _).mono ?_
  rintro e w2 ⟨rfl, G2⟩
  replace G2 := Lib.hid G2
  go_wp2_with fail
  go_ret
  exact ⟨rfl, (g_alloc (World.grownBy.refl _ _) _).trans G2.out⟩

theorem cnt_ex : Lib.countB (st xV) (st [98]) = 1 := by decide +kernel
theorem rep_ex : Lib.replaceAll (st xV).data.toList (st [98]).data.toList (st [81]).data.toList = [97, 47, 81, 46, 99] := by decide +kernel
set_option maxRecDepth 100000 in
set_option maxHeartbeats 2000000 in
theorem apply_s (m : Int) (w : World) (hm : w.cell? ⟨2, 0, none⟩ = some (.int .i64 m)) :
    Calls Tryz.prog 76 #[.agg #[.int .u8 115, .int .i64 0, .bool false, .string (st [98]), .string (st [81])], .string (st xV)] w fun e w' => e = .returned (.string (st [97, 47, 81, 46, 99])) ∧ w.grownBy w' none := by
  have CL : Hid (∀ W, Calls Tryz.prog 92 #[.string (st xV), .int .u8 47] W fun e w' => e = .returned (.int .i64 1) ∧ w' = W) := Lib.hid fun W => lastIndexByte_any xV 47 W (by decide)
  have CN : Hid (∀ W, w.grownBy W none → Calls Tryz.prog 97 #[.string (st xV), .string (st [98])] W fun e w' => e = .returned (.int .i64 1) ∧ w' = W) := Lib.hid fun W g => by
    have := Tryz.strings_Count_any (st xV) (st [98]) m W (by decide) (g.cell hm (by simp)) (by decide)
    rw [cnt_ex] at this
    exact this
  have CR : Hid (∀ W, w.grownBy W none → Calls Tryz.prog 98 #[.string (st xV), .string (st [98]), .string (st [81])] W fun e w' => e = .returned (.string (st [97, 47, 81, 46, 99])) ∧ W.grownBy w' none) := Lib.hid fun W g => by
    have := Tryz.strings_ReplaceAll (st xV) (st [98]) (st [81]) m W (by decide) (g.cell hm (by simp)) (by decide) (by rw [cnt_ex]; decide)
    rw [rep_ex] at this
    exact this.mono fun e w' h => ⟨h.1, below_g h.2⟩
  have z1 : (st xV).size = 5 := rfl
  have z2 : (st [98]).size = 1 := rfl
  have z3 : (st [81]).size = 1 := rfl
  obtain ⟨S, hS⟩ : ∃ S, S = st xV := ⟨_, rfl⟩
  obtain ⟨A, hA⟩ : ∃ S, S = st [98] := ⟨_, rfl⟩
  obtain ⟨B', hB'⟩ : ∃ S, S = st [81] := ⟨_, rfl⟩
  obtain ⟨R, hR⟩ : ∃ S, S = st [97, 47, 81, 46, 99] := ⟨_, rfl⟩
  rw [← hS] at CL CN CR z1 ⊢
  rw [← hA] at CN CR z2 ⊢
  rw [← hB'] at CR z3 ⊢
  rw [← hR] at CR ⊢
  replace hS := Lib.hid hS; replace hR := Lib.hid hR; replace hA := Lib.hid hA; replace hB' := Lib.hid hB'
  go_enter Tryz.func76, Tryz.ntmps76
  go_wp2_with fail
  refine (CL.out _).mono ?_
  rintro e w1 ⟨rfl, rfl⟩
  go_upto_region 13 with fail
  obtain ⟨W1, hW1⟩ : ∃ W, W = w.alloc (.cells #[.int .u8 115, .int .i64 0, .bool false, .string A, .string B'] 109) := ⟨_, rfl⟩
  obtain ⟨b1, hb1⟩ : ∃ b, b = w.heap.size := ⟨_, rfl⟩
  rw [← hW1, ← hb1]
  have hh : W1.heap[b1]? = some (.cells #[.int .u8 115, .int .i64 0, .bool false, .string A, .string B'] 109 (0, 0)) := by rw [hW1, hb1]; exact heap_alloc_new _ _
  have d3 : W1.cell? ⟨b1, 3, none⟩ = some (.string A) := by rw [cell_of_heap hh]; rfl
  have d4 : W1.cell? ⟨b1, 4, none⟩ = some (.string B') := by rw [cell_of_heap hh]; rfl
  have gN : ∀ k, w.grownBy (W1.drewN k) none := fun k => by rw [hW1]; exact (World.grownBy_alloc w _ none).trans (g_drewN _ k)
  replace hW1 := Lib.hid hW1; replace hb1 := Lib.hid hb1; replace hh := Lib.hid hh; replace gN := Lib.hid gN
  go_quiet (exact Calls.quiet_of_same (CN.out _ (gN.out _)))
  go_wp2_with fail
  refine (CR.out _ (gN.out _)).mono ?_
  rintro e w2 ⟨rfl, G2⟩
  have G3 := (gN.out nq).trans G2
  replace G2 := Lib.hid G2; replace G3 := Lib.hid G3
  go_wp2_with fail
  go_ret
  exact ⟨rfl, G3.out⟩

theorem bytes_grown (w : World) (S : ByteArray) : w.grownBy (Lib.bytesWorld w 5 S) none := ⟨rfl, rfl, rfl, by rw [Lib.bytesWorld_size]; omega, fun k hk _ => Lib.bytesWorld_at_old w 5 S k hk⟩
theorem bytes_free (w : World) (S : ByteArray) (j : Nat) (hj : j < S.size) : (Lib.bytesWorld w 5 S).frozen? ⟨w.heap.size, j, none⟩ = false := by
  have hs : S.size ≤ (Lib.bytesCells w 5 S).size := by unfold Lib.bytesCells; rw [Array.size_append, Array.size_map]; exact Nat.le_add_right _ _
  unfold World.frozen?
  rw [Lib.bytesWorld_at_new]
  simp
  omega
theorem conv_bytes (W : World) (l : B) : (convert 9 35 (.string (st l))).run Tryz.prog W = .ok (.slice (some ⟨W.heap.size, 0, none⟩) l.length (grownCap W l.length 0 5)) (Lib.bytesWorld W 5 (st l)) := by
  have := Lib.run_convert_string_bytes (P := Tryz.prog) W 9 35 5 (st l) Tryz.underlying9 Tryz.underlying35 Tryz.underlying5
  rwa [st_size] at this
set_option maxRecDepth 100000 in
set_option maxHeartbeats 2000000 in
theorem apply_u (w : World) :
    Calls Tryz.prog 76 #[.agg #[.int .u8 117, .int .i64 0, .bool false, .string ⟨#[]⟩, .string ⟨#[]⟩], .string (st [97, 47, 98])] w fun e w' => e = .returned (.string (st [65, 47, 66])) ∧ w.grownBy w' none := by
  have CL : Hid (∀ W, Calls Tryz.prog 92 #[.string (st [97, 47, 98]), .int .u8 47] W fun e w' => e = .returned (.int .i64 1) ∧ w' = W) := Lib.hid fun W => lastIndexByte_any [97, 47, 98] 47 W (by decide)
  have hcb := fun W => conv_bytes W [97, 47, 98]
  rw [show ([97, 47, 98] : B).length = 3 from rfl] at hcb
  obtain ⟨S, hS⟩ : ∃ S, S = st [97, 47, 98] := ⟨_, rfl⟩
  rw [← hS] at CL hcb ⊢
  obtain ⟨R, hR⟩ : ∃ S, S = st [65, 47, 66] := ⟨_, rfl⟩
  rw [← hR]
  replace hS := Lib.hid hS; replace hR := Lib.hid hR
  go_enter Tryz.func76, Tryz.ntmps76
  go_wp2_with fail
  refine (CL.out _).mono ?_
  rintro e w1 ⟨rfl, rfl⟩
  go_wp2_with fail
  obtain ⟨W0, hW0⟩ : ∃ W, W = w.alloc (.cells #[.int .u8 117, .int .i64 0, .bool false, .string ⟨#[]⟩, .string ⟨#[]⟩] 109) := ⟨_, rfl⟩
  have hz0 : W0.heap.size = w.heap.size + 1 := by rw [hW0]; exact alloc_size _ _
  have g0 : w.grownBy W0 none := by rw [hW0]; exact World.grownBy_alloc _ _ none
  obtain ⟨W5, hW5⟩ : ∃ W, W = Lib.bytesWorld W0 5 S := ⟨_, rfl⟩
  have g5 : w.grownBy W5 none := by rw [hW5]; exact g0.trans (bytes_grown _ _)
  obtain ⟨cap, hcap⟩ : ∃ c, c = grownCap W0 3 0 5 := ⟨_, rfl⟩
  have hrd : Rd W5 (some ⟨W0.heap.size, 0, none⟩) (bs [97, 47, 98]) := by
    intro _
    refine ⟨_, _, rfl, by rw [hW5, Lib.bytesWorld_size]; omega, fun j u hj => ?_⟩
    have hj0 : j < 3 := (List.getElem?_eq_some_iff.1 hj).1
    rw [Nat.zero_add, hW5, Lib.bytesWorld_cell W0 5 S j (by rw [hS.out, st_size]; exact hj0), hS.out]
    rw [← hj]
    rcases j with _ | _ | _ | j
    · rfl
    · rfl
    · rfl
    · omega
  have cl : ∀ j u, (bs [97, 47, 98])[j]? = some u → W5.cell? ⟨W0.heap.size, j, none⟩ = some u := fun j u hj => by
    obtain ⟨b, off, e, _, h⟩ := hrd.at_ hj
    cases e
    rwa [Nat.zero_add] at h
  have fz : ∀ j, j < 3 → W5.frozen? ⟨W0.heap.size, j, none⟩ = false := fun j hj => by rw [hW5]; exact bytes_free W0 S j (by rw [hS.out, st_size]; exact hj)
  obtain ⟨gB, hgB⟩ : ∃ g, g = W0.heap.size := ⟨_, rfl⟩
  rw [← hW0, ← hcap, ← hz0, ← hW5, ← hgB]
  rw [← hgB] at cl fz hrd
  have c0 : W5.cell? ⟨gB, 0, none⟩ = some (.int .u8 97) := cl 0 _ rfl
  have c1 : W5.cell? ⟨gB, 1, none⟩ = some (.int .u8 47) := cl 1 _ rfl
  have c2 : W5.cell? ⟨gB, 2, none⟩ = some (.int .u8 98) := cl 2 _ rfl
  have f0 := fz 0 (by omega)
  have f2 := fz 2 (by omega)
  have hwB : w.heap.size ≤ gB := by omega
  have hgl : gB < W5.heap.size := by rw [hgB, hW5, Lib.bytesWorld_size]; omega
  have e1 : ((W5.setCell ⟨gB, 0, none⟩ (.int .u8 65)).setCell ⟨gB, 2, none⟩ (.int .u8 66)).cell? ⟨gB, 0, none⟩ = some (.int .u8 65) := by simp [go_sem, c0]
  have e2 : ((W5.setCell ⟨gB, 0, none⟩ (.int .u8 65)).setCell ⟨gB, 2, none⟩ (.int .u8 66)).cell? ⟨gB, 1, none⟩ = some (.int .u8 47) := by simp [go_sem, c1]
  have e3 : ((W5.setCell ⟨gB, 0, none⟩ (.int .u8 65)).setCell ⟨gB, 2, none⟩ (.int .u8 66)).cell? ⟨gB, 2, none⟩ = some (.int .u8 66) := by simp [go_sem, c2]
  have hzf : gB < ((W5.setCell ⟨gB, 0, none⟩ (.int .u8 65)).setCell ⟨gB, 2, none⟩ (.int .u8 66)).heap.size := by simpa [World.setCell] using hgl
  have gf : w.grownBy ((W5.setCell ⟨gB, 0, none⟩ (.int .u8 65)).setCell ⟨gB, 2, none⟩ (.int .u8 66)) none := grow_set (grow_set g5 hwB) hwB
  have hrf : Rd ((W5.setCell ⟨gB, 0, none⟩ (.int .u8 65)).setCell ⟨gB, 2, none⟩ (.int .u8 66)) (some ⟨gB, 0, none⟩) (bs [65, 47, 66]) := by
    intro _
    refine ⟨_, _, rfl, hzf, fun j u hj => ?_⟩
    have hj0 : j < 3 := (List.getElem?_eq_some_iff.1 hj).1
    rw [Nat.zero_add, ← hj]
    rcases j with _ | _ | _ | j
    · exact e1
    · exact e2
    · exact e3
    · omega
  have hcv := conv_str (P := Tryz.prog) _ 35 9 5 Tryz.underlying35 Tryz.underlying5 Tryz.underlying9 (some ⟨gB, 0, none⟩) 3 cap [65, 47, 66] rfl hrf
  rw [← hR.out] at hcv
  replace hrf := Lib.hid hrf; replace gf := Lib.hid gf; replace hzf := Lib.hid hzf
  clear e1 e2 e3
  replace hW0 := Lib.hid hW0; replace hz0 := Lib.hid hz0; replace g0 := Lib.hid g0; replace hW5 := Lib.hid hW5; replace g5 := Lib.hid g5; replace hcap := Lib.hid hcap; replace hrd := Lib.hid hrd; replace hgB := Lib.hid hgB; replace hwB := Lib.hid hwB; replace hgl := Lib.hid hgl
  clear cl fz
  refine wp_loop_in (loopWp_round ?_)
  go_wp2_with fail
  refine loopWp_round ?_
  go_wp2_with fail
  refine loopWp_round ?_
  go_wp2_with fail
  refine loopWp_round ?_
  go_wp2_with fail
  go_ret
  exact ⟨rfl, gf.out⟩
end Go.Proofs.YtfhdfhlabkeipaaGreatDoor
