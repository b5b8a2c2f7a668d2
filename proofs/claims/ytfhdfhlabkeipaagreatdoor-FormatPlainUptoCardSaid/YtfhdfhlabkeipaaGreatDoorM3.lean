/- Format: first at =3 and at s/b/Q/. Format: first at s/b/Q/. -/
import Derived.Test.YtfhdfhlabkeipaaGreatDoorM1
namespace Go.Proofs.YtfhdfhlabkeipaaGreatDoor
open Go.RowKit
set_option linter.unusedSimpArgs false
set_option linter.unusedVariables false

theorem drew_heap (X : World) : X.drew.heap = X.heap := rfl
theorem set5 {W : World} {b : Nat} {c0 c1 c2 c3 c4 : Value} {e : TypeId} (h : W.heap[b]? = some (.cells #[c0, c1, c2, c3, c4] e (0, 0))) (d0 d1 d2 d3 d4 : Value) :
    (((((W.setCell ⟨b, 0, none⟩ d0).setCell ⟨b, 1, none⟩ d1).setCell ⟨b, 2, none⟩ d2).setCell ⟨b, 3, none⟩ d3).setCell ⟨b, 4, none⟩ d4).drew.heap[b]? = some (.cells #[d0, d1, d2, d3, d4] e (0, 0)) := by
  have h0 : (W.setCell ⟨b, 0, none⟩ d0).heap[b]? = some (.cells #[d0, c1, c2, c3, c4] e (0, 0)) := by rw [heap_set h]; rfl
  have h1 : ((W.setCell ⟨b, 0, none⟩ d0).setCell ⟨b, 1, none⟩ d1).heap[b]? = some (.cells #[d0, d1, c2, c3, c4] e (0, 0)) := by rw [heap_set h0]; rfl
  have h2 : (((W.setCell ⟨b, 0, none⟩ d0).setCell ⟨b, 1, none⟩ d1).setCell ⟨b, 2, none⟩ d2).heap[b]? = some (.cells #[d0, d1, d2, c3, c4] e (0, 0)) := by rw [heap_set h1]; rfl
  have h3 : ((((W.setCell ⟨b, 0, none⟩ d0).setCell ⟨b, 1, none⟩ d1).setCell ⟨b, 2, none⟩ d2).setCell ⟨b, 3, none⟩ d3).heap[b]? = some (.cells #[d0, d1, d2, d3, c4] e (0, 0)) := by rw [heap_set h2]; rfl
  rw [drew_heap, heap_set h3]; rfl
theorem atoi_3 : Lib.atoi (st [51]).data.toList = some 3 := by decide +kernel
set_option maxRecDepth 100000 in
set_option maxHeartbeats 4000000 in
theorem first_eq (c : UInt8) (r : B) (w : World) (hc : c = 58 ∨ c = 59) (hr : r.length ≤ 1000) :
    Calls Tryz.prog 91 #[.string (st (61 :: 51 :: c :: r))] w fun e w' => e = .returned (.tuple #[modV 61 3 false [] [], .string (st (c :: r)), .bool true]) ∧ w.grownBy w' none := by
  obtain ⟨T, hT⟩ : ∃ T, T = 51 :: c :: r := ⟨_, rfl⟩
  rw [← hT]
  have CP : Hid (∀ W, Calls Tryz.prog 52 #[.string (st T), .string ⟨#[45]⟩] W fun e w' => e = .returned (.tuple #[.string (st T), .bool false]) ∧ w' = W) := Lib.hid fun W => by
    have := cutPrefix_any T [45] W (by rw [hT]; simp only [List.length_cons]; omega) (by decide)
    have e : cutV T [45] = .tuple #[.string (st T), .bool false] := by
      unfold cutV
      rw [if_neg]
      rw [hT]
      unfold hasP
      simp
    rw [e] at this
    exact this
  have CA : Hid (∀ W, Calls Tryz.prog 73 #[.string (st [51])] W fun e w' => e = .returned (.tuple #[.int .i64 3, .nilIface]) ∧ W.grownBy w' none) := Lib.hid fun W => (Tryz.strconv_Atoi (st [51]) 3 (by decide) atoi_3 W).mono fun e w' h => by
    obtain ⟨h1, t, rfl⟩ := h
    exact ⟨h1, bytes_grown _ _⟩
  obtain ⟨S, hS⟩ : ∃ S, S = st (61 :: T) := ⟨_, rfl⟩
  obtain ⟨S1, hS1⟩ : ∃ S, S = st T := ⟨_, rfl⟩
  obtain ⟨S2, hS2⟩ : ∃ S, S = st (c :: r) := ⟨_, rfl⟩
  obtain ⟨S3, hS3⟩ : ∃ S, S = st [51] := ⟨_, rfl⟩
  obtain ⟨len, hlen⟩ : ∃ len, len = r.length := ⟨_, rfl⟩
  have hZ : S.size = len + 3 := by rw [hS, st_size, hT, hlen]; rfl
  have hZ1 : S1.size = len + 2 := by rw [hS1, st_size, hT, hlen]; rfl
  have hg := get_at (P := 61 :: T) (j := 0) (c := 61) rfl hS
  have hg0 := get_at (P := T) (j := 0) (c := 51) (by rw [hT]; rfl) hS1
  have hg1 := get_at (P := T) (j := 1) (c := c) (by rw [hT]; rfl) hS1
  have hne : S.toList.isEmpty = false := by rw [hS, empty_iff]; simp
  have hx : S.extract 1 (len + 3) = S1 := by rw [hS, st_drop _ _ _ (by rw [hlen, hT]; rfl), hS1]; rfl
  have hx2 : S1.extract 1 (len + 2) = S2 := by rw [hS1, st_drop _ _ _ (by rw [hlen, hT]; rfl), hS2, hT]; rfl
  have hx3 : S1.extract 0 1 = S3 := by rw [hS1, st_take, hT, hS3]; rfl
  have hc1 : (48 : Int) ≤ (c.toNat : Int) := by rcases hc with rfl | rfl <;> decide
  have hc2 : ¬ ((c.toNat : Int) ≤ 57) := by rcases hc with rfl | rfl <;> decide
  have hm : modV 61 3 false [] [] = .agg #[.int .u8 61, .int .i64 3, .bool false, .string ⟨#[]⟩, .string ⟨#[]⟩] := rfl
  rw [← hS1] at CP
  rw [← hS3] at CA
  rw [hm, ← hS, ← hS2]
  rw [← hlen] at hr
  replace hS := Lib.hid hS; replace hlen := Lib.hid hlen; replace hS1 := Lib.hid hS1; replace hS2 := Lib.hid hS2; replace hS3 := Lib.hid hS3; replace hm := Lib.hid hm; replace hT := Lib.hid hT; replace hc := Lib.hid hc
  have hres : Tryz.f91.results = #[.cell 2 109, .tmp 3, .tmp 4] := by kernel_rfl
  replace hres := Lib.hid hres
  go_enter Tryz.func91, Tryz.ntmps91
  go_wp2_with fail
  refine (CP.out _).mono ?_
  rintro e w1 ⟨rfl, rfl⟩
  go_wp2_with fail
  refine wp_loop_in (loopWp_round ?_)
  go_wp2_with fail
  refine loopWp_round ?_
  go_wp2_with fail
  obtain ⟨W1, hW1⟩ : ∃ W, W = (w.alloc (.cells #[.int .u8 0, .int .i64 0, .bool false, .string ⟨#[]⟩, .string ⟨#[]⟩] 109)).alloc (.cells #[.int .u8 61, .int .i64 0, .bool false, .string ⟨#[]⟩, .string ⟨#[]⟩] 109) := ⟨_, rfl⟩
  obtain ⟨bR, hbR⟩ : ∃ b, b = w.heap.size := ⟨_, rfl⟩
  obtain ⟨b5, hb5⟩ : ∃ b, b = w.heap.size + 1 := ⟨_, rfl⟩
  have hhR : W1.heap[bR]? = some (.cells #[.int .u8 0, .int .i64 0, .bool false, .string ⟨#[]⟩, .string ⟨#[]⟩] 109 (0, 0)) := by
    rw [hW1, hbR, alloc_get, if_neg (by rw [alloc_size]; omega), alloc_get, if_pos rfl]
  have hh5 : W1.heap[b5]? = some (.cells #[.int .u8 61, .int .i64 0, .bool false, .string ⟨#[]⟩, .string ⟨#[]⟩] 109 (0, 0)) := by
    rw [hW1, hb5, alloc_get, if_pos (by rw [alloc_size])]
  have g1 : w.grownBy W1 none := by rw [hW1]; exact g_alloc (World.grownBy_alloc _ _ none) _
  rw [← hW1, ← hb5, ← hbR]
  replace hW1 := Lib.hid hW1
  refine (CA.out _).mono ?_
  rintro e w2 ⟨rfl, G2⟩
  have hhR2 := (G2.block bR (Array.getElem?_eq_some_iff.1 hhR).1 (by simp)).trans hhR
  have hh52 := (G2.block b5 (Array.getElem?_eq_some_iff.1 hh5).1 (by simp)).trans hh5
  have g2 := g1.trans G2
  clear hhR hh5 g1
  have hne2 : bR ≠ b5 := by omega
  have hwR : w.heap.size ≤ bR := by omega
  have hw5 : w.heap.size ≤ b5 := by omega
  replace G2 := Lib.hid G2; replace g2 := Lib.hid g2; replace hbR := Lib.hid hbR; replace hb5 := Lib.hid hb5
  have c51 : w2.cell? ⟨b5, 1, none⟩ = some (.int .i64 0) := by rw [cell_of_heap hh52]; rfl
  have z51 : w2.frozen? ⟨b5, 1, none⟩ = false := free_of_heap hh52 1
  obtain ⟨W3, hW3⟩ : ∃ W, W = w2.setCell ⟨b5, 1, none⟩ (.int .i64 3) := ⟨_, rfl⟩
  have hh53 : W3.heap[b5]? = some (.cells #[.int .u8 61, .int .i64 3, .bool false, .string ⟨#[]⟩, .string ⟨#[]⟩] 109 (0, 0)) := by rw [hW3, heap_set hh52]; rfl
  have hhR3 : W3.heap[bR]? = some (.cells #[.int .u8 0, .int .i64 0, .bool false, .string ⟨#[]⟩, .string ⟨#[]⟩] 109 (0, 0)) := by rw [hW3, heap_set_other hne2]; exact hhR2
  have g3 : w.grownBy W3 none := by rw [hW3]; exact grow_set g2.out hw5
  replace hh53 := Lib.hid hh53; replace hhR3 := Lib.hid hhR3; replace g3 := Lib.hid g3; replace hhR2 := Lib.hid hhR2; replace hh52 := Lib.hid hh52; replace hwR := Lib.hid hwR; replace hw5 := Lib.hid hw5; replace hW3 := Lib.hid hW3
  go_upto_region 22 with fail
  rw [← hW3.out]
  have d0 : W3.cell? ⟨b5, 0, none⟩ = some (.int .u8 61) := by rw [cell_of_heap hh53.out]; rfl
  have d1 : W3.cell? ⟨b5, 1, none⟩ = some (.int .i64 3) := by rw [cell_of_heap hh53.out]; rfl
  have d2 : W3.cell? ⟨b5, 2, none⟩ = some (.bool false) := by rw [cell_of_heap hh53.out]; rfl
  have d3 : W3.cell? ⟨b5, 3, none⟩ = some (.string ⟨#[]⟩) := by rw [cell_of_heap hh53.out]; rfl
  have d4 : W3.cell? ⟨b5, 4, none⟩ = some (.string ⟨#[]⟩) := by rw [cell_of_heap hh53.out]; rfl
  have r0 : W3.cell? ⟨bR, 0, none⟩ = some (.int .u8 0) := by rw [cell_of_heap hhR3.out]; rfl
  have r1 : W3.cell? ⟨bR, 1, none⟩ = some (.int .i64 0) := by rw [cell_of_heap hhR3.out]; rfl
  have r2 : W3.cell? ⟨bR, 2, none⟩ = some (.bool false) := by rw [cell_of_heap hhR3.out]; rfl
  have r3 : W3.cell? ⟨bR, 3, none⟩ = some (.string ⟨#[]⟩) := by rw [cell_of_heap hhR3.out]; rfl
  have r4 : W3.cell? ⟨bR, 4, none⟩ = some (.string ⟨#[]⟩) := by rw [cell_of_heap hhR3.out]; rfl
  have z0 := free_of_heap hhR3.out 0
  have z1 := free_of_heap hhR3.out 1
  have z2 := free_of_heap hhR3.out 2
  have z3 := free_of_heap hhR3.out 3
  have z4 := free_of_heap hhR3.out 4
  clear c51 z51
  have hne2' : b5 ≠ bR := Ne.symm hne2
  go_region
  all_goals
    go_wp2_with fail
    refine bodyPost_ret (res_mod hres.out _ rfl (b := bR) (c0 := .int .u8 61) (c1 := .int .i64 3) (c2 := .bool false) (c3 := .string ⟨#[]⟩) (c4 := .string ⟨#[]⟩) ?_ rfl rfl) rfl ⟨rfl, ?_⟩
    · exact set5 hhR3.out _ _ _ _ _
    · exact g_drew (grow_set (grow_set (grow_set (grow_set (grow_set g3.out hwR.out) hwR.out) hwR.out) hwR.out) hwR.out)
end Go.Proofs.YtfhdfhlabkeipaaGreatDoor
namespace Go.Proofs.YtfhdfhlabkeipaaGreatDoor
open Go.RowKit
set_option linter.unusedSimpArgs false
set_option linter.unusedVariables false

theorem splitn_ex : (Lib.splitB (st [47]) 0 (min 3 ((st [98, 47, 81, 47, 58, 120]).size + 1) - 1) (st [98, 47, 81, 47, 58, 120])).length = 3 ∧ min 3 ((st [98, 47, 81, 47, 58, 120]).size + 1) = 3 := by decide +kernel
theorem cellsn_ex : Lib.cellsOf (Lib.splitB (st [47]) 0 (min 3 ((st [98, 47, 81, 47, 58, 120]).size + 1) - 1) (st [98, 47, 81, 47, 58, 120])) (min 3 ((st [98, 47, 81, 47, 58, 120]).size + 1)) = #[.string (st [98]), .string (st [81]), .string (st [58, 120])] := by rfl
set_option maxRecDepth 100000 in
set_option maxHeartbeats 4000000 in
theorem first_s (m : Int) (w : World) (hm : w.cell? ⟨2, 0, none⟩ = some (.int .i64 m)) :
    Calls Tryz.prog 91 #[.string (st [115, 47, 98, 47, 81, 47, 58, 120])] w fun e w' => e = .returned (.tuple #[modV 115 0 false [98] [81], .string (st [58, 120]), .bool true]) ∧ w.grownBy w' none := by
  have CS : Hid (∀ W, w.grownBy W none → Calls Tryz.prog 120 #[.string (st [98, 47, 81, 47, 58, 120]), .string (st [47]), .int .i64 3] W fun e w' => e = .returned (.slice (some ⟨W.heap.size, 0, none⟩) 3 3) ∧ w' = W.alloc (.cells #[.string (st [98]), .string (st [81]), .string (st [58, 120])] 9)) := Lib.hid fun W g => by
    have := Tryz.strings_SplitN (st [98, 47, 81, 47, 58, 120]) (st [47]) 3 m W (by decide) (g.cell hm (by simp)) (by decide) (by decide) (by decide)
    rw [cellsn_ex, splitn_ex.1, splitn_ex.2] at this
    exact this
  obtain ⟨S, hS⟩ : ∃ S, S = st [115, 47, 98, 47, 81, 47, 58, 120] := ⟨_, rfl⟩
  obtain ⟨S1, hS1⟩ : ∃ S, S = st [47, 98, 47, 81, 47, 58, 120] := ⟨_, rfl⟩
  obtain ⟨S2, hS2⟩ : ∃ S, S = st [98, 47, 81, 47, 58, 120] := ⟨_, rfl⟩
  obtain ⟨S3, hS3⟩ : ∃ S, S = st [47] := ⟨_, rfl⟩
  obtain ⟨SA, hSA⟩ : ∃ S, S = st [98] := ⟨_, rfl⟩
  obtain ⟨SB, hSB⟩ : ∃ S, S = st [81] := ⟨_, rfl⟩
  obtain ⟨SR, hSR⟩ : ∃ S, S = st [58, 120] := ⟨_, rfl⟩
  have hZ : S.size = 8 := by rw [hS, st_size]; rfl
  have hZ1 : S1.size = 7 := by rw [hS1, st_size]; rfl
  have hg := get_at (P := [115, 47, 98, 47, 81, 47, 58, 120]) (j := 0) (c := 115) rfl hS
  have hne : S.toList.isEmpty = false := by rw [hS, empty_iff]; simp
  have hne1 : S1.toList.isEmpty = false := by rw [hS1, empty_iff]; simp
  have hneA : SA.toList.isEmpty = false := by rw [hSA, empty_iff]; simp
  have hx : S.extract 1 8 = S1 := by rw [hS, st_drop [115, 47, 98, 47, 81, 47, 58, 120] 1 8 rfl, hS1]; rfl
  have hx2 : S1.extract 1 7 = S2 := by rw [hS1, st_drop [47, 98, 47, 81, 47, 58, 120] 1 7 rfl, hS2]; rfl
  have hx3 : S1.extract 0 1 = S3 := by rw [hS1, st_take, hS3]; rfl
  have hm : modV 115 0 false [98] [81] = .agg #[.int .u8 115, .int .i64 0, .bool false, .string (st [98]), .string (st [81])] := rfl
  rw [hm, ← hS, ← hSR, ← hSA, ← hSB]
  rw [← hS2, ← hS3, ← hSA, ← hSB, ← hSR] at CS
  replace hS := Lib.hid hS; replace hS1 := Lib.hid hS1; replace hS2 := Lib.hid hS2; replace hS3 := Lib.hid hS3; replace hm := Lib.hid hm; replace hSA := Lib.hid hSA; replace hSB := Lib.hid hSB; replace hSR := Lib.hid hSR
  have hres : Tryz.f91.results = #[.cell 2 109, .tmp 3, .tmp 4] := by kernel_rfl
  replace hres := Lib.hid hres
  go_enter Tryz.func91, Tryz.ntmps91
  go_upto_region 26 with fail
  obtain ⟨W1, hW1⟩ : ∃ W, W = (w.alloc (.cells #[.int .u8 0, .int .i64 0, .bool false, .string ⟨#[]⟩, .string ⟨#[]⟩] 109)).alloc (.cells #[.int .u8 115, .int .i64 0, .bool false, .string ⟨#[]⟩, .string ⟨#[]⟩] 109) := ⟨_, rfl⟩
  obtain ⟨bR, hbR⟩ : ∃ b, b = w.heap.size := ⟨_, rfl⟩
  obtain ⟨b5, hb5⟩ : ∃ b, b = w.heap.size + 1 := ⟨_, rfl⟩
  have hhR : W1.heap[bR]? = some (.cells #[.int .u8 0, .int .i64 0, .bool false, .string ⟨#[]⟩, .string ⟨#[]⟩] 109 (0, 0)) := by
    rw [hW1, hbR, alloc_get, if_neg (by rw [alloc_size]; omega), alloc_get, if_pos rfl]
  have hh5 : W1.heap[b5]? = some (.cells #[.int .u8 115, .int .i64 0, .bool false, .string ⟨#[]⟩, .string ⟨#[]⟩] 109 (0, 0)) := by
    rw [hW1, hb5, alloc_get, if_pos (by rw [alloc_size])]
  have g1 : w.grownBy W1 none := by rw [hW1]; exact g_alloc (World.grownBy_alloc _ _ none) _
  rw [← hW1, ← hb5, ← hbR]
  obtain ⟨b9, hb9⟩ : ∃ b, b = W1.heap.size := ⟨_, rfl⟩
  have hbs : bR ≠ b5 ∧ bR ≠ b9 ∧ b5 ≠ b9 ∧ w.heap.size ≤ bR ∧ w.heap.size ≤ b5 := by
    have := (Array.getElem?_eq_some_iff.1 hhR).1
    have := (Array.getElem?_eq_some_iff.1 hh5).1
    omega
  obtain ⟨W2, hW2⟩ : ∃ W, W = W1.drew.alloc (.cells #[.string SA, .string SB, .string SR] 9) := ⟨_, rfl⟩
  have g12 : W1.grownBy W2 none := by rw [hW2]; exact g_alloc (g_drew (World.grownBy.refl _ _)) _
  have hhR2 := (g12.block bR (Array.getElem?_eq_some_iff.1 hhR).1 (by simp)).trans hhR
  have hh52 := (g12.block b5 (Array.getElem?_eq_some_iff.1 hh5).1 (by simp)).trans hh5
  have hh92 : W2.heap[b9]? = some (.cells #[.string SA, .string SB, .string SR] 9 (0, 0)) := by rw [hW2, hb9]; exact heap_alloc_new W1.drew _
  have g2 := g1.trans g12
  have CS2 : Calls Tryz.prog 120 #[.string S2, .string S3, .int .i64 3] W1.drew fun e w' => e = .returned (.slice (some ⟨b9, 0, none⟩) 3 3) ∧ w' = W2 := by
    rw [hW2, hb9]
    exact CS.out W1.drew (g_drew g1)
  replace hW1 := Lib.hid hW1; replace hb9 := Lib.hid hb9; replace hbR := Lib.hid hbR; replace hb5 := Lib.hid hb5; replace hW2 := Lib.hid hW2; replace g12 := Lib.hid g12; replace hhR2 := Lib.hid hhR2; replace hh52 := Lib.hid hh52; replace hh92 := Lib.hid hh92; replace g2 := Lib.hid g2; replace CS2 := Lib.hid CS2; replace g1 := Lib.hid g1; replace hhR := Lib.hid hhR; replace hh5 := Lib.hid hh5
  go_region_held3 (fun _ => True) (trivial)
    ((go_at_call 120; refine CS2.out.mono ?_; rintro e w3 ⟨rfl, rfl⟩))
  have q0 : w3.cell? ⟨b9, 0, none⟩ = some (.string SA) := by rw [cell_of_heap hh92.out]; rfl
  have q1 : w3.cell? ⟨b9, 1, none⟩ = some (.string SB) := by rw [cell_of_heap hh92.out]; rfl
  have q2 : w3.cell? ⟨b9, 2, none⟩ = some (.string SR) := by rw [cell_of_heap hh92.out]; rfl
  have d3 : w3.cell? ⟨b5, 3, none⟩ = some (.string ⟨#[]⟩) := by rw [cell_of_heap hh52.out]; rfl
  have d4 : w3.cell? ⟨b5, 4, none⟩ = some (.string ⟨#[]⟩) := by rw [cell_of_heap hh52.out]; rfl
  have y3 := free_of_heap hh52.out 3
  have y4 := free_of_heap hh52.out 4
  obtain ⟨n1, n2, n3, l1, l2⟩ := hbs
  have n1' := n1.symm; have n2' := n2.symm; have n3' := n3.symm
  replace l1 := Lib.hid l1; replace l2 := Lib.hid l2
  go_upto_region 29 with fail
  go_region
  all_goals
    obtain ⟨W4, hW4⟩ : ∃ W, W = ((w3.setCell ⟨b5, 3, none⟩ (.string SA)).setCell ⟨b5, 4, none⟩ (.string SB)).drew := ⟨_, rfl⟩
    rw [← hW4]
    have hh54 : W4.heap[b5]? = some (.cells #[.int .u8 115, .int .i64 0, .bool false, .string SA, .string SB] 109 (0, 0)) := by
      have h1 : (w3.setCell ⟨b5, 3, none⟩ (.string SA)).heap[b5]? = some (.cells #[.int .u8 115, .int .i64 0, .bool false, .string SA, .string ⟨#[]⟩] 109 (0, 0)) := by rw [heap_set hh52.out]; rfl
      rw [hW4, drew_heap, heap_set h1]; rfl
    have hhR4 : W4.heap[bR]? = some (.cells #[.int .u8 0, .int .i64 0, .bool false, .string ⟨#[]⟩, .string ⟨#[]⟩] 109 (0, 0)) := by
      rw [hW4, drew_heap, heap_set_other n1, heap_set_other n1]; exact hhR2.out
    have hh94 : W4.heap[b9]? = some (.cells #[.string SA, .string SB, .string SR] 9 (0, 0)) := by
      rw [hW4, drew_heap, heap_set_other n3', heap_set_other n3']; exact hh92.out
    have g4 : w.grownBy W4 none := by rw [hW4]; exact g_drew (grow_set (grow_set g2.out l2.out) l2.out)
    have e0 : W4.cell? ⟨b5, 0, none⟩ = some (.int .u8 115) := by rw [cell_of_heap hh54]; rfl
    have e1 : W4.cell? ⟨b5, 1, none⟩ = some (.int .i64 0) := by rw [cell_of_heap hh54]; rfl
    have e2 : W4.cell? ⟨b5, 2, none⟩ = some (.bool false) := by rw [cell_of_heap hh54]; rfl
    have e3 : W4.cell? ⟨b5, 3, none⟩ = some (.string SA) := by rw [cell_of_heap hh54]; rfl
    have e4 : W4.cell? ⟨b5, 4, none⟩ = some (.string SB) := by rw [cell_of_heap hh54]; rfl
    have r0 : W4.cell? ⟨bR, 0, none⟩ = some (.int .u8 0) := by rw [cell_of_heap hhR4]; rfl
    have r1 : W4.cell? ⟨bR, 1, none⟩ = some (.int .i64 0) := by rw [cell_of_heap hhR4]; rfl
    have r2 : W4.cell? ⟨bR, 2, none⟩ = some (.bool false) := by rw [cell_of_heap hhR4]; rfl
    have r3 : W4.cell? ⟨bR, 3, none⟩ = some (.string ⟨#[]⟩) := by rw [cell_of_heap hhR4]; rfl
    have r4 : W4.cell? ⟨bR, 4, none⟩ = some (.string ⟨#[]⟩) := by rw [cell_of_heap hhR4]; rfl
    have p2 : W4.cell? ⟨b9, 2, none⟩ = some (.string SR) := by rw [cell_of_heap hh94]; rfl
    have z0 := free_of_heap hhR4 0
    have z1 := free_of_heap hhR4 1
    have z2 := free_of_heap hhR4 2
    have z3 := free_of_heap hhR4 3
    have z4 := free_of_heap hhR4 4
    clear q0 q1 q2 d3 d4 y3 y4
    replace hW4 := Lib.hid hW4; replace hh54 := Lib.hid hh54; replace hhR4 := Lib.hid hhR4; replace hh94 := Lib.hid hh94; replace g4 := Lib.hid g4
    go_upto_region 30 with fail
    go_region
    all_goals
      go_wp2_with fail
      refine bodyPost_ret (res_mod hres.out _ rfl (b := bR) (c0 := .int .u8 115) (c1 := .int .i64 0) (c2 := .bool false) (c3 := .string SA) (c4 := .string SB) ?_ rfl rfl) rfl ⟨rfl, ?_⟩
      · exact set5 hhR4.out _ _ _ _ _
      · exact g_drew (grow_set (grow_set (grow_set (grow_set (grow_set g4.out l1.out) l1.out) l1.out) l1.out) l1.out)
end Go.Proofs.YtfhdfhlabkeipaaGreatDoor
