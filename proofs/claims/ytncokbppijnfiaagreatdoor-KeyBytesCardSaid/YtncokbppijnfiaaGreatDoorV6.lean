/- Key: the walk of KeyBytes as a whole. -/
import Derived.Test.YtncokbppijnfiaaGreatDoorV5
import Derived.Test.YtncokbppijnfiaaGreatDoorS3
import Derived.Deep.RegionHeld3
namespace Go.Proofs.YtncokbppijnfiaaGreatDoor
open Go.RowKit
set_option linter.unusedSimpArgs false
set_option linter.unusedVariables false

theorem wpAnyH_strong {P : Program} {md : Region.Mode} {ops : Array Oper} {Q : Exit → Act → World → Prop} {S S1 : World → Prop} (hs : ∀ w, S1 w → S w) : ∀ (fuel : Nat) (listed : Array Bool) (a : Act) (w : World), wpAnyH P md ops Q S1 fuel listed a w → wpAnyH P md ops Q S fuel listed a w
  | 0, _, _, _, h => h
  | fuel + 1, listed, a, w, h => ⟨h.1, fun i hi => wpOp_mono (fun a w h' => ⟨hs w h'.1, wpAnyH_strong hs fuel _ a w h'.2⟩) (h.2 i hi)⟩
set_option maxHeartbeats 4000000 in
set_option maxRecDepth 100000 in
theorem keyBytes_any (c m : Int) (kc km kb kx ky : Int) (modes : Int) (hc : I64 c) (hkc : I64 kc) (hkm : I64 km) (hkb : I64 kb) (hkx : I64 kx) (hky : I64 ky) (w : World) (hW : Wd w) :
    Calls Tryz.prog 5 #[.agg #[.int .i64 c, .int .i64 m], .agg #[.int .i64 kc, .int .i64 km, .int .i64 kb, .int .i64 kx, .int .i64 ky], .int .i64 modes] w fun e w' => e = .returned (.bool true) ∧ w.grownBy w' none := by
  have hK0 := KC.new w c m
  have g0 : w.grownBy (w.alloc (.cells #[.int .i64 c, .int .i64 m] 23)) none := World.grownBy_alloc _ _ _
  obtain ⟨bK, hbK⟩ : ∃ n, n = w.heap.size := ⟨_, rfl⟩
  obtain ⟨V0, hV0⟩ : ∃ W, W = w.alloc (.cells #[.int .i64 c, .int .i64 m] 23) := ⟨_, rfl⟩
  rw [← hbK, ← hV0] at hK0
  rw [← hV0] at g0
  have hM1 := MC.new V0 ⟨kc, km, kb, kx, ky⟩
  dsimp only at hM1
  have g1 := g_alloc g0 (.cells #[.int .i64 kc, .int .i64 km, .int .i64 kb, .int .i64 kx, .int .i64 ky] 40)
  have hK1 := hK0.grown (World.grownBy_alloc V0 (.cells #[.int .i64 kc, .int .i64 km, .int .i64 kb, .int .i64 kx, .int .i64 ky] 40) none)
  obtain ⟨bM, hbM⟩ : ∃ n, n = V0.heap.size := ⟨_, rfl⟩
  obtain ⟨V1, hV1⟩ : ∃ W, W = V0.alloc (.cells #[.int .i64 kc, .int .i64 km, .int .i64 kb, .int .i64 kx, .int .i64 ky] 40) := ⟨_, rfl⟩
  have hbM2 : bK + 1 = bM := by rw [hbM, hV0, hbK]; simp
  rw [← hbM, ← hV1] at hM1
  rw [← hV1] at g1 hK1
  have CS := Lib.hid (shown_any V1 (hW.grown g1))
  replace hW := Lib.hid hW; replace hK0 := Lib.hid hK0; replace g0 := Lib.hid g0; replace hbK := Lib.hid hbK; replace hV0 := Lib.hid hV0; replace hM1 := Lib.hid hM1; replace g1 := Lib.hid g1; replace hK1 := Lib.hid hK1; replace hbM := Lib.hid hbM; replace hbM2 := Lib.hid hbM2; replace hV1 := Lib.hid hV1
  replace hc := Lib.hid hc; replace hkc := Lib.hid hkc; replace hkm := Lib.hid hkm; replace hkb := Lib.hid hkb; replace hkx := Lib.hid hkx; replace hky := Lib.hid hky
  go_enter Tryz.func5, Tryz.ntmps5
  go_upto_region 1 with fail
  rw [← hbK.out, ← hV0.out, hbM2.out, ← hV1.out]
  go_wp2_with fail
  refine CS.out.mono ?_
  rintro e w1 ⟨rfl, q1⟩
  have G1 := g1.out.trans q1
  have K1 := hK1.out.grown q1
  have M1 := hM1.out.grown q1
  clear q1 CS hK0 g0 hM1 g1 hK1
  obtain ⟨x0, x1, _⟩ := K1.cells
  obtain ⟨y0, y1, y2, y3, y4, _⟩ := M1.cells
  dsimp only at y0 y1 y2 y3 y4
  have hAll : Hid (∀ W, w1.grownBy W none → (W.cell? ⟨bK, 0, none⟩ = some (.int .i64 c) ∧ W.cell? ⟨bK, 1, none⟩ = some (.int .i64 m) ∧ W.cell? ⟨bM, 0, none⟩ = some (.int .i64 kc) ∧ W.cell? ⟨bM, 1, none⟩ = some (.int .i64 km) ∧ W.cell? ⟨bM, 2, none⟩ = some (.int .i64 kb) ∧ W.cell? ⟨bM, 3, none⟩ = some (.int .i64 kx) ∧ W.cell? ⟨bM, 4, none⟩ = some (.int .i64 ky) ∧ w1.grownBy W none)) :=
    Lib.hid fun W g => ⟨g.cell x0 (by simp), g.cell x1 (by simp), g.cell y0 (by simp), g.cell y1 (by simp), g.cell y2 (by simp), g.cell y3 (by simp), g.cell y4 (by simp), g⟩
  obtain ⟨OB, hOB⟩ : ∃ l, l = bytesL c m modes := ⟨_, rfl⟩
  obtain ⟨OM, hOM⟩ : ∃ l, l = mouseOut ⟨kc, km, kb, kx, ky⟩ modes := ⟨_, rfl⟩
  obtain ⟨SB, hSB⟩ : ∃ s, s = st OB := ⟨_, rfl⟩
  obtain ⟨SM, hSM⟩ : ∃ s, s = st OM := ⟨_, rfl⟩
  have C12 : Hid (∀ W, w1.grownBy W none → Calls Tryz.prog 12 #[.agg #[.int .i64 c, .int .i64 m], .int .i64 modes] W fun e w' => ∃ A n cp, e = .returned (.slice A n cp) ∧ w1.grownBy w' none ∧ ∀ X, w'.grownBy X none → (convert 32 9 (.slice A n cp)).run Tryz.prog X = .ok (.string SB) X) := Lib.hid fun W g =>
    (bytes_any c m modes hc.out W (hW.out.grown (G1.trans g))).mono fun e w' h => by
      obtain ⟨A, n, cp, he, hn, _, hr, hg⟩ := h
      refine ⟨A, n, cp, he, g.trans hg, fun X hX => ?_⟩
      rw [hSB]
      rw [← hOB] at hn hr
      exact conv_str X 32 9 5 Tryz.underlying32 Tryz.underlying5 Tryz.underlying9 A n cp OB hn (hr.grown hX (.inl rfl))
  have C18 : Hid (∀ W, w1.grownBy W none → Calls Tryz.prog 18 #[.agg #[.int .i64 c, .int .i64 m], .int .i64 modes] W fun e w' => e = .returned (.string SB) ∧ w1.grownBy w' none ∧ W.grownBy w' none) := Lib.hid fun W g =>
    (bytesRef_any c m modes hc.out W).mono fun e w' h => by
      rw [hSB, hOB]
      exact ⟨h.1, g.trans h.2, h.2⟩
  have C19 : Hid (∀ W, w1.grownBy W none → Calls Tryz.prog 19 #[.agg #[.int .i64 kc, .int .i64 km, .int .i64 kb, .int .i64 kx, .int .i64 ky], .int .i64 modes] W fun e w' => ∃ A n cp, e = .returned (.slice A n cp) ∧ w1.grownBy w' none ∧ W.grownBy w' none ∧ ∀ X, w'.grownBy X none → (convert 32 9 (.slice A n cp)).run Tryz.prog X = .ok (.string SM) X) := Lib.hid fun W g =>
    (mouseB_any ⟨kc, km, kb, kx, ky⟩ modes hkc.out hkm.out hkb.out hkx.out hky.out W (hW.out.grown (G1.trans g))).mono fun e w' h => by
      obtain ⟨A, n, cp, he, hn, _, hr, hg⟩ := h
      refine ⟨A, n, cp, he, g.trans hg, hg, fun X hX => ?_⟩
      rw [hSM]
      rw [← hOM] at hn hr
      exact conv_str X 32 9 5 Tryz.underlying32 Tryz.underlying5 Tryz.underlying9 A n cp OM hn (hr.grown hX (.inl rfl))
  have C20 : Hid (∀ W, w1.grownBy W none → Calls Tryz.prog 20 #[.agg #[.int .i64 kc, .int .i64 km, .int .i64 kb, .int .i64 kx, .int .i64 ky], .int .i64 modes] W fun e w' => e = .returned (.string SM) ∧ w1.grownBy w' none ∧ W.grownBy w' none) := Lib.hid fun W g =>
    (mouseRefB_any ⟨kc, km, kb, kx, ky⟩ modes hkc.out W).mono fun e w' h => by
      rw [hSM, hOM]
      exact ⟨h.1, g.trans h.2, h.2⟩
  have gN : w1.grownBy w1.drew none := g_drew (World.grownBy.refl w1 none)
  replace G1 := Lib.hid G1; replace K1 := Lib.hid K1; replace M1 := Lib.hid M1; replace hOB := Lib.hid hOB; replace hOM := Lib.hid hOM; replace hSB := Lib.hid hSB; replace hSM := Lib.hid hSM
  clear x0 x1 y0 y1 y2 y3 y4
  go_upto_region 2 with fail
  refine wp_region_noPanic ?_
  refine wp_region_held_drew (S := fun W => w1.grownBy W none) (by kernel_rfl) gN (fun _ => ?_)
  refine wpAnyH_take (i := 0) (oi := _) (v := (.bool true)) rfl (by kernel_rfl) (by kernel_rfl) (by kernel_rfl) (fun _ _ _ h => h) (Or.inl ⟨by rfl, ?_⟩) gN ?_
  · intro W hWs
    go_simp
  show wpAnyH _ _ _ _ _ _ _ (Act.put _ (some 9) _) _
  try simp only [Act.put, List.setIfInBounds_toArray, List.set_cons_zero, List.set_cons_succ]
  refine wpAnyH_take (i := 1) (oi := _) (v := (.bool true)) rfl (by kernel_rfl) (by kernel_rfl) (by kernel_rfl) (fun _ _ _ h => h) (Or.inl ⟨by rfl, ?_⟩) gN ?_
  · intro W hWs
    go_simp
  show wpAnyH _ _ _ _ _ _ _ (Act.put _ (some 10) _) _
  try simp only [Act.put, List.setIfInBounds_toArray, List.set_cons_zero, List.set_cons_succ]
  refine wpAnyH_take (i := 2) (oi := _) (v := (.agg #[.int .i64 c, .int .i64 m])) rfl (by kernel_rfl) (by kernel_rfl) (by kernel_rfl) (fun _ _ _ h => h) (Or.inl ⟨by rfl, ?_⟩) gN ?_
  · intro W hWs
    obtain ⟨z0, z1, z2, z3, z4, z5, z6, _⟩ := hAll.out W hWs
    go_simp
  show wpAnyH _ _ _ _ _ _ _ (Act.put _ (some 11) _) _
  try simp only [Act.put, List.setIfInBounds_toArray, List.set_cons_zero, List.set_cons_succ]
  refine wpAnyH_take (i := 3) (oi := _) (v := (.int .i64 modes)) rfl (by kernel_rfl) (by kernel_rfl) (by kernel_rfl) (fun _ _ _ h => h) (Or.inl ⟨by rfl, ?_⟩) gN ?_
  · intro W hWs
    go_simp
  show wpAnyH _ _ _ _ _ _ _ (Act.put _ (some 12) _) _
  try simp only [Act.put, List.setIfInBounds_toArray, List.set_cons_zero, List.set_cons_succ]
  refine wpAnyH_take (i := 6) (oi := _) (v := (.agg #[.int .i64 c, .int .i64 m])) rfl (by kernel_rfl) (by kernel_rfl) (by kernel_rfl) (fun _ _ _ h => h) (Or.inl ⟨by rfl, ?_⟩) gN ?_
  · intro W hWs
    obtain ⟨z0, z1, z2, z3, z4, z5, z6, _⟩ := hAll.out W hWs
    go_simp
  show wpAnyH _ _ _ _ _ _ _ (Act.put _ (some 15) _) _
  try simp only [Act.put, List.setIfInBounds_toArray, List.set_cons_zero, List.set_cons_succ]
  refine wpAnyH_take (i := 7) (oi := _) (v := (.int .i64 modes)) rfl (by kernel_rfl) (by kernel_rfl) (by kernel_rfl) (fun _ _ _ h => h) (Or.inl ⟨by rfl, ?_⟩) gN ?_
  · intro W hWs
    go_simp
  show wpAnyH _ _ _ _ _ _ _ (Act.put _ (some 16) _) _
  try simp only [Act.put, List.setIfInBounds_toArray, List.set_cons_zero, List.set_cons_succ]
  refine wpAnyH_ready (rs := [4]) (by kernel_rfl) (by simp) ?_
  refine AllReadyH.cons (o := _) rfl (fun K hK => ?_) AllReadyH.nil
  go_simp
  refine (C12.out _ gN).mono ?_
  rintro e wA ⟨A, n, cp, rfl, gA, hv⟩
  refine hK.out _ _ gA (fun _ => ?_)
  clear hK K
  try simp only [Act.put, List.setIfInBounds_toArray, List.set_cons_zero, List.set_cons_succ]
  refine wpAnyH_strong (S1 := fun W => wA.grownBy W none) (fun W h => gA.trans h) _ _ _ _ ?_
  replace hv := Lib.hid hv
  refine wpAnyH_take (i := 5) (oi := _) (v := (.string SB)) rfl (by kernel_rfl) (by kernel_rfl) (by kernel_rfl) (fun _ _ _ h => h) (Or.inl ⟨by rfl, ?_⟩) (World.grownBy.refl wA none) ?_
  · intro W hWs
    have hv1 := hv.out W hWs
    go_simp
  show wpAnyH _ _ _ _ _ _ _ (Act.put _ (some 14) _) _
  try simp only [Act.put, List.setIfInBounds_toArray, List.set_cons_zero, List.set_cons_succ]
  refine wpAnyH_ready (rs := [8]) (by kernel_rfl) (by simp) ?_
  refine AllReadyH.cons (o := _) rfl (fun K hK => ?_) AllReadyH.nil
  go_simp
  refine (C18.out _ gA).mono ?_
  rintro e wB ⟨rfl, gB, gs⟩
  refine hK.out _ _ gs (fun _ => ?_)
  clear hK K
  try simp only [Act.put, List.setIfInBounds_toArray, List.set_cons_zero, List.set_cons_succ]
  refine wpAnyH_take (i := 9) (oi := _) (v := (.bool true)) rfl (by kernel_rfl) (by kernel_rfl) (by kernel_rfl) (fun _ _ _ h => h) (Or.inl ⟨by rfl, ?_⟩) gs ?_
  · intro W hWs
    go_simp
  show wpAnyH _ _ _ _ _ _ _ (Act.put _ (some 18) _) _
  try simp only [Act.put, List.setIfInBounds_toArray, List.set_cons_zero, List.set_cons_succ]
  refine wpAnyH_take (i := 10) (oi := _) (v := (.bool true)) rfl (by kernel_rfl) (by kernel_rfl) (by kernel_rfl) (fun _ _ _ h => h) (Or.inl ⟨by rfl, ?_⟩) gs ?_
  · intro W hWs
    go_simp
  show wpAnyH _ _ _ _ _ _ _ (Act.put _ (some 19) _) _
  try simp only [Act.put, List.setIfInBounds_toArray, List.set_cons_zero, List.set_cons_succ]
  refine wpAnyH_take (i := 11) (oi := _) (v := (.bool true)) rfl (by kernel_rfl) (by kernel_rfl) (by kernel_rfl) (fun _ _ _ h => h) (Or.inl ⟨by rfl, ?_⟩) gs ?_
  · intro W hWs
    go_simp
  show wpAnyH _ _ _ _ _ _ _ (Act.put _ (some 20) _) _
  try simp only [Act.put, List.setIfInBounds_toArray, List.set_cons_zero, List.set_cons_succ]
  refine wpAnyH_take (i := 12) (oi := _) (v := (.agg #[.int .i64 kc, .int .i64 km, .int .i64 kb, .int .i64 kx, .int .i64 ky])) rfl (by kernel_rfl) (by kernel_rfl) (by kernel_rfl) (fun _ _ _ h => h) (Or.inl ⟨by rfl, ?_⟩) gs ?_
  · intro W hWs
    obtain ⟨z0, z1, z2, z3, z4, z5, z6, _⟩ := hAll.out W (gA.trans hWs)
    go_simp
  show wpAnyH _ _ _ _ _ _ _ (Act.put _ (some 21) _) _
  try simp only [Act.put, List.setIfInBounds_toArray, List.set_cons_zero, List.set_cons_succ]
  refine wpAnyH_take (i := 13) (oi := _) (v := (.int .i64 modes)) rfl (by kernel_rfl) (by kernel_rfl) (by kernel_rfl) (fun _ _ _ h => h) (Or.inl ⟨by rfl, ?_⟩) gs ?_
  · intro W hWs
    go_simp
  show wpAnyH _ _ _ _ _ _ _ (Act.put _ (some 22) _) _
  try simp only [Act.put, List.setIfInBounds_toArray, List.set_cons_zero, List.set_cons_succ]
  refine wpAnyH_take (i := 16) (oi := _) (v := (.agg #[.int .i64 kc, .int .i64 km, .int .i64 kb, .int .i64 kx, .int .i64 ky])) rfl (by kernel_rfl) (by kernel_rfl) (by kernel_rfl) (fun _ _ _ h => h) (Or.inl ⟨by rfl, ?_⟩) gs ?_
  · intro W hWs
    obtain ⟨z0, z1, z2, z3, z4, z5, z6, _⟩ := hAll.out W (gA.trans hWs)
    go_simp
  show wpAnyH _ _ _ _ _ _ _ (Act.put _ (some 25) _) _
  try simp only [Act.put, List.setIfInBounds_toArray, List.set_cons_zero, List.set_cons_succ]
  refine wpAnyH_take (i := 17) (oi := _) (v := (.int .i64 modes)) rfl (by kernel_rfl) (by kernel_rfl) (by kernel_rfl) (fun _ _ _ h => h) (Or.inl ⟨by rfl, ?_⟩) gs ?_
  · intro W hWs
    go_simp
  show wpAnyH _ _ _ _ _ _ _ (Act.put _ (some 26) _) _
  try simp only [Act.put, List.setIfInBounds_toArray, List.set_cons_zero, List.set_cons_succ]
  refine wpAnyH_ready (rs := [14]) (by kernel_rfl) (by simp) ?_
  refine AllReadyH.cons (o := _) rfl (fun K hK => ?_) AllReadyH.nil
  go_simp
  refine (C19.out _ gB).mono ?_
  rintro e wC ⟨A2, n2, cp2, rfl, gC, gsC, hu⟩
  refine hK.out _ _ (gs.trans gsC) (fun _ => ?_)
  clear hK K
  try simp only [Act.put, List.setIfInBounds_toArray, List.set_cons_zero, List.set_cons_succ]
  refine wpAnyH_strong (S1 := fun W => wC.grownBy W none) (fun W h => (gs.trans gsC).trans h) _ _ _ _ ?_
  replace hu := Lib.hid hu
  refine wpAnyH_take (i := 15) (oi := _) (v := (.string SM)) rfl (by kernel_rfl) (by kernel_rfl) (by kernel_rfl) (fun _ _ _ h => h) (Or.inl ⟨by rfl, ?_⟩) (World.grownBy.refl wC none) ?_
  · intro W hWs
    have hu1 := hu.out W hWs
    go_simp
  show wpAnyH _ _ _ _ _ _ _ (Act.put _ (some 24) _) _
  try simp only [Act.put, List.setIfInBounds_toArray, List.set_cons_zero, List.set_cons_succ]
  refine wpAnyH_ready (rs := [18]) (by kernel_rfl) (by simp) ?_
  refine AllReadyH.cons (o := _) rfl (fun K hK => ?_) AllReadyH.nil
  go_simp
  refine (C20.out _ gC).mono ?_
  rintro e wD ⟨rfl, gD, gsD⟩
  refine hK.out _ _ gsD (fun _ => ?_)
  clear hK K
  try simp only [Act.put, List.setIfInBounds_toArray, List.set_cons_zero, List.set_cons_succ]
  refine wpAnyH_take (i := 19) (oi := _) (v := (.bool true)) rfl (by kernel_rfl) (by kernel_rfl) (by kernel_rfl) (fun _ _ _ h => h) (Or.inl ⟨by rfl, ?_⟩) gsD ?_
  · intro W hWs
    go_simp
  show wpAnyH _ _ _ _ _ _ _ (Act.put _ (some 28) _) _
  try simp only [Act.put, List.setIfInBounds_toArray, List.set_cons_zero, List.set_cons_succ]
  refine wpAnyH_take (i := 20) (oi := _) (v := (.bool true)) rfl (by kernel_rfl) (by kernel_rfl) (by kernel_rfl) (fun _ _ _ h => h) (Or.inl ⟨by rfl, ?_⟩) gsD ?_
  · intro W hWs
    go_simp
  show wpAnyH _ _ _ _ _ _ _ (Act.put _ (some 29) _) _
  try simp only [Act.put, List.setIfInBounds_toArray, List.set_cons_zero, List.set_cons_succ]
  refine wpAnyH_take (i := 21) (oi := _) (v := (.bool true)) rfl (by kernel_rfl) (by kernel_rfl) (by kernel_rfl) (fun _ _ _ h => h) (Or.inl ⟨by rfl, ?_⟩) gsD ?_
  · intro W hWs
    go_simp
  show wpAnyH _ _ _ _ _ _ _ (Act.put _ (some 6) _) _
  try simp only [Act.put, List.setIfInBounds_toArray, List.set_cons_zero, List.set_cons_succ]
  refine wpAnyH_done (by kernel_rfl) ?_ _
  refine NoPanic.normal ?_
  go_wp2_with fail
  go_ret
  exact ⟨rfl, G1.out.trans gD⟩
end Go.Proofs.YtncokbppijnfiaaGreatDoor
