/- Layout: the reference's Print, Boxes. -/
import Derived.Test.YtcklmkjlbpjojaaGreatDoorRH
namespace Go.Proofs.YtcklmkjlbpjojaaGreatDoor
open Go.RowKit
set_option linter.unusedSimpArgs false
set_option linter.unusedVariables false

theorem g_drewNn (w : World) (k : Nat) : w.grownBy (w.drewN k) none := ⟨rfl, rfl, rfl, Nat.le_refl _, fun _ _ _ => rfl⟩
set_option maxHeartbeats 1000000 in
set_option maxRecDepth 100000 in
theorem printR_any (tr : Nat) (t : T) (w : World) (hT : RTr w tr t) (hsm : ∀ m ∈ t.nds, m.sm) (hw : t.w01) (hL : t.body.length ≤ 900000) :
    Calls Tryz.prog 51 #[ptr tr] w fun e w' => e = .returned (.string (st t.print)) ∧ w.grownBy w' none := by
  have c0 := hT.c0
  have CB := Lib.hid (bodyR_any t w hT.p hsm hw hL)
  have CS := Lib.hid (fun W => sumR_any t.body W (by omega))
  have CF := Lib.hid (fun W => fourR (sumB t.body) W (sumB_lt _))
  have h4 := fourB_len4 (sumB_lt t.body)
  have hp : t.print = fourB (sumB t.body) ++ [44] ++ t.body := by unfold T.print; simp
  rw [hp]
  obtain ⟨t1, q1, q2⟩ : ∃ t1, (∀ w, Sem.run Tryz.prog (Op.stringOp .add (st (fourB (sumB t.body))) ⟨#[44]⟩) w = .ok (.string t1) w) ∧ (∀ w, Sem.run Tryz.prog (Op.stringOp .add t1 (st t.body)) w = .ok (.string (st (fourB (sumB t.body) ++ [44] ++ t.body))) w) :=
    ⟨_, add_run _ [44] (by rw [h4]; simp), add_run _ _ (by simp only [List.length_append, h4, List.length_cons, List.length_nil]; omega)⟩
  obtain ⟨R, hR⟩ : ∃ R, R = st (fourB (sumB t.body) ++ [44] ++ t.body) := ⟨_, rfl⟩
  rw [← hR] at q2 ⊢
  obtain ⟨vb, hvb⟩ : ∃ v, v = st t.body := ⟨_, rfl⟩
  obtain ⟨vf, hvf⟩ : ∃ v, v = st (fourB (sumB t.body)) := ⟨_, rfl⟩
  rw [← hvb] at CB CS q2
  rw [← hvf] at CF q1
  obtain ⟨sn, hsn⟩ : ∃ s, s = sumB t.body := ⟨_, rfl⟩
  rw [← hsn] at CS CF
  clear hp h4 hR hvb hvf hsn hT hsm hw hL
  unfold ptr at c0 ⊢
  unfold ptr at CB
  go_enter Tryz.func51, Tryz.ntmps51
  go_wp2_with fail
  refine CB.out.mono ?_
  rintro e w1 ⟨rfl, k1, hk1⟩
  replace hk1 := Lib.hid hk1
  go_wp2_with fail
  refine (CS.out _).mono ?_
  rintro e w2 ⟨rfl, h2⟩
  replace h2 := Lib.hid h2
  go_wp2_with fail
  refine (CF.out _).mono ?_
  rintro e w3 ⟨rfl, k3, hk3⟩
  replace hk3 := Lib.hid hk3
  go_wp2_with fail
  go_ret
  refine ⟨rfl, ?_⟩
  rw [hk3.out, h2.out, hk1.out]
  exact (g_drewNn w k1).trans (g_drewNn _ k3)
set_option maxHeartbeats 2000000 in
set_option maxRecDepth 100000 in
theorem boxesR_any (tr : Nat) (t : T) (w : World) (hT : RTr w tr t) (hl : t.leaves.length ≤ 100000) :
    Calls Tryz.prog 50 #[ptr tr] w fun e w' => ∃ A c, e = .returned (.slice A t.leaves.length c) ∧ w'.ownsRow w.heap.size 50 5 (.slice A t.leaves.length c) t.leaves.length (boxes t.leaves) ∧ w.grownBy w' none := by
  have CA := Lib.hid (leavesR_any t w hT.p hl)
  have c0 := hT.c0
  replace hT := Lib.hid hT
  obtain ⟨len, hln⟩ : ∃ len, len = t.leaves.length := ⟨_, rfl⟩
  rw [← hln] at CA hl
  rw [← hln]
  replace hln := Lib.hid hln
  unfold ptr at *
  go_enter Tryz.func50, Tryz.ntmps50
  go_wp2_with fail
  refine CA.out.mono ?_
  rintro e w1 ⟨A, c, rfl, hO, hG⟩
  have hR := own_Rd hO
  have hT1 := hT.out.grown hG
  replace hO := Lib.hid hO; replace hR := Lib.hid hR; replace hT1 := Lib.hid hT1; replace hG := Lib.hid hG
  clear CA c0
  go_wp2_with fail
  go_loopw [4, 5] (fun sv iv wr => ∃ (j : Nat) (A3 : Option Addr) (c3 : Nat), j ≤ len ∧ iv = .int .i64 j ∧ sv = .slice A3 j c3 ∧ Hid (wr.ownsRow w1.heap.size 50 5 (.slice A3 j c3) j (boxes (t.leaves.take j)) ∧ w1.grownBy wr none)) (fun _ iv _ => len - (intOf iv).toNat)
  case atStart => exact ⟨0, none, 0, Nat.zero_le _, rfl, rfl, Lib.hid ⟨World.ownsRow_nil _ _ _ _, World.grownBy.refl _ _⟩⟩
  case round =>
    obtain ⟨j, A3, c3, hj, rfl, rfl, hI⟩ := hrel
    by_cases hlt : j < len
    · obtain ⟨s, hs⟩ : ∃ s, t.leaves[j]? = some s := ⟨t.leaves[j]'(by rw [← hln.out]; exact hlt), List.getElem?_eq_getElem _⟩
      obtain ⟨b, off, rfl, _, hcell⟩ := hR.out.at_ (j := j) (u := ptr s.g) (by simp [ptrs, hs])
      have hc2 := hI.out.2.cell hcell (by simp)
      have hblt : b < w1.heap.size := (hO.out.lt b rfl).2
      have hsA : RAt wr s.n [] := leafR_at (hT1.out.p.grown hI.out.2) (List.mem_of_getElem? hs)
      have q0 := hsA.c0; have q1 := hsA.c1; have q2 := hsA.c2; have q3 := hsA.c3; have q4 := hsA.c4
      have hsg : s.n.g = s.g := rfl
      have hslt : s.g < w1.heap.size := by
        obtain ⟨h1, _, h3⟩ := mem_leavesR t w1 hT1.out.p s (List.mem_of_getElem? hs)
        exact RP.lt t hT1.out.p _ (h3 _ s.g_mem)
      rw [hsg] at q0 q1 q2 q3 q4
      have hsn : boxes (t.leaves.take (j + 1)) = boxes (t.leaves.take j) ++ boxOf s.n := by
        rw [take_succ' hs, boxes_app]; simp [boxes]
      replace hs := Lib.hid hs; replace hsA := Lib.hid hsA; replace hsn := Lib.hid hsn
      unfold ptr at hc2
      clear hcell hsg
      go_upto_region 6 with fail
      obtain ⟨i0, hi0, hz0, hz1, hz2⟩ := info_parts info30
      replace hi0 := Lib.hid hi0; replace hz0 := Lib.hid hz0; replace hz1 := Lib.hid hz1; replace hz2 := Lib.hid hz2
      have hO1 := hI.out.1
      have hsz := hI.out.2.size
      have hne : s.g ≠ wr.heap.size := by omega
      have hneb : b ≠ wr.heap.size := by omega
      replace hO1 := Lib.hid hO1
      have OA := own_keep hO1.out ((g_drew (World.grownBy.refl wr none)).trans (World.grownBy_alloc wr.drew (.cells (boxOf s.n).toArray 50) none))
      have RA := Rd.newL wr.drew (boxOf s.n) 50
      have p1 : 0 < 5 := by omega
      have p2 : (boxOf s.n).length = 1 * 5 := rfl
      have p3 : j + 1 ≤ maxLen := by unfold maxLen; omega
      have p4 : (j + 1) * 40 ≤ 140737488355328 := by omega
      have p5 : w1.heap.size ≤ (wr.drew.alloc (.cells (boxOf s.n).toArray 50)).heap.size := by simp; omega
      have hrow : (Value.slice A3 j c3).ownBlock ≠ some s.g := by
        intro e
        have h1 := (hO1.out.lt _ e).1
        omega
      have hrow2 : (Value.slice A3 j c3).ownBlock ≠ some b := by
        intro e
        have h1 := (hO1.out.lt _ e).1
        omega
      replace OA := Lib.hid OA; replace RA := Lib.hid RA; replace hrow := Lib.hid hrow; replace hrow2 := Lib.hid hrow2
      go_region_held3 (fun w' => w'.cell? ⟨b, off + j, none⟩ = some (.pointer (some ⟨s.g, 0, none⟩)) ∧ w'.cell? ⟨s.g, 0, none⟩ = some (.int .i64 s.n.p) ∧ w'.cell? ⟨s.g, 1, none⟩ = some (.int .i64 s.n.x) ∧ w'.cell? ⟨s.g, 2, none⟩ = some (.int .i64 s.n.y) ∧ w'.cell? ⟨s.g, 3, none⟩ = some (.int .i64 s.n.a) ∧ w'.cell? ⟨s.g, 4, none⟩ = some (.int .i64 s.n.b))
        (first | go_keep | (go_split_ands; refine ⟨?_, ?_, ?_, ?_, ?_, ?_⟩ <;> first | (refine G5.cell ?_ (fun e => hrow2.out e.symm) <;> first | assumption | simp) | (refine G5.cell ?_ (fun e => hrow.out e.symm) <;> first | assumption | simp)) | fail)
        ((first
          | (refine step_append_rd (by rfl) (.tmp 17) (.tmp 54) 45 (by rfl) w1.heap.size 50 i0 _ 5 40 Tryz.underlying45 hi0.out hz0.out hz1.out hz2.out rfl p1 (.slice A3 j c3) j _ (by rfl) OA.out (some ⟨wr.heap.size, 0, none⟩) 1 1 (boxOf s.n) (by rfl) p2 RA.out (boxOf_one _) p3 p4 p5 ?_; intro A5 c5 w5 O5 G5 hh5)
          | fail))
      replace O5 := Lib.hid O5; replace G5 := Lib.hid G5
      clear q0 q1 q2 q3 q4
      go_wp2_with fail
      refine ⟨⟨j + 1, A5, c5, by omega, by go_num, rfl, Lib.hid ⟨?_, ?_⟩⟩, by simp [intOf]; omega⟩
      · rw [hsn.out]; exact O5.out
      · exact g_own (hI.out.2.trans ((g_drew (World.grownBy.refl wr none)).trans (World.grownBy_alloc wr.drew _ none))) OA.out (Nat.le_refl _) G5.out
    · have hje : j = len := by omega
      subst hje
      go_wp2_with fail
      go_ret
      have := hI.out.1
      rw [List.take_of_length_le (by rw [hln.out]; exact Nat.le_refl _)] at this
      exact ⟨A3, c3, rfl, own_le this hG.out.size, hG.out.trans hI.out.2⟩
end Go.Proofs.YtcklmkjlbpjojaaGreatDoor
