/- Layout: the reader of a body: node. -/
import Derived.Test.YtcklmkjlbpjojaaGreatDoorR3b
import Derived.Test.YtcklmkjlbpjojaaGreatDoorRE2
import Derived.Deep.RegionHeld3
namespace Go.Proofs.YtcklmkjlbpjojaaGreatDoor
open Go.RowKit
set_option linter.unusedSimpArgs false
set_option linter.unusedVariables false

/-- A node of the reader's own that has no kids yet. -/
structure NI (w : World) (gn rb : Nat) (nd : Nd) (s : List UInt8) (bad : Bool) (wr : World) : Prop where
  a : At wr none nd []
  g : nd.g = gn ∧ nd.A = none ∧ nd.c = 0
  r : Rdr rb s bad wr
  o : Off [rb] w wr
  n : w.heap.size ≤ gn ∧ rb < w.heap.size
section
variable {w wr w1 : World} {gn rb : Nat} {nd : Nd} {s s' : List UInt8} {bad bad' : Bool}
theorem NI.call (h : NI w gn rb nd s bad wr) (o1 : Off [rb] wr w1) (r1 : Rdr rb s' bad' w1) : NI w gn rb nd s' bad' w1 :=
  ⟨h.a.same fun b hb => o1.block b (h.a.lt b hb) (by
    rw [h.g.1, h.g.2.1] at hb
    simp at hb ⊢
    have := h.n; omega), h.g, r1, h.o.trans o1 (by simp), h.n⟩
theorem NI.upd (h : NI w gn rb nd s bad wr) {nd' : Nd} (j : Nat) (z : Int) (hg : nd'.g = nd.g ∧ nd'.A = nd.A ∧ nd'.c = nd.c)
    (hc : (wr.setCell ⟨gn, j, none⟩ (.int .i64 z)).heap[gn]? = some (.cells #[.int .i64 nd'.p, .int .i64 nd'.x, .int .i64 nd'.y, .int .i64 nd'.a, .int .i64 nd'.b, .int .i64 nd'.way, nd'.row 0, uptr none] 66 (0, 0))) : NI w gn rb nd' s bad (wr.setCell ⟨gn, j, none⟩ (.int .i64 z)) := by
  have o : Off [gn] wr (wr.setCell ⟨gn, j, none⟩ (.int .i64 z)) := Off.set wr ⟨gn, j, none⟩ _
  have hn := h.n
  refine ⟨?_, ⟨by rw [hg.1]; exact h.g.1, by rw [hg.2.1]; exact h.g.2.1, by rw [hg.2.2]; exact h.g.2.2⟩, h.r.off o (by simp; omega), h.o.trans o (by simp; omega), h.n⟩
  refine h.a.upd (ks' := []) hg.1 hg.2.1 hg.2.2 rfl (by rw [h.g.1]; exact o) ?_ (by rw [h.g.2.1]; simp)
  rw [h.g.1]
  exact hc
theorem NI.h (h : NI w gn rb nd s bad wr) : wr.heap[gn]? = some (.cells #[.int .i64 nd.p, .int .i64 nd.x, .int .i64 nd.y, .int .i64 nd.a, .int .i64 nd.b, .int .i64 nd.way, nd.row 0, uptr none] 66 (0, 0)) := by
  have := h.a.h; rw [h.g.1] at this; exact this
theorem NI.set0 (h : NI w gn rb nd s bad wr) (z : Int) : NI w gn rb { nd with p := z } s bad (wr.setCell ⟨gn, 0, none⟩ (.int .i64 z)) := h.upd 0 z ⟨rfl, rfl, rfl⟩ (heap_set (j := 0) h.h _)
theorem NI.set1 (h : NI w gn rb nd s bad wr) (z : Int) : NI w gn rb { nd with x := z } s bad (wr.setCell ⟨gn, 1, none⟩ (.int .i64 z)) := h.upd 1 z ⟨rfl, rfl, rfl⟩ (heap_set (j := 1) h.h _)
theorem NI.set2 (h : NI w gn rb nd s bad wr) (z : Int) : NI w gn rb { nd with y := z } s bad (wr.setCell ⟨gn, 2, none⟩ (.int .i64 z)) := h.upd 2 z ⟨rfl, rfl, rfl⟩ (heap_set (j := 2) h.h _)
theorem NI.set3 (h : NI w gn rb nd s bad wr) (z : Int) : NI w gn rb { nd with a := z } s bad (wr.setCell ⟨gn, 3, none⟩ (.int .i64 z)) := h.upd 3 z ⟨rfl, rfl, rfl⟩ (heap_set (j := 3) h.h _)
theorem NI.set4 (h : NI w gn rb nd s bad wr) (z : Int) : NI w gn rb { nd with b := z } s bad (wr.setCell ⟨gn, 4, none⟩ (.int .i64 z)) := h.upd 4 z ⟨rfl, rfl, rfl⟩ (heap_set (j := 4) h.h _)
theorem NI.set5 (h : NI w gn rb nd s bad wr) (z : Int) : NI w gn rb { nd with way := z } s bad (wr.setCell ⟨gn, 5, none⟩ (.int .i64 z)) := h.upd 5 z ⟨rfl, rfl, rfl⟩ (heap_set (j := 5) h.h _)
theorem NI.drew (h : NI w gn rb nd s bad wr) : NI w gn rb nd s bad wr.drew := h.call (Off.drew wr) h.r
/-- What the stores of a node want. -/
theorem NI.cells (h : NI w gn rb nd s bad wr) : wr.cell? ⟨gn, 0, none⟩ = some (.int .i64 nd.p) ∧ wr.cell? ⟨gn, 1, none⟩ = some (.int .i64 nd.x) ∧ wr.cell? ⟨gn, 2, none⟩ = some (.int .i64 nd.y) ∧ wr.cell? ⟨gn, 3, none⟩ = some (.int .i64 nd.a) ∧ wr.cell? ⟨gn, 4, none⟩ = some (.int .i64 nd.b) ∧ wr.cell? ⟨gn, 5, none⟩ = some (.int .i64 nd.way) ∧ ∀ j, wr.frozen? ⟨gn, j, none⟩ = false :=
  ⟨by rw [cell_of_heap h.h]; rfl, by rw [cell_of_heap h.h]; rfl, by rw [cell_of_heap h.h]; rfl, by rw [cell_of_heap h.h]; rfl, by rw [cell_of_heap h.h]; rfl, by rw [cell_of_heap h.h]; rfl, fun j => free_of_heap h.h j⟩
theorem NI.start (w : World) (rb : Nat) (s : List UInt8) (bad : Bool) (hR : Rdr rb s bad w) : NI w w.heap.size rb ⟨w.heap.size, none, 0, 0, 0, 0, 0, 0, 0⟩ s bad (w.alloc (.cells #[.int .i64 0, .int .i64 0, .int .i64 0, .int .i64 0, .int .i64 0, .int .i64 0, .slice none 0 0, .pointer none] 66)) :=
  ⟨⟨heap_alloc_new w _, World.ownsRow_nil _ _ _ _⟩, ⟨rfl, rfl, rfl⟩, hR.off (S := []) (Off.alloc w _) (by simp), Off.alloc w _, ⟨Nat.le_refl _, lt_of_heap hR⟩⟩
end

def lenR (rb : Nat) (w : World) : Nat := match w.cell? ⟨rb, 0, none⟩ with | some (.string S) => S.size | _ => 0
theorem Rdr.len {rb : Nat} {s : List UInt8} {bad : Bool} {w : World} (h : Rdr rb s bad w) : lenR rb w = s.length := by
  unfold lenR; rw [h.c0]; exact st_size s
/-- Where the kids' loop stands: what is read and what is still to be read are KR. -/
structure KL (w : World) (gn rb : Nat) (nk : Nd) (m : Nat) (way : Int) (KR : List P × List UInt8 × Bool) (wr : World) : Prop where
  out : ∃ (ks : List T) (ndk : Nd) (q : Nat) (sq : List UInt8) (bq : Bool), KI w gn rb nk ndk ks sq bq wr ∧ 2 * sq.length + 3 ≤ q ∧ q ≤ m ∧ ks.length + sq.length ≤ 5000 ∧ ptL ks ++ (kidsP q way sq bq).1 = KR.1 ∧ (kidsP q way sq bq).2 = KR.2

set_option maxHeartbeats 400000 in
set_option maxRecDepth 100000 in
theorem node_any : ∀ (n : Nat) (rb : Nat) (s : List UInt8) (bad : Bool) (w : World), Rdr rb s bad w → 2 * s.length + 2 ≤ n → s.length ≤ 5000 →
    Calls Tryz.prog 43 #[ptr rb] w fun e w' => ∃ t, e = .returned (ptr t.g) ∧ TP w' none t ∧ t.pt = (nodeP n s bad).1 ∧ Rdr rb (nodeP n s bad).2.1 (nodeP n s bad).2.2 w' ∧ Off [rb] w w' ∧ (∀ b ∈ t.bl, w.heap.size ≤ b) ∧ t.bl.Nodup := by
  intro n
  induction n using Nat.strongRecOn with
  | ind n ih =>
  intro rb s bad w hR hn hs
  obtain ⟨m, rfl⟩ : ∃ m, n = m + 1 := ⟨n - 1, by omega⟩
  rw [nodeP_succ]
  obtain ⟨FR, hFR⟩ : ∃ FR, FR = nodeH m (hdP s bad) := ⟨_, rfl⟩
  rw [← hFR]
  replace hFR := Lib.hid hFR
  have hI0 := NI.start w rb s bad hR
  obtain ⟨gn, hgn⟩ : ∃ gn, gn = w.heap.size := ⟨_, rfl⟩
  replace ih := Lib.hid ih; replace hR := Lib.hid hR
  unfold ptr
  go_enter Tryz.func43, Tryz.ntmps43
  go_upto_region 2 with fail
  obtain ⟨W0, hW0⟩ : ∃ W0, W0 = w.alloc (.cells #[.int .i64 0, .int .i64 0, .int .i64 0, .int .i64 0, .int .i64 0, .int .i64 0, .slice none 0 0, .pointer none] 66) := ⟨_, rfl⟩
  rw [← hW0] at hI0 ⊢
  rw [← hgn] at hI0 ⊢
  replace hW0 := Lib.hid hW0; replace hgn := Lib.hid hgn
  replace hI0 := Lib.hid hI0
  have hs' := Lib.hid hs
  obtain ⟨ra, hra⟩ : ∃ ra, ra = numP s bad := ⟨_, rfl⟩
  have CN := number_any rb s bad W0.drew hI0.out.drew.r hs'.out
  have lra := numP_len s bad
  rw [← hra] at CN lra
  replace lra := Lib.hid (Nat.le_trans lra hs'.out)
  replace CN := Lib.hid CN; replace hra := Lib.hid hra
  unfold ptr at CN
  go_region_held3 (fun w' => True) (first | trivial | fail)
    ((first
      | (go_at_call 85; refine CN.out.mono ?_; rintro e w1 ⟨rfl, r1, o1⟩; have hI1 := hI0.out.drew.call o1 r1; obtain ⟨q0, q1, q2, q3, q4, q5, qf⟩ := hI1.cells; have qf' := qf 3; replace r1 := Lib.hid r1; replace o1 := Lib.hid o1; replace hI1 := Lib.hid hI1; clear qf)
      | fail))
  obtain ⟨V1, hV1⟩ : ∃ V1, V1 = w1.setCell ⟨gn, 3, none⟩ (.int .i64 (ra.1 : Int)) := ⟨_, rfl⟩
  have hJ1 := hI1.out.set3 (ra.1 : Int)
  rw [← hV1] at hJ1 ⊢
  replace hJ1 := Lib.hid hJ1; replace hV1 := Lib.hid hV1
  clear CN q0 q1 q2 q3 q4 q5 qf' r1 o1 hI1
  obtain ⟨rx, hrx⟩ : ∃ rx, rx = nextP [120] ra.2.1 ra.2.2 := ⟨_, rfl⟩
  have CX := next_any rb [120] ra.2.1 ra.2.2 V1 hJ1.out.r lra.out
  have lrx := (nextP_len [120] ra.2.1 ra.2.2).1
  rw [← hrx] at CX lrx
  replace lrx := Lib.hid (Nat.le_trans lrx lra.out)
  replace CX := Lib.hid CX; replace hrx := Lib.hid hrx
  unfold ptr at CX
  go_wp2_with fail
  refine CX.out.mono ?_
  rintro e V2 ⟨rfl, r1, o1⟩
  have hJ2 := hJ1.out.call o1 r1
  replace hJ2 := Lib.hid hJ2
  clear CX r1 o1
  go_upto_region 4 with fail
  obtain ⟨rbb, hrbb⟩ : ∃ rbb, rbb = numP rx.2.1 rx.2.2 := ⟨_, rfl⟩
  have CN := number_any rb rx.2.1 rx.2.2 V2.drew hJ2.out.drew.r lrx.out
  have lrbb := numP_len rx.2.1 rx.2.2
  rw [← hrbb] at CN lrbb
  replace lrbb := Lib.hid (Nat.le_trans lrbb lrx.out)
  replace CN := Lib.hid CN; replace hrbb := Lib.hid hrbb
  unfold ptr at CN
  go_region_held3 (fun w' => True) (first | trivial | fail)
    ((first
      | (go_at_call 85; refine CN.out.mono ?_; rintro e w1 ⟨rfl, r1, o1⟩; have hI1 := hJ2.out.drew.call o1 r1; obtain ⟨q0, q1, q2, q3, q4, q5, qf⟩ := hI1.cells; have qf' := qf 4; replace r1 := Lib.hid r1; replace o1 := Lib.hid o1; replace hI1 := Lib.hid hI1; clear qf)
      | fail))
  obtain ⟨V3, hV3⟩ : ∃ V3, V3 = w1.setCell ⟨gn, 4, none⟩ (.int .i64 (rbb.1 : Int)) := ⟨_, rfl⟩
  have hJ3 := hI1.out.set4 (rbb.1 : Int)
  rw [← hV3] at hJ3 ⊢
  replace hJ3 := Lib.hid hJ3; replace hV3 := Lib.hid hV3
  clear CN q0 q1 q2 q3 q4 q5 qf' r1 o1 hI1
  go_wp2_with fail
  obtain ⟨rc4, hrc4⟩ : ∃ rc4, rc4 = nextP [44] rbb.2.1 rbb.2.2 := ⟨_, rfl⟩
  obtain ⟨rX, hrX⟩ : ∃ rX, rX = numP rc4.2.1 rc4.2.2 := ⟨_, rfl⟩
  obtain ⟨rc6, hrc6⟩ : ∃ rc6, rc6 = nextP [44] rX.2.1 rX.2.2 := ⟨_, rfl⟩
  obtain ⟨rY, hrY⟩ : ∃ rY, rY = numP rc6.2.1 rc6.2.2 := ⟨_, rfl⟩
  have lrc4 := Nat.le_trans (nextP_len [44] rbb.2.1 rbb.2.2).1 lrbb.out
  rw [← hrc4] at lrc4
  have lrX := Nat.le_trans (numP_len rc4.2.1 rc4.2.2) lrc4
  rw [← hrX] at lrX
  have lrc6 := Nat.le_trans (nextP_len [44] rX.2.1 rX.2.2).1 lrX
  rw [← hrc6] at lrc6
  have lrY := Nat.le_trans (numP_len rc6.2.1 rc6.2.2) lrc6
  rw [← hrY] at lrY
  replace hrc4 := Lib.hid hrc4; replace hrX := Lib.hid hrX; replace hrc6 := Lib.hid hrc6; replace hrY := Lib.hid hrY; replace lrc4 := Lib.hid lrc4; replace lrX := Lib.hid lrX; replace lrc6 := Lib.hid lrc6; replace lrY := Lib.hid lrY
  obtain ⟨nb, hnb⟩ : ∃ nb : Nd, nb = ⟨gn, none, 0, 0, 0, 0, (ra.1 : Int), (rbb.1 : Int), 0⟩ := ⟨_, rfl⟩
  have hJ3' : NI w gn rb nb rbb.2.1 rbb.2.2 V3 := by rw [hnb]; exact hJ3.out
  replace hJ3' := Lib.hid hJ3'; replace hnb := Lib.hid hnb
  clear hJ3
  go_loopw [24] (fun iv wr => ∃ i : Nat, iv = .int .i64 i ∧ i ≤ 2 ∧ Hid ((i = 0 ∧ NI w gn rb nb rbb.2.1 rbb.2.2 wr) ∨ (i = 1 ∧ NI w gn rb { nb with x := (rX.1 : Int) } rX.2.1 rX.2.2 wr) ∨ (i = 2 ∧ NI w gn rb { nb with x := (rX.1 : Int), y := (rY.1 : Int) } rY.2.1 rY.2.2 wr))) (fun iv _ => 2 - (intOf iv).toNat)
  case atStart => exact ⟨0, rfl, by omega, Lib.hid (.inl ⟨rfl, hJ3'.out⟩)⟩
  case round =>
    obtain ⟨i, rfl, hi2, hIa⟩ := hrel
    rcases hIa.out with ⟨hi0, hN⟩ | ⟨hi0, hN⟩ | ⟨hi0, hN⟩
    · subst hi0
      replace hN := Lib.hid hN
      have CX := next_any rb [44] rbb.2.1 rbb.2.2 wr hN.out.r lrbb.out
      rw [← hrc4.out] at CX
      replace CX := Lib.hid CX
      unfold ptr at CX
      go_wp2_with fail
      refine CX.out.mono ?_
      rintro e W2 ⟨rfl, r1, o1⟩
      have hN2 := hN.out.call o1 r1
      replace hN2 := Lib.hid hN2
      clear CX r1 o1
      go_upto_region 9 with fail
      have CN := number_any rb rc4.2.1 rc4.2.2 W2.drew hN2.out.drew.r lrc4.out
      rw [← hrX.out] at CN
      replace CN := Lib.hid CN
      unfold ptr at CN
      go_region_held3 (fun w' => True) (first | trivial | fail)
        ((first
          | (go_at_call 85; refine CN.out.mono ?_; rintro e w1 ⟨rfl, r1, o1⟩; have hI1 := hN2.out.drew.call o1 r1; obtain ⟨q0, q1, q2, q3, q4, q5, qf⟩ := hI1.cells; have qf' := qf 1; replace r1 := Lib.hid r1; replace o1 := Lib.hid o1; replace hI1 := Lib.hid hI1; clear qf)
          | fail))
      have hN3 := hI1.out.set1 (rX.1 : Int)
      replace hN3 := Lib.hid hN3
      clear CN q0 q1 q2 q3 q4 q5 qf' r1 o1 hI1
      go_wp2_with fail
      exact ⟨⟨1, rfl, by omega, Lib.hid (.inr (.inl ⟨rfl, hN3.out⟩))⟩, by simp [intOf]⟩
    · subst hi0
      replace hN := Lib.hid hN
      have CX := next_any rb [44] rX.2.1 rX.2.2 wr hN.out.r lrX.out
      rw [← hrc6.out] at CX
      replace CX := Lib.hid CX
      unfold ptr at CX
      go_wp2_with fail
      refine CX.out.mono ?_
      rintro e W2 ⟨rfl, r1, o1⟩
      have hN2 := hN.out.call o1 r1
      replace hN2 := Lib.hid hN2
      clear CX r1 o1
      go_upto_region 9 with fail
      have CN := number_any rb rc6.2.1 rc6.2.2 W2.drew hN2.out.drew.r lrc6.out
      rw [← hrY.out] at CN
      replace CN := Lib.hid CN
      unfold ptr at CN
      go_region_held3 (fun w' => True) (first | trivial | fail)
        ((first
          | (go_at_call 85; refine CN.out.mono ?_; rintro e w1 ⟨rfl, r1, o1⟩; have hI1 := hN2.out.drew.call o1 r1; obtain ⟨q0, q1, q2, q3, q4, q5, qf⟩ := hI1.cells; have qf' := qf 2; replace r1 := Lib.hid r1; replace o1 := Lib.hid o1; replace hI1 := Lib.hid hI1; clear qf)
          | fail))
      have hN3 := hI1.out.set2 (rY.1 : Int)
      replace hN3 := Lib.hid hN3
      clear CN q0 q1 q2 q3 q4 q5 qf' r1 o1 hI1
      go_wp2_with fail
      exact ⟨⟨2, rfl, by omega, Lib.hid (.inr (.inr ⟨rfl, hN3.out⟩))⟩, by simp [intOf]⟩
    · subst hi0
      replace hN := Lib.hid hN
      obtain ⟨rC, hrC⟩ : ∃ rC, rC = nextP [44, 123, 91] rY.2.1 rY.2.2 := ⟨_, rfl⟩
      have CX := next_any rb [44, 123, 91] rY.2.1 rY.2.2 wr hN.out.r lrY.out
      have lrC := nextP_len [44, 123, 91] rY.2.1 rY.2.2
      have mrC := nextP_mem [44, 123, 91] rY.2.1 rY.2.2
      rw [← hrC] at CX lrC mrC
      have hhd : hdP s bad = ⟨ra.1, rbb.1, rX.1, rY.1, rC.1, rC.2.1, rC.2.2⟩ := by
        unfold hdP
        dsimp only
        rw [← hra.out, ← hrx.out, ← hrbb.out, ← hrc4.out, ← hrX.out, ← hrc6.out, ← hrY.out, ← hrC]
      have hlen := hdP_len s bad
      rw [hhd] at hlen
      dsimp only at hlen
      have lC5 : rC.2.1.length ≤ 5000 := Nat.le_trans hlen.1 hs'.out
      obtain ⟨cz, hcz⟩ : ∃ cz : Int, cz = rC.1.toNat := ⟨_, rfl⟩
      rw [← hcz] at CX
      replace CX := Lib.hid CX; replace hrC := Lib.hid hrC; replace lrC := Lib.hid lrC; replace mrC := Lib.hid mrC; replace hhd := Lib.hid hhd; replace hlen := Lib.hid hlen; replace lC5 := Lib.hid lC5; replace hcz := Lib.hid hcz
      unfold ptr at CX
      go_wp2_with fail
      refine CX.out.mono ?_
      rintro e W2 ⟨rfl, r1, o1⟩
      have hN2 := hN.out.call o1 r1
      obtain ⟨nd, hnd⟩ : ∃ nd : Nd, nd = { nb with x := (rX.1 : Int), y := (rY.1 : Int) } := ⟨_, rfl⟩
      rw [← hnd] at hN2
      have hndf : nd.p = 0 ∧ nd.x = (rX.1 : Int) ∧ nd.y = (rY.1 : Int) ∧ nd.a = (ra.1 : Int) ∧ nd.b = (rbb.1 : Int) ∧ nd.way = 0 ∧ nd.g = gn ∧ nd.A = none := by rw [hnd, hnb.out]; exact ⟨rfl, rfl, rfl, rfl, rfl, rfl, rfl, rfl⟩
      have hleaf : ∀ (nd' : Nd) (s' : List UInt8) (bad' : Bool) (W : World), NI w gn rb nd' s' bad' W → TP W none (.mk nd' []) ∧ (T.mk nd' []).g = gn ∧ Off [rb] w W ∧ (∀ b ∈ (T.mk nd' []).bl, w.heap.size ≤ b) ∧ (T.mk nd' []).bl.Nodup ∧ Rdr rb s' bad' W := fun nd' s' bad' W h => by
        have hbl : (T.mk nd' []).bl = [gn] := by rw [T.bl_mk, h.g.1, h.g.2.1, blL_nil]; rfl
        refine ⟨.mk h.a (by rw [TPs]; trivial), h.g.1, h.o, ?_, by rw [hbl]; simp, h.r⟩
        rw [hbl]
        intro b hb
        simp at hb
        rw [hb]; exact h.n.1
      replace hN2 := Lib.hid hN2; replace hnd := Lib.hid hnd; replace hndf := Lib.hid hndf; replace hleaf := Lib.hid hleaf
      clear CX r1 o1
      by_cases hc1 : cz = 44
      · have hc1' : rC.1 = 44 := UInt8.toNat_inj.1 (by have := hcz.out; show rC.1.toNat = 44; omega)
        subst hc1
        obtain ⟨rP, hrP⟩ : ∃ rP, rP = numP rC.2.1 rC.2.2 := ⟨_, rfl⟩
        have hfin : nodeH m (hdP s bad) = (.mk rP.1 rX.1 rY.1 ra.1 rbb.1 0 [], rP.2) := by rw [hhd.out, hrP]; exact if_pos hc1'
        replace hc1' := Lib.hid hc1'; replace hfin := Lib.hid hfin
        have CN := number_any rb rC.2.1 rC.2.2 W2 hN2.out.r lC5.out
        rw [← hrP] at CN
        replace CN := Lib.hid CN; replace hrP := Lib.hid hrP
        unfold ptr at CN
        go_wp2_with fail
        refine CN.out.mono ?_
        rintro e w1 ⟨rfl, r1, o1⟩
        have hI1 := hN2.out.call o1 r1
        obtain ⟨q0, q1, q2, q3, q4, q5, qf⟩ := hI1.cells
        have qf' := qf 0
        replace r1 := Lib.hid r1; replace o1 := Lib.hid o1; replace hI1 := Lib.hid hI1
        clear qf
        have hN3 := hI1.out.set0 (rP.1 : Int)
        replace hN3 := Lib.hid hN3
        clear CN q1 q2 q3 q4 q5 r1 o1 hI1
        go_wp2_with fail
        go_ret
        obtain ⟨t1, t2, t3, t4, t5, t6⟩ := hleaf.out _ _ _ _ hN3.out
        rw [hFR.out, hfin.out]
        obtain ⟨d1, d2, d3, d4, d5, d6, d7, d8⟩ := hndf.out
        refine ⟨_, by rw [← t2]; rfl, t1, ?_, t6, t3, t4, t5⟩
        rw [T.pt_mk]
        show P.mk rP.1 nd.x nd.y nd.a nd.b nd.way (ptL []) = _
        rw [d2, d3, d4, d5, d6, ptL]
      by_cases hc2 : cz = 123
      · have hcC' : rC.1 = 123 := UInt8.toNat_inj.1 (by have := hcz.out; show rC.1.toNat = 123; omega)
        subst hc2
        obtain ⟨KR, hKR⟩ : ∃ KR, KR = kidsP m 0 rC.2.1 rC.2.2 := ⟨_, rfl⟩
        have hfin : nodeH m (hdP s bad) = (.mk 0 rX.1 rY.1 ra.1 rbb.1 0 KR.1, KR.2) := by
          rw [hhd.out, hKR]
          unfold nodeH
          dsimp only
          rw [if_neg (by rw [hcC']; decide), if_pos hcC']
        have hq0 : 2 * rC.2.1.length + 3 ≤ m := by
          have := hlen.out.2 (by rw [hcC']; decide)
          omega
        have CW := wayOf_any true W2
        obtain ⟨q0, q1, q2, q3, q4, q5, qf⟩ := hN2.out.cells
        have qf' := qf 5
        obtain ⟨V, hV⟩ : ∃ V, V = W2.setCell ⟨gn, 5, none⟩ (.int .i64 0) := ⟨_, rfl⟩
        have hN3 := hN2.out.set5 0
        rw [← hV] at hN3
        obtain ⟨nk, hnk⟩ : ∃ nk : Nd, nk = { nd with way := 0 } := ⟨_, rfl⟩
        rw [← hnk] at hN3
        have hK0 : KI w gn rb nk nk [] rC.2.1 rC.2.2 V := by
          have hbl : (T.mk nk []).bl = [gn] := by rw [T.bl_mk, hN3.g.1, hN3.g.2.1, blL_nil]; rfl
          refine ⟨hN3.a, by rw [TPs]; trivial, hN3.r, hN3.o, ?_, by rw [hbl]; simp, ⟨hN3.g.1, rfl, rfl, rfl, rfl, rfl, rfl⟩, hN3.n.2⟩
          rw [hbl]; intro b hb; simp at hb; rw [hb]; exact hN3.n.1
        have hnkf : nk.p = 0 ∧ nk.x = (rX.1 : Int) ∧ nk.y = (rY.1 : Int) ∧ nk.a = (ra.1 : Int) ∧ nk.b = (rbb.1 : Int) ∧ nk.way = 0 := by
          obtain ⟨d1, d2, d3, d4, d5, d6, d7, d8⟩ := hndf.out
          rw [hnk]; exact ⟨d1, d2, d3, d4, d5, rfl⟩
        have hADD : Adds ⟨#[44]⟩ ⟨#[125]⟩ (st [44, 125]) := adds_st [44] [125] (by decide)
        replace hcC' := Lib.hid hcC'; replace hfin := Lib.hid hfin; replace hKR := Lib.hid hKR; replace hN3 := Lib.hid hN3; replace hK0 := Lib.hid hK0; replace hnk := Lib.hid hnk; replace hnkf := Lib.hid hnkf; replace hq0 := Lib.hid hq0; replace hV := Lib.hid hV; replace CW := Lib.hid CW; replace hADD := Lib.hid hADD
        clear q0 q1 q2 q3 q4 qf
        go_wp2_with fail
        refine CW.out.mono ?_
        rintro e W2' ⟨rfl, rfl⟩
        clear CW
        go_wp2_with fail
        rw [← hV.out]
        go_loopw [6] (fun kv wr => KL w gn rb nk m 0 KR wr) (fun kv wr => lenR rb wr)
        case atStart => exact .mk ⟨[], nk, m, rC.2.1, rC.2.2, ⟨hK0.out, hq0.out, Nat.le_refl _, by have := lC5.out; simp; omega, by rw [hKR.out, ptL]; rfl, by rw [hKR.out]⟩⟩
        case round =>
          obtain ⟨ks, ndk, q, sq, bq, hK, hq1, hq2, hs5, hk1, hk2⟩ := hrel.out
          clear hrel
          obtain ⟨q', rfl⟩ : ∃ q', q = q' + 1 := ⟨q - 1, by omega⟩
          rw [kidsP_succ] at hk1 hk2
          have CK := ih.out q' (by omega) rb sq bq wr hK.r (by omega) (by omega)
          obtain ⟨kn, hkn⟩ : ∃ kn, kn = nodeP q' sq bq := ⟨_, rfl⟩
          have lkn := (nodeP_len q').1 sq bq
          rw [← hkn] at CK hk1 hk2 lkn
          have hmeas0 : lenR rb wr = sq.length := hK.r.len
          replace hK := Lib.hid hK; replace hq1 := Lib.hid hq1; replace hq2 := Lib.hid hq2; replace hs5 := Lib.hid hs5; replace hk1 := Lib.hid hk1; replace hk2 := Lib.hid hk2; replace CK := Lib.hid CK; replace hkn := Lib.hid hkn; replace lkn := Lib.hid lkn; replace hmeas0 := Lib.hid hmeas0
          unfold ptr at CK
          go_wp2_with fail
          refine CK.out.mono ?_
          rintro e w1 ⟨tk, rfl, hTk, hpt, r1, o1, hbk, hdk⟩
          clear CK
          have hgr : gn ≠ rb := by have := hK.out.b gn (by rw [T.bl_mk, hK.out.f.1]; simp); have := hK.out.n; omega
          have hgl : gn < wr.heap.size := by have := hK.out.a.lt ndk.g (by simp); rw [hK.out.f.1] at this; exact this
          have htg : tk.g ≠ gn := by have := hbk tk.g tk.g_mem; omega
          have x7 : w1.cell? ⟨tk.g, 7, none⟩ = some (.pointer none) := hTk.atn.c7
          have x7f : w1.frozen? ⟨tk.g, 7, none⟩ = false := hTk.atn.free 7
          obtain ⟨len, hlen2⟩ : ∃ len, len = ks.length := ⟨_, rfl⟩
          have hlenb : len ≤ 5000 := by have := hs5.out; omega
          have hA1 : w1.heap[gn]? = wr.heap[gn]? := o1.block gn hgl (by simpa using hgr)
          obtain ⟨W1, hW1⟩ : ∃ W1, W1 = w1.setCell ⟨tk.g, 7, none⟩ (.pointer (some ⟨gn, 0, none⟩)) := ⟨_, rfl⟩
          have hA2 : W1.heap[gn]? = wr.heap[gn]? := by
            rw [hW1]
            exact ((Off.set w1 ⟨tk.g, 7, none⟩ _).block gn (by have := o1.size; omega) (by simp; exact fun e => htg e.symm)).trans hA1
          have hAh := hK.out.a.h
          rw [hK.out.f.1, ← hlen2] at hAh
          obtain ⟨AA, hAA⟩ : ∃ AA, AA = adr ndk.A := ⟨_, rfl⟩
          obtain ⟨cc, hcc⟩ : ∃ cc, cc = ndk.c := ⟨_, rfl⟩
          have hrow : ndk.row len = .slice AA len cc := by unfold Nd.row; rw [hAA, hcc]
          rw [hrow] at hAh
          have hAW := hA2.trans hAh
          have g6 : W1.cell? ⟨gn, 6, none⟩ = some (.slice AA len cc) := by rw [cell_of_heap hAW]; rfl
          have hO1 : (W1.alloc (.cells #[.pointer (some ⟨tk.g, 0, none⟩)] 58)).ownsRow w.heap.size 58 1 (.slice AA len cc) len (ptrs ks) := by
            have := hK.out.row
            rw [← hlen2, hrow] at this
            refine (own_same this fun b hb => ?_).alloc _
            have hbA : ndk.A = some b := by
              have h2 : (ndk.row len).ownBlock = some b := by rw [hrow]; exact hb
              rwa [ownBlock_row] at h2
            have hbm : b ∈ (T.mk ndk ks).bl := by rw [T.bl_mk, hbA]; simp
            have q1 := hK.out.b b hbm
            have q2 := hK.out.a.lt b (by simp [hbA])
            rw [hW1]
            exact ((Off.set w1 ⟨tk.g, 7, none⟩ _).block b (by have := o1.size; omega) (by simp; exact fun e => by have := hbk tk.g tk.g_mem; omega)).trans (o1.block b q2 (by simp; have := hK.out.n; omega))
          have hR1 := Rd.new1 W1 (.pointer (some ⟨tk.g, 0, none⟩)) 58
          have hsW : W1.heap.size = w1.heap.size := by rw [hW1]; simp
          have hww : w.heap.size ≤ w1.heap.size := Nat.le_trans hK.out.o.size o1.size
          have hgW : gn < W1.heap.size := by rw [hsW]; have := o1.size; omega
          have hob : ∀ b, (Value.slice AA len cc).ownBlock = some b → b ≠ gn := fun b hb e => by
            have h2 : (ndk.row len).ownBlock = some b := by rw [hrow]; exact hb
            rw [ownBlock_row] at h2
            exact ((bl_apart hK.out.d).2.1 b h2).2 (by rw [hK.out.f.1]; exact e)
          have hkeep : ∀ w2, (W1.alloc (.cells #[.pointer (some ⟨tk.g, 0, none⟩)] 58)).grownBy w2 (Value.slice AA len cc).ownBlock → w2.heap[gn]? = wr.heap[gn]? := fun w2 G => by
            rw [G.block gn (by simp; omega) (fun e => hob gn e.symm rfl), (World.grownBy_alloc W1 _ none).block gn hgW (by simp)]
            exact hA2
          have hww1 : w.heap.size ≤ W1.heap.size := by rw [hsW]; exact hww
          replace hsW := Lib.hid hsW; replace hww := Lib.hid hww
          replace hAh := Lib.hid hAh; replace hAW := Lib.hid hAW; replace hO1 := Lib.hid hO1; replace hR1 := Lib.hid hR1; replace hob := Lib.hid hob; replace hkeep := Lib.hid hkeep; replace hW1 := Lib.hid hW1; replace hAA := Lib.hid hAA; replace hcc := Lib.hid hcc; replace hrow := Lib.hid hrow; replace hA1 := Lib.hid hA1; replace hA2 := Lib.hid hA2; replace hTk := Lib.hid hTk; replace hpt := Lib.hid hpt; replace r1 := Lib.hid r1; replace o1 := Lib.hid o1; replace hbk := Lib.hid hbk; replace hdk := Lib.hid hdk; replace hgr := Lib.hid hgr; replace htg := Lib.hid htg; replace hlen2 := Lib.hid hlen2; replace hgl := Lib.hid hgl
          unfold ptr at *
          go_upto_region 20 with fail
          rw [← hW1.out]
          clear x7 x7f
          go_upto_region 21 with (first
            | (at_builtin; go_loud (refine ap53 rfl (.tmp 66) (.tmp 68) rfl w.heap.size (.slice AA len cc) len (ptrs ks) rfl hO1.out (some ⟨W1.heap.size, 0, none⟩) 1 1 _ rfl rfl hR1.out (by intro u hu; simp at hu; subst hu; rfl) (by omega) (by simp; omega) ?_); intro A2 c2 w2 O2 G2 hh2; have hg2 := (hkeep.out w2 G2).trans hAh.out; have q26 : w2.cell? ⟨gn, 6, none⟩ = some (.slice AA len cc) := by { rw [cell_of_heap hg2]; rfl }; have q26f : w2.frozen? ⟨gn, 6, none⟩ = false := free_of_heap hg2 6; replace hg2 := Lib.hid hg2)
            | fail)
          obtain ⟨W3, hW3⟩ : ∃ W3, W3 = w2.setCell ⟨gn, 6, none⟩ (.slice A2 (len + 1) c2) := ⟨_, rfl⟩
          rw [← hW3]
          obtain ⟨ndk', hK3⟩ := hK.out.push hlen2.out hTk.out o1.out r1.out hbk.out hdk.out hW1.out O2 (by rw [hrow.out]; exact G2) (by rw [hrow.out]; exact hh2) hW3
          have p5 : W3.cell? ⟨gn, 5, none⟩ = some (.int .i64 0) := by
            have h5 := hK3.a.c5
            rw [hK3.f.1, hK3.f.2.2.2.2.2.2, hnkf.out.2.2.2.2.2] at h5
            exact h5
          have hgW3 : gn < W3.heap.size := by have := lt_of_heap hK3.a.h; rw [hK3.f.1] at this; exact this
          obtain ⟨eN, heN⟩ : ∃ eN, eN = nextP [44, 125] kn.2.1 kn.2.2 := ⟨_, rfl⟩
          have leN := nextP_len [44, 125] kn.2.1 kn.2.2
          have g4 : W3.grownBy (W3.alloc (.cells #[.string ⟨#[125]⟩, .string ⟨#[93]⟩] 9)) none := World.grownBy_alloc _ _ _
          have hK4 := hK3.call (Off.of_grown g4) (hK3.r.off (S := []) (Off.of_grown g4) (by simp))
          have lkn5 : kn.2.1.length ≤ 5000 := by have := lkn.out; have := hs5.out; omega
          have CX := next_any rb [44, 125] kn.2.1 kn.2.2 (W3.alloc (.cells #[.string ⟨#[125]⟩, .string ⟨#[93]⟩] 9)) hK4.r lkn5
          rw [← heN] at CX leN
          have hAD := hADD.out
          unfold Adds at hAD
          have hend : endB 0 = 125 := rfl
          rw [hend, ← heN] at hk1 hk2
          obtain ⟨cz, hcz2⟩ : ∃ cz : Int, cz = eN.1.toNat := ⟨_, rfl⟩
          rw [← hcz2] at CX
          obtain ⟨SX, hSX⟩ : ∃ SX, SX = st [44, 125] := ⟨_, rfl⟩
          rw [← hSX] at CX hAD
          replace hK3 := Lib.hid hK3; replace hK4 := Lib.hid hK4; replace heN := Lib.hid heN; replace leN := Lib.hid leN; replace g4 := Lib.hid g4; replace lkn5 := Lib.hid lkn5; replace CX := Lib.hid CX; replace hcz2 := Lib.hid hcz2; replace hW3 := Lib.hid hW3; replace O2 := Lib.hid O2; replace G2 := Lib.hid G2; replace hh2 := Lib.hid hh2; replace hSX := Lib.hid hSX
          clear q26 q26f g6
          unfold ptr at CX
          go_wp2_with fail
          refine CX.out.mono ?_
          rintro e W5 ⟨rfl, r5, o5⟩
          have hK5 := hK4.out.call o5 r5
          have hpl : ptL (ks ++ [tk]) = ptL ks ++ [kn.1] := by rw [ptL_map, ptL_map, List.map_append]; simp [hpt.out]
          have hlq : eN.2.1.length ≤ sq.length := Nat.le_trans leN.out.1 lkn.out
          replace hK5 := Lib.hid hK5; replace r5 := Lib.hid r5; replace o5 := Lib.hid o5; replace hpl := Lib.hid hpl; replace hlq := Lib.hid hlq
          clear CX p5 hAD
          by_cases hz : cz = 44
          · have he1 : eN.1 = 44 := UInt8.toNat_inj.1 (by have := hcz2.out; show eN.1.toNat = 44; omega)
            have hlt1 : eN.2.1.length + 1 ≤ sq.length := by have := leN.out.2 (by rw [he1]; decide); have := lkn.out; omega
            have hnext : KL w gn rb nk m 0 KR W5 := by
              refine .mk ⟨_, _, q', eN.2.1, eN.2.2, hK5.out, by have := hq1.out; omega, by have := hq2.out; omega, by have := hs5.out; rw [List.length_append, List.length_singleton]; omega, ?_, ?_⟩
              · rw [hpl.out, ← hk1.out]
                unfold kidsH
                rw [if_pos he1, List.append_assoc]; rfl
              · rw [← hk2.out]
                unfold kidsH
                rw [if_pos he1]
            have hmeas : lenR rb W5 < lenR rb wr := by
              rw [hmeas0.out, hK5.out.r.len]; omega
            subst hz
            replace he1 := Lib.hid he1; replace hlt1 := Lib.hid hlt1
            go_wp2_with fail
            exact ⟨hnext, hmeas⟩
          · have he1 : eN.1 ≠ 44 := fun e => hz (by rw [hcz2.out, e]; rfl)
            have hzb : (cz != 44) = true := bne_iff_ne.2 hz
            have hk1' : ptL (ks ++ [tk]) = KR.1 := by
              rw [hpl.out, ← hk1.out]
              unfold kidsH
              rw [if_neg he1]
            have hk2' : eN.2 = KR.2 := by
              rw [← hk2.out]
              unfold kidsH
              rw [if_neg he1]
            replace he1 := Lib.hid he1; replace hk1' := Lib.hid hk1'; replace hk2' := Lib.hid hk2'
            go_wp2_with fail
            go_ret
            rw [hFR.out, hfin.out]
            obtain ⟨d1, d2, d3, d4, d5, d6⟩ := hnkf.out
            have hf := hK5.out.f
            have hg5 : (T.mk ndk' (ks ++ [tk])).g = gn := hf.1
            refine ⟨.mk ndk' (ks ++ [tk]), by rw [hg5]; rfl, .mk hK5.out.a ?_, ?_, ?_, hK5.out.o, hK5.out.b, hK5.out.d⟩
            · rw [hf.1]; exact hK5.out.k
            · rw [T.pt_mk, hk1'.out, hf.2.1, hf.2.2.1, hf.2.2.2.1, hf.2.2.2.2.1, hf.2.2.2.2.2.1, hf.2.2.2.2.2.2, d1, d2, d3, d4, d5, d6]
            · rw [← hk2'.out]; exact hK5.out.r
      by_cases hc3 : cz = 91
      · have hcC' : rC.1 = 91 := UInt8.toNat_inj.1 (by have := hcz.out; show rC.1.toNat = 91; omega)
        subst hc3
        obtain ⟨KR, hKR⟩ : ∃ KR, KR = kidsP m 1 rC.2.1 rC.2.2 := ⟨_, rfl⟩
        have hfin : nodeH m (hdP s bad) = (.mk 0 rX.1 rY.1 ra.1 rbb.1 1 KR.1, KR.2) := by
          rw [hhd.out, hKR]
          unfold nodeH
          dsimp only
          rw [if_neg (by rw [hcC']; decide), if_neg (by rw [hcC']; decide), if_pos hcC']
        have hq0 : 2 * rC.2.1.length + 3 ≤ m := by
          have := hlen.out.2 (by rw [hcC']; decide)
          omega
        have CW := wayOf_any false W2
        obtain ⟨q0, q1, q2, q3, q4, q5, qf⟩ := hN2.out.cells
        have qf' := qf 5
        obtain ⟨V, hV⟩ : ∃ V, V = W2.setCell ⟨gn, 5, none⟩ (.int .i64 1) := ⟨_, rfl⟩
        have hN3 := hN2.out.set5 1
        rw [← hV] at hN3
        obtain ⟨nk, hnk⟩ : ∃ nk : Nd, nk = { nd with way := 1 } := ⟨_, rfl⟩
        rw [← hnk] at hN3
        have hK0 : KI w gn rb nk nk [] rC.2.1 rC.2.2 V := by
          have hbl : (T.mk nk []).bl = [gn] := by rw [T.bl_mk, hN3.g.1, hN3.g.2.1, blL_nil]; rfl
          refine ⟨hN3.a, by rw [TPs]; trivial, hN3.r, hN3.o, ?_, by rw [hbl]; simp, ⟨hN3.g.1, rfl, rfl, rfl, rfl, rfl, rfl⟩, hN3.n.2⟩
          rw [hbl]; intro b hb; simp at hb; rw [hb]; exact hN3.n.1
        have hnkf : nk.p = 0 ∧ nk.x = (rX.1 : Int) ∧ nk.y = (rY.1 : Int) ∧ nk.a = (ra.1 : Int) ∧ nk.b = (rbb.1 : Int) ∧ nk.way = 1 := by
          obtain ⟨d1, d2, d3, d4, d5, d6, d7, d8⟩ := hndf.out
          rw [hnk]; exact ⟨d1, d2, d3, d4, d5, rfl⟩
        have hADD : Adds ⟨#[44]⟩ ⟨#[93]⟩ (st [44, 93]) := adds_st [44] [93] (by decide)
        replace hcC' := Lib.hid hcC'; replace hfin := Lib.hid hfin; replace hKR := Lib.hid hKR; replace hN3 := Lib.hid hN3; replace hK0 := Lib.hid hK0; replace hnk := Lib.hid hnk; replace hnkf := Lib.hid hnkf; replace hq0 := Lib.hid hq0; replace hV := Lib.hid hV; replace CW := Lib.hid CW; replace hADD := Lib.hid hADD
        clear q0 q1 q2 q3 q4 qf
        go_wp2_with fail
        refine CW.out.mono ?_
        rintro e W2' ⟨rfl, rfl⟩
        clear CW
        go_wp2_with fail
        rw [← hV.out]
        go_loopw [6] (fun kv wr => KL w gn rb nk m 1 KR wr) (fun kv wr => lenR rb wr)
        case atStart => exact .mk ⟨[], nk, m, rC.2.1, rC.2.2, ⟨hK0.out, hq0.out, Nat.le_refl _, by have := lC5.out; simp; omega, by rw [hKR.out, ptL]; rfl, by rw [hKR.out]⟩⟩
        case round =>
          obtain ⟨ks, ndk, q, sq, bq, hK, hq1, hq2, hs5, hk1, hk2⟩ := hrel.out
          clear hrel
          obtain ⟨q', rfl⟩ : ∃ q', q = q' + 1 := ⟨q - 1, by omega⟩
          rw [kidsP_succ] at hk1 hk2
          have CK := ih.out q' (by omega) rb sq bq wr hK.r (by omega) (by omega)
          obtain ⟨kn, hkn⟩ : ∃ kn, kn = nodeP q' sq bq := ⟨_, rfl⟩
          have lkn := (nodeP_len q').1 sq bq
          rw [← hkn] at CK hk1 hk2 lkn
          have hmeas0 : lenR rb wr = sq.length := hK.r.len
          replace hK := Lib.hid hK; replace hq1 := Lib.hid hq1; replace hq2 := Lib.hid hq2; replace hs5 := Lib.hid hs5; replace hk1 := Lib.hid hk1; replace hk2 := Lib.hid hk2; replace CK := Lib.hid CK; replace hkn := Lib.hid hkn; replace lkn := Lib.hid lkn; replace hmeas0 := Lib.hid hmeas0
          unfold ptr at CK
          go_wp2_with fail
          refine CK.out.mono ?_
          rintro e w1 ⟨tk, rfl, hTk, hpt, r1, o1, hbk, hdk⟩
          clear CK
          have hgr : gn ≠ rb := by have := hK.out.b gn (by rw [T.bl_mk, hK.out.f.1]; simp); have := hK.out.n; omega
          have hgl : gn < wr.heap.size := by have := hK.out.a.lt ndk.g (by simp); rw [hK.out.f.1] at this; exact this
          have htg : tk.g ≠ gn := by have := hbk tk.g tk.g_mem; omega
          have x7 : w1.cell? ⟨tk.g, 7, none⟩ = some (.pointer none) := hTk.atn.c7
          have x7f : w1.frozen? ⟨tk.g, 7, none⟩ = false := hTk.atn.free 7
          obtain ⟨len, hlen2⟩ : ∃ len, len = ks.length := ⟨_, rfl⟩
          have hlenb : len ≤ 5000 := by have := hs5.out; omega
          have hA1 : w1.heap[gn]? = wr.heap[gn]? := o1.block gn hgl (by simpa using hgr)
          obtain ⟨W1, hW1⟩ : ∃ W1, W1 = w1.setCell ⟨tk.g, 7, none⟩ (.pointer (some ⟨gn, 0, none⟩)) := ⟨_, rfl⟩
          have hA2 : W1.heap[gn]? = wr.heap[gn]? := by
            rw [hW1]
            exact ((Off.set w1 ⟨tk.g, 7, none⟩ _).block gn (by have := o1.size; omega) (by simp; exact fun e => htg e.symm)).trans hA1
          have hAh := hK.out.a.h
          rw [hK.out.f.1, ← hlen2] at hAh
          obtain ⟨AA, hAA⟩ : ∃ AA, AA = adr ndk.A := ⟨_, rfl⟩
          obtain ⟨cc, hcc⟩ : ∃ cc, cc = ndk.c := ⟨_, rfl⟩
          have hrow : ndk.row len = .slice AA len cc := by unfold Nd.row; rw [hAA, hcc]
          rw [hrow] at hAh
          have hAW := hA2.trans hAh
          have g6 : W1.cell? ⟨gn, 6, none⟩ = some (.slice AA len cc) := by rw [cell_of_heap hAW]; rfl
          have hO1 : (W1.alloc (.cells #[.pointer (some ⟨tk.g, 0, none⟩)] 58)).ownsRow w.heap.size 58 1 (.slice AA len cc) len (ptrs ks) := by
            have := hK.out.row
            rw [← hlen2, hrow] at this
            refine (own_same this fun b hb => ?_).alloc _
            have hbA : ndk.A = some b := by
              have h2 : (ndk.row len).ownBlock = some b := by rw [hrow]; exact hb
              rwa [ownBlock_row] at h2
            have hbm : b ∈ (T.mk ndk ks).bl := by rw [T.bl_mk, hbA]; simp
            have q1 := hK.out.b b hbm
            have q2 := hK.out.a.lt b (by simp [hbA])
            rw [hW1]
            exact ((Off.set w1 ⟨tk.g, 7, none⟩ _).block b (by have := o1.size; omega) (by simp; exact fun e => by have := hbk tk.g tk.g_mem; omega)).trans (o1.block b q2 (by simp; have := hK.out.n; omega))
          have hR1 := Rd.new1 W1 (.pointer (some ⟨tk.g, 0, none⟩)) 58
          have hsW : W1.heap.size = w1.heap.size := by rw [hW1]; simp
          have hww : w.heap.size ≤ w1.heap.size := Nat.le_trans hK.out.o.size o1.size
          have hgW : gn < W1.heap.size := by rw [hsW]; have := o1.size; omega
          have hob : ∀ b, (Value.slice AA len cc).ownBlock = some b → b ≠ gn := fun b hb e => by
            have h2 : (ndk.row len).ownBlock = some b := by rw [hrow]; exact hb
            rw [ownBlock_row] at h2
            exact ((bl_apart hK.out.d).2.1 b h2).2 (by rw [hK.out.f.1]; exact e)
          have hkeep : ∀ w2, (W1.alloc (.cells #[.pointer (some ⟨tk.g, 0, none⟩)] 58)).grownBy w2 (Value.slice AA len cc).ownBlock → w2.heap[gn]? = wr.heap[gn]? := fun w2 G => by
            rw [G.block gn (by simp; omega) (fun e => hob gn e.symm rfl), (World.grownBy_alloc W1 _ none).block gn hgW (by simp)]
            exact hA2
          have hww1 : w.heap.size ≤ W1.heap.size := by rw [hsW]; exact hww
          replace hsW := Lib.hid hsW; replace hww := Lib.hid hww
          replace hAh := Lib.hid hAh; replace hAW := Lib.hid hAW; replace hO1 := Lib.hid hO1; replace hR1 := Lib.hid hR1; replace hob := Lib.hid hob; replace hkeep := Lib.hid hkeep; replace hW1 := Lib.hid hW1; replace hAA := Lib.hid hAA; replace hcc := Lib.hid hcc; replace hrow := Lib.hid hrow; replace hA1 := Lib.hid hA1; replace hA2 := Lib.hid hA2; replace hTk := Lib.hid hTk; replace hpt := Lib.hid hpt; replace r1 := Lib.hid r1; replace o1 := Lib.hid o1; replace hbk := Lib.hid hbk; replace hdk := Lib.hid hdk; replace hgr := Lib.hid hgr; replace htg := Lib.hid htg; replace hlen2 := Lib.hid hlen2; replace hgl := Lib.hid hgl
          unfold ptr at *
          go_upto_region 20 with fail
          rw [← hW1.out]
          clear x7 x7f
          go_upto_region 21 with (first
            | (at_builtin; go_loud (refine ap53 rfl (.tmp 66) (.tmp 68) rfl w.heap.size (.slice AA len cc) len (ptrs ks) rfl hO1.out (some ⟨W1.heap.size, 0, none⟩) 1 1 _ rfl rfl hR1.out (by intro u hu; simp at hu; subst hu; rfl) (by omega) (by simp; omega) ?_); intro A2 c2 w2 O2 G2 hh2; have hg2 := (hkeep.out w2 G2).trans hAh.out; have q26 : w2.cell? ⟨gn, 6, none⟩ = some (.slice AA len cc) := by { rw [cell_of_heap hg2]; rfl }; have q26f : w2.frozen? ⟨gn, 6, none⟩ = false := free_of_heap hg2 6; replace hg2 := Lib.hid hg2)
            | fail)
          obtain ⟨W3, hW3⟩ : ∃ W3, W3 = w2.setCell ⟨gn, 6, none⟩ (.slice A2 (len + 1) c2) := ⟨_, rfl⟩
          rw [← hW3]
          obtain ⟨ndk', hK3⟩ := hK.out.push hlen2.out hTk.out o1.out r1.out hbk.out hdk.out hW1.out O2 (by rw [hrow.out]; exact G2) (by rw [hrow.out]; exact hh2) hW3
          have p5 : W3.cell? ⟨gn, 5, none⟩ = some (.int .i64 1) := by
            have h5 := hK3.a.c5
            rw [hK3.f.1, hK3.f.2.2.2.2.2.2, hnkf.out.2.2.2.2.2] at h5
            exact h5
          have hgW3 : gn < W3.heap.size := by have := lt_of_heap hK3.a.h; rw [hK3.f.1] at this; exact this
          obtain ⟨eN, heN⟩ : ∃ eN, eN = nextP [44, 93] kn.2.1 kn.2.2 := ⟨_, rfl⟩
          have leN := nextP_len [44, 93] kn.2.1 kn.2.2
          have g4 : W3.grownBy (W3.alloc (.cells #[.string ⟨#[125]⟩, .string ⟨#[93]⟩] 9)) none := World.grownBy_alloc _ _ _
          have hK4 := hK3.call (Off.of_grown g4) (hK3.r.off (S := []) (Off.of_grown g4) (by simp))
          have lkn5 : kn.2.1.length ≤ 5000 := by have := lkn.out; have := hs5.out; omega
          have CX := next_any rb [44, 93] kn.2.1 kn.2.2 (W3.alloc (.cells #[.string ⟨#[125]⟩, .string ⟨#[93]⟩] 9)) hK4.r lkn5
          rw [← heN] at CX leN
          have hAD := hADD.out
          unfold Adds at hAD
          have hend : endB 1 = 93 := rfl
          rw [hend, ← heN] at hk1 hk2
          obtain ⟨cz, hcz2⟩ : ∃ cz : Int, cz = eN.1.toNat := ⟨_, rfl⟩
          rw [← hcz2] at CX
          obtain ⟨SX, hSX⟩ : ∃ SX, SX = st [44, 93] := ⟨_, rfl⟩
          rw [← hSX] at CX hAD
          replace hK3 := Lib.hid hK3; replace hK4 := Lib.hid hK4; replace heN := Lib.hid heN; replace leN := Lib.hid leN; replace g4 := Lib.hid g4; replace lkn5 := Lib.hid lkn5; replace CX := Lib.hid CX; replace hcz2 := Lib.hid hcz2; replace hW3 := Lib.hid hW3; replace O2 := Lib.hid O2; replace G2 := Lib.hid G2; replace hh2 := Lib.hid hh2; replace hSX := Lib.hid hSX
          clear q26 q26f g6
          unfold ptr at CX
          go_wp2_with fail
          refine CX.out.mono ?_
          rintro e W5 ⟨rfl, r5, o5⟩
          have hK5 := hK4.out.call o5 r5
          have hpl : ptL (ks ++ [tk]) = ptL ks ++ [kn.1] := by rw [ptL_map, ptL_map, List.map_append]; simp [hpt.out]
          have hlq : eN.2.1.length ≤ sq.length := Nat.le_trans leN.out.1 lkn.out
          replace hK5 := Lib.hid hK5; replace r5 := Lib.hid r5; replace o5 := Lib.hid o5; replace hpl := Lib.hid hpl; replace hlq := Lib.hid hlq
          clear CX p5 hAD
          by_cases hz : cz = 44
          · have he1 : eN.1 = 44 := UInt8.toNat_inj.1 (by have := hcz2.out; show eN.1.toNat = 44; omega)
            have hlt1 : eN.2.1.length + 1 ≤ sq.length := by have := leN.out.2 (by rw [he1]; decide); have := lkn.out; omega
            have hnext : KL w gn rb nk m 1 KR W5 := by
              refine .mk ⟨_, _, q', eN.2.1, eN.2.2, hK5.out, by have := hq1.out; omega, by have := hq2.out; omega, by have := hs5.out; rw [List.length_append, List.length_singleton]; omega, ?_, ?_⟩
              · rw [hpl.out, ← hk1.out]
                unfold kidsH
                rw [if_pos he1, List.append_assoc]; rfl
              · rw [← hk2.out]
                unfold kidsH
                rw [if_pos he1]
            have hmeas : lenR rb W5 < lenR rb wr := by
              rw [hmeas0.out, hK5.out.r.len]; omega
            subst hz
            replace he1 := Lib.hid he1; replace hlt1 := Lib.hid hlt1
            go_wp2_with fail
            exact ⟨hnext, hmeas⟩
          · have he1 : eN.1 ≠ 44 := fun e => hz (by rw [hcz2.out, e]; rfl)
            have hzb : (cz != 44) = true := bne_iff_ne.2 hz
            have hk1' : ptL (ks ++ [tk]) = KR.1 := by
              rw [hpl.out, ← hk1.out]
              unfold kidsH
              rw [if_neg he1]
            have hk2' : eN.2 = KR.2 := by
              rw [← hk2.out]
              unfold kidsH
              rw [if_neg he1]
            replace he1 := Lib.hid he1; replace hk1' := Lib.hid hk1'; replace hk2' := Lib.hid hk2'
            go_wp2_with fail
            go_ret
            rw [hFR.out, hfin.out]
            obtain ⟨d1, d2, d3, d4, d5, d6⟩ := hnkf.out
            have hf := hK5.out.f
            have hg5 : (T.mk ndk' (ks ++ [tk])).g = gn := hf.1
            refine ⟨.mk ndk' (ks ++ [tk]), by rw [hg5]; rfl, .mk hK5.out.a ?_, ?_, ?_, hK5.out.o, hK5.out.b, hK5.out.d⟩
            · rw [hf.1]; exact hK5.out.k
            · rw [T.pt_mk, hk1'.out, hf.2.1, hf.2.2.1, hf.2.2.2.1, hf.2.2.2.2.1, hf.2.2.2.2.2.1, hf.2.2.2.2.2.2, d1, d2, d3, d4, d5, d6]
            · rw [← hk2'.out]; exact hK5.out.r
      · have hfin : nodeH m (hdP s bad) = (.mk 0 rX.1 rY.1 ra.1 rbb.1 0 [], rC.2) := by
          rw [hhd.out]
          unfold nodeH
          have g1 : rC.1 ≠ 44 := fun e => hc1 (by rw [hcz.out, e]; rfl)
          have g2 : rC.1 ≠ 123 := fun e => hc2 (by rw [hcz.out, e]; rfl)
          have g3 : rC.1 ≠ 91 := fun e => hc3 (by rw [hcz.out, e]; rfl)
          rw [if_neg g1, if_neg g2, if_neg g3]
        have k1 : (cz == 44) = false := beq_eq_false_iff_ne.2 hc1
        have k2 : (cz == 123) = false := beq_eq_false_iff_ne.2 hc2
        have k3 : (cz == 91) = false := beq_eq_false_iff_ne.2 hc3
        replace hfin := Lib.hid hfin; replace hc1 := Lib.hid hc1; replace hc2 := Lib.hid hc2; replace hc3 := Lib.hid hc3
        go_wp2_with fail
        go_ret
        obtain ⟨t1, t2, t3, t4, t5, t6⟩ := hleaf.out _ _ _ _ hN2.out
        rw [hFR.out, hfin.out]
        obtain ⟨d1, d2, d3, d4, d5, d6, d7, d8⟩ := hndf.out
        refine ⟨_, by rw [← t2]; rfl, t1, ?_, t6, t3, t4, t5⟩
        rw [T.pt_mk, d1, d2, d3, d4, d5, d6, ptL]
end Go.Proofs.YtcklmkjlbpjojaaGreatDoor
