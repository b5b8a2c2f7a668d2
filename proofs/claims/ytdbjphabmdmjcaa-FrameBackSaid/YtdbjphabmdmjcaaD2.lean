/- Contract: one frame out of a reader's bytes: a kind that there is not. -/
import Derived.Test.YtdbjphabmdmjcaaD1
namespace Go.Proofs.Ytdbjphabmdmjcaa
open Go.RowKit
set_option linter.unusedSimpArgs false
set_option linter.unusedVariables false

theorem g_drewN {w w' : World} {row : Option Nat} (h : w.grownBy w' row) (k : Nat) : w.grownBy (w'.drewN k) row := ⟨h.os, h.tape, h.output, h.size, h.block⟩

set_option maxRecDepth 100000 in
set_option maxHeartbeats 1000000 in
theorem one_nil (f : Fm)
    (p : Nat) (b off m c : Nat) (x y zk za zb : UInt8) (r : List UInt8) (w : World) (hr : RB w p (.slice (some ⟨b, off, none⟩) m c) false) (hR : Rd w (some ⟨b, off, none⟩) (bs (x :: y :: zk :: za :: zb :: r))) (hm : m = (x :: y :: zk :: za :: zb :: r).length)
    (hn : 3 ≤ x.toNat * 256 + y.toNat ∧ x.toNat * 256 + y.toNat ≤ 16384 ∧ 2 + (x.toNat * 256 + y.toNat) ≤ m) (hmc : m ≤ c) (hm2 : m ≤ 140737488355328) (hbp : b ≠ p)
    (hfk : f.k = zk.toNat ∧ f.a = za.toNat ∧ f.b = zb.toNat)
    (hcod : codecOf f.k = .nilIface) :
    Calls Try.prog 28 #[.pointer (some ⟨p, 0, none⟩)] w (OnePost w p b off m c (x.toNat * 256 + y.toNat) false f) := by
  obtain ⟨c, rfl⟩ : ∃ c', c = c' + 2 := ⟨c - 2, by simp at hm; omega⟩
  have c0 := hr.cell 0
  simp at c0
  have hp := hr.lt
  obtain ⟨_, _, e, hb, hc0⟩ := hR.at_ (j := 0) (u := b8 x) (by simp [bs])
  injection e with e; injection e with e1 e2; subst e1; subst e2
  obtain ⟨_, _, e, _, hc1⟩ := hR.at_ (j := 1) (u := b8 y) (by simp [bs])
  injection e with e; injection e with e1 e2; subst e1; subst e2
  unfold b8 at hc0 hc1
  simp only [Nat.add_zero] at hc0
  have hm1 : 2 ≤ m := by simp at hm; omega
  replace hm := Lib.hid hm
  replace hr := Lib.hid hr; replace hR := Lib.hid hR; replace hfk := Lib.hid hfk
  have C := Lib.hid (fun W => hcod ▸ of_any f.k W)
  clear hcod
  have hx := x.toNat_lt; have hy := y.toNat_lt
  obtain ⟨q, hq⟩ : ∃ q : Nat, q = x.toNat * 256 + y.toNat := ⟨_, rfl⟩
  have hor := or_bytes x y
  rw [← hq] at hor hn
  have hq6 : q < 65536 := by omega
  replace hq := Lib.hid hq
  have i1 : (1 : Int) < m := by omega
  have i0 : (0 : Int) < m := by omega
  go_enter Try.func28, Try.ntmps28
  go_wp2_with fail
  go_quiet (fail)
  clear hor hc0 hc1 hx hy
  have F1 : FB ((w.alloc (.cells #[.int .i64 0, .int .i64 0, .int .i64 0, .slice none 0 0, .slice none 0 0] 25)).drewN nq) w.heap.size 0 0 0 (.slice none 0 0) (.slice none 0 0) := heap_alloc_new w _
  have G1 : w.grownBy ((w.alloc (.cells #[.int .i64 0, .int .i64 0, .int .i64 0, .slice none 0 0, .slice none 0 0] 25)).drewN nq) none := by
    have := World.grownBy_alloc w (.cells #[.int .i64 0, .int .i64 0, .int .i64 0, .slice none 0 0, .slice none 0 0] 25) none
    exact ⟨this.os, this.tape, this.output, this.size, this.block⟩
  generalize (w.alloc (.cells #[.int .i64 0, .int .i64 0, .int .i64 0, .slice none 0 0, .slice none 0 0] 25)).drewN nq = W at *
  have q0 := F1.cell 0; have q1 := F1.cell 1; have q2 := F1.cell 2; have q3 := F1.cell 3; have q4 := F1.cell 4
  have f0 := F1.free 0; have f1 := F1.free 1; have f2 := F1.free 2; have f3 := F1.free 3; have f4 := F1.free 4
  simp at q0 q1 q2 q3 q4
  replace F1 := Lib.hid F1; replace G1 := Lib.hid G1
  obtain ⟨n1, n2, n3⟩ := hn
  have hn' : ¬ (q : Int) < 3 := by omega
  have hn2 : ¬ (16384 : Int) < q := by omega
  have c1 : W.cell? ⟨p, 0, none⟩ = some (.slice (some ⟨b, off, none⟩) m (c + 2)) := G1.out.cell c0 (by simp)
  have n4 : ¬ (m : Int) - 2 < q := by omega
  have n5 : (2 : Int) + q ≤ c + 2 := by omega
  have hc2 : ¬ c = 0 := by omega
  have RW := hR.out.grown G1.out (.inl rfl)
  obtain ⟨_, _, e, _, k0⟩ := RW.at_ (j := 2) (u := b8 zk) (by simp [bs])
  injection e with e; injection e with e1 e2; subst e1; subst e2
  obtain ⟨_, _, e, _, k1⟩ := RW.at_ (j := 3) (u := b8 za) (by simp [bs])
  injection e with e; injection e with e1 e2; subst e1; subst e2
  obtain ⟨_, _, e, _, k2⟩ := RW.at_ (j := 4) (u := b8 zb) (by simp [bs])
  injection e with e; injection e with e1 e2; subst e1; subst e2
  unfold b8 at k0 k1 k2
  obtain ⟨y0, y1, y2⟩ := hfk.out
  have hz0 := zk.toNat_lt; have hz1 := za.toNat_lt; have hz2 := zb.toNat_lt
  rw [← y0] at k0; rw [← y1] at k1; rw [← y2] at k2
  have v0 : 0 ≤ f.k ∧ f.k ≤ 255 := by omega
  have v1 : 0 ≤ f.a ∧ f.a ≤ 255 := by omega
  have v2 : 0 ≤ f.b ∧ f.b ≤ 255 := by omega
  clear hz0 hz1 hz2 y0 y1 y2
  obtain ⟨v00, v01⟩ := v0; obtain ⟨v10, v11⟩ := v1; obtain ⟨v20, v21⟩ := v2
  replace RW := Lib.hid RW
  go_wp2_with fail
  have j0 : (0 : Int) < q := by omega
  have j1 : (1 : Int) < q := by omega
  have j2 : (2 : Int) < q := by omega
  have j3 : 0 < q := by omega
  have z0 : IntKind.i64.wrap f.k = f.k := IntWalk.i64_in _ (by omega)
  have z1 : IntKind.i64.wrap f.a = f.a := IntWalk.i64_in _ (by omega)
  have z2 : IntKind.i64.wrap f.b = f.b := IntWalk.i64_in _ (by omega)
  have hbne : ¬ b = w.heap.size := by omega
  have hbne' : ¬ w.heap.size = b := by omega
  go_region_held3 (fun w' => w'.cell? ⟨b, off + 2, none⟩ = some (.int .u8 f.k) ∧ w'.cell? ⟨b, off + 3, none⟩ = some (.int .u8 f.a) ∧ w'.cell? ⟨b, off + 4, none⟩ = some (.int .u8 f.b)) (first | go_keep | fail) (fail)
  go_wp2_with (go_at_call 25; refine (C.out _).mono ?_; rintro e w' ⟨rfl, rfl⟩)
  clear k0 k1 k2 z0 z1 z2 q0 q1 q2 q3 q4 f0 f1 f2 f3 f4
  have S3 := (((((S4.mk (w := w) (W := W) (p := p) (b := b) G1.out F1.out (hr.out.grown G1.out (by simp)) RW.out).s0 (by omega) hbne f.k).s1 (by omega) hbne f.a).s2 (by omega) hbne f.b).s3 (by omega) hbne (.slice none 0 0)).s4 (by omega) hbne (.slice none 0 0) |>.drew
  generalize (((((W.setCell ⟨w.heap.size, 0, none⟩ (.int .i64 f.k)).setCell ⟨w.heap.size, 1, none⟩ (.int .i64 f.a)).setCell ⟨w.heap.size, 2, none⟩ (.int .i64 f.b)).setCell ⟨w.heap.size, 3, none⟩ (.slice none 0 0)).setCell ⟨w.heap.size, 4, none⟩ (.slice none 0 0)).drew = W3 at *
  obtain ⟨G3, F3, B3, R3⟩ := S3
  have q0 := F3.cell 0; have q1 := F3.cell 1; have q2 := F3.cell 2; have q3 := F3.cell 3; have q4 := F3.cell 4
  have f0 := F3.free 0; have f1 := F3.free 1; have f2 := F3.free 2; have f3 := F3.free 3; have f4 := F3.free 4
  simp at q0 q1 q2 q3 q4
  replace G3 := Lib.hid G3; replace F3 := Lib.hid F3; replace B3 := Lib.hid B3; replace R3 := Lib.hid R3
  go_quiet (fail)
  go_wp2_with fail
  refine bodyPost_ret (v := .tuple #[fr0, .bool false, .bool true]) (by simp [results, Try.results28, go_sem, fr0, q0, q1, q2, q3, q4]) rfl (onePost_no ?_)
  exact g_setn (g_setn (g_setn (g_setn (g_setn (g_drewN G3.out _) _ _ (Nat.le_refl _)) _ _ (Nat.le_refl _)) _ _ (Nat.le_refl _)) _ _ (Nat.le_refl _)) _ _ (Nat.le_refl _)
end Go.Proofs.Ytdbjphabmdmjcaa
