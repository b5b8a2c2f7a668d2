/- Contract: one frame out of a reader's bytes, the ways that take none. -/
import Derived.Test.YtdbjphabmdmjcaaC8
import Derived.StillTailTactics
namespace Go.Proofs.Ytdbjphabmdmjcaa
open Go.RowKit
set_option linter.unusedSimpArgs false
set_option linter.unusedVariables false

def RB (w : World) (p : Nat) (s : Value) (br : Bool) : Prop := w.heap[p]? = some (.cells #[s, .bool br] 65 (0, 0))
theorem RB.cell {w : World} {p : Nat} {s : Value} {br : Bool} (h : RB w p s br) (j : Nat) : w.cell? ⟨p, j, none⟩ = #[s, Value.bool br][j]? := by
  unfold RB at h; simp [World.cell?, h]
theorem RB.free {w : World} {p : Nat} {s : Value} {br : Bool} (h : RB w p s br) (j : Nat) : w.frozen? ⟨p, j, none⟩ = false := by
  unfold RB at h; simp [World.frozen?, h]
theorem RB.lt {w : World} {p : Nat} {s : Value} {br : Bool} (h : RB w p s br) : p < w.heap.size := by
  rcases Nat.lt_or_ge p w.heap.size with hlt | hge
  · exact hlt
  · unfold RB at h; rw [Array.getElem?_eq_none hge] at h; cases h
theorem RB.grown {w w' : World} {p : Nat} {s : Value} {br : Bool} (h : RB w p s br) {row : Option Nat} (hg : w.grownBy w' row) (hne : some p ≠ row) : RB w' p s br :=
  (hg.block p h.lt hne).trans h
theorem RB.set0 {w : World} {p : Nat} {s : Value} {br : Bool} (h : RB w p s br) (v : Value) : RB (w.setCell ⟨p, 0, none⟩ v) p v br := by
  unfold RB at h ⊢
  simp [World.setCell, Array.getElem?_modify, h]
theorem RB.set1 {w : World} {p : Nat} {s : Value} {br : Bool} (h : RB w p s br) (b : Bool) : RB (w.setCell ⟨p, 1, none⟩ (.bool b)) p s b := by
  unfold RB at h ⊢
  simp [World.setCell, Array.getElem?_modify, h]

theorem g_setn {w w' : World} {row : Option Nat} (h : w.grownBy w' row) (a : Addr) (v : Value) (ha : w.heap.size ≤ a.block) : w.grownBy (w'.setCell a v) row :=
  ⟨h.os, h.tape, h.output, by simpa [World.setCell] using h.size, fun k hk hne => by
    rw [Below.heap_setCell _ _ _ _ (by omega)]
    exact h.block k hk hne⟩
def fr0 : Value := .agg #[.int .i64 0, .int .i64 0, .int .i64 0, .slice none 0 0, .slice none 0 0]

set_option maxHeartbeats 400000 in
theorem one_short (p : Nat) (A : Option Addr) (n c : Nat) (w : World) (hr : RB w p (.slice A n c) false) (hn : n < 2) :
    Calls Try.prog 28 #[.pointer (some ⟨p, 0, none⟩)] w fun e w' => e = .returned (.tuple #[fr0, .bool false, .bool false]) ∧ w.grownBy w' none := by
  have c0 := hr.cell 0
  simp at c0
  have hn' : (n : Int) < 2 := by omega
  have hp := hr.lt
  go_enter Try.func28, Try.ntmps28
  go_wp2_with fail
  refine bodyPost_ret (v := .tuple #[fr0, .bool false, .bool false]) (by simp [results, Try.results28, go_sem, fr0]) rfl ⟨rfl, ?_⟩
  exact World.grownBy_alloc _ _ _

set_option maxHeartbeats 400000 in
theorem one_bad (p : Nat) (b off m c : Nat) (x y : UInt8) (r : List UInt8) (w : World) (hr : RB w p (.slice (some ⟨b, off, none⟩) m c) false) (hR : Rd w (some ⟨b, off, none⟩) (bs (x :: y :: r))) (hm : m = (x :: y :: r).length)
    (hn : x.toNat * 256 + y.toNat < 3 ∨ 16384 < x.toNat * 256 + y.toNat) (hm2 : m ≤ 140737488355328) :
    Calls Try.prog 28 #[.pointer (some ⟨p, 0, none⟩)] w fun e w' => e = .returned (.tuple #[fr0, .bool false, .bool true]) ∧ w.grownBy w' none := by
  have c0 := hr.cell 0
  simp at c0
  have hp := hr.lt
  obtain ⟨_, _, e, hb, hc0⟩ := hR.at_ (j := 0) (u := b8 x) (by simp [bs])
  injection e with e; injection e with e1 e2; subst e1; subst e2
  obtain ⟨_, _, e, _, hc1⟩ := hR.at_ (j := 1) (u := b8 y) (by simp [bs])
  injection e with e; injection e with e1 e2; subst e1; subst e2
  unfold b8 at hc0 hc1
  simp only [Nat.add_zero] at hc0
  have hm1 : 2 ≤ m := by simp at hm; omega
  replace hm := Lib.hid hm
  clear hr hR
  have hx := x.toNat_lt; have hy := y.toNat_lt
  obtain ⟨q, hq⟩ : ∃ q : Nat, q = x.toNat * 256 + y.toNat := ⟨_, rfl⟩
  have hor := or_bytes x y
  rw [← hq] at hor hn
  have hq6 : q < 65536 := by omega
  replace hq := Lib.hid hq
  have i1 : (1 : Int) < m := by omega
  have i0 : (0 : Int) < m := by omega
  go_enter Try.func28, Try.ntmps28
  go_wp2_with fail
  go_quiet (fail)
  clear hor hc0 hc1 hx hy
  have F1 : FB ((w.alloc (.cells #[.int .i64 0, .int .i64 0, .int .i64 0, .slice none 0 0, .slice none 0 0] 25)).drewN nq) w.heap.size 0 0 0 (.slice none 0 0) (.slice none 0 0) := heap_alloc_new w _
  have G1 : w.grownBy ((w.alloc (.cells #[.int .i64 0, .int .i64 0, .int .i64 0, .slice none 0 0, .slice none 0 0] 25)).drewN nq) none := by
    have := World.grownBy_alloc w (.cells #[.int .i64 0, .int .i64 0, .int .i64 0, .slice none 0 0, .slice none 0 0] 25) none
    exact ⟨this.os, this.tape, this.output, this.size, this.block⟩
  generalize (w.alloc (.cells #[.int .i64 0, .int .i64 0, .int .i64 0, .slice none 0 0, .slice none 0 0] 25)).drewN nq = W at *
  have q0 := F1.cell 0; have q1 := F1.cell 1; have q2 := F1.cell 2; have q3 := F1.cell 3; have q4 := F1.cell 4
  have f0 := F1.free 0; have f1 := F1.free 1; have f2 := F1.free 2; have f3 := F1.free 3; have f4 := F1.free 4
  simp at q0 q1 q2 q3 q4
  replace F1 := Lib.hid F1; replace G1 := Lib.hid G1
  rcases hn with hn | hn
  · have hn' : (q : Int) < 3 := by omega
    go_wp2_with fail
    refine bodyPost_ret (v := .tuple #[fr0, .bool false, .bool true]) (by simp [results, Try.results28, go_sem, fr0, q0, q1, q2, q3, q4]) rfl ⟨rfl, ?_⟩
    exact g_setn (g_setn (g_setn (g_setn (g_setn G1.out _ _ (Nat.le_refl _)) _ _ (Nat.le_refl _)) _ _ (Nat.le_refl _)) _ _ (Nat.le_refl _)) _ _ (Nat.le_refl _)
  · have hn' : ¬ (q : Int) < 3 := by omega
    have hn2 : (16384 : Int) < q := by omega
    go_wp2_with fail
    refine bodyPost_ret (v := .tuple #[fr0, .bool false, .bool true]) (by simp [results, Try.results28, go_sem, fr0, q0, q1, q2, q3, q4]) rfl ⟨rfl, ?_⟩
    exact g_setn (g_setn (g_setn (g_setn (g_setn G1.out _ _ (Nat.le_refl _)) _ _ (Nat.le_refl _)) _ _ (Nat.le_refl _)) _ _ (Nat.le_refl _)) _ _ (Nat.le_refl _)

set_option maxHeartbeats 400000 in
theorem one_wait (p : Nat) (b off m c : Nat) (x y : UInt8) (r : List UInt8) (w : World) (hr : RB w p (.slice (some ⟨b, off, none⟩) m c) false) (hR : Rd w (some ⟨b, off, none⟩) (bs (x :: y :: r))) (hm : m = (x :: y :: r).length)
    (hn : 3 ≤ x.toNat * 256 + y.toNat ∧ x.toNat * 256 + y.toNat ≤ 16384 ∧ m < 2 + (x.toNat * 256 + y.toNat)) (hm2 : m ≤ 140737488355328) :
    Calls Try.prog 28 #[.pointer (some ⟨p, 0, none⟩)] w fun e w' => e = .returned (.tuple #[fr0, .bool false, .bool false]) ∧ w.grownBy w' none := by
  have c0 := hr.cell 0
  simp at c0
  have hp := hr.lt
  obtain ⟨_, _, e, hb, hc0⟩ := hR.at_ (j := 0) (u := b8 x) (by simp [bs])
  injection e with e; injection e with e1 e2; subst e1; subst e2
  obtain ⟨_, _, e, _, hc1⟩ := hR.at_ (j := 1) (u := b8 y) (by simp [bs])
  injection e with e; injection e with e1 e2; subst e1; subst e2
  unfold b8 at hc0 hc1
  simp only [Nat.add_zero] at hc0
  have hm1 : 2 ≤ m := by simp at hm; omega
  replace hm := Lib.hid hm
  clear hr hR
  have hx := x.toNat_lt; have hy := y.toNat_lt
  obtain ⟨q, hq⟩ : ∃ q : Nat, q = x.toNat * 256 + y.toNat := ⟨_, rfl⟩
  have hor := or_bytes x y
  rw [← hq] at hor hn
  have hq6 : q < 65536 := by omega
  replace hq := Lib.hid hq
  have i1 : (1 : Int) < m := by omega
  have i0 : (0 : Int) < m := by omega
  go_enter Try.func28, Try.ntmps28
  go_wp2_with fail
  go_quiet (fail)
  clear hor hc0 hc1 hx hy
  have F1 : FB ((w.alloc (.cells #[.int .i64 0, .int .i64 0, .int .i64 0, .slice none 0 0, .slice none 0 0] 25)).drewN nq) w.heap.size 0 0 0 (.slice none 0 0) (.slice none 0 0) := heap_alloc_new w _
  have G1 : w.grownBy ((w.alloc (.cells #[.int .i64 0, .int .i64 0, .int .i64 0, .slice none 0 0, .slice none 0 0] 25)).drewN nq) none := by
    have := World.grownBy_alloc w (.cells #[.int .i64 0, .int .i64 0, .int .i64 0, .slice none 0 0, .slice none 0 0] 25) none
    exact ⟨this.os, this.tape, this.output, this.size, this.block⟩
  generalize (w.alloc (.cells #[.int .i64 0, .int .i64 0, .int .i64 0, .slice none 0 0, .slice none 0 0] 25)).drewN nq = W at *
  have q0 := F1.cell 0; have q1 := F1.cell 1; have q2 := F1.cell 2; have q3 := F1.cell 3; have q4 := F1.cell 4
  have f0 := F1.free 0; have f1 := F1.free 1; have f2 := F1.free 2; have f3 := F1.free 3; have f4 := F1.free 4
  simp at q0 q1 q2 q3 q4
  replace F1 := Lib.hid F1; replace G1 := Lib.hid G1
  obtain ⟨n1, n2, n3⟩ := hn
  have hn' : ¬ (q : Int) < 3 := by omega
  have hn2 : ¬ (16384 : Int) < q := by omega
  have c1 : W.cell? ⟨p, 0, none⟩ = some (.slice (some ⟨b, off, none⟩) m c) := G1.out.cell c0 (by simp)
  have n4 : (m : Int) - 2 < q := by omega
  go_wp2_with fail
  refine bodyPost_ret (v := .tuple #[fr0, .bool false, .bool false]) (by simp [results, Try.results28, go_sem, fr0, q0, q1, q2, q3, q4]) rfl ⟨rfl, ?_⟩
  exact g_setn (g_setn (g_setn (g_setn (g_setn G1.out _ _ (Nat.le_refl _)) _ _ (Nat.le_refl _)) _ _ (Nat.le_refl _)) _ _ (Nat.le_refl _)) _ _ (Nat.le_refl _)
end Go.Proofs.Ytdbjphabmdmjcaa
