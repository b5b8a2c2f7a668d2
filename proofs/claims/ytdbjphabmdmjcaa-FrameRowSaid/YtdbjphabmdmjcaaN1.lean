/- Contracts: the row of bytes that wait: NewBuffer, Put, Take, Len, Dropped. -/
import Derived.Test.YtdbjphabmdmjcaaC2
import Derived.Test.YtdbjphabmdmjcaaM1
import Derived.Deep.QuietTactic
import Derived.BigQuiet
namespace Go.Proofs.Ytdbjphabmdmjcaa
open Go.RowKit
set_option linter.unusedSimpArgs false
set_option linter.unusedVariables false

def BB (w : World) (p : Nat) (s : Value) (most dr : Int) : Prop := w.heap[p]? = some (.cells #[s, .int .i64 most, .int .i64 dr] 72 (0, 0))
section
variable {w w' : World} {p : Nat} {s : Value} {most dr : Int}
theorem BB.cell (h : BB w p s most dr) (j : Nat) : w.cell? ⟨p, j, none⟩ = #[s, Value.int .i64 most, .int .i64 dr][j]? := by
  unfold BB at h; simp [World.cell?, h]
theorem BB.free (h : BB w p s most dr) (j : Nat) : w.frozen? ⟨p, j, none⟩ = false := by
  unfold BB at h; simp [World.frozen?, h]
theorem BB.lt (h : BB w p s most dr) : p < w.heap.size := by
  rcases Nat.lt_or_ge p w.heap.size with hlt | hge
  · exact hlt
  · unfold BB at h; rw [Array.getElem?_eq_none hge] at h; cases h
theorem BB.grown (h : BB w p s most dr) {row : Option Nat} (hg : w.grownBy w' row) (hne : some p ≠ row) : BB w' p s most dr := (hg.block p h.lt hne).trans h
theorem BB.set0 (h : BB w p s most dr) (v : Value) : BB (w.setCell ⟨p, 0, none⟩ v) p v most dr := by
  unfold BB at h ⊢
  simp [World.setCell, Array.getElem?_modify, h]
theorem BB.set2 (h : BB w p s most dr) (v : Int) : BB (w.setCell ⟨p, 2, none⟩ (.int .i64 v)) p s most v := by
  unfold BB at h ⊢
  simp [World.setCell, Array.getElem?_modify, h]
theorem BB.not_mid {base n c : Nat} {A : Option Addr} {xs : List Value} (h : BB w p s most dr) (hm : Mid w base 5 A n c xs) : ablk A ≠ some p := by
  intro e
  obtain ⟨_, _, cur, hc⟩ := hm.block p e
  unfold BB at h
  rw [h] at hc
  injection hc with hc
  injection hc with _ ht
  cases ht
end
theorem g_set_ {w w' : World} {p : Nat} (h : w.grownBy w' (some p)) {a : Addr} (ha : a.block = p) (v : Value) : w.grownBy (w'.setCell a v) (some p) :=
  ⟨h.os, h.tape, h.output, by simpa [World.setCell] using h.size, fun k hk hne => by
    have : k ≠ p := fun e => hne (by rw [e])
    rw [Below.heap_setCell _ _ _ _ (by rw [ha]; exact this)]
    exact h.block k hk hne⟩
theorem g_dn_ {w w' : World} {row : Option Nat} (h : w.grownBy w' row) (k : Nat) : w.grownBy (w'.drewN k) row := ⟨h.os, h.tape, h.output, h.size, h.block⟩
theorem src_rd {w : World} {B : Option Addr} {m d : Nat} {l : List UInt8} (hr : Rd w B (bs l)) (hm : m = l.length) : Src Try.prog 1 23 (.slice B m d) m (bs l) w := by
  rcases B with _ | ad
  · have : l = [] := by simpa [bs] using hr.none_nil
    subst this
    obtain rfl : m = 0 := hm
    exact Src.ofNil w Try.underlying23 d
  · refine Src.ofSlice w Try.underlying23 ad m d (bs l) (by rw [bs_len, hm, Nat.mul_one]) (fun j u hj => ?_) (bs_one l)
    obtain ⟨b, off, e, _, hc⟩ := hr.at_ hj
    injection e with e
    subst e
    rw [Addr.add_lit]
    exact hc

theorem newBuffer_no (most : Int) (w : World) (h : most < 1 ∨ 2097152 < most) : Calls Try.prog 20 #[.int .i64 most] w fun e w' => e = .returned (.tuple #[.pointer none, .int .i64 1]) ∧ w = w' := by
  by_cases h1 : most < 1
  · go_enter Try.func20, Try.ntmps20
    go_wp2
    go_ret2
    exact ⟨rfl, rfl⟩
  · have h2 : 2097152 < most := by omega
    go_enter Try.func20, Try.ntmps20
    go_wp2
    go_ret2
    exact ⟨rfl, rfl⟩
theorem newBuffer_yes (most : Int) (w : World) (h1 : 1 ≤ most) (h2 : most ≤ 2097152) : Calls Try.prog 20 #[.int .i64 most] w fun e w' => e = .returned (.tuple #[.pointer (some ⟨w.heap.size, 0, none⟩), .int .i64 0]) ∧ w.alloc (.cells #[.slice none 0 0, .int .i64 most, .int .i64 0] 72) = w' := by
  have h1' : ¬ most < 1 := by omega
  have h2' : ¬ 2097152 < most := by omega
  go_enter Try.func20, Try.ntmps20
  go_wp2
  go_ret2
  exact ⟨rfl, rfl⟩
theorem len_any (p n c : Nat) (A : Option Addr) (w : World) (hc : w.cell? ⟨p, 0, none⟩ = some (.slice A n c)) :
    Calls Try.prog 23 #[.pointer (some ⟨p, 0, none⟩)] w fun e w' => e = .returned (.int .i64 n) ∧ w = w' := by
  go_enter Try.func23, Try.ntmps23
  go_wp2
  go_ret
  exact ⟨rfl, rfl⟩
theorem dropped_any (p : Nat) (d : Int) (w : World) (hc : w.cell? ⟨p, 2, none⟩ = some (.int .i64 d)) :
    Calls Try.prog 24 #[.pointer (some ⟨p, 0, none⟩)] w fun e w' => e = .returned (.int .i64 d) ∧ w = w' := by
  go_enter Try.func24, Try.ntmps24
  go_wp2
  go_ret
  exact ⟨rfl, rfl⟩

set_option maxHeartbeats 400000 in
theorem put_no (p : Nat) (A B : Option Addr) (n c m d : Nat) (most dr : Int) (w : World) (hB : BB w p (.slice A n c) most dr) (hn : n ≤ 140737488355328) (hm : m ≤ 140737488355328) (h0 : 0 ≤ most) (h1 : most ≤ 2097152) (hd : 0 ≤ dr) (hd2 : dr ≤ 1000000) (h : most - n < m) :
    Calls Try.prog 21 #[.pointer (some ⟨p, 0, none⟩), .slice B m d] w fun e w' => e = .returned (.bool false) ∧ BB w' p (.slice none 0 0) most (dr + 1) ∧ w.grownBy w' (some p) := by
  have c0 := hB.cell 0; have c1 := hB.cell 1; have c2 := hB.cell 2
  have f0 := hB.free 0; have f1 := hB.free 1; have f2 := hB.free 2
  simp at c0 c1 c2
  have hp := hB.lt
  have hB2 := fun k => BB.grown hB (g_dn_ (World.grownBy.refl w none) k) (by simp)
  replace hB := Lib.hid hB; replace hB2 := Lib.hid hB2
  go_enter Try.func21, Try.ntmps21
  go_wp2_with fail
  go_quiet (fail)
  go_wp2_with fail
  go_ret
  refine ⟨rfl, ((hB2.out _).set0 _).set2 _, g_set_ (a := ⟨p, 2, none⟩) (g_set_ (a := ⟨p, 0, none⟩) (g_dn_ (World.grownBy.refl w _) _) rfl _) rfl _⟩

set_option maxHeartbeats 400000 in
theorem put_yes (p base : Nat) (A B : Option Addr) (n c m d : Nat) (l bl : List UInt8) (most dr : Int) (w : World) (hB : BB w p (.slice A n c) most dr) (hM : Mid w base 5 A n c (bs l)) (hR : Rd w B (bs bl)) (hbl : m = bl.length) (hm : m ≤ 140737488355328) (h0 : 0 ≤ most) (h1 : most ≤ 2097152) (h : (m : Int) ≤ most - n) (hbase : base ≤ w.heap.size) :
    Calls Try.prog 21 #[.pointer (some ⟨p, 0, none⟩), .slice B m d] w fun e w' => e = .returned (.bool true) ∧ ∃ A' c', BB w' p (.slice A' (n + m) c') most dr ∧ Mid w' base 5 A' (n + m) c' (bs (l ++ bl)) ∧
      (∀ k, k < w.heap.size → k ≠ p → ablk A ≠ some k → w'.heap[k]? = w.heap[k]?) ∧ w'.os = w.os ∧ w'.tape = w.tape ∧ w'.output = w.output ∧ w.heap.size ≤ w'.heap.size ∧ (ablk A' = ablk A ∨ ∃ b, ablk A' = some b ∧ w.heap.size ≤ b) := by
  have c0 := hB.cell 0; have c1 := hB.cell 1; have c2 := hB.cell 2
  have f0 := hB.free 0; have f1 := hB.free 1; have f2 := hB.free 2
  simp at c0 c1 c2
  have hp := hB.lt
  have hn : n ≤ 2097152 := by omega
  have hpA := hB.not_mid hM
  have hB2 := fun k => BB.grown hB (g_dn_ (World.grownBy.refl w none) k) (by simp)
  have hM2 := fun k => hM.grown (g_dn_ (World.grownBy.refl w none) k) (.inl rfl)
  have hR2 := fun k => hR.grown (g_dn_ (World.grownBy.refl w none) k) (.inl rfl)
  have h' : ¬ most - n < (m : Int) := by omega
  replace hB := Lib.hid hB; replace hB2 := Lib.hid hB2; replace hM := Lib.hid hM; replace hM2 := Lib.hid hM2; replace hR := Lib.hid hR; replace hR2 := Lib.hid hR2; replace hbl := Lib.hid hbl; replace hpA := Lib.hid hpA
  obtain ⟨i0, hi0, hz0, hz1, hz2⟩ := info_parts info5
  replace hi0 := Lib.hid hi0; replace hz0 := Lib.hid hz0; replace hz1 := Lib.hid hz1; replace hz2 := Lib.hid hz2
  go_enter Try.func21, Try.ntmps21
  go_wp2_with fail
  go_quiet (fail)
  go_wp2_with (first
    | (at_builtin; go_must (refine wpList_append_mid _ rfl (.tmp 32) (.tmp 33) 23 23 rfl base 5 i0 _ Try.underlying23 hi0.out hz0.out hz1.out (by rw [hz2.out]; omega) rfl A n c (bs l) rfl (hM2.out _) m (bs bl) (src_rd (hR2.out _) hbl.out) (by rw [hz2.out]; omega) (by unfold maxLen; omega) hbase ?_; intro A2 k2 w2 M2 G2 hh2; have B2 := (hB2.out _).grown G2 (Ne.symm hpA.out); have q0 := B2.cell 0; have e0 := B2.free 0; simp at q0))
    | fail)
  go_ret
  refine ⟨rfl, A2, k2, B2.set0 _, ?_, ?_, ?_, ?_, ?_, ?_, ?_⟩
  · rw [bs_append]
    refine M2.grown (row := some p) (g_set_ (World.grownBy.refl w2 _) rfl _) (.inr (B2.not_mid M2))
  · intro k hk hkp hkA
    rw [Below.heap_setCell _ _ _ _ (by exact hkp)]
    exact G2.block k hk (fun e => hkA e.symm)
  · exact G2.os
  · exact G2.tape
  · exact G2.output
  · have := G2.size; simpa [World.setCell] using this
  · rcases hh2 with h | h
    · exact .inl h
    · exact .inr ⟨_, h, Nat.le_refl _⟩
end Go.Proofs.Ytdbjphabmdmjcaa
