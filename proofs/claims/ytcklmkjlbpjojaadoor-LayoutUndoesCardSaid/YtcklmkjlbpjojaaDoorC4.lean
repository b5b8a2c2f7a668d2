/- Layout: Has, may, New, wayOf, leafUp, pick. -/
import Derived.Test.YtcklmkjlbpjojaaDoorC3
namespace Go.Proofs.YtcklmkjlbpjojaaDoor
open Go.RowKit
set_option linter.unusedSimpArgs false
set_option linter.unusedVariables false

theorem has_any (base tr : Nat) (t : T) (pane : Int) (w : World) (hT : Tr base w tr t) (hl : t.leaves.length ≤ 100000) :
    Calls Tryd.prog 13 #[ptr tr, .int .i64 pane] w fun e w' => e = .returned (.bool (t.find pane).isSome) ∧ w.grownBy w' none := by
  have CA := Lib.hid (leaf_any base tr t pane w hT hl)
  unfold ptr at *
  go_enter Tryd.func13, Tryd.ntmps13
  go_wp2_with fail
  refine CA.out.mono ?_
  rintro e w1 ⟨rfl, hG⟩
  replace hG := Lib.hid hG
  clear CA
  cases hf : t.find pane
  · have e1 := ret_bool (show false = (t.find pane).isSome by rw [hf]; rfl)
    replace e1 := Lib.hid e1
    simp only [hf, Option.map_none, uptr]
    replace hf := Lib.hid hf
    go_wp2_with fail
    go_ret
    exact ⟨e1.out, hG.out⟩
  · have e1 := ret_bool (show true = (t.find pane).isSome by rw [hf]; rfl)
    replace e1 := Lib.hid e1
    simp only [hf, Option.map_some, uptr, ptr]
    replace hf := Lib.hid hf
    go_wp2_with fail
    go_ret
    exact ⟨e1.out, hG.out⟩

def mayB (a b : Int) : Bool := decide (1 ≤ a) && decide (a ≤ 250) && decide (1 ≤ b) && decide (b ≤ 120)
theorem may_any (a b : Int) (w : World) : Calls Tryd.prog 48 #[.int .i64 a, .int .i64 b] w fun e w' => e = .returned (.bool (mayB a b)) ∧ w = w' := by
  go_enter Tryd.func48, Tryd.ntmps48
  go_wp2
  all_goals (go_ret; exact ⟨ret_bool (by unfold mayB; simp; try omega), rfl⟩)
theorem wayOf_any (b : Bool) (w : World) : Calls Tryd.prog 30 #[.bool b] w fun e w' => e = .returned (.int .i64 (if b then 0 else 1)) ∧ w = w' := by
  cases b <;>
  · go_enter Tryd.func30, Tryd.ntmps30
    go_wp2
    go_ret
    exact ⟨rfl, rfl⟩
theorem leafUp_any (v : Value) (g : Nat) (u : Value) (w : World) (h : w.cell? ⟨g, 7, none⟩ = some u) : Calls Tryd.prog 33 #[v, ptr g] w fun e w' => e = .returned u ∧ w = w' := by
  unfold ptr
  go_enter Tryd.func33, Tryd.ntmps33
  go_wp2
  go_ret
  exact ⟨rfl, rfl⟩
/-- One pane's node. -/
def nd1 (g : Nat) (p a b : Int) : T := .mk ⟨g, none, 0, p, 0, 0, a, b, 0⟩ []
theorem new_any (a b p : Int) (w : World) (hm : mayB a b = true) (hp : 1 ≤ p) :
    Calls Tryd.prog 24 #[.int .i64 a, .int .i64 b, .int .i64 p] w fun e w' => ∃ tr g, e = .returned (.tuple #[ptr tr, .int .i64 0]) ∧ Tr w.heap.size w' tr (nd1 g p a b) ∧ w.grownBy w' none := by
  have CM := Lib.hid (may_any a b w)
  rw [hm] at CM
  have hp2 : ¬ p < 1 := by omega
  go_enter Tryd.func24, Tryd.ntmps24
  go_wp2_with fail
  refine CM.out.mono ?_
  rintro e w1 ⟨rfl, rfl⟩
  go_wp2_with fail
  go_ret2
  have g1 := World.grownBy_alloc w (.cells #[.int .i64 p, .int .i64 0, .int .i64 0, .int .i64 a, .int .i64 b, .int .i64 0, .slice none 0 0, .pointer none] 58) none
  have g2 := World.grownBy_alloc (w.alloc (.cells #[.int .i64 p, .int .i64 0, .int .i64 0, .int .i64 a, .int .i64 b, .int .i64 0, .slice none 0 0, .pointer none] 58)) (.cells #[ptr w.heap.size] 60) none
  have hA : At (w.alloc (.cells #[.int .i64 p, .int .i64 0, .int .i64 0, .int .i64 a, .int .i64 b, .int .i64 0, .slice none 0 0, .pointer none] 58)) none ⟨w.heap.size, none, 0, p, 0, 0, a, b, 0⟩ [] :=
    ⟨heap_alloc_new w _, World.ownsRow_nil _ _ _ _⟩
  refine ⟨w.heap.size + 1, w.heap.size, rfl, ⟨?_, (TP.mk hA (by rw [TPs]; trivial)).grown g2, ?_, ?_, ?_⟩, g1.trans g2⟩
  · have := heap_alloc_new (w.alloc (.cells #[.int .i64 p, .int .i64 0, .int .i64 0, .int .i64 a, .int .i64 b, .int .i64 0, .slice none 0 0, .pointer none] 58)) (.cells #[ptr w.heap.size] 60)
    have e : (w.alloc (.cells #[.int .i64 p, .int .i64 0, .int .i64 0, .int .i64 a, .int .i64 b, .int .i64 0, .slice none 0 0, .pointer none] 58)).heap.size = w.heap.size + 1 := by simp
    rw [e] at this
    exact this
  · simp [nd1, T.bl_mk, blL_nil]
  · simp [nd1, T.bl_mk, blL_nil]
  · simp [nd1, T.bl_mk, blL_nil]
theorem new_not (a b p : Int) (w : World) (h : ¬ (mayB a b = true ∧ 1 ≤ p)) :
    Calls Tryd.prog 24 #[.int .i64 a, .int .i64 b, .int .i64 p] w fun e w' => e = .returned (.tuple #[.pointer none, .int .i64 1]) ∧ w = w' := by
  have CM := Lib.hid (may_any a b w)
  cases hm : mayB a b
  · rw [hm] at CM
    replace h := Lib.hid h; replace hm := Lib.hid hm
    go_enter Tryd.func24, Tryd.ntmps24
    go_wp2_with fail
    refine CM.out.mono ?_
    rintro e w1 ⟨rfl, rfl⟩
    go_wp2_with fail
    go_ret2
    exact ⟨rfl, rfl⟩
  · rw [hm] at CM
    have hp : p < 1 := by rcases Int.lt_or_le p 1 with h1 | h1; exact h1; exact absurd ⟨hm, h1⟩ h
    replace h := Lib.hid h; replace hm := Lib.hid hm
    go_enter Tryd.func24, Tryd.ntmps24
    go_wp2_with fail
    refine CM.out.mono ?_
    rintro e w1 ⟨rfl, rfl⟩
    go_wp2_with fail
    go_ret2
    exact ⟨rfl, rfl⟩
/-- Which of n things a raw number speaks of. -/
def pickN (c : Int) (n : Nat) : Nat := ((if c < 0 then -(c + 1) else c) % n).toNat
theorem pickN_lt (c : Int) {n : Nat} (h : 0 < n) : pickN c n < n := by
  unfold pickN
  have h1 := Int.emod_lt_of_pos (if c < 0 then -(c + 1) else c) (b := n) (by omega)
  have h2 := Int.emod_nonneg (if c < 0 then -(c + 1) else c) (b := n) (by omega)
  omega
theorem pick_any (c : Int) (n : Nat) (w : World) (h1 : -9223372036854775808 ≤ c) (h2 : c ≤ 9223372036854775807) (hn : 0 < n) (hn2 : n ≤ 9223372036854775807) :
    Calls Tryd.prog 9 #[.int .i64 c, .int .i64 n] w fun e w' => e = .returned (.int .i64 (pickN c n)) ∧ w = w' := by
  have hp := Int.emod_nonneg (if c < 0 then -(c + 1) else c) (b := n) (by omega)
  have hq : (pickN c n : Int) = (if c < 0 then -(c + 1) else c) % n := by unfold pickN; omega
  have hn0 : ¬ ((n : Int) = 0) := by omega
  by_cases h : c < 0
  · rw [if_pos h] at hq
    have i1 : 0 ≤ -(c + 1) := by omega
    have i2 : -(c + 1) ≤ 9223372036854775807 := by omega
    replace hq := Lib.hid hq; replace hp := Lib.hid hp
    go_enter Tryd.func9, Tryd.ntmps9
    go_wp2
    go_ret
    exact ⟨ret_int (by have h2 := hq.out; rw [← Int.tmod_eq_emod_of_nonneg i1, Int.neg_tmod] at h2; exact h2.symm), rfl⟩
  · rw [if_neg h] at hq
    replace hq := Lib.hid hq; replace hp := Lib.hid hp
    go_enter Tryd.func9, Tryd.ntmps9
    go_wp2
    go_ret
    exact ⟨ret_int hq.out.symm, rfl⟩
end Go.Proofs.YtcklmkjlbpjojaaDoor
