/- Layout: split (a new node of one kid). -/
import Derived.Test.YtcklmkjlbpjojaaDoorD5
namespace Go.Proofs.YtcklmkjlbpjojaaDoor
open Go.RowKit
set_option linter.unusedSimpArgs false
set_option linter.unusedVariables false

/-- A node's cells. -/
def nodeC (p x y a b way : Int) (row up : Value) : Array Value := #[.int .i64 p, .int .i64 x, .int .i64 y, .int .i64 a, .int .i64 b, .int .i64 way, row, up]

set_option maxHeartbeats 1000000 in
set_option maxRecDepth 100000 in
theorem split1_any (way a b : Int) (ab gi : Nat) (p ix iy ia ib iw : Int) (ir iu : Value) (w : World) (hA : w.heap[ab]? = some (.cells #[ptr gi] 55 (0, 0))) (hi : w.heap[gi]? = some (.cells (nodeC p ix iy ia ib iw ir iu) 58 (0, 0))) (hne : ab ≠ gi) :
    Calls Tryd.prog 32 #[.int .i64 way, .agg #[.int .i64 a, .int .i64 b], .slice (some ⟨ab, 0, none⟩) 1 1] w fun e w' => ∃ s, w.heap.size ≤ s ∧ e = .returned (ptr s) ∧
      w'.heap[s]? = some (.cells (nodeC 0 0 0 a b way (.slice (some ⟨ab, 0, none⟩) 1 1) (.pointer none)) 58 (0, 0)) ∧ w'.heap[gi]? = some (.cells (nodeC p ix iy ia ib iw ir (ptr s)) 58 (0, 0)) ∧ Off [gi] w w' := by
  have hgl := lt_of_heap hi
  have hal := lt_of_heap hA
  obtain ⟨W, hW⟩ : ∃ W, W = (w.alloc (.cells #[.int .i64 a, .int .i64 b] 56)).alloc (.cells #[.int .i64 0, .int .i64 0, .int .i64 0, .int .i64 a, .int .i64 b, .int .i64 way, .slice (some ⟨ab, 0, none⟩) 1 1, .pointer none] 58) := ⟨_, rfl⟩
  have g1 : w.grownBy W none := by rw [hW]; exact (World.grownBy_alloc w _ none).trans (World.grownBy_alloc _ _ none)
  have hs : W.heap[w.heap.size + 1]? = some (.cells (nodeC 0 0 0 a b way (.slice (some ⟨ab, 0, none⟩) 1 1) (.pointer none)) 58 (0, 0)) := by
    rw [hW]
    have := heap_alloc_new (w.alloc (.cells #[.int .i64 a, .int .i64 b] 56)) (.cells #[.int .i64 0, .int .i64 0, .int .i64 0, .int .i64 a, .int .i64 b, .int .i64 way, .slice (some ⟨ab, 0, none⟩) 1 1, .pointer none] 58)
    have e : (w.alloc (.cells #[.int .i64 a, .int .i64 b] 56)).heap.size = w.heap.size + 1 := by simp
    rw [e] at this
    exact this
  have hAW := (g1.block ab hal (by simp)).trans hA
  have hiW := (g1.block gi hgl (by simp)).trans hi
  have a0 : W.cell? ⟨ab, 0, none⟩ = some (.pointer (some ⟨gi, 0, none⟩)) := by rw [cell_of_heap hAW]; rfl
  have i7 : W.cell? ⟨gi, 7, none⟩ = some iu := by rw [cell_of_heap hiW]; rfl
  have f7 := free_of_heap hiW 7
  have hsg : w.heap.size + 1 ≠ gi := by omega
  have hfin : ∀ W', W' = W.setCell ⟨gi, 7, none⟩ (ptr (w.heap.size + 1)) → W'.heap[w.heap.size + 1]? = some (.cells (nodeC 0 0 0 a b way (.slice (some ⟨ab, 0, none⟩) 1 1) (.pointer none)) 58 (0, 0)) ∧ W'.heap[gi]? = some (.cells (nodeC p ix iy ia ib iw ir (ptr (w.heap.size + 1))) 58 (0, 0)) ∧ Off [gi] w W' := by
    rintro W' rfl
    refine ⟨?_, ?_, ?_⟩
    · rw [Below.heap_setCell _ _ _ _ (by exact hsg)]; exact hs
    · have := heap_set (j := 7) hiW (ptr (w.heap.size + 1))
      rw [this]; rfl
    · exact (Off.of_grown (S := [gi]) g1).trans (Off.set W ⟨gi, 7, none⟩ _) (by simp)
  replace hfin := Lib.hid hfin; replace hs := Lib.hid hs; replace hAW := Lib.hid hAW; replace hiW := Lib.hid hiW; replace g1 := Lib.hid g1; replace hA := Lib.hid hA; replace hi := Lib.hid hi
  have hWh := Lib.hid hW
  go_enter Tryd.func32, Tryd.ntmps32
  go_upto_region 2 with fail
  rw [← hWh.out]
  clear hW
  go_wp2_with fail
  go_loopw [17] (fun iv wr => (iv = .int .i64 0 ∧ wr = W) ∨ (iv = .int .i64 1 ∧ wr = W.setCell ⟨gi, 7, none⟩ (ptr (w.heap.size + 1)))) (fun iv _ => 1 - (intOf iv).toNat)
  case atStart => exact .inl ⟨rfl, rfl⟩
  case round =>
    rcases hrel with ⟨rfl, rfl⟩ | ⟨rfl, rfl⟩
    · go_wp2_with fail
      refine ⟨.inr ⟨rfl, rfl⟩, by simp [intOf]⟩
    · go_wp2_with fail
      go_ret
      exact ⟨w.heap.size + 1, by omega, rfl, (hfin.out _ rfl)⟩
end Go.Proofs.YtcklmkjlbpjojaaDoor
