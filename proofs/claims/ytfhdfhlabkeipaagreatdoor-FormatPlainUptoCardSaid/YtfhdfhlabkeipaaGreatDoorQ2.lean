/- Format: Width, wide at a rune of ASCII that is no control. -/
import Derived.Test.YtfhdfhlabkeipaaGreatDoorQ1
namespace Go.Proofs.YtfhdfhlabkeipaaGreatDoor
open Go.RowKit
set_option linter.unusedSimpArgs false
set_option linter.unusedVariables false

set_option maxHeartbeats 2000000 in
set_option maxRecDepth 100000 in
theorem width_one (r : Int) (w : World) (h1 : 32 ≤ r) (h2 : r ≤ 126) : Calls Tryz.prog 148 #[.int .i32 r] w fun e w' => e = .returned (.int .i64 1) ∧ w.grownBy w' none := by
  have d1 : decide (r < 32) = false := by rw [decide_eq_false_iff_not]; omega
  have d2 : decide (1114111 < r) = false := by rw [decide_eq_false_iff_not]; omega
  have C := fun (l : List (Int × Int)) (n : Nat) (W : World) (hn : n = l.length) (h63 : n ≤ 1000) (hl : ∀ p ∈ l, 126 < p.1) =>
    within_no r l n (some ⟨W.heap.size, 0, none⟩) n (W.alloc (.cells (rg l).toArray 209)) hn h63 (rd_block (heap_alloc_new _ _)) (fun p hp => by have := hl p hp; omega)
  have Ca := Lib.hid (fun W => C [(127, 159)] 1 W rfl (by omega) (by decide))
  have Cb := Lib.hid (fun W => C [(768, 879), (8203, 8207), (65024, 65039)] 3 W rfl (by omega) (by decide))
  have Cc := Lib.hid (fun W => C [(4352, 4447), (11904, 12350), (12353, 19903), (19968, 42191), (44032, 55203), (63744, 64255), (65072, 65135), (65280, 65376), (65504, 65510), (127744, 128591), (129280, 129535), (131072, 262141)] 12 W rfl (by omega) (by decide))
  clear C
  go_enter Tryz.func148, Tryz.ntmps148
  go_wp2_with fail
  refine (Ca.out _).mono ?_
  rintro e w1 ⟨rfl, G1⟩
  have g1 := (World.grownBy_alloc w (.cells (rg [(127, 159)]).toArray 209) none).trans G1
  replace g1 := Lib.hid g1; replace G1 := Lib.hid G1
  go_wp2_with fail
  refine (Cb.out _).mono ?_
  rintro e w2 ⟨rfl, G2⟩
  have g2 := (g1.out.trans (World.grownBy_alloc w1 (.cells (rg [(768, 879), (8203, 8207), (65024, 65039)]).toArray 209) none)).trans G2
  replace g2 := Lib.hid g2; replace G2 := Lib.hid G2
  go_wp2_with fail
  refine (Cc.out _).mono ?_
  rintro e w3 ⟨rfl, G3⟩
  have g3 := (g2.out.trans (World.grownBy_alloc w2 _ none)).trans G3
  replace g3 := Lib.hid g3; replace G3 := Lib.hid G3
  go_wp2_with fail
  go_ret
  exact ⟨rfl, g3.out⟩
@[go_sem] theorem mx10' : (max 1 0 : Int) = 1 := by decide
theorem wide_one (r : Int) (w : World) (h1 : 32 ≤ r) (h2 : r ≤ 126) : Calls Tryz.prog 123 #[.int .i32 r] w fun e w' => e = .returned (.int .i64 1) ∧ w.grownBy w' none := by
  have C := Lib.hid (width_one r w h1 h2)
  go_enter Tryz.func123, Tryz.ntmps123
  go_wp2_with fail
  refine C.out.mono ?_
  rintro e w1 ⟨rfl, G1⟩
  replace G1 := Lib.hid G1
  go_wp2_with fail
  go_ret
  exact ⟨rfl, G1.out⟩
end Go.Proofs.YtfhdfhlabkeipaaGreatDoor
