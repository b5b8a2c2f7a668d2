/- Calc: ftoa64 at the examples. -/
import Derived.Test.YtmoofecphpknfaaGreatDoorC10
import Derived.Deep.RegionHeld3
namespace Go.Proofs.YtmoofecphpknfaaGreatDoor
open Go.RowKit
set_option linter.unusedSimpArgs false
set_option linter.unusedVariables false

@[go_sem] theorem bits2_run (b : Nat) (W : World) : (callFunc 94 #[.float .f64 b]).run Tryz.prog W = .ok (.value (.int .u64 b)) W := by
  rw [run_callFunc_extern Tryz.func94 (by kernel_rfl) (by kernel_rfl) (by kernel_rfl) (e := Extern.MathFloatBits.float64bits) (by kernel_rfl)]
  rfl
theorem g_below0 {w w' : World} {base : Nat} (g : w.grownBy w' none) (hb : base ≤ w.heap.size) : Below base w w' := ⟨g.os, g.tape, g.output, g.size, fun k hk => g.block k (by omega) (by simp)⟩
@[go_sem] theorem wr1 : wrap64 1 = 1 := by unfold wrap64; decide
@[go_sem] theorem wr2 : wrap64 2 = 2 := by unfold wrap64; decide
@[go_sem] theorem wr3 : wrap64 3 = 3 := by unfold wrap64; decide
@[go_sem] theorem wrm3 : wrap64 (-3) = -3 := by unfold wrap64; decide
@[go_sem] theorem bt1 : bits BinOp.and IntKind.i64 1024 (2048 - 1) = 1024 := by decide
@[go_sem] theorem bt1' : bits BinOp.and IntKind.i64 1024 2047 = 1024 := by decide
@[go_sem] theorem bt2 : bits BinOp.and IntKind.i64 1020 (2048 - 1) = 1020 := by decide
@[go_sem] theorem bt2' : bits BinOp.and IntKind.i64 1020 2047 = 1020 := by decide
@[go_sem] theorem bt3 : bits BinOp.and IntKind.u64 4615063718147915776 4503599627370495 = 3377699720527872 := by decide
@[go_sem] theorem bt3' : bits BinOp.and IntKind.u64 4615063718147915776 (4503599627370496 - 1) = 3377699720527872 := by decide
@[go_sem] theorem bt4 : bits BinOp.or IntKind.u64 3377699720527872 4503599627370496 = 7881299347898368 := by decide
@[go_sem] theorem bt5 : bits BinOp.and IntKind.u64 4593671619917905920 4503599627370495 = 0 := by decide
@[go_sem] theorem bt5' : bits BinOp.and IntKind.u64 4593671619917905920 (4503599627370496 - 1) = 0 := by decide
@[go_sem] theorem bt6 : bits BinOp.or IntKind.u64 0 4503599627370496 = 4503599627370496 := by decide
set_option maxHeartbeats 2000000 in
set_option maxRecDepth 100000 in
theorem ftoa_35 (base c : Nat) (A : Option Addr) (w : World) (hW : Wd2 w) (hO : w.ownsRow base 5 1 (.slice A 0 c) 0 []) (hb : base ≤ w.heap.size) : Calls Tryz.prog 84 #[.slice A 0 c, .float .f64 4615063718147915776, .int .u8 102, .int .i64 2] w fun e' w' => ∃ A' c', e' = .returned (.slice A' 4 c') ∧ w'.ownsRow base 5 1 (.slice A' 4 c') 4 (bs [51, 46, 53, 48]) ∧ Below base w w' := by
  have o0 := hW.d.opt
  replace hW := Lib.hid hW; replace hO := Lib.hid hO; replace hb := Lib.hid hb
  go_enter Tryz.func84, Tryz.ntmps84
  go_wp2_with fail
  go_region_held3 (fun w' => w.grownBy w' none) (first | exact g_drew (World.grownBy.refl w none) | exact World.grownBy.refl w none | fail) (fail)
  go_wp2_with fail
  refine (log10_2 _).mono ?_
  rintro e w1 ⟨rfl, hw1⟩
  subst hw1
  go_wp2_with fail
  refine (len_a _).mono ?_
  rintro e w1 ⟨rfl, hw1⟩
  subst hw1
  go_wp2_with fail
  have B1 : BF (w.alloc (.cells #[.int .u8 0, .int .u8 0, .int .u8 0, .int .u8 0, .int .u8 0, .int .u8 0, .int .u8 0, .int .u8 0, .int .u8 0, .int .u8 0, .int .u8 0, .int .u8 0, .int .u8 0, .int .u8 0, .int .u8 0, .int .u8 0, .int .u8 0, .int .u8 0, .int .u8 0, .int .u8 0, .int .u8 0, .int .u8 0, .int .u8 0, .int .u8 0] 132)).drew w.heap.size 132 z24 := by
    unfold BF
    show (w.heap.push _)[w.heap.size]? = _
    simp
    rfl
  have g1 : w.grownBy (w.alloc (.cells #[.int .u8 0, .int .u8 0, .int .u8 0, .int .u8 0, .int .u8 0, .int .u8 0, .int .u8 0, .int .u8 0, .int .u8 0, .int .u8 0, .int .u8 0, .int .u8 0, .int .u8 0, .int .u8 0, .int .u8 0, .int .u8 0, .int .u8 0, .int .u8 0, .int .u8 0, .int .u8 0, .int .u8 0, .int .u8 0, .int .u8 0, .int .u8 0] 132)).drew none := g_drew (World.grownBy_alloc _ _ _)
  obtain ⟨b, hbe⟩ : ∃ n, n = w.heap.size := ⟨_, rfl⟩
  rw [← hbe] at B1
  rw [← hbe]
  have hr : ∀ g, some b = some g → w.heap.size ≤ g := fun g h => by injection h with h; omega
  refine (fixed_1 _ (hW.out.grown g1)).mono ?_
  rintro e w2 ⟨rfl, g2⟩
  have G2 : w.grownBy w2 none := g1.trans g2
  have B2 := B1.grown g2 (by simp)
  have hS2 := (Array.getElem?_eq_some_iff.1 B2).1
  replace hbe := Lib.hid hbe; replace hr := Lib.hid hr; replace G2 := Lib.hid G2; replace B2 := Lib.hid B2
  clear B1 g1 g2 hS2
  go_upto_region 74 with fail
  go_region_held3 (fun w' => w.grownBy w' none) (first | exact G2.out | exact g_drew G2.out | assumption | fail)
    ((first
      | (go_at_call 101; refine (numd_350 _ (hW.out.grown (by first | exact G2.out | exact g_drew G2.out))).mono ?_; rintro e w3 ⟨rfl, hw3⟩; subst hw3)
      | (go_at_call 100; refine (setd_350 b 132 _ (by first | exact B2.out | (have hq := B2.out; unfold BF at hq ⊢; exact hq))).mono ?_; rintro e w4 ⟨rfl, B4, g4⟩; have G4 := g_rows (by first | exact G2.out | exact g_drew G2.out) hr.out g4; replace B4 := Lib.hid B4; clear g4)
      | fail))
  have hI : FI w4 w4 base b 132 b350 [] (.slice A 0 c) := ⟨own_keep hO.out ‹w.grownBy w4 none›, B4.out, Below.refl _ _, Nat.le_trans hb.out (‹w.grownBy w4 none›).size, fun e => by have := (hO.out.lt b e).2; have := hbe.out; omega⟩
  have CF := fmt_350 base b c 132 A w4 hI
  replace CF := Lib.hid CF
  clear hI
  go_wp2_with fail
  refine CF.out.mono ?_
  rintro e w5 ⟨A', c', rfl, I5⟩
  replace I5 := Lib.hid I5
  go_wp2_with fail
  go_ret
  exact ⟨_, _, rfl, I5.out.o, (g_below0 ‹w.grownBy w4 none› hb.out).trans I5.out.bel⟩
set_option maxHeartbeats 2000000 in
set_option maxRecDepth 100000 in
theorem ftoa_0125 (base c : Nat) (A : Option Addr) (w : World) (hW : Wd2 w) (hO : w.ownsRow base 5 1 (.slice A 0 c) 0 []) (hb : base ≤ w.heap.size) : Calls Tryz.prog 84 #[.slice A 0 c, .float .f64 4593671619917905920, .int .u8 102, .int .i64 2] w fun e' w' => ∃ A' c', e' = .returned (.slice A' 4 c') ∧ w'.ownsRow base 5 1 (.slice A' 4 c') 4 (bs [48, 46, 49, 50]) ∧ Below base w w' := by
  have o0 := hW.d.opt
  replace hW := Lib.hid hW; replace hO := Lib.hid hO; replace hb := Lib.hid hb
  go_enter Tryz.func84, Tryz.ntmps84
  go_wp2_with fail
  go_region_held3 (fun w' => w.grownBy w' none) (first | exact g_drew (World.grownBy.refl w none) | exact World.grownBy.refl w none | fail) (fail)
  go_wp2_with fail
  refine (log10_3 _).mono ?_
  rintro e w1 ⟨rfl, hw1⟩
  subst hw1
  go_wp2_with fail
  refine (len_b _).mono ?_
  rintro e w1 ⟨rfl, hw1⟩
  subst hw1
  go_wp2_with fail
  have B1 : BF (w.alloc (.cells #[.int .u8 0, .int .u8 0, .int .u8 0, .int .u8 0, .int .u8 0, .int .u8 0, .int .u8 0, .int .u8 0, .int .u8 0, .int .u8 0, .int .u8 0, .int .u8 0, .int .u8 0, .int .u8 0, .int .u8 0, .int .u8 0, .int .u8 0, .int .u8 0, .int .u8 0, .int .u8 0, .int .u8 0, .int .u8 0, .int .u8 0, .int .u8 0] 132)).drew w.heap.size 132 z24 := by
    unfold BF
    show (w.heap.push _)[w.heap.size]? = _
    simp
    rfl
  have g1 : w.grownBy (w.alloc (.cells #[.int .u8 0, .int .u8 0, .int .u8 0, .int .u8 0, .int .u8 0, .int .u8 0, .int .u8 0, .int .u8 0, .int .u8 0, .int .u8 0, .int .u8 0, .int .u8 0, .int .u8 0, .int .u8 0, .int .u8 0, .int .u8 0, .int .u8 0, .int .u8 0, .int .u8 0, .int .u8 0, .int .u8 0, .int .u8 0, .int .u8 0, .int .u8 0] 132)).drew none := g_drew (World.grownBy_alloc _ _ _)
  obtain ⟨b, hbe⟩ : ∃ n, n = w.heap.size := ⟨_, rfl⟩
  rw [← hbe] at B1
  rw [← hbe]
  have hr : ∀ g, some b = some g → w.heap.size ≤ g := fun g h => by injection h with h; omega
  refine (fixed_2 _ (hW.out.grown g1)).mono ?_
  rintro e w2 ⟨rfl, g2⟩
  have G2 : w.grownBy w2 none := g1.trans g2
  have B2 := B1.grown g2 (by simp)
  have hS2 := (Array.getElem?_eq_some_iff.1 B2).1
  replace hbe := Lib.hid hbe; replace hr := Lib.hid hr; replace G2 := Lib.hid G2; replace B2 := Lib.hid B2
  clear B1 g1 g2 hS2
  go_upto_region 74 with fail
  go_region_held3 (fun w' => w.grownBy w' none) (first | exact G2.out | exact g_drew G2.out | assumption | fail)
    ((first
      | (go_at_call 101; refine (numd_12 _ (hW.out.grown (by first | exact G2.out | exact g_drew G2.out))).mono ?_; rintro e w3 ⟨rfl, hw3⟩; subst hw3)
      | (go_at_call 100; refine (setd_12 b 132 _ (by first | exact B2.out | (have hq := B2.out; unfold BF at hq ⊢; exact hq))).mono ?_; rintro e w4 ⟨rfl, B4, g4⟩; have G4 := g_rows (by first | exact G2.out | exact g_drew G2.out) hr.out g4; replace B4 := Lib.hid B4; clear g4)
      | fail))
  have hI : FI w4 w4 base b 132 b12 [] (.slice A 0 c) := ⟨own_keep hO.out ‹w.grownBy w4 none›, B4.out, Below.refl _ _, Nat.le_trans hb.out (‹w.grownBy w4 none›).size, fun e => by have := (hO.out.lt b e).2; have := hbe.out; omega⟩
  have CF := fmt_12 base b c 132 A w4 hI
  replace CF := Lib.hid CF
  clear hI
  go_wp2_with fail
  refine CF.out.mono ?_
  rintro e w5 ⟨A', c', rfl, I5⟩
  replace I5 := Lib.hid I5
  go_wp2_with fail
  go_ret
  exact ⟨_, _, rfl, I5.out.o, (g_below0 ‹w.grownBy w4 none› hb.out).trans I5.out.bel⟩
end Go.Proofs.YtmoofecphpknfaaGreatDoor
