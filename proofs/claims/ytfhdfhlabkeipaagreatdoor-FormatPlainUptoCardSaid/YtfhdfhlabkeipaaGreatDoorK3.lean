/- Format: what FormatFloat reckons with at 3.5. Turned from Calc by tools/mkFK.py. -/
import Derived.Test.YtfhdfhlabkeipaaGreatDoorK2
import Derived.Deep.Quiet
import Derived.BigQuiet
import Derived.Deep.DeepCutAuto
import Derived.Deep.CutBlock
namespace Go.Proofs.YtfhdfhlabkeipaaGreatDoor.K
open Go.RowKit
set_option linter.unusedSimpArgs false
set_option linter.unusedVariables false

theorem nn_3p5 (w : World) : Calls Tryz.prog 116 #[.float .f64 4615063718147915776] w fun e w' => e = .returned (.bool false) ∧ w' = w := by
  have hres : Tryz.f116.results = #[.tmp 2] := by kernel_rfl
  have o1 : FloatKind.f64.format.order 4615063718147915776 4615063718147915776 = some .eq := by decide
  replace hres := Lib.hid hres
  go_enter Tryz.func116, Tryz.ntmps116
  go_wp2_with fail
  refine bodyPost_ret (v := .bool false) ?_ rfl ⟨rfl, rfl⟩
  simp only [results, hres.out]
  simp
set_option maxHeartbeats 1000000 in
set_option maxRecDepth 100000 in
theorem cmp_div (w : World) : Calls Tryz.prog 84 #[.string ⟨#[47]⟩, .float .f64 0, .float .f64 0] w fun e w' => e = .returned (.tuple #[.bool false, .bool false]) ∧ w' = w := by
  have hres : Tryz.f84.results = #[.tmp 6, .tmp 7] := by kernel_rfl
  replace hres := Lib.hid hres
  go_enter Tryz.func84, Tryz.ntmps84
  go_wp2_with fail
  refine bodyPost_ret (v := .tuple #[.bool false, .bool false]) ?_ rfl ⟨rfl, rfl⟩
  simp only [results, hres.out]
  simp
set_option maxHeartbeats 1000000 in
set_option maxRecDepth 100000 in
theorem rec_one (w : World) : Calls Tryz.prog 85 #[.string ⟨#[47]⟩, .float .f64 4607182418800017408, .float .f64 4607182418800017408] w fun e w' => e = .returned (.tuple #[.float .f64 4607182418800017408, .bool true]) ∧ w' = w := by
  have hres : Tryz.f85.results = #[.tmp 6, .tmp 7] := by kernel_rfl
  have q2 := fun W => run_float_arith (P := Tryz.prog) W .quo 115 .f64 4607182418800017408 4607182418800017408 4607182418800017408 (by decide)
  replace hres := Lib.hid hres
  go_enter Tryz.func85, Tryz.ntmps85
  go_wp2_with fail
  refine bodyPost_ret (v := .tuple #[.float .f64 4607182418800017408, .bool true]) ?_ rfl ⟨rfl, rfl⟩
  simp only [results, hres.out]
  simp
set_option maxHeartbeats 1000000 in
set_option maxRecDepth 100000 in
theorem rec_72 (w : World) : Calls Tryz.prog 85 #[.string ⟨#[47]⟩, .float .f64 4619567317775286272, .float .f64 4611686018427387904] w fun e w' => e = .returned (.tuple #[.float .f64 4615063718147915776, .bool true]) ∧ w' = w := by
  have hres : Tryz.f85.results = #[.tmp 6, .tmp 7] := by kernel_rfl
  have q2 := fun W => run_float_arith (P := Tryz.prog) W .quo 115 .f64 4619567317775286272 4611686018427387904 4615063718147915776 (by decide)
  replace hres := Lib.hid hres
  go_enter Tryz.func85, Tryz.ntmps85
  go_wp2_with fail
  refine bodyPost_ret (v := .tuple #[.float .f64 4615063718147915776, .bool true]) ?_ rfl ⟨rfl, rfl⟩
  simp only [results, hres.out]
  simp
set_option maxHeartbeats 1000000 in
set_option maxRecDepth 100000 in
theorem len_a (w : World) : Calls Tryz.prog 178 #[.int .u64 7881299347898368] w fun e w' => e = .returned (.int .i64 53) ∧ w' = w := by
  have hres : Tryz.f178.results = #[.tmp 2] := by kernel_rfl
  replace hres := Lib.hid hres
  go_enter Tryz.func178, Tryz.ntmps178
  go_wp2_with fail
  refine bodyPost_ret (v := .int .i64 53) ?_ rfl ⟨rfl, rfl⟩
  simp only [results, hres.out]
  simp
  unfold wrap64
  kernel_rfl
set_option maxHeartbeats 1000000 in
set_option maxRecDepth 100000 in
theorem len_c (w : World) : Calls Tryz.prog 178 #[.int .u64 350] w fun e w' => e = .returned (.int .i64 9) ∧ w' = w := by
  have hres : Tryz.f178.results = #[.tmp 2] := by kernel_rfl
  replace hres := Lib.hid hres
  go_enter Tryz.func178, Tryz.ntmps178
  go_wp2_with fail
  refine bodyPost_ret (v := .int .i64 9) ?_ rfl ⟨rfl, rfl⟩
  simp only [results, hres.out]
  simp
  unfold wrap64
  kernel_rfl
set_option maxHeartbeats 1000000 in
set_option maxRecDepth 100000 in
theorem log10_2 (w : World) : Calls Tryz.prog 181 #[.int .i64 2] w fun e w' => e = .returned (.int .i64 0) ∧ w' = w := by
  have hres : Tryz.f181.results = #[.tmp 2] := by kernel_rfl
  replace hres := Lib.hid hres
  go_enter Tryz.func181, Tryz.ntmps181
  go_wp2_with fail
  refine bodyPost_ret (v := .int .i64 0) ?_ rfl ⟨rfl, rfl⟩
  simp only [results, hres.out]
  simp
set_option maxHeartbeats 1000000 in
set_option maxRecDepth 100000 in
theorem log10_1 (w : World) : Calls Tryz.prog 181 #[.int .i64 1] w fun e w' => e = .returned (.int .i64 0) ∧ w' = w := by
  have hres : Tryz.f181.results = #[.tmp 2] := by kernel_rfl
  replace hres := Lib.hid hres
  go_enter Tryz.func181, Tryz.ntmps181
  go_wp2_with fail
  refine bodyPost_ret (v := .int .i64 0) ?_ rfl ⟨rfl, rfl⟩
  simp only [results, hres.out]
  simp
set_option maxHeartbeats 1000000 in
set_option maxRecDepth 100000 in
theorem log10_9 (w : World) : Calls Tryz.prog 181 #[.int .i64 9] w fun e w' => e = .returned (.int .i64 2) ∧ w' = w := by
  have hres : Tryz.f181.results = #[.tmp 2] := by kernel_rfl
  replace hres := Lib.hid hres
  go_enter Tryz.func181, Tryz.ntmps181
  go_wp2_with fail
  refine bodyPost_ret (v := .int .i64 2) ?_ rfl ⟨rfl, rfl⟩
  simp only [results, hres.out]
  simp
set_option maxHeartbeats 1000000 in
set_option maxRecDepth 100000 in
theorem log2_2 (w : World) : Calls Tryz.prog 208 #[.int .i64 2] w fun e w' => e = .returned (.int .i64 6) ∧ w' = w := by
  have hres : Tryz.f208.results = #[.tmp 2] := by kernel_rfl
  replace hres := Lib.hid hres
  go_enter Tryz.func208, Tryz.ntmps208
  go_wp2_with fail
  refine bodyPost_ret (v := .int .i64 6) ?_ rfl ⟨rfl, rfl⟩
  simp only [results, hres.out]
  simp
set_option maxHeartbeats 1000000 in
set_option maxRecDepth 100000 in
theorem mul_1h (w : World) : Calls Tryz.prog 150 #[.int .u64 16140901064495857664, .int .u64 14411518807585587200] w fun e w' => e = .returned (.tuple #[.int .u64 12610078956637388800, .int .u64 0]) ∧ w' = w := by
  have hres : Tryz.f150.results = #[.tmp 4, .tmp 5] := by kernel_rfl
  have a0 : bits .and .u64 16140901064495857664 4294967295 = 0 := by decide
  have a1 : bits .and .u64 14411518807585587200 4294967295 = 0 := by decide
  have a2 : bits .and .u64 0 4294967295 = 0 := by decide
  replace hres := Lib.hid hres
  go_enter Tryz.func150, Tryz.ntmps150
  go_wp2_with fail
  refine bodyPost_ret (v := .tuple #[.int .u64 12610078956637388800, .int .u64 0]) ?_ rfl ⟨rfl, rfl⟩
  simp only [results, hres.out]
  simp
  decide
set_option maxHeartbeats 1000000 in
set_option maxRecDepth 100000 in
theorem mul_1l (w : World) : Calls Tryz.prog 150 #[.int .u64 16140901064495857664, .int .u64 0] w fun e w' => e = .returned (.tuple #[.int .u64 0, .int .u64 0]) ∧ w' = w := by
  have hres : Tryz.f150.results = #[.tmp 4, .tmp 5] := by kernel_rfl
  have a0 : bits .and .u64 16140901064495857664 4294967295 = 0 := by decide
  have a1 : bits .and .u64 0 4294967295 = 0 := by decide
  have a2 : bits .and .u64 0 4294967295 = 0 := by decide
  replace hres := Lib.hid hres
  go_enter Tryz.func150, Tryz.ntmps150
  go_wp2_with fail
  refine bodyPost_ret (v := .tuple #[.int .u64 0, .int .u64 0]) ?_ rfl ⟨rfl, rfl⟩
  simp only [results, hres.out]
  simp
set_option maxHeartbeats 1000000 in
set_option maxRecDepth 100000 in
theorem bool2i_true (w : World) : Calls Tryz.prog 187 #[.bool true] w fun e w' => e = .returned (.int .i64 1) ∧ w' = w := by
  have hres : Tryz.f187.results = #[.tmp 2] := by kernel_rfl
  replace hres := Lib.hid hres
  go_enter Tryz.func187, Tryz.ntmps187
  go_wp2_with fail
  refine bodyPost_ret (v := .int .i64 1) ?_ rfl ⟨rfl, rfl⟩
  simp only [results, hres.out]
  simp
set_option maxHeartbeats 1000000 in
set_option maxRecDepth 100000 in
theorem bool2r_false (w : World) : Calls Tryz.prog 230 #[.bool false] w fun e w' => e = .returned (.int .u64 0) ∧ w' = w := by
  have hres : Tryz.f230.results = #[.tmp 2] := by kernel_rfl
  replace hres := Lib.hid hres
  go_enter Tryz.func230, Tryz.ntmps230
  go_wp2_with fail
  refine bodyPost_ret (v := .int .u64 0) ?_ rfl ⟨rfl, rfl⟩
  simp only [results, hres.out]
  simp
set_option maxHeartbeats 1000000 in
set_option maxRecDepth 100000 in
theorem unmin_is (w : World) : Calls Tryz.prog 214 #[.int .u64 1000] w fun e w' => e = .returned (.int .u64 3998) ∧ w' = w := by
  have hres : Tryz.f214.results = #[.tmp 2] := by kernel_rfl
  replace hres := Lib.hid hres
  go_enter Tryz.func214, Tryz.ntmps214
  go_wp2_with fail
  refine bodyPost_ret (v := .int .u64 3998) ?_ rfl ⟨rfl, rfl⟩
  simp only [results, hres.out]
  simp
set_option maxHeartbeats 1000000 in
set_option maxRecDepth 100000 in
theorem round_1400 (w : World) : Calls Tryz.prog 213 #[.int .u64 1400] w fun e w' => e = .returned (.int .u64 350) ∧ w' = w := by
  have hres : Tryz.f213.results = #[.tmp 2] := by kernel_rfl
  have a0 : bits .and .u64 350 1 = 0 := by decide
  replace hres := Lib.hid hres
  go_enter Tryz.func213, Tryz.ntmps213
  go_wp2_with fail
  refine bodyPost_ret (v := .int .u64 350) ?_ rfl ⟨rfl, rfl⟩
  simp only [results, hres.out]
  simp
set_option maxHeartbeats 1000000 in
set_option maxRecDepth 100000 in
theorem numd_350 (w : World) (hW : Wd2 w) : Calls Tryz.prog 161 #[.int .u64 350] w fun e w' => e = .returned (.int .i64 3) ∧ w' = w := by
  have hres : Tryz.f161.results = #[.tmp 2] := by kernel_rfl
  have p2 := hW.p2
  replace hres := Lib.hid hres
  go_enter Tryz.func161, Tryz.ntmps161
  go_wp2_with fail
  refine (len_c _).mono ?_
  rintro e w1 ⟨rfl, rfl⟩
  go_wp2_with fail
  refine (log10_9 _).mono ?_
  rintro e w1 ⟨rfl, rfl⟩
  go_wp2_with fail
  refine (bool2i_true _).mono ?_
  rintro e w1 ⟨rfl, rfl⟩
  go_wp2_with fail
  refine bodyPost_ret (v := .int .i64 3) ?_ rfl ⟨rfl, rfl⟩
  simp only [results, hres.out]
  simp
@[go_sem] theorem neg_run (b : Nat) (W : World) : (Op.unary .neg (.float .f64 b)).run Tryz.prog W = .ok (.float .f64 (Op.negFloat .f64 b)) W := rfl
set_option maxHeartbeats 1000000 in
set_option maxRecDepth 100000 in
theorem inf_p3p5 (w : World) : Calls Tryz.prog 117 #[.float .f64 4615063718147915776, .int .i64 1] w fun e w' => e = .returned (.bool false) ∧ w' = w := by
  have hres : Tryz.f117.results = #[.tmp 4] := by kernel_rfl
  have o1 : FloatKind.f64.format.order 4615063718147915776 9218868437227405311 = some .lt := by decide
  replace hres := Lib.hid hres
  go_enter Tryz.func117, Tryz.ntmps117
  go_wp2_with fail
  refine bodyPost_ret (v := .bool false) ?_ rfl ⟨rfl, rfl⟩
  simp only [results, hres.out]
  simp
set_option maxHeartbeats 1000000 in
set_option maxRecDepth 100000 in
theorem inf_m3p5 (w : World) : Calls Tryz.prog 117 #[.float .f64 4615063718147915776, .int .i64 (-1)] w fun e w' => e = .returned (.bool false) ∧ w' = w := by
  have hres : Tryz.f117.results = #[.tmp 4] := by kernel_rfl
  have o0 : Op.negFloat .f64 4615063718147915776 = 13838435755002691584 := by decide
  have o1 : FloatKind.f64.format.order 13838435755002691584 9218868437227405311 = some .lt := by decide
  replace hres := Lib.hid hres
  go_enter Tryz.func117, Tryz.ntmps117
  go_wp2_with fail
  refine bodyPost_ret (v := .bool false) ?_ rfl ⟨rfl, rfl⟩
  simp only [results, hres.out]
  simp
theorem g_set {w w' : World} {p : Nat} (h : w.grownBy w' none) {a : Addr} (ha : a.block = p) (hp : w.heap.size ≤ p) (v : Value) : w.grownBy (w'.setCell a v) none :=
  ⟨h.os, h.tape, h.output, by simpa [World.setCell] using h.size, fun k hk hne => by
    rw [Below.heap_setCell _ _ _ _ (by rw [ha]; omega)]
    exact h.block k hk hne⟩
/-- A scaler in a block. -/
def SC (w : World) (b : Nat) (hi lo s : Int) : Prop := w.heap[b]? = some (.cells #[.int .u64 hi, .int .u64 lo, .int .i64 s] 257 (0, 0))
theorem SC.cells {w : World} {b : Nat} {hi lo s : Int} (h : SC w b hi lo s) : w.cell? ⟨b, 0, none⟩ = some (.int .u64 hi) ∧ w.cell? ⟨b, 1, none⟩ = some (.int .u64 lo) ∧ w.cell? ⟨b, 2, none⟩ = some (.int .i64 s) ∧ ∀ j, w.frozen? ⟨b, j, none⟩ = false := by
  unfold SC at h
  refine ⟨?_, ?_, ?_, fun j => ?_⟩
  all_goals first | (unfold World.cell?; rw [h]; rfl) | (unfold World.frozen?; rw [h]; simp)
theorem set_row {w w' : World} {b j : Nat} {v : Value} (g : w.grownBy w' (some b)) : w.grownBy (w'.setCell ⟨b, j, none⟩ v) (some b) :=
  ⟨g.os, g.tape, g.output, by simpa [World.setCell] using g.size, fun k hk hne => by
    have hkb : k ≠ b := fun e => hne (by rw [e])
    rw [Below.heap_setCell _ _ _ _ (by show k ≠ b; exact hkb)]
    exact g.block k hk hne⟩
theorem heap_set {w : World} {g j : Nat} {c : Array Value} {e : TypeId} {f : Nat × Nat} (h : w.heap[g]? = some (.cells c e f)) (v : Value) : (w.setCell ⟨g, j, none⟩ v).heap[g]? = some (.cells (c.setIfInBounds j v) e f) := by
  simp [World.setCell, Array.getElem?_modify, h]
set_option maxRecDepth 100000 in
theorem pre_scale2 (b : Nat) (w : World) (hW : Wd2 w) (hb : 14 ≤ b) (hS : SC w b 0 0 0) : Calls Tryz.prog 207 #[.pointer (some ⟨b, 0, none⟩), .int .i64 (-62), .int .i64 2, .int .i64 6] w fun e w' => (∃ v, e = .returned v) ∧ SC w' b 14411518807585587200 0 53 ∧ w.grownBy w' (some b) := by
  have t1 := hW.t2h
  have t2 := hW.t2l
  obtain ⟨x0, x1, x2, x3⟩ := hS.cells
  have f0 := x3 0; have f1 := x3 1; have f2 := x3 2
  have hne : ¬ 13 = b := by omega
  have hne2 : ¬ b = 13 := by omega
  have S1 := heap_set (j := 0) hS (.int .u64 14411518807585587200)
  have S2 := heap_set (j := 1) S1 (.int .u64 0)
  have S3 := heap_set (j := 2) S2 (.int .i64 53)
  replace S1 := Lib.hid S1; replace S2 := Lib.hid S2; replace S3 := Lib.hid S3; replace hS := Lib.hid hS; replace hW := Lib.hid hW
  clear x3
  go_enter Tryz.func207, Tryz.ntmps207
  go_wp2_with fail
  go_end0
  exact ⟨⟨_, rfl⟩, S3.out, set_row (set_row (set_row (World.grownBy.refl w (some b))))⟩
set_option maxHeartbeats 1000000 in
set_option maxRecDepth 100000 in
theorem uscale_1 (b : Nat) (w : World) (hS : SC w b 14411518807585587200 0 53) : Calls Tryz.prog 209 #[.int .u64 16140901064495857664, .pointer (some ⟨b, 0, none⟩)] w fun e w' => e = .returned (.int .u64 1400) ∧ w.grownBy w' none := by
  obtain ⟨x0, x1, x2, _⟩ := hS.cells
  have q0 : bits .and .i64 53 63 = 53 := by decide
  have q1 : bits .or .u64 1400 0 = 1400 := by decide
  replace hS := Lib.hid hS
  go_enter Tryz.func209, Tryz.ntmps209
  go_wp2_with fail
  refine (mul_1h _).mono ?_
  rintro e w1 ⟨rfl, rfl⟩
  go_wp2_with fail
  refine (mul_1l _).mono ?_
  rintro e w1 ⟨rfl, rfl⟩
  go_wp2_with fail
  refine (bool2_false _).mono ?_
  rintro e w1 ⟨rfl, rfl⟩
  go_upto_region 7 with fail
  go_quiet ((go_at_call 200; exact (bool2_false _).mono fun e w' h => ⟨h.1, _, h.2⟩))
  go_wp2_with fail
  go_ret
  exact ⟨rfl, ⟨rfl, rfl, rfl, Nat.le_refl _, fun k _ _ => rfl⟩⟩
theorem g_rows {w0 w1 w2 : World} {r : Option Nat} (h : w0.grownBy w1 none) (hr : ∀ g, r = some g → w0.heap.size ≤ g) (h2 : w1.grownBy w2 r) : w0.grownBy w2 none :=
  ⟨h2.os.trans h.os, h2.tape.trans h.tape, h2.output.trans h.output, Nat.le_trans h.size h2.size, fun k hk _ => (h2.block k (Nat.lt_of_lt_of_le hk h.size) (by intro e; have := hr k e.symm; omega)).trans (h.block k hk (by simp))⟩
theorem _root_.Go.Proofs.YtfhdfhlabkeipaaGreatDoor.Wd2.big {w : World} (h : Wd2 w) : 14 ≤ w.heap.size := by
  have := World.block_lt_of_cell? w _ h.t2h
  exact this
theorem SC.new (w : World) : SC (w.alloc (.cells #[.int .u64 0, .int .u64 0, .int .i64 0] 257)) w.heap.size 0 0 0 := by
  unfold SC
  show (w.heap.push _)[w.heap.size]? = _
  simp
set_option maxHeartbeats 1000000 in
set_option maxRecDepth 100000 in
theorem fixed_1 (w : World) (hW : Wd2 w) : Calls Tryz.prog 182 #[.int .u64 16140901064495857664, .int .i64 (-62), .int .i64 3, .int .i64 2, .int .u8 102] w fun e w' => e = .returned (.tuple #[.int .u64 350, .int .i64 (-2)]) ∧ w.grownBy w' none := by
  have hb := hW.big
  have S0 := SC.new w
  have g0 : w.grownBy (w.alloc (.cells #[.int .u64 0, .int .u64 0, .int .i64 0] 257)) none := World.grownBy_alloc _ _ _
  obtain ⟨W0, hW0⟩ : ∃ W, W = w.alloc (.cells #[.int .u64 0, .int .u64 0, .int .i64 0] 257) := ⟨_, rfl⟩
  obtain ⟨b, hbe⟩ : ∃ n, n = w.heap.size := ⟨_, rfl⟩
  rw [← hW0, ← hbe] at S0
  rw [← hW0] at g0
  have CP := pre_scale2 b W0 (hW.grown g0) (by omega) S0
  replace hW := Lib.hid hW; replace S0 := Lib.hid S0; replace g0 := Lib.hid g0; replace hW0 := Lib.hid hW0; replace hbe := Lib.hid hbe; replace CP := Lib.hid CP
  go_enter Tryz.func182, Tryz.ntmps182
  go_wp2_with fail
  refine (log10_1 _).mono ?_
  rintro e w1 ⟨rfl, rfl⟩
  go_wp2_with fail
  rw [← hW0.out, ← hbe.out]
  refine (log2_2 _).mono ?_
  rintro e w2 ⟨rfl, hw2⟩
  subst hw2
  go_wp2_with fail
  refine CP.out.mono ?_
  rintro e w3 ⟨⟨v, rfl⟩, S3, g3⟩
  have g3' := g_rows g0.out (fun g h => by injection h with h; have := hbe.out; omega) g3
  have CU := uscale_1 b w3 S3
  replace CU := Lib.hid CU; replace g3' := Lib.hid g3'
  clear g3 S3 CP
  go_wp2_with fail
  refine CU.out.mono ?_
  rintro e w4 ⟨rfl, g4⟩
  have G3 := g3'.out.trans g4
  have p3 := (hW.out.grown G3).p3
  replace G3 := Lib.hid G3
  clear g4 CU
  go_wp2_with fail
  refine (unmin_is _).mono ?_
  rintro e w5 ⟨rfl, hw5⟩
  subst hw5
  go_wp2_with fail
  refine wp_loop_in (loopWp_round ?_)
  go_wp2_with fail
  have G4 := G3
  refine (round_1400 _).mono ?_
  rintro e w6 ⟨rfl, hw6⟩
  subst hw6
  go_wp2_with fail
  go_ret2
  exact ⟨rfl, G4.out⟩
end Go.Proofs.YtfhdfhlabkeipaaGreatDoor.K
