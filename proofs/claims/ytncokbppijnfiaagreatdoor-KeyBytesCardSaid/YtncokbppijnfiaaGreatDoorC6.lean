/- Key: pointed: a mouse's sequence. -/
import Derived.Test.YtncokbppijnfiaaGreatDoorC5
import Derived.Test.YtncokbppijnfiaaGreatDoorC4
import Derived.Test.YtncokbppijnfiaaGreatDoorC6a
import Derived.Deep.RegionHeld3
namespace Go.Proofs.YtncokbppijnfiaaGreatDoor
open Go.RowKit
set_option linter.unusedSimpArgs false
set_option linter.unusedVariables false

theorem g_drewN {w w' : World} {r : Option Nat} (h : w.grownBy w' r) (n : Nat) : w.grownBy (w'.drewN n) r := ⟨h.os, h.tape, h.output, h.size, h.block⟩
/-- A mouse's key in a block of its own. -/
def MC (w : World) (b : Nat) (k : Ms) : Prop := w.heap[b]? = some (.cells #[.int .i64 k.c, .int .i64 k.m, .int .i64 k.b, .int .i64 k.x, .int .i64 k.y] 40 (0, 0))
section
variable {w w' : World} {b : Nat} {k : Ms}
theorem MC.lt (h : MC w b k) : b < w.heap.size := (Array.getElem?_eq_some_iff.1 h).1
theorem MC.grown (h : MC w b k) (g : w.grownBy w' none) : MC w' b k := (g.block b h.lt (by simp)).trans h
theorem MC.cells (h : MC w b k) : w.cell? ⟨b, 0, none⟩ = some (.int .i64 k.c) ∧ w.cell? ⟨b, 1, none⟩ = some (.int .i64 k.m) ∧ w.cell? ⟨b, 2, none⟩ = some (.int .i64 k.b) ∧ w.cell? ⟨b, 3, none⟩ = some (.int .i64 k.x) ∧ w.cell? ⟨b, 4, none⟩ = some (.int .i64 k.y) ∧ ∀ j, w.frozen? ⟨b, j, none⟩ = false := by
  unfold MC at h
  refine ⟨?_, ?_, ?_, ?_, ?_, fun j => ?_⟩
  all_goals first | (unfold World.cell?; rw [h]; rfl) | (unfold World.frozen?; rw [h]; simp)
theorem MC.new (w : World) (k : Ms) : MC (w.alloc (.cells #[.int .i64 k.c, .int .i64 k.m, .int .i64 k.b, .int .i64 k.x, .int .i64 k.y] 40)) w.heap.size k := heap_alloc_new w _
theorem heap_set {w : World} {g j : Nat} {c : Array Value} {e : TypeId} {f : Nat × Nat} (h : w.heap[g]? = some (.cells c e f)) (v : Value) : (w.setCell ⟨g, j, none⟩ v).heap[g]? = some (.cells (c.setIfInBounds j v) e f) := by
  simp [World.setCell, Array.getElem?_modify, h]
theorem set_grown {w w' : World} {b j : Nat} {v : Value} (g : w.grownBy w' none) (hb : w.heap.size ≤ b) : w.grownBy (w'.setCell ⟨b, j, none⟩ v) none :=
  ⟨g.os, g.tape, g.output, by simpa [World.setCell] using g.size, fun k hk hn => by
    rw [Below.heap_setCell _ _ _ _ (by show k ≠ b; omega)]
    exact g.block k hk hn⟩
def set5 (w : World) (b : Nat) (k : Ms) : World := ((((w.setCell ⟨b, 0, none⟩ (.int .i64 k.c)).setCell ⟨b, 1, none⟩ (.int .i64 k.m)).setCell ⟨b, 2, none⟩ (.int .i64 k.b)).setCell ⟨b, 3, none⟩ (.int .i64 k.x)).setCell ⟨b, 4, none⟩ (.int .i64 k.y)
theorem MC.set5 (h : MC w b k) (k' : Ms) : MC (set5 w b k') b k' := heap_set (heap_set (heap_set (heap_set (heap_set h _) _) _) _) _
theorem set5_grown {w w' : World} {b : Nat} (k : Ms) (g : w.grownBy w' none) (hb : w.heap.size ≤ b) : w.grownBy (set5 w' b k) none := set_grown (set_grown (set_grown (set_grown (set_grown g hb) hb) hb) hb) hb
theorem MC.other (h : MC w b k) {b' : Nat} (hb : b' ≠ b) (j : Nat) (v : Value) : MC (w.setCell ⟨b', j, none⟩ v) b k := by
  unfold MC at *
  rw [Below.heap_setCell _ _ _ _ (by show b ≠ b'; exact fun e => hb e.symm)]
  exact h
/-- What a mouse's numbers say. -/
def ptd (bb mm x y : Int) (z : UInt8) : Ms × Bool :=
  if bb ≤ 2 then (⟨if z = 109 then 1114137 else 1114136, mm, bb + 1, x - 1, y - 1⟩, true)
  else if 32 ≤ bb ∧ bb ≤ 34 then (⟨1114138, mm, bb - 31, x - 1, y - 1⟩, decide (z = 77))
  else if bb = 64 then (⟨1114139, mm, 0, x - 1, y - 1⟩, decide (z = 77))
  else if bb = 65 then (⟨1114140, mm, 0, x - 1, y - 1⟩, decide (z = 77))
  else (msNone, false)
theorem pointedL_ptd {q : List UInt8} {z : UInt8} {n x y bb mm : Int} (h : listedL q = some [n, x, y]) (hx : ¬ (x < 1 ∨ y < 1)) (hz : z = 77 ∨ z = 109) (hb : n / 32 * 32 + n % 4 = bb) (hm : n / 4 % 8 = mm) : pointedL q z = ptd bb mm x y z := by
  unfold pointedL
  rw [h]
  dsimp only
  rw [if_neg, hb, hm]
  · rfl
  · rintro (h' | h' | h')
    · exact hx (.inl h')
    · exact hx (.inr h')
    · rcases hz with e | e
      · exact h'.1 e
      · exact h'.2 e
theorem info40 : (Tryz.prog.info? 40).map (·.size) = some 5 := by kernel_rfl
theorem res_ms2 {fn : Func} {p q : Tmp} (h : fn.results = #[.cell p 40, .tmp q]) (tmps : Array Value) (hp : tmps.getD p undef = .pointer (some ⟨b, 0, none⟩)) (hm : MC w b k) {v : Value} (hq : tmps.getD q undef = v) :
    (results fn tmps).run Tryz.prog w = .ok (.tuple #[msV k, v]) w := by
  have hp' : tmps[p]?.getD undef = .pointer (some ⟨b, 0, none⟩) := by simpa using hp
  have hq' : tmps[q]?.getD undef = v := by simpa using hq
  simp [results, h, hp', hq', asAddr, run_loadVar_row w b 40 40 _ (0, 0) _ hm Tryz.underlying40 rfl (by rw [info40]; rfl)]
theorem res_ms1 {fn : Func} {p : Tmp} (h : fn.results = #[.cell p 40]) (tmps : Array Value) (hp : tmps.getD p undef = .pointer (some ⟨b, 0, none⟩)) (hm : MC w b k) :
    (results fn tmps).run Tryz.prog w = .ok (msV k) w :=
  results_cell_row h tmps w b 40 _ (0, 0) _ hp hm Tryz.underlying40 rfl (by rw [info40]; rfl)
theorem res_ms3 {fn : Func} {p q r : Tmp} (h : fn.results = #[.cell p 40, .tmp q, .tmp r]) (tmps : Array Value) (hp : tmps.getD p undef = .pointer (some ⟨b, 0, none⟩)) (hm : MC w b k) {u v : Value} (hq : tmps.getD q undef = u) (hr : tmps.getD r undef = v) :
    (results fn tmps).run Tryz.prog w = .ok (.tuple #[msV k, u, v]) w := by
  have hp' : tmps[p]?.getD undef = .pointer (some ⟨b, 0, none⟩) := by simpa using hp
  have hq' : tmps[q]?.getD undef = u := by simpa using hq
  have hr' : tmps[r]?.getD undef = v := by simpa using hr
  simp [results, h, hp', hq', hr', asAddr, run_loadVar_row w b 40 40 _ (0, 0) _ hm Tryz.underlying40 rfl (by rw [info40]; rfl)]
end

set_option maxHeartbeats 1000000 in
set_option maxRecDepth 100000 in
theorem pointed_any (q : List UInt8) (z : UInt8) (hq : q.length ≤ 100000) (hv : ∀ l, listedL q = some l → ∀ v ∈ l, 0 ≤ v ∧ v ≤ 9999) (w : World) (hW : Wd w) :
    Calls Tryz.prog 86 #[.string (st q), .int .u8 (z.toNat : Int)] w fun e w' => e = .returned (.tuple #[msV (pointedL q z).1, .bool (pointedL q z).2]) ∧ w.grownBy w' none := by
  have hres : Tryz.f86.results = #[.cell 4 40, .tmp 5] := by kernel_rfl
  have CL : Hid (∀ W, Wd W → Calls Tryz.prog 87 #[.string (st q)] W fun e w' => W.grownBy w' none ∧ ((listedL q = none ∧ e = .returned (.tuple #[.slice none 0 0, .bool false])) ∨ ∃ l A c, listedL q = some l ∧ l.length ≤ 100001 ∧ e = .returned (.tuple #[.slice A l.length c, .bool true]) ∧ Rd w' A (ints l))) := Lib.hid fun W h => listed_any q hq W h
  replace hv := Lib.hid hv
  obtain ⟨zi, hzi⟩ : ∃ i : Int, i = z.toNat := ⟨_, rfl⟩
  rw [← hzi]
  obtain ⟨W0, hW0⟩ : ∃ W, W = w.alloc (.cells #[.int .i64 0, .int .i64 0, .int .i64 0, .int .i64 0, .int .i64 0] 40) := ⟨_, rfl⟩
  have g0 : w.grownBy W0 none := by rw [hW0]; exact World.grownBy_alloc _ _ _
  obtain ⟨bR, hbR⟩ : ∃ n, n = w.heap.size := ⟨_, rfl⟩
  have hR0 : MC W0 bR msNone := by rw [hW0, hbR]; exact MC.new w msNone
  have CL0 := Lib.hid (CL.out W0 (hW.grown g0))
  obtain ⟨S, hS⟩ : ∃ S, S = st q := ⟨_, rfl⟩
  rw [← hS] at CL0 ⊢
  obtain ⟨PL, hPL⟩ : ∃ r, r = pointedL q z := ⟨_, rfl⟩
  rw [← hPL]
  replace hPL := Lib.hid hPL
  replace hW := Lib.hid hW; replace hq := Lib.hid hq; replace hres := Lib.hid hres; replace hW0 := Lib.hid hW0; replace hbR := Lib.hid hbR; replace hR0 := Lib.hid hR0; replace hzi := Lib.hid hzi; replace hS := Lib.hid hS
  clear CL
  go_enter Tryz.func86, Tryz.ntmps86
  go_wp2_with fail
  rw [← hW0.out, ← hbR.out]
  refine CL0.out.mono ?_
  rintro e w1 ⟨g1, hcase⟩
  have g01 := g0.trans g1
  have hR1 := hR0.out.grown g1
  replace g01 := Lib.hid g01; replace g1 := Lib.hid g1; replace hR1 := Lib.hid hR1
  clear CL0 g0
  rcases hcase with ⟨hno, rfl⟩ | ⟨l, A, c, hyes, hl5, rfl, hRd⟩
  · have hp : pointedL q z = (msNone, false) := by unfold pointedL; rw [hno]
    replace hp := Lib.hid hp; replace hno := Lib.hid hno
    go_upto_region 2 with fail
    go_quiet (fail)
    have hR2 := hR1.out.grown (g_drewN (World.grownBy.refl w1 none) nq)
    obtain ⟨x0, x1, x2, x3, x4, x5⟩ := hR2.cells
    have f0 := x5 0; have f1 := x5 1; have f2 := x5 2; have f3 := x5 3; have f4 := x5 4
    have G2 := g_drewN g01.out nq
    replace hR2 := Lib.hid hR2; replace G2 := Lib.hid G2
    generalize w1.drewN nq = w2 at *
    clear x5
    go_wp2_with fail
    refine bodyPost_ret (res_ms2 hres.out _ rfl (hR2.out.set5 msNone) rfl) rfl ⟨?_, ?_⟩
    · rw [hPL.out, hp.out]; rfl
    · exact set5_grown msNone G2.out (Nat.le_of_eq hbR.out.symm)
  · have hl100 : l.length ≤ 100001 := hl5
    obtain ⟨ln, hln⟩ : ∃ k, k = l.length := ⟨_, rfl⟩
    rw [← hln]
    by_cases h3 : ln = 3
    rotate_left
    · have hp : pointedL q z = (msNone, false) := by
        unfold pointedL; rw [hyes]
        rcases l with _ | ⟨a, _ | ⟨b, _ | ⟨c, _ | ⟨d, r⟩⟩⟩⟩ <;> first | rfl | (simp at hln; omega)
      have h3i : ((ln : Int) != 3) = true := by simp; omega
      replace hp := Lib.hid hp; replace hyes := Lib.hid hyes; replace hRd := Lib.hid hRd; replace hln := Lib.hid hln; replace h3 := Lib.hid h3
      go_upto_region 2 with fail
      go_quiet (fail)
      have hR2 := hR1.out.grown (g_drewN (World.grownBy.refl w1 none) nq)
      obtain ⟨x0, x1, x2, x3, x4, x5⟩ := hR2.cells
      have f0 := x5 0; have f1 := x5 1; have f2 := x5 2; have f3 := x5 3; have f4 := x5 4
      have G2 := g_drewN g01.out nq
      replace hR2 := Lib.hid hR2; replace G2 := Lib.hid G2
      generalize w1.drewN nq = w2 at *
      clear x5
      go_wp2_with fail
      refine bodyPost_ret (res_ms2 hres.out _ rfl (hR2.out.set5 msNone) rfl) rfl ⟨?_, ?_⟩
      · rw [hPL.out, hp.out]; rfl
      · exact set5_grown msNone G2.out (Nat.le_of_eq hbR.out.symm)
    obtain ⟨n, x, y, rfl⟩ : ∃ n x y, l = [n, x, y] := by
      rcases l with _ | ⟨a, _ | ⟨b, _ | ⟨c, _ | ⟨d, r⟩⟩⟩⟩ <;> first | exact ⟨_, _, _, rfl⟩ | (simp at hln; omega)
    subst h3
    clear hln hl100 hl5
    obtain ⟨bA, fA, rfl, _, a0⟩ := hRd.at_ (j := 0) (u := .int .i64 n) rfl
    obtain ⟨_, _, e1, _, a1⟩ := hRd.at_ (j := 1) (u := .int .i64 x) rfl
    cases e1
    obtain ⟨_, _, e2, _, a2⟩ := hRd.at_ (j := 2) (u := .int .i64 y) rfl
    cases e2
    replace hRd := Lib.hid hRd
    rw [Nat.add_zero] at a0
    by_cases hxy : x < 1 ∨ y < 1
    · have hp : pointedL q z = (msNone, false) := by
        unfold pointedL; rw [hyes]; dsimp only; rw [if_pos]
        rcases hxy with h | h
        · exact .inl h
        · exact .inr (.inl h)
      have hmin : decide (min x y < 1) = true := decide_eq_true (by omega)
      replace hp := Lib.hid hp; replace hyes := Lib.hid hyes; replace hxy := Lib.hid hxy
      go_upto_region 2 with fail
      go_quiet (fail)
      have hR2 := hR1.out.grown (g_drewN (World.grownBy.refl w1 none) nq)
      obtain ⟨x0, x1, x2, x3, x4, x5⟩ := hR2.cells
      have f0 := x5 0; have f1 := x5 1; have f2 := x5 2; have f3 := x5 3; have f4 := x5 4
      have G2 := g_drewN g01.out nq
      replace hR2 := Lib.hid hR2; replace G2 := Lib.hid G2
      generalize w1.drewN nq = w2 at *
      clear x5
      go_wp2_with fail
      refine bodyPost_ret (res_ms2 hres.out _ rfl (hR2.out.set5 msNone) rfl) rfl ⟨?_, ?_⟩
      · rw [hPL.out, hp.out]; rfl
      · exact set5_grown msNone G2.out (Nat.le_of_eq hbR.out.symm)
    have hmin : decide (min x y < 1) = false := decide_eq_false (by omega)
    by_cases hz : zi ≠ 77 ∧ zi ≠ 109
    · have hp : pointedL q z = (msNone, false) := by
        unfold pointedL; rw [hyes]; dsimp only; rw [if_pos]
        refine .inr (.inr ⟨fun e => hz.1 ?_, fun e => hz.2 ?_⟩) <;> (rw [hzi.out, e]; rfl)
      have z1 : (zi != 77) = true := by simpa using hz.1
      have z2 : (zi != 109) = true := by simpa using hz.2
      replace hp := Lib.hid hp; replace hyes := Lib.hid hyes; replace hz := Lib.hid hz; replace hxy := Lib.hid hxy
      go_upto_region 2 with fail
      go_quiet (fail)
      have hR2 := hR1.out.grown (g_drewN (World.grownBy.refl w1 none) nq)
      obtain ⟨x0, x1, x2, x3, x4, x5⟩ := hR2.cells
      have f0 := x5 0; have f1 := x5 1; have f2 := x5 2; have f3 := x5 3; have f4 := x5 4
      have G2 := g_drewN g01.out nq
      replace hR2 := Lib.hid hR2; replace G2 := Lib.hid G2
      generalize w1.drewN nq = w2 at *
      clear x5
      go_wp2_with fail
      refine bodyPost_ret (res_ms2 hres.out _ rfl (hR2.out.set5 msNone) rfl) rfl ⟨?_, ?_⟩
      · rw [hPL.out, hp.out]; rfl
      · exact set5_grown msNone G2.out (Nat.le_of_eq hbR.out.symm)
    have hv3 := hv.out _ hyes
    have hn9 := hv3 n (by simp)
    have hx9 := hv3 x (by simp)
    have hy9 := hv3 y (by simp)
    clear hv3
    obtain ⟨nn, rfl⟩ : ∃ k : Nat, n = (k : Int) := ⟨n.toNat, by omega⟩
    have hn10 : nn < 10000 := by omega
    obtain ⟨mm, hmm⟩ : ∃ m : Int, m = ((nn / 4 % 8 : Nat) : Int) := ⟨_, rfl⟩
    obtain ⟨bb, hbb⟩ : ∃ b : Int, b = ((nn / 32 * 32 + nn % 4 : Nat) : Int) := ⟨_, rfl⟩
    have hand : bits .and .i64 ((nn / 4 : Nat) : Int) 7 = mm := by rw [hmm]; exact and7 _ (by omega)
    have hdiv : (nn : Int) / 4 = ((nn / 4 : Nat) : Int) := by omega
    rw [← hdiv] at hand
    have handn : bits .andNot .i64 (nn : Int) 28 = bb := by rw [hbb]; exact andNot28 nn hn10
    have hw1 : IntKind.i64.wrap (x - 1) = x - 1 := by rw [IntKind.wrap_i64]; omega
    have hw2 : IntKind.i64.wrap (y - 1) = y - 1 := by rw [IntKind.wrap_i64]; omega
    have hw3 : IntKind.i64.wrap (bb + 1) = bb + 1 := by rw [IntKind.wrap_i64]; omega
    have hw4 : IntKind.i64.wrap (bb - 31) = bb - 31 := by rw [IntKind.wrap_i64]; omega
    have hbI : (nn : Int) / 32 * 32 + (nn : Int) % 4 = bb := by rw [hbb]; omega
    have hmI : (nn : Int) / 4 % 8 = mm := by rw [hmm]; omega
    replace hbI := Lib.hid hbI; replace hmI := Lib.hid hmI
    replace hdiv := Lib.hid hdiv; replace hmm := Lib.hid hmm; replace hbb := Lib.hid hbb
    replace hyes := Lib.hid hyes; replace hxy := Lib.hid hxy
    have G1 := g01.out
    have hb1 : bR < w1.heap.size := hR1.out.lt
    replace G1 := Lib.hid G1
    obtain ⟨zb, hzb⟩ : ∃ b : Bool, b = (zi != 77) := ⟨_, rfl⟩
    have hzz : zi = 77 ∨ zi = 109 := by omega
    replace hz := Lib.hid hz
    clear hzb zb
    rcases hzz with hz7 | hz7
    · subst hz7
      have hzu : z = 77 := UInt8.toNat_inj.1 (by have := hzi.out; show z.toNat = 77; omega)
      have hpt : pointedL q z = ptd bb mm x y 77 := (pointedL_ptd (z := z) hyes.out hxy.out (by rw [hzu]; simp) hbI.out hmI.out).trans (by rw [hzu])
      replace hpt := Lib.hid hpt; replace hzu := Lib.hid hzu
      go_upto_region 2 with fail
      go_quiet (fail)
      have a0' : (w1.drewN nq).cell? ⟨bA, fA, none⟩ = some (.int .i64 (nn : Int)) := a0
      have a1' : (w1.drewN nq).cell? ⟨bA, fA + 1, none⟩ = some (.int .i64 x) := a1
      have a2' : (w1.drewN nq).cell? ⟨bA, fA + 2, none⟩ = some (.int .i64 y) := a2
      have hR2 := hR1.out.grown (g_drewN (World.grownBy.refl w1 none) nq)
      have G2 := g_drewN g01.out nq
      replace hR2 := Lib.hid hR2; replace G2 := Lib.hid G2
      clear a0 a1 a2 hR1 G1 hb1
      generalize w1.drewN nq = w2 at *
      go_upto_region 4 with fail
      go_region_held3 (fun w' => w'.cell? ⟨bA, fA, none⟩ = some (.int .i64 (nn : Int)) ∧ w'.cell? ⟨bA, fA + 1, none⟩ = some (.int .i64 x) ∧ w'.cell? ⟨bA, fA + 2, none⟩ = some (.int .i64 y))
        (first | go_keep | fail)
        ((first | fail))
      obtain ⟨W3, hW3⟩ : ∃ W, W = (w2.alloc (.cells #[.int .i64 0, .int .i64 mm, .int .i64 0, .int .i64 (x - 1), .int .i64 (y - 1)] 40)).drew := ⟨_, rfl⟩
      rw [← hW3]
      obtain ⟨bM, hbM⟩ : ∃ k, k = w2.heap.size := ⟨_, rfl⟩
      rw [← hbM]
      have hM3 : MC W3 bM ⟨0, mm, 0, x - 1, y - 1⟩ := by rw [hW3, hbM]; exact MC.new w2 ⟨0, mm, 0, x - 1, y - 1⟩
      have g23 : w2.grownBy W3 none := by rw [hW3]; exact g_drew (World.grownBy_alloc _ _ _)
      have hR3 := hR2.out.grown g23
      have G3 := G2.out.trans g23
      have hne : bR ≠ bM := by have := hR2.out.lt; omega
      have hne' : ¬ bM = bR := fun e => hne e.symm
      have e0 := g23.cell a0' (by simp)
      obtain ⟨x0, x1, x2, x3, x4, x5⟩ := hR3.cells
      obtain ⟨y0, y1, y2, y3, y4, y5⟩ := hM3.cells
      have f0 := x5 0; have f1 := x5 1; have f2 := x5 2; have f3 := x5 3; have f4 := x5 4
      have h0 := y5 0; have h2 := y5 2
      have hwM : w.heap.size ≤ bM := by have := G2.out.size; omega
      have hwR : w.heap.size ≤ bR := Nat.le_of_eq hbR.out.symm
      replace hM3 := Lib.hid hM3; replace g23 := Lib.hid g23; replace hR3 := Lib.hid hR3; replace G3 := Lib.hid G3; replace hW3 := Lib.hid hW3; replace hbM := Lib.hid hbM; replace hwM := Lib.hid hwM; replace hwR := Lib.hid hwR
      clear a0' a1' a2' x5 y5
      by_cases hb2 : bb ≤ 2
      · skip
        have hP : ptd bb mm x y 77 = ((⟨1114136, mm, bb + 1, x - 1, y - 1⟩ : Ms), true) := by unfold ptd; rw [if_pos hb2]; rfl
        replace hP := Lib.hid hP
        go_wp2_with fail
        refine bodyPost_ret (res_ms2 hres.out _ rfl (((hR3.out.other hne' 0 (.int .i64 1114136)).other hne' 2 (.int .i64 (bb + 1))).set5 (⟨1114136, mm, bb + 1, x - 1, y - 1⟩ : Ms)) rfl) rfl ⟨?_, ?_⟩
        · rw [hPL.out, hpt.out, hP.out]; rfl
        · exact set5_grown (⟨1114136, mm, bb + 1, x - 1, y - 1⟩ : Ms) (set_grown (set_grown G3.out hwM.out (j := 0) (v := .int .i64 1114136)) hwM.out (j := 2) (v := .int .i64 (bb + 1))) hwR.out
      by_cases hb3 : 32 ≤ bb ∧ bb ≤ 34
      · obtain ⟨h5, h6⟩ := hb3
        have hP : ptd bb mm x y 77 = ((⟨1114138, mm, bb - 31, x - 1, y - 1⟩ : Ms), true) := by unfold ptd; rw [if_neg hb2, if_pos ⟨h5, h6⟩]; rfl
        replace hP := Lib.hid hP
        go_wp2_with fail
        refine bodyPost_ret (res_ms2 hres.out _ rfl (((hR3.out.other hne' 0 (.int .i64 1114138)).other hne' 2 (.int .i64 (bb - 31))).set5 (⟨1114138, mm, bb - 31, x - 1, y - 1⟩ : Ms)) rfl) rfl ⟨?_, ?_⟩
        · rw [hPL.out, hpt.out, hP.out]; rfl
        · exact set5_grown (⟨1114138, mm, bb - 31, x - 1, y - 1⟩ : Ms) (set_grown (set_grown G3.out hwM.out (j := 0) (v := .int .i64 1114138)) hwM.out (j := 2) (v := .int .i64 (bb - 31))) hwR.out
      by_cases hb4 : bb = 64
      · subst hb4
        have hP : ptd 64 mm x y 77 = ((⟨1114139, mm, 0, x - 1, y - 1⟩ : Ms), true) := by unfold ptd; rfl
        replace hP := Lib.hid hP
        go_wp2_with fail
        refine bodyPost_ret (res_ms2 hres.out _ rfl ((hR3.out.other hne' 0 (.int .i64 1114139)).set5 (⟨1114139, mm, 0, x - 1, y - 1⟩ : Ms)) rfl) rfl ⟨?_, ?_⟩
        · rw [hPL.out, hpt.out, hP.out]; rfl
        · exact set5_grown (⟨1114139, mm, 0, x - 1, y - 1⟩ : Ms) (set_grown G3.out hwM.out (j := 0) (v := .int .i64 1114139)) hwR.out
      by_cases hb5 : bb = 65
      · subst hb5
        have hP : ptd 65 mm x y 77 = ((⟨1114140, mm, 0, x - 1, y - 1⟩ : Ms), true) := by unfold ptd; rfl
        replace hP := Lib.hid hP
        go_wp2_with fail
        refine bodyPost_ret (res_ms2 hres.out _ rfl ((hR3.out.other hne' 0 (.int .i64 1114140)).set5 (⟨1114140, mm, 0, x - 1, y - 1⟩ : Ms)) rfl) rfl ⟨?_, ?_⟩
        · rw [hPL.out, hpt.out, hP.out]; rfl
        · exact set5_grown (⟨1114140, mm, 0, x - 1, y - 1⟩ : Ms) (set_grown G3.out hwM.out (j := 0) (v := .int .i64 1114140)) hwR.out
      have hP : ptd bb mm x y 77 = (msNone, false) := by unfold ptd; rw [if_neg hb2, if_neg hb3, if_neg hb4, if_neg hb5]
      replace hP := Lib.hid hP
      have hb3' : bb < 32 ∨ 34 < bb := by omega
      replace hb3 := Lib.hid hb3
      rcases hb3' with hb3' | hb3'
      all_goals
        go_wp2_with fail
        refine bodyPost_ret (res_ms2 hres.out _ rfl (hR3.out.set5 msNone) rfl) rfl ⟨?_, ?_⟩
        · rw [hPL.out, hpt.out, hP.out]; rfl
        · exact set5_grown msNone G3.out hwR.out
    · subst hz7
      have hzu : z = 109 := UInt8.toNat_inj.1 (by have := hzi.out; show z.toNat = 109; omega)
      have hpt : pointedL q z = ptd bb mm x y 109 := (pointedL_ptd (z := z) hyes.out hxy.out (by rw [hzu]; simp) hbI.out hmI.out).trans (by rw [hzu])
      replace hpt := Lib.hid hpt; replace hzu := Lib.hid hzu
      go_upto_region 2 with fail
      go_quiet (fail)
      have a0' : (w1.drewN nq).cell? ⟨bA, fA, none⟩ = some (.int .i64 (nn : Int)) := a0
      have a1' : (w1.drewN nq).cell? ⟨bA, fA + 1, none⟩ = some (.int .i64 x) := a1
      have a2' : (w1.drewN nq).cell? ⟨bA, fA + 2, none⟩ = some (.int .i64 y) := a2
      have hR2 := hR1.out.grown (g_drewN (World.grownBy.refl w1 none) nq)
      have G2 := g_drewN g01.out nq
      replace hR2 := Lib.hid hR2; replace G2 := Lib.hid G2
      clear a0 a1 a2 hR1 G1 hb1
      generalize w1.drewN nq = w2 at *
      go_upto_region 4 with fail
      go_region_held3 (fun w' => w'.cell? ⟨bA, fA, none⟩ = some (.int .i64 (nn : Int)) ∧ w'.cell? ⟨bA, fA + 1, none⟩ = some (.int .i64 x) ∧ w'.cell? ⟨bA, fA + 2, none⟩ = some (.int .i64 y))
        (first | go_keep | fail)
        ((first | fail))
      obtain ⟨W3, hW3⟩ : ∃ W, W = (w2.alloc (.cells #[.int .i64 0, .int .i64 mm, .int .i64 0, .int .i64 (x - 1), .int .i64 (y - 1)] 40)).drew := ⟨_, rfl⟩
      rw [← hW3]
      obtain ⟨bM, hbM⟩ : ∃ k, k = w2.heap.size := ⟨_, rfl⟩
      rw [← hbM]
      have hM3 : MC W3 bM ⟨0, mm, 0, x - 1, y - 1⟩ := by rw [hW3, hbM]; exact MC.new w2 ⟨0, mm, 0, x - 1, y - 1⟩
      have g23 : w2.grownBy W3 none := by rw [hW3]; exact g_drew (World.grownBy_alloc _ _ _)
      have hR3 := hR2.out.grown g23
      have G3 := G2.out.trans g23
      have hne : bR ≠ bM := by have := hR2.out.lt; omega
      have hne' : ¬ bM = bR := fun e => hne e.symm
      have e0 := g23.cell a0' (by simp)
      obtain ⟨x0, x1, x2, x3, x4, x5⟩ := hR3.cells
      obtain ⟨y0, y1, y2, y3, y4, y5⟩ := hM3.cells
      have f0 := x5 0; have f1 := x5 1; have f2 := x5 2; have f3 := x5 3; have f4 := x5 4
      have h0 := y5 0; have h2 := y5 2
      have hwM : w.heap.size ≤ bM := by have := G2.out.size; omega
      have hwR : w.heap.size ≤ bR := Nat.le_of_eq hbR.out.symm
      replace hM3 := Lib.hid hM3; replace g23 := Lib.hid g23; replace hR3 := Lib.hid hR3; replace G3 := Lib.hid G3; replace hW3 := Lib.hid hW3; replace hbM := Lib.hid hbM; replace hwM := Lib.hid hwM; replace hwR := Lib.hid hwR
      clear a0' a1' a2' x5 y5
      by_cases hb2 : bb ≤ 2
      · skip
        have hP : ptd bb mm x y 109 = ((⟨1114137, mm, bb + 1, x - 1, y - 1⟩ : Ms), true) := by unfold ptd; rw [if_pos hb2]; rfl
        replace hP := Lib.hid hP
        go_wp2_with fail
        refine bodyPost_ret (res_ms2 hres.out _ rfl ((((hR3.out.other hne' 0 (.int .i64 1114136)).other hne' 2 (.int .i64 (bb + 1))).other hne' 0 (.int .i64 1114137)).set5 (⟨1114137, mm, bb + 1, x - 1, y - 1⟩ : Ms)) rfl) rfl ⟨?_, ?_⟩
        · rw [hPL.out, hpt.out, hP.out]; rfl
        · exact set5_grown (⟨1114137, mm, bb + 1, x - 1, y - 1⟩ : Ms) (set_grown (set_grown (set_grown G3.out hwM.out (j := 0) (v := .int .i64 1114136)) hwM.out (j := 2) (v := .int .i64 (bb + 1))) hwM.out (j := 0) (v := .int .i64 1114137)) hwR.out
      by_cases hb3 : 32 ≤ bb ∧ bb ≤ 34
      · obtain ⟨h5, h6⟩ := hb3
        have hP : ptd bb mm x y 109 = ((⟨1114138, mm, bb - 31, x - 1, y - 1⟩ : Ms), false) := by unfold ptd; rw [if_neg hb2, if_pos ⟨h5, h6⟩]; rfl
        replace hP := Lib.hid hP
        go_wp2_with fail
        refine bodyPost_ret (res_ms2 hres.out _ rfl (((hR3.out.other hne' 0 (.int .i64 1114138)).other hne' 2 (.int .i64 (bb - 31))).set5 (⟨1114138, mm, bb - 31, x - 1, y - 1⟩ : Ms)) rfl) rfl ⟨?_, ?_⟩
        · rw [hPL.out, hpt.out, hP.out]; rfl
        · exact set5_grown (⟨1114138, mm, bb - 31, x - 1, y - 1⟩ : Ms) (set_grown (set_grown G3.out hwM.out (j := 0) (v := .int .i64 1114138)) hwM.out (j := 2) (v := .int .i64 (bb - 31))) hwR.out
      by_cases hb4 : bb = 64
      · subst hb4
        have hP : ptd 64 mm x y 109 = ((⟨1114139, mm, 0, x - 1, y - 1⟩ : Ms), false) := by unfold ptd; rfl
        replace hP := Lib.hid hP
        go_wp2_with fail
        refine bodyPost_ret (res_ms2 hres.out _ rfl ((hR3.out.other hne' 0 (.int .i64 1114139)).set5 (⟨1114139, mm, 0, x - 1, y - 1⟩ : Ms)) rfl) rfl ⟨?_, ?_⟩
        · rw [hPL.out, hpt.out, hP.out]; rfl
        · exact set5_grown (⟨1114139, mm, 0, x - 1, y - 1⟩ : Ms) (set_grown G3.out hwM.out (j := 0) (v := .int .i64 1114139)) hwR.out
      by_cases hb5 : bb = 65
      · subst hb5
        have hP : ptd 65 mm x y 109 = ((⟨1114140, mm, 0, x - 1, y - 1⟩ : Ms), false) := by unfold ptd; rfl
        replace hP := Lib.hid hP
        go_wp2_with fail
        refine bodyPost_ret (res_ms2 hres.out _ rfl ((hR3.out.other hne' 0 (.int .i64 1114140)).set5 (⟨1114140, mm, 0, x - 1, y - 1⟩ : Ms)) rfl) rfl ⟨?_, ?_⟩
        · rw [hPL.out, hpt.out, hP.out]; rfl
        · exact set5_grown (⟨1114140, mm, 0, x - 1, y - 1⟩ : Ms) (set_grown G3.out hwM.out (j := 0) (v := .int .i64 1114140)) hwR.out
      have hP : ptd bb mm x y 109 = (msNone, false) := by unfold ptd; rw [if_neg hb2, if_neg hb3, if_neg hb4, if_neg hb5]
      replace hP := Lib.hid hP
      have hb3' : bb < 32 ∨ 34 < bb := by omega
      replace hb3 := Lib.hid hb3
      rcases hb3' with hb3' | hb3'
      all_goals
        go_wp2_with fail
        refine bodyPost_ret (res_ms2 hres.out _ rfl (hR3.out.set5 msNone) rfl) rfl ⟨?_, ?_⟩
        · rw [hPL.out, hpt.out, hP.out]; rfl
        · exact set5_grown msNone G3.out hwR.out
end Go.Proofs.YtncokbppijnfiaaGreatDoor
