/- Key: a key in a block; plain, Name. -/
import Derived.Test.YtncokbppijnfiaaGreatDoorC3
import Derived.Test.YtncokbppijnfiaaGreatDoorC6
import Derived.Test.YtncokbppijnfiaaGreatDoorK1
namespace Go.Proofs.YtncokbppijnfiaaGreatDoor
open Go.RowKit
set_option linter.unusedSimpArgs false
set_option linter.unusedVariables false

/-- A key in a block of its own. -/
def KC (w : World) (b : Nat) (c m : Int) : Prop := w.heap[b]? = some (.cells #[.int .i64 c, .int .i64 m] 23 (0, 0))
section
variable {w w' : World} {b : Nat} {c m : Int}
theorem KC.lt (h : KC w b c m) : b < w.heap.size := (Array.getElem?_eq_some_iff.1 h).1
theorem KC.grown (h : KC w b c m) (g : w.grownBy w' none) : KC w' b c m := (g.block b h.lt (by simp)).trans h
theorem KC.cells (h : KC w b c m) : w.cell? ⟨b, 0, none⟩ = some (.int .i64 c) ∧ w.cell? ⟨b, 1, none⟩ = some (.int .i64 m) ∧ ∀ j, w.frozen? ⟨b, j, none⟩ = false := by
  unfold KC at h
  refine ⟨?_, ?_, fun j => ?_⟩
  all_goals first | (unfold World.cell?; rw [h]; rfl) | (unfold World.frozen?; rw [h]; simp)
theorem KC.new (w : World) (c m : Int) : KC (w.alloc (.cells #[.int .i64 c, .int .i64 m] 23)) w.heap.size c m := heap_alloc_new w _
theorem KC.set0 (h : KC w b c m) (x : Int) : KC (w.setCell ⟨b, 0, none⟩ (.int .i64 x)) b x m := heap_set h _
theorem KC.set1 (h : KC w b c m) (x : Int) : KC (w.setCell ⟨b, 1, none⟩ (.int .i64 x)) b c x := heap_set h _
def set2 (w : World) (b : Nat) (c m : Int) : World := (w.setCell ⟨b, 0, none⟩ (.int .i64 c)).setCell ⟨b, 1, none⟩ (.int .i64 m)
theorem KC.set2 (h : KC w b c m) (c' m' : Int) : KC (set2 w b c' m') b c' m' := heap_set (heap_set h _) _
theorem set2_grown {w w' : World} {b : Nat} (c m : Int) (g : w.grownBy w' none) (hb : w.heap.size ≤ b) : w.grownBy (set2 w' b c m) none := set_grown (set_grown g hb) hb
theorem KC.other (h : KC w b c m) {b' : Nat} (hb : b' ≠ b) (j : Nat) (v : Value) : KC (w.setCell ⟨b', j, none⟩ v) b c m := by
  unfold KC at *
  rw [Below.heap_setCell _ _ _ _ (by show b ≠ b'; exact fun e => hb e.symm)]
  exact h
theorem info23 : (Tryz.prog.info? 23).map (·.size) = some 2 := by kernel_rfl
theorem res_k2 {fn : Func} {p q : Tmp} (h : fn.results = #[.cell p 23, .tmp q]) (tmps : Array Value) (hp : tmps.getD p undef = .pointer (some ⟨b, 0, none⟩)) (hm : KC w b c m) {v : Value} (hq : tmps.getD q undef = v) :
    (results fn tmps).run Tryz.prog w = .ok (.tuple #[keyV c m, v]) w := by
  have hp' : tmps[p]?.getD undef = .pointer (some ⟨b, 0, none⟩) := by simpa using hp
  have hq' : tmps[q]?.getD undef = v := by simpa using hq
  simp [results, h, hp', hq', asAddr, run_loadVar_row w b 23 23 _ (0, 0) _ hm Tryz.underlying23 rfl (by rw [info23]; rfl)]
theorem res_k1 {fn : Func} {p : Tmp} (h : fn.results = #[.cell p 23]) (tmps : Array Value) (hp : tmps.getD p undef = .pointer (some ⟨b, 0, none⟩)) (hm : KC w b c m) :
    (results fn tmps).run Tryz.prog w = .ok (keyV c m) w :=
  results_cell_row h tmps w b 23 _ (0, 0) _ hp hm Tryz.underlying23 rfl (by rw [info23]; rfl)
end
theorem and_bits {m k : Nat} (hm : m < 65536) (hk : k < 65536) : bits .and .i64 (m : Int) (k : Int) = ((m &&& k : Nat) : Int) := by
  show IntKind.i64.wrap ((BitVec.ofInt 64 (m : Int) &&& BitVec.ofInt 64 (k : Int)).toNat : Int) = _
  rw [BitVec.toNat_and, BitVec.ofInt_natCast, BitVec.ofInt_natCast, BitVec.toNat_ofNat, BitVec.toNat_ofNat, Nat.mod_eq_of_lt (by omega), Nat.mod_eq_of_lt (by omega)]
  have : m &&& k ≤ m := Nat.and_le_left
  rw [IntKind.wrap_i64]; omega
set_option maxHeartbeats 1000000 in
set_option maxRecDepth 100000 in
/-- plain, of a key with Ctrl. -/
theorem plain_any (c m : Int) (hc : I64 c) (hm : 4 ≤ m ∧ m ≤ 7) (w : World) : Calls Tryz.prog 24 #[keyV c m] w fun e w' => e = .returned (keyV (plainK c m).1 (plainK c m).2) ∧ w.grownBy w' none := by
  have hres : Tryz.f24.results = #[.cell 2 23] := by kernel_rfl
  have hb : bits .andNot .i64 m 4 = m - 4 := by
    have h : m = 4 ∨ m = 5 ∨ m = 6 ∨ m = 7 := by omega
    rcases h with rfl | rfl | rfl | rfl <;> rfl
  obtain ⟨W0, hW0⟩ : ∃ W, W = (w.alloc (.cells #[.int .i64 c, .int .i64 m] 23)).alloc (.cells #[.int .i64 0, .int .i64 0] 23) := ⟨_, rfl⟩
  obtain ⟨bR, hbR⟩ : ∃ n, n = w.heap.size + 1 := ⟨_, rfl⟩
  obtain ⟨bK, hbK⟩ : ∃ n, n = w.heap.size := ⟨_, rfl⟩
  have g0 : w.grownBy W0 none := by rw [hW0]; exact g_alloc (World.grownBy_alloc _ _ _) _
  have hR0 : KC W0 bR 0 0 := by rw [hW0, hbR]; have := KC.new (w.alloc (.cells #[.int .i64 c, .int .i64 m] 23)) 0 0; rwa [World.size_alloc] at this
  have hK0 : KC W0 bK c m := by rw [hW0, hbK]; exact (KC.new w c m).grown (World.grownBy_alloc _ _ _)
  obtain ⟨x0, x1, x2⟩ := hR0.cells
  have x3 := x2 0; have x4 := x2 1
  obtain ⟨y0, y1, y2⟩ := hK0.cells
  have y3 := y2 0; have y4 := y2 1
  have hne : bK ≠ bR := by omega
  have hbR' : w.heap.size ≤ bR := by omega
  have hbK' : w.heap.size ≤ bK := by omega
  obtain ⟨PK, hPK⟩ : ∃ r, r = plainK c m := ⟨_, rfl⟩
  rw [← hPK]
  clear x2 y2
  replace hW0 := Lib.hid hW0; replace g0 := Lib.hid g0; replace hR0 := Lib.hid hR0; replace hK0 := Lib.hid hK0; replace hbR := Lib.hid hbR; replace hbK := Lib.hid hbK; replace hres := Lib.hid hres; replace hPK := Lib.hid hPK
  unfold keyV I64 at *
  go_enter Tryz.func24, Tryz.ntmps24
  go_upto_region 1 with fail
  rw [show w.heap.size + 1 = bR from hbR.out.symm, ← hbK.out, ← hW0.out]
  have hend : ∀ (W : World) (c' m' : Int), KC W bR 0 0 → w.grownBy W none → PK = (c', m') → KC (set2 W bR c' m') bR c' m' ∧ PK = (c', m') ∧ w.grownBy (set2 W bR c' m') none := fun W c' m' h g e => ⟨h.set2 c' m', e, set2_grown c' m' g hbR'⟩
  have hend := Lib.hid hend
  by_cases hu : 65 ≤ c ∧ c ≤ 90
  · obtain ⟨u1, u2⟩ := hu
    have hl : lowK c = c + 32 := by unfold lowK; rw [if_pos ⟨u1, u2⟩]
    have hw : IntKind.i64.wrap (c + 32) = c + 32 := by rw [IntKind.wrap_i64]; omega
    have hP : PK = if c + 32 = 105 then (9, m - 4) else if c + 32 = 109 then (13, m - 4) else if c + 32 = 91 then (1114135, m - 4) else if c + 32 = 64 then (32, m) else (c + 32, m) := by rw [hPK.out]; unfold plainK; rw [hl]
    have hK1 := hK0.out.set0 (c + 32)
    have hR1 := hR0.out.other hne 0 (.int .i64 (c + 32))
    have g1 := set_grown (j := 0) (v := .int .i64 (c + 32)) g0.out hbK'
    replace hP := Lib.hid hP; replace hl := Lib.hid hl; replace hK1 := Lib.hid hK1; replace hR1 := Lib.hid hR1; replace g1 := Lib.hid g1
    by_cases k1 : c = 73
    · subst k1
      go_wp2_with fail
      obtain ⟨e1, e2, e3⟩ := hend.out _ 9 (m - 4) hR1.out g1.out hP.out
      exact bodyPost_ret (res_k1 hres.out _ rfl e1 ) rfl ⟨by rw [e2], e3⟩
    by_cases k2 : c = 77
    · subst k2
      go_wp2_with fail
      obtain ⟨e1, e2, e3⟩ := hend.out _ 13 (m - 4) hR1.out g1.out hP.out
      exact bodyPost_ret (res_k1 hres.out _ rfl e1 ) rfl ⟨by rw [e2], e3⟩
    have k3 : PK = (c + 32, m) := by rw [hP.out, if_neg (by omega), if_neg (by omega), if_neg (by omega), if_neg (by omega)]
    replace k3 := Lib.hid k3
    go_wp2_with fail
    obtain ⟨e1, e2, e3⟩ := hend.out _ (c + 32) m hR1.out g1.out k3.out
    exact bodyPost_ret (res_k1 hres.out _ rfl e1 ) rfl ⟨by rw [e2], e3⟩
  · have hl : lowK c = c := by unfold lowK; rw [if_neg hu]
    have hP : PK = if c = 105 then (9, m - 4) else if c = 109 then (13, m - 4) else if c = 91 then (1114135, m - 4) else if c = 64 then (32, m) else (c, m) := by rw [hPK.out]; unfold plainK; rw [hl]
    replace hP := Lib.hid hP; replace hl := Lib.hid hl
    by_cases k1 : c = 105
    · subst k1
      go_wp2_with fail
      obtain ⟨e1, e2, e3⟩ := hend.out _ 9 (m - 4) hR0.out g0.out hP.out
      exact bodyPost_ret (res_k1 hres.out _ rfl e1 ) rfl ⟨by rw [e2], e3⟩
    by_cases k2 : c = 109
    · subst k2
      go_wp2_with fail
      obtain ⟨e1, e2, e3⟩ := hend.out _ 13 (m - 4) hR0.out g0.out hP.out
      exact bodyPost_ret (res_k1 hres.out _ rfl e1 ) rfl ⟨by rw [e2], e3⟩
    by_cases k3 : c = 91
    · subst k3
      go_wp2_with fail
      obtain ⟨e1, e2, e3⟩ := hend.out _ 1114135 (m - 4) hR0.out g0.out hP.out
      exact bodyPost_ret (res_k1 hres.out _ rfl e1 ) rfl ⟨by rw [e2], e3⟩
    by_cases k4 : c = 64
    · subst k4
      have g1 := set_grown (j := 0) (v := .int .i64 32) g0.out hbK'
      have hR1 := hR0.out.other hne 0 (.int .i64 32)
      replace g1 := Lib.hid g1; replace hR1 := Lib.hid hR1
      go_wp2_with fail
      obtain ⟨e1, e2, e3⟩ := hend.out _ 32 m hR1.out g1.out hP.out
      exact bodyPost_ret (res_k1 hres.out _ rfl e1 ) rfl ⟨by rw [e2], e3⟩
    have k5 : PK = (c, m) := by rw [hP.out, if_neg k1, if_neg k2, if_neg k3, if_neg k4]
    replace k5 := Lib.hid k5
    have hu2 : c < 65 ∨ 90 < c := by omega
    rcases hu2 with hu2 | hu2
    · clear hu
      go_wp2_with fail
      obtain ⟨e1, e2, e3⟩ := hend.out _ c m hR0.out g0.out k5.out
      exact bodyPost_ret (res_k1 hres.out _ rfl e1 ) rfl ⟨by rw [e2], e3⟩
    · clear hu
      go_wp2_with fail
      obtain ⟨e1, e2, e3⟩ := hend.out _ c m hR0.out g0.out k5.out
      exact bodyPost_ret (res_k1 hres.out _ rfl e1 ) rfl ⟨by rw [e2], e3⟩
end Go.Proofs.YtncokbppijnfiaaGreatDoor
