/- Format: expanded: the errors that are given up with are caught. -/
import Derived.Test.YtfhdfhlabkeipaaGreatDoorC18
import Derived.Defers
import Derived.Recover
namespace Go.Proofs.YtfhdfhlabkeipaaGreatDoor
open Go.RowKit
set_option linter.unusedSimpArgs false
set_option linter.unusedVariables false

theorem assert_errno (e0 : Int) (w : World) : Sem.run Tryz.prog (Instr.typeAssert (.iface 29 (.int .i64 e0)) 20 29 true) w = .ok (.tuple #[.int .i64 e0, .bool true]) w := by kernel_rfl
set_option maxRecDepth 100000 in
theorem catch_idle (p0 p1 p2 : Addr) (w : World) :
    CallsD Tryz.prog 25 #[.pointer (some p0), .pointer (some p1), .pointer (some p2)] .returning w fun e u' w' => e = .returned (.tuple #[]) ∧ u' = .returning ∧ w' = w := by
  refine callsD_of_wpS Tryz.func25 rfl fun c₀ cs hu => ?_
  apply wpS_seq
  apply wpS_region
  simp [wpOpsS, go_sem, recoverD, hu, Tryz.ntmps25, Exit.thenS]
  apply wpS_seq
  apply wpS_region
  simp [wpOpsS, go_sem, Exit.thenS]
  refine wpS_cond (t := false) (by simp [Act.eval]) ?_
  simp only [Bool.false_eq_true, if_false]
  refine wpS_of_wp (wp_skip ?_)
  cases c₀
  simp_all [bodyPostS, results, Tryz.results25]
set_option maxRecDepth 100000 in
set_option maxHeartbeats 1000000 in
theorem catch_panicking (p0 p1 p2 : Addr) (e0 : Int) (older : List PanicEntry) (w : World) (v0 v1 v2 : Value) (h0 : w.cell? p0 = some v0) (h1 : w.cell? p1 = some v1) (h2 : w.cell? p2 = some v2) (z0 : w.frozen? p0 = false) (z1 : w.frozen? p1 = false) (z2 : w.frozen? p2 = false) (n01 : p0 ≠ p1) (n02 : p0 ≠ p2) (n12 : p1 ≠ p2) :
    CallsD Tryz.prog 25 #[.pointer (some p0), .pointer (some p1), .pointer (some p2)] (.panicking ({ v := .iface 29 (.int .i64 e0), recovered := false } :: older)) w fun e u' w' =>
      e = .returned (.tuple #[]) ∧ u' = .panicking ({ v := .iface 29 (.int .i64 e0), recovered := true } :: older) ∧ w' = ((w.setCell p0 (.string ⟨#[]⟩)).setCell p1 (.int .i64 0)).setCell p2 (.int .i64 e0) := by
  refine callsD_of_wpS Tryz.func25 rfl fun c₀ cs hu => ?_
  apply wpS_seq
  apply wpS_region
  simp [wpOpsS, go_sem, recoverD, hu, Tryz.ntmps25, Exit.thenS]
  apply wpS_seq
  apply wpS_region
  simp [wpOpsS, go_sem, Exit.thenS]
  refine wpS_cond (t := true) (by simp [Act.eval]) ?_
  simp only [if_true]
  apply wpS_seq
  apply wpS_region
  simp [wpOpsS, go_sem, Exit.thenS, assert_errno]
  apply wpS_seq
  apply wpS_seq
  apply wpS_region
  simp [wpOpsS, go_sem, Exit.thenS]
  refine wpS_cond (t := false) (by simp [Act.eval]) ?_
  simp only [Bool.false_eq_true, if_false]
  refine wpS_of_wp (wp_skip ?_)
  simp only [Exit.thenS]
  apply wpS_region
  simp [wpOpsS, go_sem, h0, h1, h2, z0, z1, z2, n01, n02, n12, bodyPostS, results, Tryz.results25]
theorem alloc_size (w : World) (o : Obj) : (w.alloc o).heap.size = w.heap.size + 1 := by simp
theorem alloc_get (w : World) (o : Obj) (k : Nat) : (w.alloc o).heap[k]? = if k = w.heap.size then some o else w.heap[k]? := by
  by_cases h : k = w.heap.size
  · rw [if_pos h, h]; exact heap_alloc_new w o
  · rw [if_neg h]
    by_cases h2 : k < w.heap.size
    · exact Below.heap_alloc w o k h2
    · rw [Array.getElem?_eq_none (by rw [alloc_size]; omega), Array.getElem?_eq_none (by omega)]
/-- What is asked of modified, loop and reckoned. -/
def AllOk : Prop := ∀ base mb : Nat, (∀ deep scs, scs.length ≤ 100 → ModOk base mb deep scs) ∧ (∀ deep L tx scs, TxOk base mb deep (L + 1) tx → TxLen tx → L ≤ 99 → scs.length ≤ L → LoopOk base mb deep scs tx) ∧ (∀ deep L tx scs, TxOk base mb deep L tx → TxLen tx → L ≤ 100 → scs.length ≤ L → ReckOk base mb deep scs tx)
def expV (r : Rs) : Value := match r with
  | .ok v n => .tuple #[.string (st v), .int .i64 (n : Int), .int .i64 0]
  | .bad k => .tuple #[.string ⟨#[]⟩, .int .i64 0, .int .i64 k]
  | .no => .nilIface

set_option maxRecDepth 100000 in
set_option maxHeartbeats 2000000 in
theorem expanded_any (H : AllOk) (w : World) (hTB : TB w.heap.size w) (s : B) (o : Option Sc) (Av Al : Option Addr) (nv cv nl cl : Nat) (ho : ∀ sc, o = some sc → ScAt w.heap.size w sc (.slice Av nv cv) (.slice Al nl cl)) (hno : expandL [o] s ≠ .no) :
    Calls Tryz.prog 20 #[.string (st s), .agg #[.slice Av nv cv, .slice Al nl cl]] w fun e w' => e = .returned (expV (expandL [o] s)) ∧ w.grownBy w' none := by
  have hmf : ∀ (fn : Fn) (first cap : Array Value) (w : World), (Instr.makeFunc fn first cap).run Tryz.prog w = .ok (.func fn first cap) w := fun _ _ _ _ => rfl
  obtain ⟨len, hlen⟩ : ∃ len, len = s.length := ⟨_, rfl⟩
  obtain ⟨S, hS⟩ : ∃ S, S = st s := ⟨_, rfl⟩
  have hZ : S.size = len := by rw [hS, st_size, hlen]
  obtain ⟨R, hR⟩ : ∃ R, R = expandL [o] s := ⟨_, rfl⟩
  rw [← hR] at hno ⊢
  rw [← hS]
  unfold expandL at hR
  rw [← hlen] at hR
  replace hS := Lib.hid hS; replace hlen := Lib.hid hlen; replace hR := Lib.hid hR; replace hno := Lib.hid hno; replace ho := Lib.hid ho; replace hTB := Lib.hid hTB; replace H := Lib.hid H
  by_cases hl : len ≤ 8192
  · have hli : ¬ ((8192 : Int) < (len : Int)) := by omega
    have hR2 := hR.out
    rw [if_pos hl] at hR2
    replace hR2 := Lib.hid hR2
    go_enter_defers Tryz.func20, Tryz.ntmps20
    go_wp2_with fail
    obtain ⟨base, hbase⟩ : ∃ b, b = w.heap.size := ⟨_, rfl⟩
    obtain ⟨W6, hW6⟩ : ∃ W6, W6 = ((((((w.alloc (Obj.cells #[Value.slice Av nv cv, Value.slice Al nl cl] 28)).alloc (Obj.cells #[Value.string ⟨#[]⟩] 9)).alloc (Obj.cells #[Value.int IntKind.i64 0] 3)).alloc (Obj.cells #[Value.int IntKind.i64 0] 29)).alloc (Obj.cells #[Value.slice Av nv cv, Value.slice Al nl cl] 28)).alloc
      (Obj.cells #[Value.slice (some { block := w.heap.size + 1 + 1 + 1 + 1, off := 0 }) 1 1, Value.int IntKind.i64 0, Value.int IntKind.i64 0] 56)) := ⟨_, rfl⟩
    rw [← hW6]
    rw [← hbase] at hW6 ⊢
    have hsz : W6.heap.size = base + 6 := by rw [hW6, hbase]; simp only [alloc_size]
    have f1 : W6.heap[base + 1]? = some (.cells #[.string ⟨#[]⟩] 9 (0, 0)) := by rw [hW6, hbase]; simp only [alloc_get, alloc_size]; simp
    have f2 : W6.heap[base + 1 + 1]? = some (.cells #[.int .i64 0] 3 (0, 0)) := by rw [hW6, hbase]; simp only [alloc_get, alloc_size]; simp
    have f3 : W6.heap[base + 1 + 1 + 1]? = some (.cells #[.int .i64 0] 29 (0, 0)) := by rw [hW6, hbase]; simp only [alloc_get, alloc_size]; simp
    have f4 : W6.heap[base + 1 + 1 + 1 + 1]? = some (.cells #[.slice Av nv cv, .slice Al nl cl] 28 (0, 0)) := by rw [hW6, hbase]; simp only [alloc_get, alloc_size]; simp
    have f5 : W6.heap[base + 1 + 1 + 1 + 1 + 1]? = some (.cells #[.slice (some ⟨base + 1 + 1 + 1 + 1, 0, none⟩) 1 1, .int .i64 0, .int .i64 0] 56 (0, 0)) := by rw [hW6, hbase]; simp only [alloc_get, alloc_size]; simp
    have hgr : w.grownBy W6 none := by rw [hW6]; exact g_alloc (g_alloc (g_alloc (g_alloc (g_alloc (g_alloc (World.grownBy.refl _ _) _) _) _) _) _) _
    obtain ⟨mb, hmb⟩ : ∃ mb, mb = base + 1 + 1 + 1 + 1 + 1 := ⟨_, rfl⟩
    obtain ⟨ab, hab⟩ : ∃ ab, ab = base + 1 + 1 + 1 + 1 := ⟨_, rfl⟩
    obtain ⟨b1, hb1⟩ : ∃ b1, b1 = base + 1 := ⟨_, rfl⟩
    obtain ⟨b2, hb2⟩ : ∃ b2, b2 = base + 1 + 1 := ⟨_, rfl⟩
    obtain ⟨b3, hb3⟩ : ∃ b3, b3 = base + 1 + 1 + 1 := ⟨_, rfl⟩
    rw [← hmb, ← hab] at f5
    rw [← hab] at f4
    rw [← hb1] at f1
    rw [← hb2] at f2
    rw [← hb3] at f3
    have hMk : Mk base mb W6 ab 1 [o] 0 0 := by
      refine ⟨f5, by omega, by omega, by omega, by omega, (by rw [hbase]; exact hTB.out.below (g_below hgr)), [.slice Av nv cv, .slice Al nl cl], ⟨rfl, .inr ⟨ab, 1, _, rfl, by omega, f4, by simp, by decide, rfl, rfl⟩⟩, fun j q hj => ?_⟩
      rcases j with _ | j
      · simp at hj
        subst hj
        exact ⟨_, _, rfl, rfl, rfl, rfl, fun sc hs => by
          rw [hbase]
          exact (ho.out sc hs).below (g_below hgr)⟩
      · simp at hj
    obtain ⟨HM, HL, HR⟩ := H.out base mb
    have CT := text_any base mb 0 [o] (exprL 16 [o]) (expr_ok base mb HM HL HR 16 0 [o] rfl (by simp)) (fun c n v n' h => exprL_len h) (by simp) s 0 ab 1 W6 (by rw [← hlen.out]; exact hl) hMk (by omega) (by rw [← hR2.out]; exact hno.out)
    rw [← hR2.out, ← hS.out] at CT
    have CT2 := CT.mono fun e w' h => h.end_ hno.out
    have hbb : b1 ≠ b2 ∧ b1 ≠ b3 ∧ b2 ≠ b3 := by omega
    have kp : ∀ w', Kp mb ab W6 w' → (w'.heap[b1]? = some (.cells #[.string ⟨#[]⟩] 9 (0, 0)) ∧ w'.heap[b2]? = some (.cells #[.int .i64 0] 3 (0, 0)) ∧ w'.heap[b3]? = some (.cells #[.int .i64 0] 29 (0, 0)) ∧ w.grownBy w' none) := fun w' h =>
      ⟨(h.block b1 (by omega) (by omega) (by omega)).trans f1, (h.block b2 (by omega) (by omega) (by omega)).trans f2, (h.block b3 (by omega) (by omega) (by omega)).trans f3,
        h.os.trans hgr.os, h.tape.trans hgr.tape, h.output.trans hgr.output, Nat.le_trans hgr.size h.size, fun k hk _ => (h.block k (by omega) (by omega) (by omega)).trans (hgr.block k hk (by simp))⟩
    have hlo : ∀ k, k < w.heap.size → k ≠ b1 ∧ k ≠ b2 ∧ k ≠ b3 := fun k hk => by omega
    rw [← hmb, ← hb3, ← hb2, ← hb1]
    replace hW6 := Lib.hid hW6; replace hbase := Lib.hid hbase; replace hsz := Lib.hid hsz; replace f1 := Lib.hid f1; replace f2 := Lib.hid f2; replace f3 := Lib.hid f3; replace f4 := Lib.hid f4; replace f5 := Lib.hid f5; replace hgr := Lib.hid hgr; replace hmb := Lib.hid hmb; replace hab := Lib.hid hab; replace hb1 := Lib.hid hb1; replace hb2 := Lib.hid hb2; replace hb3 := Lib.hid hb3; replace hMk := Lib.hid hMk; replace CT := Lib.hid CT; replace kp := Lib.hid kp; replace hlo := Lib.hid hlo; replace HM := Lib.hid HM; replace HL := Lib.hid HL; replace HR := Lib.hid HR
    refine CT2.mono ?_
    rintro e w7 (⟨x, rfl, hres⟩ | ⟨k, rfl, hres⟩)
    · cases hRc : R with
      | no => exact absurd hRc hno.out
      | bad k => rw [hRc] at hres; exact absurd hres.1 (by unfold Pan; simp)
      | ok v n =>
        rw [hRc] at hres
        obtain ⟨hxe, hK, ab', cap', hM', _⟩ := hres
        obtain ⟨k1, k2, k3, hg7⟩ := kp.out w7 hK
        obtain ⟨X, hX⟩ : ∃ X, X = st v := ⟨_, rfl⟩
        have hsx : st x = X := by injection hxe with h; injection h with h; rw [h, hX]
        rw [hsx]
        have q1 : w7.cell? ⟨b1, 0, none⟩ = some (.string ⟨#[]⟩) := by rw [cell_of_heap k1]; rfl
        have q2 : w7.cell? ⟨b2, 0, none⟩ = some (.int .i64 0) := by rw [cell_of_heap k2]; rfl
        have q3 : w7.cell? ⟨b3, 0, none⟩ = some (.int .i64 0) := by rw [cell_of_heap k3]; rfl
        have z1 := free_of_heap k1 0
        have z2 := free_of_heap k2 0
        have z3 := free_of_heap k3 0
        have cm := hM'.c2
        have hm1 : mb ≠ b1 ∧ mb ≠ b2 ∧ mb ≠ b3 := by have := hmb.out; have := hb1.out; have := hb2.out; have := hb3.out; omega
        obtain ⟨m1, m2, m3⟩ := hm1
        obtain ⟨d1, d2, d3⟩ := hbb
        have d1' := d1.symm; have d2' := d2.symm; have d3' := d3.symm
        have m1' := m1.symm; have m2' := m2.symm; have m3' := m3.symm
        replace hK := Lib.hid hK; replace hM' := Lib.hid hM'; replace k1 := Lib.hid k1; replace k2 := Lib.hid k2; replace k3 := Lib.hid k3; replace hg7 := Lib.hid hg7; replace hX := Lib.hid hX; replace hsx := Lib.hid hsx; replace hRc := Lib.hid hRc
        clear hxe
        go_wp2_with fail
        go_region
        all_goals
          go_wp2_with fail
          obtain ⟨Wf, hWf⟩ : ∃ Wf, Wf = ((((w7.setCell ⟨b1, 0, none⟩ (.string X)).setCell ⟨b1, 0, none⟩ (.string X)).setCell ⟨b2, 0, none⟩ (.int .i64 (n : Int))).setCell ⟨b3, 0, none⟩ (.int .i64 0)) := ⟨_, rfl⟩
          have hv1 : Wf.cell? ⟨b1, 0, none⟩ = some (.string X) := cell_of_heap (g := b1) (c := #[.string X]) (e := 9) (by rw [hWf, heap_set_other d2, heap_set_other d1, heap_set (c := #[.string X]) (by rw [heap_set k1.out]; rfl)]; rfl) 0
          have hv2 : Wf.cell? ⟨b2, 0, none⟩ = some (.int .i64 (n : Int)) := cell_of_heap (g := b2) (c := #[.int .i64 (n : Int)]) (e := 3) (by rw [hWf, heap_set_other d3, heap_set (c := #[.int .i64 0]) (by rw [heap_set_other d1', heap_set_other d1']; exact k2.out)]; rfl) 0
          have hv3 : Wf.cell? ⟨b3, 0, none⟩ = some (.int .i64 0) := cell_of_heap (g := b3) (c := #[.int .i64 0]) (e := 29) (by rw [hWf, heap_set (c := #[.int .i64 0]) (by rw [heap_set_other d3', heap_set_other d2', heap_set_other d2']; exact k3.out)]; rfl) 0
          have hx : expV R = .tuple #[.string X, .int .i64 (n : Int), .int .i64 0] := by rw [hRc.out, hX.out]; rfl
          have hgf : w.grownBy Wf none := by
            rw [hWf]
            exact ⟨hg7.out.os, hg7.out.tape, hg7.out.output, by have := hg7.out.size; simpa [World.setCell] using this, fun j hj _ => by
              obtain ⟨n1, n2, n3⟩ := hlo.out j hj
              rw [heap_set_other n3, heap_set_other n2, heap_set_other n1, heap_set_other n1]
              exact hg7.out.block j hj (by simp)⟩
          rw [← hWf]
          replace hWf := Lib.hid hWf; replace hgf := Lib.hid hgf
          clear q1 q2 q3 z1 z2 z3 cm
          refine leaves_cons (f := 25) (args := #[.pointer (some ⟨b1, 0, none⟩), .pointer (some ⟨b2, 0, none⟩), .pointer (some ⟨b3, 0, none⟩)]) (by simp) (by simp [go_sem]) ?_
          refine (catch_idle ⟨b1, 0, none⟩ ⟨b2, 0, none⟩ ⟨b3, 0, none⟩ _).mono ?_
          rintro e u' w'' ⟨rfl, rfl, rfl⟩
          simp [Leaves, settle, results, Tryz.results20, go_sem, hv1, hv2, hv3, hx]
          exact g_drew hgf.out
    · cases hRc : R with
      | no => exact absurd hRc hno.out
      | ok v n => rw [hRc] at hres; exact absurd hres.1 (by unfold Pan; simp)
      | bad k' =>
        rw [hRc] at hres
        obtain ⟨hke, hK⟩ := hres
        have hkk : k = k' := by unfold Pan at hke; injection hke with h; simpa using h
        subst hkk
        obtain ⟨k1, k2, k3, hg7⟩ := kp.out w7 hK
        have q1 : w7.cell? ⟨b1, 0, none⟩ = some (.string ⟨#[]⟩) := by rw [cell_of_heap k1]; rfl
        have q2 : w7.cell? ⟨b2, 0, none⟩ = some (.int .i64 0) := by rw [cell_of_heap k2]; rfl
        have q3 : w7.cell? ⟨b3, 0, none⟩ = some (.int .i64 0) := by rw [cell_of_heap k3]; rfl
        have z1 := free_of_heap k1 0
        have z2 := free_of_heap k2 0
        have z3 := free_of_heap k3 0
        obtain ⟨d1, d2, d3⟩ := hbb
        have CK := catch_panicking ⟨b1, 0, none⟩ ⟨b2, 0, none⟩ ⟨b3, 0, none⟩ k [] w7 _ _ _ q1 q2 q3 z1 z2 z3 (fun h => d1 (by injection h)) (fun h => d2 (by injection h)) (fun h => d3 (by injection h))
        have hx : expV R = .tuple #[.string ⟨#[]⟩, .int .i64 0, .int .i64 k] := by rw [hRc]; rfl
        have hgf : w.grownBy (((w7.setCell ⟨b1, 0, none⟩ (.string ⟨#[]⟩)).setCell ⟨b2, 0, none⟩ (.int .i64 0)).setCell ⟨b3, 0, none⟩ (.int .i64 k)) none := ⟨hg7.os, hg7.tape, hg7.output, by have := hg7.size; simpa [World.setCell] using this, fun j hj _ => by
          obtain ⟨n1, n2, n3⟩ := hlo.out j hj
          rw [heap_set_other n3, heap_set_other n2, heap_set_other n1]
          exact hg7.block j hj (by simp)⟩
        have hv1 : (((w7.setCell ⟨b1, 0, none⟩ (.string ⟨#[]⟩)).setCell ⟨b2, 0, none⟩ (.int .i64 0)).setCell ⟨b3, 0, none⟩ (.int .i64 k)).cell? ⟨b1, 0, none⟩ = some (.string ⟨#[]⟩) := cell_of_heap (g := b1) (c := #[.string ⟨#[]⟩]) (e := 9) (by rw [heap_set_other d2, heap_set_other d1, heap_set k1]; rfl) 0
        have hv2 : (((w7.setCell ⟨b1, 0, none⟩ (.string ⟨#[]⟩)).setCell ⟨b2, 0, none⟩ (.int .i64 0)).setCell ⟨b3, 0, none⟩ (.int .i64 k)).cell? ⟨b2, 0, none⟩ = some (.int .i64 0) := cell_of_heap (g := b2) (c := #[.int .i64 0]) (e := 3) (by rw [heap_set_other d3, heap_set (c := #[.int .i64 0]) (by rw [heap_set_other (Ne.symm d1)]; exact k2)]; rfl) 0
        have hv3 : (((w7.setCell ⟨b1, 0, none⟩ (.string ⟨#[]⟩)).setCell ⟨b2, 0, none⟩ (.int .i64 0)).setCell ⟨b3, 0, none⟩ (.int .i64 k)).cell? ⟨b3, 0, none⟩ = some (.int .i64 k) := cell_of_heap (g := b3) (c := #[.int .i64 k]) (e := 29) (by rw [heap_set (c := #[.int .i64 0]) (by rw [heap_set_other (Ne.symm d3), heap_set_other (Ne.symm d2)]; exact k3)]; rfl) 0
        unfold Pan
        replace hK := Lib.hid hK; replace k1 := Lib.hid k1; replace k2 := Lib.hid k2; replace k3 := Lib.hid k3; replace hg7 := Lib.hid hg7; replace hRc := Lib.hid hRc; replace CK := Lib.hid CK; replace hgf := Lib.hid hgf
        clear hke
        go_wp2_with fail
        refine leaves_cons (f := 25) (args := #[.pointer (some ⟨b1, 0, none⟩), .pointer (some ⟨b2, 0, none⟩), .pointer (some ⟨b3, 0, none⟩)]) (by simp) (by simp [go_sem]) ?_
        refine CK.out.mono ?_
        rintro e u' w'' ⟨rfl, rfl, rfl⟩
        simp [Leaves, settle, results, Tryz.results20, go_sem, hv1, hv2, hv3, hx]
        exact hgf.out
  · have hli : (8192 : Int) < (len : Int) := by omega
    have hR2 := hR.out
    rw [if_neg hl] at hR2
    replace hR2 := Lib.hid hR2
    go_enter_defers Tryz.func20, Tryz.ntmps20
    go_wp2_with fail
    have hx : expV R = .tuple #[.string ⟨#[]⟩, .int .i64 0, .int .i64 2] := by rw [hR2.out]; rfl
    have hgr : w.grownBy ((((w.alloc (Obj.cells #[Value.slice Av nv cv, Value.slice Al nl cl] 28)).alloc (Obj.cells #[Value.string ⟨#[]⟩] 9)).alloc (Obj.cells #[Value.int IntKind.i64 0] 3)).alloc (Obj.cells #[Value.int IntKind.i64 2] 29)) none := g_alloc (g_alloc (g_alloc (g_alloc (World.grownBy.refl _ _) _) _) _) _
    simp [bodyPostD, Leaves, settle, results, Tryz.results20, go_sem, hx]
    exact hgr
end Go.Proofs.YtfhdfhlabkeipaaGreatDoor
