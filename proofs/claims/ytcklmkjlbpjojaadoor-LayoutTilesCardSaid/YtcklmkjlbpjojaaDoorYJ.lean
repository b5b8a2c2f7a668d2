/- Layout: made. Layout: a script opened: a slice of calls. Layout: a script opened: a slice of calls, all numbers of a call in reach. -/
import Derived.Test.YtcklmkjlbpjojaaDoorH1
import Derived.Test.YtcklmkjlbpjojaaDoorC9
import Derived.Test.YtcklmkjlbpjojaaDoorA
namespace Go.Proofs.YtcklmkjlbpjojaaDoor
open Go.RowKit
set_option linter.unusedSimpArgs false
set_option linter.unusedVariables false

/-- A script in memory: its words. -/
structure OpW where
  kind : Int
  a : Int
  b : Int
  n : Int
  way : Int
  beside : Bool
  before : Bool
  s : ByteArray
def OpW.cells (o : OpW) : List Value := [.int .i64 o.kind, .int .i64 o.a, .int .i64 o.b, .int .i64 o.n, .int .u8 o.way, .bool o.beside, .bool o.before, .string o.s]
def OpW.ok (o : OpW) : Prop := I64 o.a ∧ I64 o.n
def opCells (l : List OpW) : List Value := l.flatMap OpW.cells

set_option maxHeartbeats 4000000 in
set_option maxRecDepth 100000 in
theorem made_any (a b : Int) (A : Option Addr) (len c : Nat) (l : List OpW) (w : World) (hab : 1 ≤ a ∧ a ≤ 250 ∧ 1 ≤ b ∧ b ≤ 120) (hlen : len = l.length) (hl63 : len ≤ 9223372036854775807) (hO : ∀ o ∈ l, o.ok) (hR : Rd w A (opCells l)) :
    Calls Tryd.prog 8 #[.int .i64 a, .int .i64 b, .slice A len c] w fun e w' => ∃ (tr : Nat) (t : T), e = .returned (ptr tr) ∧ Tr w.heap.size w' tr t ∧ Fine t 31 ∧ Below w.heap.size w w' ∧ t.leaves.length ≤ 31 := by
  have hm : mayB a b = true := by unfold mayB; simp; omega
  have CN := Lib.hid (new_any a b 1 w hm (by omega))
  replace hO := Lib.hid hO; replace hR := Lib.hid hR; replace hlen := Lib.hid hlen
  go_enter Tryd.func8, Tryd.ntmps8
  go_wp2_with fail
  refine CN.out.mono ?_
  rintro e w1 ⟨tr, g, rfl, hT1, G1⟩
  replace hT1 := Lib.hid hT1; replace G1 := Lib.hid G1
  unfold ptr
  go_wp2_with fail
  go_loopw [9] (fun iv wr => ∃ j : Nat, j ≤ len ∧ j ≤ 30 ∧ iv = .int .i64 j ∧ Hid (∃ t, Tr w.heap.size wr tr t ∧ Fine t (j + 1) ∧ Below w.heap.size w wr ∧ t.leaves.length ≤ j + 1)) (fun iv _ => len - (intOf iv).toNat)
  case atStart =>
    refine ⟨0, Nat.zero_le _, by omega, rfl, Lib.hid ⟨_, hT1.out, ⟨?_, ?_, ?_, ?_, ?_⟩, ⟨G1.out.os, G1.out.tape, G1.out.output, G1.out.size, fun k hk => G1.out.block k hk (by simp)⟩, ?_⟩⟩
    · unfold nd1; rw [T.er_mk, erL_nil]; show E.ok (.mk 1 a b 0 []); exact .leaf ⟨by omega, by omega⟩ hab.1 hab.2.2.1
    · unfold nd1; rw [ps_leaf]; simp
    · unfold nd1; rw [ps_leaf]; simp
    · unfold nd1; rw [T.place_mk, placeL_nil]
    · exact ⟨hab.2.1, hab.2.2.2⟩
    · rw [leaves_len]; unfold nd1; rw [ps_leaf]; simp
  case round =>
    obtain ⟨j, hj, hj30, rfl, hI⟩ := hrel
    by_cases hlt : j < len
    · by_cases hlt30 : j < 30
      · obtain ⟨t, hT, hF, hB, hlv⟩ := hI.out
        obtain ⟨o, ho⟩ : ∃ o, l[j]? = some o := ⟨l[j]'(by rw [← hlen.out]; exact hlt), List.getElem?_eq_getElem _⟩
        have hcl : ∀ (i : Nat) (u : Value), o.cells[i]? = some u → (opCells l)[j * 8 + i]? = some u := by
          intro i u hu
          have : ∀ (l : List OpW) (j : Nat), l[j]? = some o → (opCells l)[j * 8 + i]? = some u := by
            intro l
            induction l with
            | nil => intro j h; simp at h
            | cons a l ih =>
              intro j h
              rcases j with _ | j
              · simp at h; subst h
                simp only [opCells, List.flatMap_cons]
                rw [List.getElem?_append_left (by rw [Nat.zero_mul, Nat.zero_add]; exact (List.getElem?_eq_some_iff.1 hu).1), Nat.zero_mul, Nat.zero_add]
                exact hu
              · simp only [opCells, List.flatMap_cons]
                rw [List.getElem?_append_right (by show 8 ≤ _; omega)]
                have := ih j (by simpa using h)
                rw [show (j + 1) * 8 + i - a.cells.length = j * 8 + i by show (j + 1) * 8 + i - 8 = _; omega]
                exact this
          exact this l j ho
        obtain ⟨b0, off, hA0, _, _⟩ := hR.out.at_ (hcl 0 _ rfl)
        subst hA0
        have hbl : b0 < w.heap.size := by
          obtain ⟨b', off', e, hlt', _⟩ := hR.out.at_ (hcl 0 _ rfl)
          cases e; exact hlt'
        have hcell : ∀ (i : Nat) (u : Value), o.cells[i]? = some u → wr.cell? ⟨b0, off + j * 8 + i, none⟩ = some u := by
          intro i u hu
          obtain ⟨b', off', e, _, h⟩ := hR.out.at_ (hcl i u hu)
          cases e
          rw [← Nat.add_assoc] at h
          exact (hB.cell (p := ⟨b0, off + j * 8 + i, none⟩) hbl).trans h
        have k0 : wr.cell? ⟨b0, off + j * 8, none⟩ = some (.int .i64 o.kind) := hcell 0 _ rfl; have k1 := hcell 1 _ rfl; have k2 := hcell 2 _ rfl; have k3 := hcell 3 _ rfl
        have k4 := hcell 4 _ rfl; have k5 := hcell 5 _ rfl; have k6 := hcell 6 _ rfl; have k7 := hcell 7 _ rfl
        obtain ⟨oka, okn⟩ := hO.out o (List.mem_of_getElem? ho)
        replace hT := Lib.hid hT; replace hF := Lib.hid hF; replace hB := Lib.hid hB; replace hlv := Lib.hid hlv; replace ho := Lib.hid ho; replace oka := Lib.hid oka; replace okn := Lib.hid okn
        clear hcl hcell
        go_upto_region 8 with fail
        obtain ⟨W1, hW1⟩ : ∃ W1, W1 = wr.alloc (.cells #[.int .i64 o.kind, .int .i64 o.a, .int .i64 o.b, .int .i64 o.n, .int .u8 o.way, .bool o.beside, .bool o.before, .string o.s] 42) := ⟨_, rfl⟩
        rw [← hW1]
        have g1 : wr.grownBy W1 none := by rw [hW1]; exact World.grownBy_alloc _ _ _
        have hv : W1.heap[wr.heap.size]? = some (.cells #[.int .i64 o.kind, .int .i64 o.a, .int .i64 o.b, .int .i64 o.n, .int .u8 o.way, .bool o.beside, .bool o.before, .string o.s] 42 (0, 0)) := by rw [hW1]; exact heap_alloc_new wr _
        have CBx := Lib.hid (boxes_any w.heap.size tr t W1 (hT.out.grown g1) (by have := hlv.out; omega))
        have hvlt := lt_of_heap hv
        replace g1 := Lib.hid g1; replace hv := Lib.hid hv
        clear hW1 k0 k1 k2 k3 k4 k5 k6 k7 CN
        unfold ptr at CBx
        obtain ⟨nl, hnl⟩ : ∃ nl, nl = t.leaves.length := ⟨_, rfl⟩
        have hnl0 : 1 ≤ nl := by rw [hnl]; exact List.length_pos_iff.2 (leaves_ne t)
        have hnl1 : nl ≤ 31 := by rw [hnl]; have := hlv.out; omega
        rw [← hnl] at CBx
        go_wp2_with fail
        refine CBx.out.mono ?_
        rintro e w2 ⟨A2, c2, rfl, O2, G2⟩
        have h2v := (G2.block _ hvlt (by simp)).trans hv.out
        obtain ⟨A2x, c2x, e2x, hR2, _⟩ := Rd.of_own O2
        injection e2x with e2x _ e2y
        subst e2x; subst e2y
        obtain ⟨k, hk⟩ : ∃ k, k = pickN o.a nl := ⟨_, rfl⟩
        have hkl : k < nl := by rw [hk]; exact pickN_lt _ (by omega)
        obtain ⟨s, hs⟩ : ∃ s, t.leaves[k]? = some s := ⟨t.leaves[k]'(by omega), List.getElem?_eq_getElem _⟩
        have hbx : (boxes t.leaves)[k * 5]? = some (.int .i64 s.n.p) := by
          have : ∀ (l : List T) (k : Nat), l[k]? = some s → (boxes l)[k * 5]? = some (.int .i64 s.n.p) := by
            intro l
            induction l with
            | nil => intro k h; simp at h
            | cons a l ih =>
              intro k h
              rcases k with _ | k
              · simp at h; subst h; simp [boxes, boxOf]
              · have e : boxes (a :: l) = boxOf a.n ++ boxes l := by simp [boxes]
                rw [e, List.getElem?_append_right (by show 5 ≤ _; omega)]
                rw [show (k + 1) * 5 - (boxOf a.n).length = k * 5 by show (k + 1) * 5 - 5 = _; omega]
                exact ih k (by simpa using h)
          exact this _ _ hs
        obtain ⟨b2, off2, rfl, _, hcb⟩ := hR2.at_ hbx
        have v1 : w2.cell? ⟨wr.heap.size, 1, none⟩ = some (.int .i64 o.a) := by rw [cell_of_heap h2v]; rfl
        have v3 : w2.cell? ⟨wr.heap.size, 3, none⟩ = some (.int .i64 o.n) := by rw [cell_of_heap h2v]; rfl
        have v5 : w2.cell? ⟨wr.heap.size, 5, none⟩ = some (.bool o.beside) := by rw [cell_of_heap h2v]; rfl
        have v6 : w2.cell? ⟨wr.heap.size, 6, none⟩ = some (.bool o.before) := by rw [cell_of_heap h2v]; rfl
        have hT2 := (hT.out.grown g1.out).grown G2
        have CP1 : ∀ W, Calls Tryd.prog 9 #[.int .i64 o.a, .int .i64 nl] W fun e w' => e = .returned (.int .i64 (k : Int)) ∧ w' = W := fun W => by
          rw [hk]; exact (pick_any o.a nl W oka.out.1 oka.out.2 (by omega) (by omega)).mono fun e w' h => ⟨h.1, h.2.symm⟩
        obtain ⟨z, hz⟩ : ∃ z : Nat, z = pickN o.n 9 := ⟨_, rfl⟩
        have hz9 : z < 9 := by rw [hz]; exact pickN_lt _ (by omega)
        have CP2 : ∀ W, Calls Tryd.prog 9 #[.int .i64 o.n, .int .i64 9] W fun e w' => e = .returned (.int .i64 (z : Int)) ∧ w' = W := fun W => by
          rw [hz]; exact (pick_any o.n 9 W okn.out.1 okn.out.2 (by omega) (by omega)).mono fun e w' h => ⟨h.1, h.2.symm⟩
        have hsp : s.n.p ∈ t.er.ps := by rw [← T.leaves_ps]; exact List.mem_map_of_mem (List.mem_of_getElem? hs)
        have hw2s : w.heap.size ≤ w2.heap.size := by have := hB.out.size; have := g1.out.size; have := G2.size; omega
        have hbel2 : Below w.heap.size w w2 := hB.out.trans (⟨(g1.out.trans G2).os, (g1.out.trans G2).tape, (g1.out.trans G2).output, (g1.out.trans G2).size, fun k hk => (g1.out.trans G2).block k (by have := hB.out.size; omega) (by simp)⟩)
        have hT2d : Tr w.heap.size w2.drew tr t := hT2.grown (g_drew (World.grownBy.refl w2 none))
        have CSp := split_any w.heap.size tr t (j + 1) s.n.p (j + 2) z o.beside o.before w2.drew hT2d hw2s hF.out hsp ⟨by omega, by omega, by omega⟩ ⟨by omega, by omega⟩ (by have := hlv.out; omega)
        have hjw : IntKind.i64.wrap ((j : Int) + 2) = (j : Int) + 2 := by rw [IntKind.wrap_i64]; omega
        have hki : (k : Int) < nl := by omega
        have hk0 : (0 : Int) ≤ k := by omega
        have hq0 : ¬ ((nl : Int) = 0) := by omega
        obtain ⟨sp, hspe⟩ : ∃ sp, sp = s.n.p := ⟨_, rfl⟩
        rw [← hspe] at hcb CSp
        replace hT2 := Lib.hid hT2; replace hT2d := Lib.hid hT2d; replace CSp := Lib.hid CSp; replace CP1 := Lib.hid CP1; replace CP2 := Lib.hid CP2; replace O2 := Lib.hid O2; replace G2 := Lib.hid G2; replace h2v := Lib.hid h2v; replace hR2 := Lib.hid hR2; replace hs := Lib.hid hs; replace hk := Lib.hid hk; replace hz := Lib.hid hz; replace hsp := Lib.hid hsp; replace hbel2 := Lib.hid hbel2; replace hbx := Lib.hid hbx; replace hspe := Lib.hid hspe; replace hnl := Lib.hid hnl
        unfold ptr at CSp
        clear CBx
        go_upto_region 11 with fail
        refine wp_region_still_tail 19 (by kernel_rfl) (by kernel_rfl) ?_
        simp only [List.take_succ_cons, List.take_zero, List.drop_succ_cons, List.drop_zero]
        repeat still_step
        still_call (CP1.out _)
        repeat still_step
        still_call (CP2.out _)
        repeat still_step
        refine wpStill_nil ?_
        change wpList _ _ _ _ _ w2.drew
        go_wp2_with fail
        refine CSp.out.mono ?_
        rintro e w3 ⟨err, t', rfl, hT3, hB3, hcase⟩
        replace hT3 := Lib.hid hT3; replace hB3 := Lib.hid hB3; replace hcase := Lib.hid hcase
        clear CSp CP1 CP2
        go_wp2_with fail
        refine ⟨⟨j + 1, by omega, by omega, by go_num, Lib.hid ⟨t', hT3.out, ?_, hbel2.out.trans ⟨hB3.out.os, hB3.out.tape, hB3.out.output, hB3.out.size, hB3.out.block⟩, ?_⟩⟩, by simp [intOf]; omega⟩
        · rcases hcase.out with ⟨_, rfl⟩ | ⟨_, h, _⟩
          · exact ⟨hF.out.ok, hF.out.ps, fun p hp => by have := hF.out.pk p hp; omega, hF.out.pl, hF.out.sz⟩
          · rw [show ((j + 1 : Nat) : Int) + 1 = (j : Int) + 2 by omega]; exact h
        · have := hlv.out
          rcases hcase.out with ⟨_, rfl⟩ | ⟨_, _, h, _⟩
          · omega
          · have h2 := h.length_eq
            rw [leaves_len] at this ⊢
            simp only [List.length_cons] at h2
            omega
      · have hj3 : j = 30 := by omega
        subst hj3
        have hlt3 : (30 : Int) < len := by omega
        obtain ⟨t, hT, hF, hB, hlv⟩ := hI.out
        replace hT := Lib.hid hT; replace hF := Lib.hid hF; replace hB := Lib.hid hB; replace hlv := Lib.hid hlv
        go_wp2_with fail
        go_ret
        exact ⟨tr, t, rfl, hT.out, ⟨hF.out.ok, hF.out.ps, fun p hp => by have := hF.out.pk p hp; omega, hF.out.pl, hF.out.sz⟩, hB.out, by have := hlv.out; omega⟩
    · have : j = len := by omega
      subst this
      obtain ⟨t, hT, hF, hB, hlv⟩ := hI.out
      replace hT := Lib.hid hT; replace hF := Lib.hid hF; replace hB := Lib.hid hB; replace hlv := Lib.hid hlv
      go_wp2_with fail
      go_ret
      exact ⟨tr, t, rfl, hT.out, ⟨hF.out.ok, hF.out.ps, fun p hp => by have := hF.out.pk p hp; omega, hF.out.pl, hF.out.sz⟩, hB.out, by have := hlv.out; omega⟩
end Go.Proofs.YtcklmkjlbpjojaaDoor
namespace Go.Proofs.YtcklmkjlbpjojaaDoor
open Go.RowKit Go.ChangeShapes Go.WideShapes Go.Joins Go.Deep
set_option linter.unusedSimpArgs false
set_option linter.unusedVariables false

section
variable {H : Type} {enc : TypeId × Value → H} {w : World} {base : Nat} {spare : Nat → Bool} {held : Bool}
theorem i64_of {z : Int} (h : (Lit.int .i64 z).wf = true) : I64 z := by
  simp [Lit.wf, IntKind.min, IntKind.max, IntKind.signed, IntKind.bits] at h
  unfold I64; omega
theorem ops_in {fuel : Nat} {A : Option Addr} {n c : Nat} {x : DataW H × List MemPlace} (h : DataW.trod enc Tryd.prog w base spare held fuel 22 [.slice A n c] = some x) :
    ∃ l : List OpW, n = l.length ∧ Rd w A (opCells l) ∧ (∀ o ∈ l, o.ok) ∧ n ≤ 9223372036854775807 := by
  rcases open_slice_fields Tryd.underlying22 Tryd.underlying42 (by kernel_rfl) (by kernel_rfl) h with ⟨hcs, rfl⟩ | ⟨a, len, cap, m, D, Pl, hcs, _, hl, hm, hme, rfl, hD⟩
  · simp only [List.cons.injEq, and_true, Value.slice.injEq] at hcs
    obtain ⟨rfl, rfl, rfl⟩ := hcs
    exact ⟨[], rfl, Rd.nil _ _, by simp, by omega⟩
  · simp only [List.cons.injEq, and_true, Value.slice.injEq] at hcs
    obtain ⟨rfl, rfl, rfl⟩ := hcs
    have hnm : n ≤ m := by rw [hme]; split <;> omega
    have hml : maxLen = 9223372036854775807 := rfl
    have key : ∀ i, i < n → ∃ o : OpW, o.ok ∧ ∀ (j : Nat) (u : Value), o.cells[j]? = some u → w.cell? (a.add (i * 8 + j)) = some u := by
      intro i hi
      obtain ⟨ys, k, _, _, _, hf⟩ := hD i (by omega)
      obtain ⟨v0, y0, c0, _, t0⟩ := hf 0 _ rfl
      obtain ⟨v1, y1, c1, _, t1⟩ := hf 1 _ rfl
      obtain ⟨v2, y2, c2, _, t2⟩ := hf 2 _ rfl
      obtain ⟨v3, y3, c3, _, t3⟩ := hf 3 _ rfl
      obtain ⟨v4, y4, c4, _, t4⟩ := hf 4 _ rfl
      obtain ⟨v5, y5, c5, _, t5⟩ := hf 5 _ rfl
      obtain ⟨v6, y6, c6, _, t6⟩ := hf 6 _ rfl
      obtain ⟨v7, y7, c7, _, t7⟩ := hf 7 _ rfl
      obtain ⟨z0, rfl, _⟩ := int_form Tryd.underlying3 t0
      obtain ⟨z1, rfl, w1⟩ := int_form Tryd.underlying3 t1
      obtain ⟨z2, rfl, _⟩ := int_form Tryd.underlying3 t2
      obtain ⟨z3, rfl, w3⟩ := int_form Tryd.underlying3 t3
      obtain ⟨z4, rfl, _⟩ := int_form Tryd.underlying5 t4
      obtain ⟨z5, e5, _⟩ := DataW.trod_bool Tryd.underlying4 t5
      obtain ⟨z6, e6, _⟩ := DataW.trod_bool Tryd.underlying4 t6
      obtain ⟨z7, e7, _⟩ := DataW.trod_string Tryd.underlying9 t7
      simp only [List.cons.injEq, and_true] at e5 e6 e7
      subst e5; subst e6; subst e7
      refine ⟨⟨z0, z1, z2, z3, z4, z5, z6, z7⟩, ⟨i64_of w1, i64_of w3⟩, fun j u hu => ?_⟩
      have hj : j < 8 := (List.getElem?_eq_some_iff.1 hu).1
      have : j = 0 ∨ j = 1 ∨ j = 2 ∨ j = 3 ∨ j = 4 ∨ j = 5 ∨ j = 6 ∨ j = 7 := by omega
      rcases this with rfl | rfl | rfl | rfl | rfl | rfl | rfl | rfl <;> (simp only [OpW.cells] at hu; cases hu; assumption)
    have key2 : ∀ k, k ≤ n → ∃ l : List OpW, l.length = k ∧ (∀ o ∈ l, o.ok) ∧ ∀ (i : Nat) (u : Value), (opCells l)[i]? = some u → w.cell? (a.add i) = some u := by
      intro k
      induction k with
      | zero => intro _; exact ⟨[], rfl, by simp, fun i u hu => by simp [opCells] at hu⟩
      | succ k ih =>
        intro hk
        obtain ⟨l, hl', hok, h'⟩ := ih (by omega)
        obtain ⟨o, ho, hh⟩ := key k (by omega)
        have hlen : (opCells l).length = k * 8 := by
          rw [← hl']; clear h' hok hl'
          induction l with
          | nil => rfl
          | cons b l ih => simp only [opCells, List.flatMap_cons, List.length_append] at ih ⊢; rw [ih]; simp [OpW.cells]; omega
        refine ⟨l ++ [o], by simp [hl'], fun b hb => ?_, fun i u hu => ?_⟩
        · rcases List.mem_append.1 hb with h | h
          · exact hok b h
          · simp at h; subst h; exact ho
        · have e : opCells (l ++ [o]) = opCells l ++ o.cells := by simp [opCells]
          rw [e] at hu
          by_cases hi : i < k * 8
          · rw [List.getElem?_append_left (by omega)] at hu
            exact h' i u hu
          · rw [List.getElem?_append_right (by omega), hlen] at hu
            have := hh (i - k * 8) u hu
            rwa [show k * 8 + (i - k * 8) = i by omega] at this
    obtain ⟨l, hll, hok, hc⟩ := key2 n (Nat.le_refl _)
    exact ⟨l, hll.symm, rd_add hc, hok, by omega⟩
end
end Go.Proofs.YtcklmkjlbpjojaaDoor
namespace Go.Proofs.YtcklmkjlbpjojaaDoor
open Go.RowKit Go.ChangeShapes Go.WideShapes Go.Joins Go.Deep
set_option linter.unusedSimpArgs false
set_option linter.unusedVariables false

/-- All numbers of a call in reach. -/
def OkAll (o : OpW) : Prop := I64 o.kind ∧ I64 o.a ∧ I64 o.b ∧ I64 o.n ∧ 0 ≤ o.way ∧ o.way ≤ 255
section
variable {H : Type} {enc : TypeId × Value → H} {w : World} {base : Nat} {spare : Nat → Bool} {held : Bool}
theorem u8_of {z : Int} (h : (Lit.int .u8 z).wf = true) : 0 ≤ z ∧ z ≤ 255 := by
  simp [Lit.wf, IntKind.min, IntKind.max, IntKind.signed, IntKind.bits] at h
  omega
theorem ops_in_all {fuel : Nat} {A : Option Addr} {n c : Nat} {x : DataW H × List MemPlace} (h : DataW.trod enc Tryd.prog w base spare held fuel 22 [.slice A n c] = some x) :
    ∃ l : List OpW, n = l.length ∧ Rd w A (opCells l) ∧ (∀ o ∈ l, OkAll o) ∧ n ≤ 9223372036854775807 := by
  rcases open_slice_fields Tryd.underlying22 Tryd.underlying42 (by kernel_rfl) (by kernel_rfl) h with ⟨hcs, rfl⟩ | ⟨a, len, cap, m, D, Pl, hcs, _, hl, hm, hme, rfl, hD⟩
  · simp only [List.cons.injEq, and_true, Value.slice.injEq] at hcs
    obtain ⟨rfl, rfl, rfl⟩ := hcs
    exact ⟨[], rfl, Rd.nil _ _, by simp, by omega⟩
  · simp only [List.cons.injEq, and_true, Value.slice.injEq] at hcs
    obtain ⟨rfl, rfl, rfl⟩ := hcs
    have hnm : n ≤ m := by rw [hme]; split <;> omega
    have hml : maxLen = 9223372036854775807 := rfl
    have key : ∀ i, i < n → ∃ o : OpW, OkAll o ∧ ∀ (j : Nat) (u : Value), o.cells[j]? = some u → w.cell? (a.add (i * 8 + j)) = some u := by
      intro i hi
      obtain ⟨ys, k, _, _, _, hf⟩ := hD i (by omega)
      obtain ⟨v0, y0, c0, _, t0⟩ := hf 0 _ rfl
      obtain ⟨v1, y1, c1, _, t1⟩ := hf 1 _ rfl
      obtain ⟨v2, y2, c2, _, t2⟩ := hf 2 _ rfl
      obtain ⟨v3, y3, c3, _, t3⟩ := hf 3 _ rfl
      obtain ⟨v4, y4, c4, _, t4⟩ := hf 4 _ rfl
      obtain ⟨v5, y5, c5, _, t5⟩ := hf 5 _ rfl
      obtain ⟨v6, y6, c6, _, t6⟩ := hf 6 _ rfl
      obtain ⟨v7, y7, c7, _, t7⟩ := hf 7 _ rfl
      obtain ⟨z0, rfl, w0⟩ := int_form Tryd.underlying3 t0
      obtain ⟨z1, rfl, w1⟩ := int_form Tryd.underlying3 t1
      obtain ⟨z2, rfl, w2⟩ := int_form Tryd.underlying3 t2
      obtain ⟨z3, rfl, w3⟩ := int_form Tryd.underlying3 t3
      obtain ⟨z4, rfl, w4⟩ := int_form Tryd.underlying5 t4
      obtain ⟨z5, e5, _⟩ := DataW.trod_bool Tryd.underlying4 t5
      obtain ⟨z6, e6, _⟩ := DataW.trod_bool Tryd.underlying4 t6
      obtain ⟨z7, e7, _⟩ := DataW.trod_string Tryd.underlying9 t7
      simp only [List.cons.injEq, and_true] at e5 e6 e7
      subst e5; subst e6; subst e7
      refine ⟨⟨z0, z1, z2, z3, z4, z5, z6, z7⟩, ⟨i64_of w0, i64_of w1, i64_of w2, i64_of w3, u8_of w4⟩, fun j u hu => ?_⟩
      have hj : j < 8 := (List.getElem?_eq_some_iff.1 hu).1
      have : j = 0 ∨ j = 1 ∨ j = 2 ∨ j = 3 ∨ j = 4 ∨ j = 5 ∨ j = 6 ∨ j = 7 := by omega
      rcases this with rfl | rfl | rfl | rfl | rfl | rfl | rfl | rfl <;> (simp only [OpW.cells] at hu; cases hu; assumption)
    have key2 : ∀ k, k ≤ n → ∃ l : List OpW, l.length = k ∧ (∀ o ∈ l, OkAll o) ∧ ∀ (i : Nat) (u : Value), (opCells l)[i]? = some u → w.cell? (a.add i) = some u := by
      intro k
      induction k with
      | zero => intro _; exact ⟨[], rfl, by simp, fun i u hu => by simp [opCells] at hu⟩
      | succ k ih =>
        intro hk
        obtain ⟨l, hl', hok, h'⟩ := ih (by omega)
        obtain ⟨o, ho, hh⟩ := key k (by omega)
        have hlen : (opCells l).length = k * 8 := by
          rw [← hl']; clear h' hok hl'
          induction l with
          | nil => rfl
          | cons b l ih => simp only [opCells, List.flatMap_cons, List.length_append] at ih ⊢; rw [ih]; simp [OpW.cells]; omega
        refine ⟨l ++ [o], by simp [hl'], fun b hb => ?_, fun i u hu => ?_⟩
        · rcases List.mem_append.1 hb with h | h
          · exact hok b h
          · simp at h; subst h; exact ho
        · have e : opCells (l ++ [o]) = opCells l ++ o.cells := by simp [opCells]
          rw [e] at hu
          by_cases hi : i < k * 8
          · rw [List.getElem?_append_left (by omega)] at hu
            exact h' i u hu
          · rw [List.getElem?_append_right (by omega), hlen] at hu
            have := hh (i - k * 8) u hu
            rwa [show k * 8 + (i - k * 8) = i by omega] at this
    obtain ⟨l, hll, hok, hc⟩ := key2 n (Nat.le_refl _)
    exact ⟨l, hll.symm, rd_add hc, hok, by omega⟩
end
end Go.Proofs.YtcklmkjlbpjojaaDoor
