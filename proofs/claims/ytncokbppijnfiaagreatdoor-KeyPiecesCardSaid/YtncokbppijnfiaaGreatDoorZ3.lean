/- Key: two rows of keys that are alike; a decoder fed with pieces. -/
import Derived.Test.YtncokbppijnfiaaGreatDoorZ2
namespace Go.Proofs.YtncokbppijnfiaaGreatDoor
open Go.RowKit
set_option linter.unusedSimpArgs false
set_option linter.unusedVariables false

theorem ms_at : ∀ (l : List Ms) (i : Nat) (k : Ms), l[i]? = some k → ∀ j v, (msC k)[j]? = some v → (msCells l)[i * 5 + j]? = some v
  | [], _, _, h, _, _, _ => by simp at h
  | x :: l, 0, k, h, j, v, hj => by
    have : x = k := by simpa using h
    subst this
    have hl : j < (msC x).length := (List.getElem?_eq_some_iff.1 hj).1
    rw [show msCells (x :: l) = msC x ++ msCells l from by simp [msCells], Nat.zero_mul, Nat.zero_add, List.getElem?_append_left hl, hj]
  | x :: l, i + 1, k, h, j, v, hj => by
    have := ms_at l i k (by simpa using h) j v hj
    have h5 : (msC x).length = 5 := rfl
    rw [show msCells (x :: l) = msC x ++ msCells l from by simp [msCells], List.getElem?_append_right (by rw [h5]; omega), h5, show (i + 1) * 5 + j - 5 = i * 5 + j by omega, this]
theorem Rd.key {w : World} {A : Option Addr} {l : List Ms} (h : Rd w A (msCells l)) {i : Nat} {k : Ms} (hk : l[i]? = some k) : ∃ b off, A = some ⟨b, off, none⟩ ∧ w.cell? ⟨b, off + i * 5, none⟩ = some (.int .i64 k.c) ∧ w.cell? ⟨b, off + i * 5 + 1, none⟩ = some (.int .i64 k.m) ∧ w.cell? ⟨b, off + i * 5 + 2, none⟩ = some (.int .i64 k.b) ∧ w.cell? ⟨b, off + i * 5 + 3, none⟩ = some (.int .i64 k.x) ∧ w.cell? ⟨b, off + i * 5 + 4, none⟩ = some (.int .i64 k.y) := by
  obtain ⟨b, off, e0, _, c0⟩ := h.at_ (ms_at l i k hk 0 _ rfl)
  obtain ⟨_, _, e1, _, c1⟩ := h.at_ (ms_at l i k hk 1 _ rfl)
  obtain ⟨_, _, e2, _, c2⟩ := h.at_ (ms_at l i k hk 2 _ rfl)
  obtain ⟨_, _, e3, _, c3⟩ := h.at_ (ms_at l i k hk 3 _ rfl)
  obtain ⟨_, _, e4, _, c4⟩ := h.at_ (ms_at l i k hk 4 _ rfl)
  subst e0
  cases e1; cases e2; cases e3; cases e4
  exact ⟨b, off, rfl, c0, c1, c2, c3, c4⟩
set_option maxHeartbeats 1000000 in
set_option maxRecDepth 100000 in
theorem same_eq (l : List Ms) (A B : Option Addr) (n c1 c2 : Nat) (w : World) (hn : n = l.length) (hb : n ≤ 1000000) (hA : Rd w A (msCells l)) (hB : Rd w B (msCells l)) :
    Calls Tryz.prog 17 #[.slice A n c1, .slice B n c2] w fun e w' => e = .returned (.bool true) ∧ w.grownBy w' none := by
  replace hn := Lib.hid hn; replace hA := Lib.hid hA; replace hB := Lib.hid hB
  go_enter Tryz.func17, Tryz.ntmps17
  go_wp2_with fail
  go_loopw [5] (fun iv wr => ∃ i : Nat, i ≤ n ∧ iv = .int .i64 i ∧ Hid (w.grownBy wr none)) (fun iv _ => n - (match iv with | .int _ i => i | _ => 0).toNat)
  case atStart => exact ⟨0, Nat.zero_le _, rfl, Lib.hid (World.grownBy.refl _ _)⟩
  case round =>
    obtain ⟨i, hi, rfl, hg⟩ := hrel
    by_cases h : i < n
    · obtain ⟨k, hk⟩ : ∃ k, l[i]? = some k := ⟨l[i]'(by rw [← hn.out]; exact h), List.getElem?_eq_getElem _⟩
      obtain ⟨ba, oa, rfl, a0, a1, a2, a3, a4⟩ := (hA.out.grown hg.out (.inl rfl)).key hk
      obtain ⟨bb, ob, rfl, b0, b1, b2, b3, b4⟩ := (hB.out.grown hg.out (.inl rfl)).key hk
      have h' : (i : Int) < n := by omega
      have hw1 : wrap64 ((i : Int) + 1) = ((i + 1 : Nat) : Int) := by rw [IntWalk.wrap64_in _ (by omega)]; omega
      replace hk := Lib.hid hk
      go_upto_region 6 with fail
      go_quiet (fail)
      go_wp2_with fail
      refine ⟨⟨i + 1, by omega, by go_num, Lib.hid ⟨hg.out.os, hg.out.tape, hg.out.output, hg.out.size, hg.out.block⟩⟩, by go_num⟩
    · have h' : ¬ (i : Int) < n := by omega
      go_wp2_with fail
      go_ret
      exact ⟨rfl, hg.out⟩
theorem g_to {w0 w1 w2 : World} {p : Nat} {r : Option Nat} (h : w0.grownBy w1 (some p)) (hr : ∀ g, r = some g → w0.heap.size ≤ g ∨ g = p) (h2 : w1.grownBy w2 r) : w0.grownBy w2 (some p) :=
  ⟨h2.os.trans h.os, h2.tape.trans h.tape, h2.output.trans h.output, Nat.le_trans h.size h2.size, fun k hk hne => (h2.block k (Nat.lt_of_lt_of_le hk h.size) (by
    intro e
    rcases hr k e.symm with h3 | h3
    · omega
    · exact hne (by rw [h3]))).trans (h.block k hk hne)⟩
/-- The decoder in pb has been fed the first a bytes of S: its keys are ys, rb waits. -/
structure Pi5 (w0 w5 : World) (pb : Nat) (S : List UInt8) (a : Nat) (ys : List Ms) (rb : List UInt8) (yv bv : Value) (wr : World) : Prop where
  wf : Wf w0 wr
  g : w5.grownBy wr (some pb)
  d : DB wr pb bv
  o : wr.ownsRow w5.heap.size 5 1 bv rb.length (bs rb)
  y : wr.ownsRow w5.heap.size 40 5 yv ys.length (msCells ys)
  t : Took (frG false) (S.take a) ys rb
  l : ys.length + rb.length ≤ a
theorem Pi5.grown {w0 w5 wr W : World} {pb a : Nat} {S : List UInt8} {ys : List Ms} {rb : List UInt8} {yv bv : Value} (h : Pi5 w0 w5 pb S a ys rb yv bv wr) (hc : wr.grownBy W none) : Pi5 w0 w5 pb S a ys rb yv bv W :=
  ⟨h.wf.grown hc (by simp), h.g.trans (hc.but (some pb)), h.d.grown hc (by simp), own_keep h.o hc, own_keep h.y hc, h.t, h.l⟩
theorem Pi5.feed {w0 w5 wr : World} {pb : Nat} {S : List UInt8} {a a' : Nat} {ys : List Ms} {rb : List UInt8} {yv : Value} {Ab : Option Addr} {cb : Nat} (h : Pi5 w0 w5 pb S a ys rb yv (.slice Ab rb.length cb) wr) (P : List UInt8) (hP : S.take a ++ P = S.take a') (ha : a + P.length = a') (hs : a' ≤ 900000)
    (h0 : w0.heap.size ≤ pb) (h1 : pb < w5.heap.size) (W : World) (hc : wr.grownBy W none) (Ap : Option Addr) (m cp : Nat) (hm : m = P.length) (hR : Rd W Ap (bs P)) :
    ∃ o' r', (ys.length + o'.length ≤ a' ∧ r'.length ≤ a') ∧ Calls Tryz.prog 13 #[.pointer (some ⟨pb, 0, none⟩), .slice Ap m cp] W fun e w' => ∃ Ao co Ab' cb', e = .returned (.slice Ao o'.length co) ∧ Rd w' Ao (msCells o') ∧ w'.ownsRow w5.heap.size 40 5 yv ys.length (msCells ys) ∧ w5.heap.size ≤ w'.heap.size ∧
      ∀ yv' W', W'.ownsRow w5.heap.size 40 5 yv' (ys.length + o'.length) (msCells ys ++ msCells o') → w'.grownBy W' yv.ownBlock → Pi5 w0 w5 pb S a' (ys ++ o') r' yv' (.slice Ab' r'.length cb') W' := by
  obtain ⟨o', r', t, t1, t2, _⟩ := took_ex false _ (rb ++ P) (Nat.le_refl _)
  rw [List.length_append] at t1 t2
  have hl := h.l
  refine ⟨o', r', ⟨by omega, by omega⟩, ?_⟩
  have hWf : Wf w0 W := h.wf.grown hc (by simp)
  have hb0 : w0.heap.size ≤ w5.heap.size := by omega
  have hbW : w5.heap.size ≤ W.heap.size := Nat.le_trans h.g.size hc.size
  have hoW := own_keep h.o hc
  have hyW := own_keep h.y hc
  have CF := feed_any (frG false) pb rb.length cb w5.heap.size m cp Ab Ap rb P r' o' w0 W hWf hb0 h0 hbW (h.d.grown hc (by simp)) hoW rfl hm (by omega) hR t (frontAt_G false _ (by rw [List.length_append]; omega))
  refine CF.mono ?_
  rintro e w' ⟨Ao, co, Ab', cb', w1, rfl, O, D, O2, g1, g2⟩
  have hne : Value.ownBlock yv = none ∨ Value.ownBlock yv ≠ (Value.slice Ab rb.length cb).ownBlock := own_ne hyW hoW (by decide)
  have hy1 := hyW.kept g1 hne
  have hy2 := own_but hy1 g2 h1
  have hge : ∀ g, (Value.slice Ab rb.length cb).ownBlock = some g → w5.heap.size ≤ g := fun g hg => (hoW.lt g hg).1
  have G1 : w5.grownBy w1 (some pb) := g_to (h.g.trans (hc.but (some pb))) (fun g hg => .inl (hge g hg)) g1
  have G2 := G1.trans g2
  have wf1 : Wf w0 w1 := hWf.grown g1 (fun g hg => Nat.le_trans hb0 (hge g hg))
  have wf2 : Wf w0 w' := wf1.grown g2 (fun g hg => by injection hg with hg; omega)
  refine ⟨Ao, co, Ab', cb', rfl, Rd.own_row O, hy2, G2.size, fun yv' W' hy' gy => ?_⟩
  have hgy : ∀ g, yv.ownBlock = some g → w5.heap.size ≤ g := fun g hg => (h.y.lt g hg).1
  have O3 := own_le O2 hbW
  refine ⟨wf2.grown gy (fun g hg => Nat.le_trans hb0 (hgy g hg)), g_to G2 (fun g hg => .inl (hgy g hg)) gy, D.grown gy (fun e => by have := hgy pb e.symm; omega), O3.kept gy (own_ne O3 hy2 (by decide)), ?_, ?_, ?_⟩
  · rw [List.length_append, show msCells (ys ++ o') = msCells ys ++ msCells o' by simp [msCells]]
    exact hy'
  · rw [← hP]
    exact took_app h.t P t
  · rw [List.length_append]; omega
theorem took_in {up : Bool} {l : List UInt8} {o : List Ms} {r : List UInt8} (h : Took (frG up) l o r) : ∀ k ∈ o, 0 ≤ k.c ∧ k.c ≤ 2097151 := by
  induction h with
  | nil => intro k hk; cases hk
  | waits => intro k hk; cases hk
  | is l o r h hi h1 hn hr ih =>
    intro k hk
    rw [List.mem_cons] at hk
    rcases hk with rfl | hk
    · exact (frG_ok up l).2.1
    · exact ih k hk
  | skip l o r h hi h1 hn hr ih => exact ih
end Go.Proofs.YtncokbppijnfiaaGreatDoor
