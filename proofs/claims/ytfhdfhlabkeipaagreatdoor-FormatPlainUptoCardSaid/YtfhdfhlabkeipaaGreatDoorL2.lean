/- Format: what stands at a round's head of loop, and how the steps of a round carry it. -/
import Derived.Test.YtfhdfhlabkeipaaGreatDoorBase
import Derived.Test.YtfhdfhlabkeipaaGreatDoorL1
namespace Go.Proofs.YtfhdfhlabkeipaaGreatDoor
open Go.RowKit
set_option linter.unusedSimpArgs false
set_option linter.unusedVariables false

theorem Bd.row {base bb : Nat} {w : World} {v : Value} {l : B} (h : Bd base bb w v l) : w.ownsRow base 5 1 v l.length (bs l) := h.choose_spec.2.2.2.1
theorem Bd.type_ {base bb : Nat} {w : World} {v : Value} {l : B} (h : Bd base bb w v l) : ∃ c, w.heap[bb]? = some (.cells c 95 (0, 0)) := ⟨_, h.choose_spec.2.2.1⟩
theorem Bd.lo {base bb : Nat} {w : World} {v : Value} {l : B} (h : Bd base bb w v l) : base ≤ bb := h.choose_spec.2.1
theorem Bd.same {base bb : Nat} {w w' : World} {v : Value} {l : B} (h : Bd base bb w v l) (h1 : w'.heap[bb]? = w.heap[bb]?) (h2 : ∀ b, v.ownBlock = some b → w'.heap[b]? = w.heap[b]?) : Bd base bb w' v l := by
  obtain ⟨p, q1, q2, q3, q4, q5⟩ := h
  exact ⟨p, q1, q2, by rw [h1]; exact q3, own_same q4 h2, q5⟩
theorem type_ne {w : World} {b1 b2 : Nat} {c1 c2 : Array Value} {t1 t2 : TypeId} {z1 z2 : Nat × Nat} (h1 : w.heap[b1]? = some (.cells c1 t1 z1)) (h2 : w.heap[b2]? = some (.cells c2 t2 z2)) (hne : t1 ≠ t2) : b1 ≠ b2 := by
  rintro rfl
  rw [h1] at h2
  injection h2 with h2
  injection h2 with _ h3
  exact hne h3
theorem own_type {w : World} {base size m : Nat} {e : TypeId} {v : Value} {xs : List Value} (h : w.ownsRow base e size v m xs) {b : Nat} (hb : v.ownBlock = some b) : ∃ c, w.heap[b]? = some (.cells c e (0, 0)) := by
  rcases h.2 with ⟨rfl, _⟩ | ⟨g, cap, cur, rfl, hbs, hgg, rest⟩
  · cases hb
  · have : g = b := by simpa [Value.ownBlock] using hb
    subst this
    exact ⟨_, hgg⟩
/-- At a round's head, and between the steps of a round. -/
structure LS (base mb ab0 deep bb : Nat) (pv : Value) (ps : List B) (la : Option Addr) (l : List (List (B × B))) (w wr : World) (scs : List (Option Sc)) (ab cap n : Nat) (v : Value) (acc : B) : Prop where
  k : Kp mb ab0 w wr
  m : Mk base mb wr ab cap scs deep n
  a : ab = ab0 ∨ w.heap.size ≤ ab
  b : Bd w.heap.size bb wr v acc
  p : wr.ownsRow w.heap.size 9 1 pv ps.length (ss ps)
  i : InsAt base wr la l
section
variable {base mb ab0 deep bb : Nat} {pv : Value} {ps : List B} {la : Option Addr} {l : List (List (B × B))} {w wr w2 : World} {scs scs2 : List (Option Sc)} {ab cap n ab2 cap2 n2 deep2 : Nat} {v v2 : Value} {acc x : B}
theorem LS.mb_lt (h : LS base mb ab0 deep bb pv ps la l w wr scs ab cap n v acc) : base ≤ mb := h.m.lo
theorem LS.grown (h : LS base mb ab0 deep bb pv ps la l w wr scs ab cap n v acc) (hB : base ≤ w.heap.size) (g : wr.grownBy w2 none) : LS base mb ab0 deep bb pv ps la l w w2 scs ab cap n v acc := by
  have hBr : base ≤ wr.heap.size := Nat.le_trans hB h.k.size
  obtain ⟨c, hc⟩ := h.b.type_
  exact ⟨h.k.grow0 g, h.m.grown hBr g, h.a, h.b.same (g.block bb (Array.getElem?_eq_some_iff.1 hc).1 (by simp)) (fun b hb => g.block b (own_lt h.b.row hb).2 (by simp)), own_keep h.p g, h.i.below ⟨g.os, g.tape, g.output, g.size, fun k hk => g.block k (Nat.lt_of_lt_of_le hk hBr) (by simp)⟩⟩
theorem LS.kp (h : LS base mb ab0 deep bb pv ps la l w wr scs ab cap n v acc) (hB : base ≤ w.heap.size) (g : Kp mb ab wr w2) (hM : Mk base mb w2 ab2 cap2 scs2 deep2 n2) (ha : ab2 = ab ∨ wr.heap.size ≤ ab2) : LS base mb ab0 deep2 bb pv ps la l w w2 scs2 ab2 cap2 n2 v acc := by
  have hBr : base ≤ wr.heap.size := Nat.le_trans hB h.k.size
  obtain ⟨c, hc⟩ := h.b.type_
  obtain ⟨cs, h1, _⟩ := h.m.sc
  obtain ⟨c2, hc2⟩ := own_type h1 (b := ab) rfl
  obtain ⟨n1, n2⟩ := h.m.ne_bytes h.b.row
  obtain ⟨n3, n4⟩ := h.m.ne_row h.p (by decide) (by decide)
  refine ⟨h.k.trans g h.a, hM, ?_, h.b.same (g.block bb (Array.getElem?_eq_some_iff.1 hc).1 (type_ne hc h.m.h (by decide)) (type_ne hc hc2 (by decide))) (fun b hb => g.block b (own_lt h.b.row hb).2 (by rintro rfl; exact n1 hb) (by rintro rfl; exact n2 hb)), g.own h.p n3 n4, h.i.below (g.below hBr h.m.lo h.m.ab_lo.1)⟩
  rcases ha with rfl | ha
  · exact h.a
  · exact .inr (Nat.le_trans h.k.size ha)
theorem LS.frm (h : LS base mb ab0 deep bb pv ps la l w wr scs ab cap n v acc) (hB : base ≤ w.heap.size) (hmb : mb < w.heap.size) (g : Fr (bdR bb v) wr w2) : Kp mb ab0 w w2 ∧ Mk base mb w2 ab cap scs deep n ∧ w2.ownsRow w.heap.size 9 1 pv ps.length (ss ps) ∧ InsAt base w2 la l := by
  have hBr : base ≤ wr.heap.size := Nat.le_trans hB h.k.size
  obtain ⟨c, hc⟩ := h.b.type_
  obtain ⟨cs, h1, h2⟩ := h.m.sc
  obtain ⟨c2, hc2⟩ := own_type h1 (b := ab) rfl
  obtain ⟨n1, n2⟩ := h.m.ne_bytes h.b.row
  have hlow : ∀ k, k < w.heap.size → ¬ bdR bb v k := fun k hk hr => by
    rcases hr with rfl | hr
    · have := h.b.lo; omega
    · have := (own_lt h.b.row hr).1; omega
  have hab : ¬ bdR bb v ab := fun hr => by
    rcases hr with e | hr
    · exact type_ne hc hc2 (by decide) e.symm
    · exact n2 hr
  have hmm : ¬ bdR bb v mb := hlow mb hmb
  have hbel : Below base wr w2 := ⟨g.os, g.tape, g.output, g.size, fun k hk => g.block k (Nat.lt_of_lt_of_le hk hBr) (hlow k (Nat.lt_of_lt_of_le hk hB))⟩
  refine ⟨⟨g.os.trans h.k.os, g.tape.trans h.k.tape, g.output.trans h.k.output, Nat.le_trans h.k.size g.size, fun k hk q1 q2 => (g.block k (Nat.lt_of_lt_of_le hk h.k.size) (hlow k hk)).trans (h.k.block k hk q1 q2)⟩, ?_, own_same h.p fun b hb' => g.block b (own_lt h.p hb').2 fun hr => ?_, h.i.below hbel⟩
  · refine ⟨(g.block mb h.m.lt hmm).trans h.m.h, h.m.lo, h.m.dl, h.m.sl, h.m.ne, h.m.tb.below hbel, cs, own_same h1 fun b hb' => ?_, fun j o hj => ?_⟩
    · have : ab = b := by simpa [Value.ownBlock] using hb'
      subst this
      exact g.block ab h.m.ab_lo.2 hab
    · obtain ⟨v1, v2, q1, q2, q3, q4, q5⟩ := h2 j o hj
      exact ⟨v1, v2, q1, q2, q3, q4, fun s hs => (q5 s hs).below hbel⟩
  · obtain ⟨c3, hc3⟩ := own_type h.p hb'
    rcases hr with e | hr
    · rw [e] at hc3
      exact type_ne hc hc3 (by decide) rfl
    · obtain ⟨c4, hc4⟩ := own_type h.b.row hr
      exact type_ne hc3 hc4 (by decide) rfl
theorem LS.wrote (h : LS base mb ab0 deep bb pv ps la l w wr scs ab cap n v acc) (hB : base ≤ w.heap.size) (hmb : mb < w.heap.size) (g : Fr (bdR bb v) wr w2) (hb : Bd w.heap.size bb w2 v2 x) : LS base mb ab0 deep bb pv ps la l w w2 scs ab cap n v2 x := by
  obtain ⟨h1, h2, h3, h4⟩ := h.frm hB hmb g
  exact ⟨h1, h2, h.a, hb, h3, h4⟩
/-- A scope laid on the stack. -/
theorem Mk.push (h : Mk base mb w ab cap scs deep n) (hB : base ≤ w.heap.size) {sc : Sc} {v1 v2 : Value} (hs : ScAt base w sc v1 v2) (ho1 : v1.oneCell' = true) (ho2 : v2.oneCell' = true) {wr : World} {cs : List Value} {c : Nat}
    (hcs : ∀ j o, scs.reverse[j]? = some o → ∃ v1 v2, cs[j * 2]? = some v1 ∧ cs[j * 2 + 1]? = some v2 ∧ v1.oneCell' = true ∧ v2.oneCell' = true ∧ ∀ s, o = some s → ScAt base w s v1 v2) (hcl : cs.length = scs.length * 2)
    (hO : wr.ownsRow base 28 2 (.slice (some ⟨ab2, 0, none⟩) (scs.length + 1) c) (scs.length + 1) (cs ++ [v1, v2])) (hm : wr.heap[mb]? = w.heap[mb]?) (hbel : Below base w wr) :
    Mk base mb (wr.setCell ⟨mb, 0, none⟩ (.slice (some ⟨ab2, 0, none⟩) (scs.length + 1) c)) ab2 c (some sc :: scs) deep n := by
  have hmw : wr.heap[mb]? = some (.cells #[.slice (some ⟨ab, 0, none⟩) scs.length cap, .int .i64 deep, .int .i64 n] 56 (0, 0)) := hm.trans h.h
  obtain ⟨c2, hc2⟩ := own_type hO (b := ab2) rfl
  have hne : ab2 ≠ mb := fun e => type_ne hc2 hmw (by decide) e
  refine ⟨by rw [bd_set hmw]; rfl, h.lo, h.dl, h.sl, hne, (h.tb.below hbel).below ⟨rfl, rfl, rfl, by simp [World.setCell], fun k hk => bd_set_other (by have := h.lo; omega) _⟩, cs ++ [v1, v2], own_same hO fun b hb => ?_, fun j o hj => ?_⟩
  · have : ab2 = b := by simpa [Value.ownBlock] using hb
    subst this
    exact bd_set_other hne _
  · have hbel2 : Below base wr (wr.setCell ⟨mb, 0, none⟩ (.slice (some ⟨ab2, 0, none⟩) (scs.length + 1) c)) := ⟨rfl, rfl, rfl, by simp [World.setCell], fun k hk => bd_set_other (by have := h.lo; omega) _⟩
    rw [List.reverse_cons] at hj
    by_cases hjl : j < scs.length
    · rw [List.getElem?_append_left (by simpa using hjl)] at hj
      obtain ⟨u1, u2, q1, q2, q3, q4, q5⟩ := hcs j o hj
      exact ⟨u1, u2, by rw [List.getElem?_append_left (by omega)]; exact q1, by rw [List.getElem?_append_left (by omega)]; exact q2, q3, q4, fun s hs => ((q5 s hs).below hbel).below hbel2⟩
    · have hj1 : j = scs.length := by
        have := (List.getElem?_eq_some_iff.1 hj).1
        simp at this
        omega
      subst hj1
      have ho : o = some sc := by simpa using hj.symm
      subst ho
      refine ⟨v1, v2, ?_, ?_, ho1, ho2, fun s hs' => ?_⟩
      · rw [List.getElem?_append_right (by omega), hcl, Nat.sub_self]; rfl
      · rw [List.getElem?_append_right (by omega), hcl]
        rw [show scs.length * 2 + 1 - scs.length * 2 = 1 by omega]; rfl
      · injection hs' with hs'
        subst hs'
        exact (hs.below hbel).below hbel2
/-- .. and taken away. -/
theorem Mk.pop {o : Option Sc} (h : Mk base mb w ab cap (o :: scs) deep n) :
    Mk base mb (w.setCell ⟨mb, 0, none⟩ (.slice (some ⟨ab, 0, none⟩) scs.length cap)) ab cap scs deep n := by
  obtain ⟨cs, h1, h2⟩ := h.sc
  refine ⟨by rw [bd_set h.h]; rfl, h.lo, h.dl, h.sl, h.ne, h.tb.below ⟨rfl, rfl, rfl, by simp [World.setCell], fun k hk => bd_set_other (by have := h.lo; omega) _⟩, cs.take (scs.length * 2), ?_, fun j o hj => ?_⟩
  · refine own_same (w := w) ?_ fun b hb => ?_
    · have hlen := h1.1
      rw [List.length_cons] at hlen
      refine ⟨by rw [List.length_take, hlen]; omega, ?_⟩
      rcases h1.2 with ⟨hh, _⟩ | ⟨g, c, cur, hh, q1, q2, q3, q4, q5, q6⟩
      · cases hh
      · injection hh with e1 e2 e3
        injection e1 with e1
        injection e1 with e1 _ _
        subst e1; subst e3
        refine .inr ⟨ab, cap, cur, rfl, q1, q2, by rw [List.length_cons] at q3; omega, q4, q5, ?_⟩
        rw [← q6, List.take_take, List.length_cons]
        congr 1
        omega
    · have : ab = b := by simpa [Value.ownBlock] using hb
      subst this
      exact bd_set_other h.ne _
  · have hjl := (List.getElem?_eq_some_iff.1 hj).1
    have hjl2 : j < scs.length := by simpa using hjl
    obtain ⟨v1, v2, q1, q2, q3, q4, q5⟩ := h2 j o (by rw [List.reverse_cons, List.getElem?_append_left hjl]; exact hj)
    exact ⟨v1, v2, by rw [List.getElem?_take_of_lt (by omega)]; exact q1, by rw [List.getElem?_take_of_lt (by omega)]; exact q2, q3, q4, fun s hs => (q5 s hs).below ⟨rfl, rfl, rfl, by simp [World.setCell], fun k hk => bd_set_other (by have := h.lo; omega) _⟩⟩
end
end Go.Proofs.YtfhdfhlabkeipaaGreatDoor
