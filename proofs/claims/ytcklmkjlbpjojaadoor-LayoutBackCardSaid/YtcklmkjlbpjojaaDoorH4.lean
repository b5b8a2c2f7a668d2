/- Layout: the chapter's example, call by call. -/
import Derived.Test.YtcklmkjlbpjojaaDoorH1
import Derived.Test.YtcklmkjlbpjojaaDoorG6
import Derived.Test.YtcklmkjlbpjojaaDoorH3
namespace Go.Proofs.YtcklmkjlbpjojaaDoor
open Go.RowKit
set_option linter.unusedSimpArgs false
set_option linter.unusedVariables false

/-- A node's blocks. -/
abbrev Bk := Nat × Option Nat × Nat
def mkN (k : Bk) (p x y a b way : Int) : Nd := ⟨k.1, k.2.1, k.2.2, p, x, y, a, b, way⟩
def bkOf (n : Nd) : Bk := (n.g, n.A, n.c)
theorem nd_eq {n : Nd} {p a b way : Int} (h1 : n.p = p) (h2 : n.a = a) (h3 : n.b = b) (h4 : n.way = way) (x y : Int) : ({ n with x := x, y := y } : Nd) = mkN (bkOf n) p x y a b way := by subst h1 h2 h3 h4; rfl
def tr1 (F L N : Bk) : T := .mk (mkN F 0 0 0 80 24 0) [.mk (mkN L 1 0 0 40 24 0) [], .mk (mkN N 2 41 0 39 24 0) []]
def tr2 (F L S A B : Bk) : T := .mk (mkN F 0 0 0 80 24 0) [.mk (mkN L 1 0 0 40 24 0) [], .mk (mkN S 0 41 0 39 24 1) [.mk (mkN A 2 41 0 39 18 0) [], .mk (mkN B 3 41 19 39 5 0) []]]
def tr3 (F L S A B : Bk) : T := .mk (mkN F 0 0 0 80 24 0) [.mk (mkN L 1 0 0 40 24 0) [], .mk (mkN S 0 41 0 39 24 1) [.mk (mkN A 2 41 0 39 16 0) [], .mk (mkN B 3 41 17 39 7 0) []]]
def tr4 (S A B : Bk) : T := .mk (mkN S 0 0 0 80 24 1) [.mk (mkN A 2 0 0 80 16 0) [], .mk (mkN B 3 0 17 80 7 0) []]
theorem leaves_leaf (n : Nd) : (T.mk n []).leaves = [.mk n []] := by rw [T.leaves_mk, leavesL_nil]; rfl
theorem leaves_tr1 (F L N : Bk) : (tr1 F L N).leaves = [.mk (mkN L 1 0 0 40 24 0) [], .mk (mkN N 2 41 0 39 24 0) []] := by
  unfold tr1; rw [T.leaves_mk, if_neg (by simp), leavesL_cons, leavesL_cons, leavesL_nil, leaves_leaf, leaves_leaf]; rfl
theorem leaves_tr2 (F L S A B : Bk) : (tr2 F L S A B).leaves = [.mk (mkN L 1 0 0 40 24 0) [], .mk (mkN A 2 41 0 39 18 0) [], .mk (mkN B 3 41 19 39 5 0) []] := by
  unfold tr2; rw [T.leaves_mk, if_neg (by simp), leavesL_cons, leavesL_cons, leavesL_nil, leaves_leaf, T.leaves_mk, if_neg (by simp), leavesL_cons, leavesL_cons, leavesL_nil, leaves_leaf, leaves_leaf]; rfl
theorem leaves_tr3 (F L S A B : Bk) : (tr3 F L S A B).leaves = [.mk (mkN L 1 0 0 40 24 0) [], .mk (mkN A 2 41 0 39 16 0) [], .mk (mkN B 3 41 17 39 7 0) []] := by
  unfold tr3; rw [T.leaves_mk, if_neg (by simp), leavesL_cons, leavesL_cons, leavesL_nil, leaves_leaf, T.leaves_mk, if_neg (by simp), leavesL_cons, leavesL_cons, leavesL_nil, leaves_leaf, leaves_leaf]; rfl
theorem leaves_tr4 (S A B : Bk) : (tr4 S A B).leaves = [.mk (mkN A 2 0 0 80 16 0) [], .mk (mkN B 3 0 17 80 7 0) []] := by
  unfold tr4; rw [T.leaves_mk, if_neg (by simp), leavesL_cons, leavesL_cons, leavesL_nil, leaves_leaf, leaves_leaf]; rfl
theorem wr_of {z : Int} (h : -9223372036854775808 ≤ z ∧ z ≤ 9223372036854775807) : wr64 z = z := by
  unfold wr64; have := IntKind.wrap_i64 z; unfold IntKind.wrap at this; first | (rw [wrap64]; omega) | (unfold wrap64; omega) | omega
theorem nds_leaf (n : Nd) : (T.mk n []).nds = [n] := by rw [T.nds_mk, ndsL_nil]

theorem show1 (base tr g : Nat) (w : World) (hT : Tr base w tr (nd1 g 1 80 24)) (hbase : base ≤ w.heap.size) :
    Calls Tryd.prog 12 #[ptr tr, .int .i64 1, .int .i64 2, .bool true, .int .i64 0, .bool false] w fun e w' => e = .returned (.int .i64 0) ∧ Below base w w' ∧ ∃ F L N, Tr base w' tr (tr1 F L N) := by
  have hlv : (plug [] (nd1 g 1 80 24)).leaves = [nd1 g 1 80 24] := by unfold nd1; exact leaves_leaf _
  refine (split_ok_true base tr [] (nd1 g 1 80 24) 1 2 0 false w hT hbase (by rw [hlv]; exact (by decide : 1 < 32)) ?_ rfl (by omega) ?_ (by omega) (by show (0:Int) ≤ 80 - 2; omega) (by show (3:Int) ≤ 80; omega) (by show (80:Int) ≤ 1000; omega) ?_).mono ?_
  · unfold T.find; rw [hlv]; rfl
  · unfold T.find; rw [hlv]; rfl
  · intro m hm
    have : m ∈ (T.mk (⟨g, none, 0, 1, 0, 0, 80, 24, 0⟩ : Nd) []).nds := hm
    rw [nds_leaf] at this
    simp at this; subst this; exact .inl rfl
  · rintro e w' ⟨f, c0, f', l', n', rfl, hT', hB, e1, e2, e3, e4, e5⟩
    rcases e5 with h | ⟨_, hc, hL, hR, ga, gb, gp⟩
    · cases h
    · subst hc
      refine ⟨rfl, hB, bkOf f', bkOf l', bkOf n', ?_⟩
      have l4 : l'.way = 0 := by rcases e3.2.2.2 with h | h; exact h; exact h
      have l2 : l'.a = 40 := e3.2.1.trans (by show (80 : Int) - ((if (0 : Int) = 0 then ((80 : Int) - 1) / 2 else 0) + 1) = 40; decide)
      have n2 : n'.a = 39 := e4.2.1.trans (by show (if (0 : Int) = 0 then ((80 : Int) - 1) / 2 else 0) = 39; decide)
      have fw : f'.way = 0 := e1.2.2.2.trans e2
      have fp : f'.p = 0 := e1.1.trans gp
      have fa : f'.a = 80 := e1.2.1.trans ga
      have fb : f'.b = 24 := e1.2.2.1.trans gb
      have lp : l'.p = 1 := e3.1
      have lb : l'.b = 24 := e3.2.2.1
      have np : n'.p = 2 := e4.1
      have nb : n'.b = 24 := e4.2.2.1
      have nw : n'.way = 0 := e4.2.2.2
      have hw : wr64 (0 + wr64 (40 + 1)) = 41 := by rw [wr_of (z := (40 : Int) + 1) (by omega), wr_of (by omega)]; rfl
      rw [hL, hR] at hT'
      simp only [plug, List.nil_append, List.append_nil, List.cons_append, Bool.false_eq_true, if_false, T.place_mk, placeL_cons, placeL_nil, nx, ny, if_true, T.n, fw, fp, fa, fb, lp, l2, lb, l4, np, n2, nb, nw, hw] at hT'
      exact hT'

theorem show2 (base tr : Nat) (F L N : Bk) (w : World) (hT : Tr base w tr (tr1 F L N)) (hbase : base ≤ w.heap.size) :
    Calls Tryd.prog 12 #[ptr tr, .int .i64 2, .int .i64 3, .bool false, .int .i64 5, .bool false] w fun e w' => e = .returned (.int .i64 0) ∧ Below base w w' ∧ ∃ L S A B, Tr base w' tr (tr2 F L S A B) := by
  have hlv := leaves_tr1 F L N
  have hpl : tr1 F L N = plug [⟨mkN F 0 0 0 80 24 0, [.mk (mkN L 1 0 0 40 24 0) []], []⟩] (.mk (mkN N 2 41 0 39 24 0) []) := rfl
  rw [hpl] at hT hlv
  refine (split_ok_false base tr _ (.mk (mkN N 2 41 0 39 24 0) []) 2 3 5 false w hT hbase (by rw [hlv]; exact (by decide : 2 < 32)) ?_ rfl (by omega) ?_ (by omega) (by show (5:Int) ≤ 24 - 2; omega) (by show (3:Int) ≤ 24; omega) (by show (24:Int) ≤ 1000; omega) ?_).mono ?_
  · unfold T.find; rw [hlv]; rfl
  · unfold T.find; rw [hlv]; rfl
  · intro m hm
    rw [← hpl] at hm
    unfold tr1 at hm
    rw [T.nds_mk, ndsL_cons, ndsL_cons, ndsL_nil, nds_leaf, nds_leaf] at hm
    simp at hm
    rcases hm with rfl | rfl | rfl <;> exact .inl rfl
  · rintro e w' ⟨f, c0, f', l', n', rfl, hT', hB, e1, e2, e3, e4, e5⟩
    rcases e5 with h | ⟨_, hc, hL, hR, ga, gb, gp⟩
    · injection h with h1 h2
      subst h1
      have : (0 : Int) = 1 := e2
      omega
    · subst hc
      refine ⟨rfl, hB, L, bkOf f', bkOf l', bkOf n', ?_⟩
      have l4 : l'.way = 0 := by rcases e3.2.2.2 with h | h; exact h; exact h
      have lb : l'.b = 18 := e3.2.2.1.trans (by show (24 : Int) - ((if (5 : Int) = 0 then ((24 : Int) - 1) / 2 else 5) + 1) = 18; decide)
      have nb : n'.b = 5 := e4.2.2.1.trans (by show (if (5 : Int) = 0 then ((24 : Int) - 1) / 2 else 5) = 5; decide)
      have fw : f'.way = 1 := e1.2.2.2.trans e2
      have fp : f'.p = 0 := e1.1.trans gp
      have fa : f'.a = 39 := e1.2.1.trans ga
      have fb : f'.b = 24 := e1.2.2.1.trans gb
      have lp : l'.p = 2 := e3.1
      have l2 : l'.a = 39 := e3.2.1
      have np : n'.p = 3 := e4.1
      have n2 : n'.a = 39 := e4.2.1
      have nw : n'.way = 0 := e4.2.2.2
      have hw : wr64 (0 + wr64 (40 + 1)) = 41 := by rw [wr_of (z := (40 : Int) + 1) (by omega), wr_of (by omega)]; rfl
      have hw2 : wr64 (0 + wr64 (18 + 1)) = 19 := by rw [wr_of (z := (18 : Int) + 1) (by omega), wr_of (by omega)]; rfl
      have h10 : ¬ ((1 : Int) = 0) := by decide
      rw [hL, hR] at hT'
      simp only [plug, mkN, List.nil_append, List.append_nil, List.cons_append, Bool.false_eq_true, if_false, T.place_mk, placeL_cons, placeL_nil, nx, ny, if_true, T.n, fw, fp, fa, fb, lp, l2, lb, l4, np, n2, nb, nw, hw, hw2, h10] at hT'
      exact hT'
theorem show3 (base tr : Nat) (F L S A B : Bk) (w : World) (hT : Tr base w tr (tr2 F L S A B)) (hbase : base ≤ w.heap.size) :
    Calls Tryd.prog 18 #[ptr tr, .int .i64 3, .int .u8 85, .int .i64 2] w fun e w' => e = .returned (.int .i64 0) ∧ Tr base w' tr (tr3 F L S A B) ∧ Below base w w' := by
  have hlv := leaves_tr2 F L S A B
  have hpl : tr2 F L S A B = plug [⟨mkN F 0 0 0 80 24 0, [.mk (mkN L 1 0 0 40 24 0) []], []⟩] (.mk (mkN S 0 41 0 39 24 1) [.mk (mkN A 2 41 0 39 18 0) [], .mk (mkN B 3 41 19 39 5 0) []]) := rfl
  rw [hpl] at hT hlv
  refine (resize_two base tr _ (mkN S 0 41 0 39 24 1) (mkN A 2 41 0 39 18 0) (mkN B 3 41 19 39 5 0) 3 w hT hbase (by rw [hlv]; exact (by decide : 3 ≤ 100000)) ?_ rfl (by show (4:Int) ≤ 18 ∧ (18:Int) ≤ 1000; omega) ?_).mono ?_
  · unfold T.find; rw [hlv]; rfl
  · intro m hm
    have hm : m ∈ (T.mk (mkN F 0 0 0 80 24 0) [.mk (mkN L 1 0 0 40 24 0) [], .mk (mkN S 0 41 0 39 24 1) [.mk ((mkN A 2 41 0 39 18 0).add 1 (-2)) [], .mk ((mkN B 3 41 19 39 5 0).add 1 2) []]]).nds := hm
    rw [T.nds_mk, ndsL_cons, ndsL_cons, ndsL_nil, nds_leaf, T.nds_mk, ndsL_cons, ndsL_cons, ndsL_nil, nds_leaf, nds_leaf] at hm
    simp at hm
    rcases hm with rfl | rfl | rfl | rfl | rfl
    · exact .inl rfl
    · exact .inl rfl
    · exact .inr rfl
    · exact .inl rfl
    · exact .inl rfl
  · rintro e w' ⟨rfl, hT', hB⟩
    refine ⟨rfl, ?_, hB⟩
    have hw : wr64 (0 + wr64 (40 + 1)) = 41 := by rw [wr_of (z := (40 : Int) + 1) (by omega), wr_of (by omega)]; rfl
    have hw2 : wr64 (0 + wr64 (16 + 1)) = 17 := by rw [wr_of (z := (16 : Int) + 1) (by omega), wr_of (by omega)]; rfl
    have a1 : (mkN A 2 41 0 39 18 0).add 1 (-2) = mkN A 2 41 0 39 16 0 := by unfold Nd.add; rw [if_neg (by decide)]; show (_ : Nd) = _; unfold mkN; simp; exact wr_of (by omega)
    have b1 : (mkN B 3 41 19 39 5 0).add 1 2 = mkN B 3 41 19 39 7 0 := by unfold Nd.add; rw [if_neg (by decide)]; show (_ : Nd) = _; unfold mkN; simp; exact wr_of (by omega)
    have h10 : ¬ ((1 : Int) = 0) := by decide
    rw [a1, b1] at hT'
    simp only [plug, mkN, List.nil_append, List.append_nil, List.cons_append, Bool.false_eq_true, if_false, T.place_mk, placeL_cons, placeL_nil, nx, ny, if_true, T.n, hw, hw2, h10] at hT'
    exact hT'
theorem show4 (base tr : Nat) (F L S A B : Bk) (w : World) (hT : Tr base w tr (tr3 F L S A B)) (hbase : base ≤ w.heap.size) :
    Calls Tryd.prog 14 #[ptr tr, .int .i64 1] w fun e w' => e = .returned (.int .i64 0) ∧ Tr base w' tr (tr4 S A B) ∧ Below base w w' ∧ Off (tr :: (tr3 F L S A B).bl) w w' := by
  have hlv := leaves_tr3 F L S A B
  have a1 : (mkN A 2 41 0 39 16 0).add 0 41 = mkN A 2 41 0 80 16 0 := by unfold Nd.add; rw [if_pos rfl]; show (_ : Nd) = _; unfold mkN; simp; exact wr_of (by omega)
  have b1 : (mkN B 3 41 17 39 7 0).add 0 41 = mkN B 3 41 17 80 7 0 := by unfold Nd.add; rw [if_pos rfl]; show (_ : Nd) = _; unfold mkN; simp; exact wr_of (by omega)
  have s1 : (mkN S 0 41 0 39 24 1).add 0 41 = mkN S 0 41 0 80 24 1 := by unfold Nd.add; rw [if_pos rfl]; show (_ : Nd) = _; unfold mkN; simp; exact wr_of (by omega)
  unfold tr3 at hT hlv
  have hnd := (Tr.apart (c := []) (t := _) hT).1
  have hnd2 : (T.mk (mkN S 0 41 0 39 24 1) [.mk (mkN A 2 41 0 39 16 0) [], .mk (mkN B 3 41 17 39 7 0) []]).bl.Nodup := by
    rw [T.bl_mk, blL_cons, blL_cons, blL_nil, List.append_nil] at hnd
    exact (List.nodup_append.1 (List.nodup_append.1 (List.nodup_cons.1 hnd).2).2.1).2.1
  refine (close_root base tr (mkN F 0 0 0 80 24 0) (.mk (mkN L 1 0 0 40 24 0) []) (.mk (mkN S 0 41 0 39 24 1) [.mk (mkN A 2 41 0 39 16 0) [], .mk (mkN B 3 41 17 39 7 0) []])
    (.mk (mkN S 0 41 0 80 24 1) [.mk (mkN A 2 41 0 80 16 0) [], .mk (mkN B 3 41 17 80 7 0) []]) 1 w hT hbase (by rw [hlv]; exact (by decide : 3 ≤ 100000)) ?_ rfl rfl (by show (0:Int) ≤ 40 ∧ (40:Int) ≤ 1000; omega) ?_ ⟨rfl, ?_⟩ ?_).mono ?_
  · unfold T.find; rw [hlv]; rfl
  · intro W hW
    have := grow_two (some (mkN F 0 0 0 80 24 0).g) (mkN S 0 41 0 39 24 1) (mkN A 2 41 0 39 16 0) (mkN B 3 41 17 39 7 0) 41 W hW hnd2 rfl (by omega)
    rw [a1, b1, s1] at this
    exact this
  · simp only [T.bl_mk, blL_cons, blL_nil]; rfl
  · intro m hm
    rw [T.nds_mk, ndsL_cons, ndsL_cons, ndsL_nil, nds_leaf, nds_leaf] at hm
    simp at hm
    rcases hm with rfl | rfl | rfl
    · exact .inr rfl
    · exact .inl rfl
    · exact .inl rfl
  · rintro e w' ⟨rfl, hT', hB, hO⟩
    refine ⟨rfl, ?_, hB, hO⟩
    have hw2 : wr64 (0 + wr64 (16 + 1)) = 17 := by rw [wr_of (z := (16 : Int) + 1) (by omega), wr_of (by omega)]; rfl
    have h10 : ¬ ((1 : Int) = 0) := by decide
    simp only [mkN, T.place_mk, placeL_cons, placeL_nil, nx, ny, if_true, if_false, T.n, hw2, h10] at hT'
    exact hT'
end Go.Proofs.YtcklmkjlbpjojaaDoor
