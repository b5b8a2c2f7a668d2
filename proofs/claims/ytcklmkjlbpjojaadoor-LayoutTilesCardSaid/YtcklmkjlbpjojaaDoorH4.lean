/- Layout: Resize of the lower one of two. Layout: sameBoxes of equal boxes. Layout: the chapter's example, call by call. -/
import Derived.Test.YtcklmkjlbpjojaaDoorG4
import Derived.Test.YtcklmkjlbpjojaaDoorC9
import Derived.Test.YtcklmkjlbpjojaaDoorH1
namespace Go.Proofs.YtcklmkjlbpjojaaDoor
open Go.RowKit
set_option linter.unusedSimpArgs false
set_option linter.unusedVariables false

set_option maxHeartbeats 1000000 in
set_option maxRecDepth 100000 in
theorem resize_two (base tr : Nat) (c0 : List Fr) (n a b : Nd) (pane : Int) (w : World) (hT : Tr base w tr (plug c0 (.mk n [.mk a [], .mk b []]))) (hbase : base ≤ w.heap.size) (hl : (plug c0 (.mk n [.mk a [], .mk b []])).leaves.length ≤ 100000)
    (hf : (plug c0 (.mk n [.mk a [], .mk b []])).find pane = some (.mk b [])) (hway : n.way = 1) (hz : 4 ≤ a.b ∧ a.b ≤ 1000)
    (hw01 : (plug c0 (.mk n [.mk (a.add 1 (-2)) [], .mk (b.add 1 2) []])).w01) :
    Calls Tryd.prog 18 #[ptr tr, .int .i64 pane, .int .u8 85, .int .i64 2] w fun e w' => e = .returned (.int .i64 0) ∧ Tr base w' tr ((plug c0 (.mk n [.mk (a.add 1 (-2)) [], .mk (b.add 1 2) []])).place 0 0) ∧ Below base w w' := by
  have CL := Lib.hid (leaf_any base tr _ pane w hT hl)
  rw [hf] at CL
  have CI : Hid (∀ W, Calls Tryd.prog 40 #[.string ⟨#[76, 82, 85, 68]⟩, .int .u8 85] W fun e w' => e = .returned (.int .i64 2) ∧ w' = W) := Lib.hid (fun W => ib_any 85 W (by omega) (by omega))
  simp only [Option.map_some, uptr] at CL
  replace CL : Hid (Calls Tryd.prog 29 #[ptr tr, .int .i64 pane] w fun e w' => e = .returned (ptr b.g) ∧ w.grownBy w' none) := CL
  replace hT := Lib.hid hT; replace hf := Lib.hid hf; replace hw01 := Lib.hid hw01
  unfold ptr at *
  go_enter Tryd.func18, Tryd.ntmps18
  go_wp2_with fail
  refine CL.out.mono ?_
  rintro e w1 ⟨rfl, G1⟩
  have hT1 := hT.out.grown G1
  have hp := (TP_plug c0 _).1 hT1.p
  have t1 := Two.of hp.2
  obtain ⟨nd, hin, hout⟩ := hT1.apart
  have ap := Two.ap nd
  have q7 : w1.cell? ⟨b.g, 7, none⟩ = some (.pointer (some ⟨n.g, 0, none⟩)) := t1.hb.c7
  have q5 := t1.hn.c5
  rw [hway] at q5
  obtain ⟨bb, hbb, hb0⟩ := t1.hn.kid (i := 0) (k := .mk a []) rfl
  obtain ⟨bb', hbb', hb1⟩ := t1.hn.kid (i := 1) (k := .mk b []) rfl
  have : bb' = bb := by rw [hbb] at hbb'; injection hbb' with e; exact e.symm
  subst this
  have hAr : adr n.A = some ⟨bb', 0, none⟩ := by rw [hbb]; rfl
  have c6 : w1.cell? ⟨n.g, 6, none⟩ = some (.slice (some ⟨bb', 0, none⟩) 2 n.c) := by have := t1.hn.c6; rw [hAr] at this; exact this
  have hrow : n.row 2 = .slice (some ⟨bb', 0, none⟩) 2 n.c := by unfold Nd.row; rw [hAr]
  have hO : w1.ownsRow 0 55 1 (.slice (some ⟨bb', 0, none⟩) 2 n.c) 2 (ptrs [.mk a [], .mk b []]) := by have := t1.hn.r; rw [show [T.mk a [], T.mk b []].length = 2 from rfl, hrow] at this; exact this
  have hR := own_Rd hO
  replace hb0 : w1.cell? ⟨bb', 0, none⟩ = some (ptr a.g) := hb0
  replace hb1 : w1.cell? ⟨bb', 1, none⟩ = some (ptr b.g) := hb1
  have hab : a.g ≠ b.g := (ap.ab a.g (by simp)).1
  have CX := index_any (some ⟨bb', 0, none⟩) 2 n.c b.g 1 [.mk a [], .mk b []] (.mk b []) w1 rfl (by omega) hR rfl rfl (by simp [T.g, T.n, hab]) (by
    intro s hs
    simp at hs
    rcases hs with rfl | rfl
    · exact ⟨_, _, t1.ha.h⟩
    · exact ⟨_, _, t1.hb.h⟩)
  have a4 : w1.cell? ⟨a.g, 4, none⟩ = some (.int .i64 a.b) := t1.ha.c4
  replace G1 := Lib.hid G1; replace hT1 := Lib.hid hT1; replace hp := Lib.hid hp; replace t1 := Lib.hid t1; replace nd := Lib.hid nd; replace hin := Lib.hid hin; replace hout := Lib.hid hout; replace ap := Lib.hid ap; replace hbb := Lib.hid hbb; replace hbb' := Lib.hid hbb'; replace hAr := Lib.hid hAr; replace hrow := Lib.hid hrow; replace hO := Lib.hid hO; replace hR := Lib.hid hR; replace CX := Lib.hid CX; replace hab := Lib.hid hab
  unfold ptr at hb0 hb1 CX
  clear CL
  go_wp2_with fail
  refine (CI.out _).mono ?_
  rintro e w2 ⟨rfl, rfl⟩
  go_wp2_with fail
  go_loopw [9] (fun lv wr => lv = .pointer (some ⟨b.g, 0, none⟩) ∧ wr = w2) (fun _ _ => 0)
  case atStart => exact ⟨rfl, rfl⟩
  case round =>
    obtain ⟨rfl, rfl⟩ := hrel
    go_wp2_with fail
    refine CX.out.mono ?_
    rintro e w3 ⟨rfl, rfl⟩
    have hmn : min (1 : Int) 0 = 0 := by decide
    have hmn2 : min (2 : Int) (a.b - 1) = 2 := by omega
    have hw1 : IntKind.i64.wrap (a.b - 1) = a.b - 1 := by rw [IntKind.wrap_i64]; omega
    go_upto_region 14 with fail
    go_quiet (fail)
    go_upto_region 15 with fail
    have d1 : Two (w3.drewN nq) (upOf c0) n a b := ⟨t1.out.hn.same fun _ _ => rfl, t1.out.ha.same fun _ _ => rfl, t1.out.hb.same fun _ _ => rfl⟩
    have dT : Tr base (w3.drewN nq) tr (plug c0 (.mk n [.mk a [], .mk b []])) := hT1.out.grown ⟨rfl, rfl, rfl, Nat.le_refl _, fun _ _ _ => rfl⟩
    have dG : w.grownBy (w3.drewN nq) none := ⟨G1.out.os, G1.out.tape, G1.out.output, G1.out.size, G1.out.block⟩
    generalize w3.drewN nq = w4 at *
    replace d1 := Lib.hid d1; replace dT := Lib.hid dT; replace dG := Lib.hid dG
    have a44 : w4.cell? ⟨a.g, 4, none⟩ = some (.int .i64 a.b) := d1.out.ha.c4
    have CLe := Lib.hid (fun W (hW : W.heap = w4.heap) => least_leaf (some n.g) a 1 W (d1.out.ha.same fun _ _ => by rw [hW]))
    unfold ptr at CLe
    clear a4 hb0 hb1 c6 q5 q7 CX CI
    go_upto_region 17 with fail
    go_quiet (refine Calls.quiet_of_same (CLe.out _ rfl))
    go_upto_region 18 with fail
    have dG' : w.grownBy (w4.drewN nq) none := ⟨dG.out.os, dG.out.tape, dG.out.output, dG.out.size, dG.out.block⟩
    have d2 : Two (w4.drewN nq) (upOf c0) n a b := ⟨d1.out.hn.same fun _ _ => rfl, d1.out.ha.same fun _ _ => rfl, d1.out.hb.same fun _ _ => rfl⟩
    have dT2 : Tr base (w4.drewN nq) tr (plug c0 (.mk n [.mk a [], .mk b []])) := dT.out.grown ⟨rfl, rfl, rfl, Nat.le_refl _, fun _ _ _ => rfl⟩
    clear CLe a44
    generalize w4.drewN nq = w5 at *
    replace d2 := Lib.hid d2; replace dT2 := Lib.hid dT2; replace dG' := Lib.hid dG'
    have CGb := Lib.hid (grow_leaf (some n.g) b 1 2 w5 d2.out.hb (.inr rfl) ap.out.bA (by omega))
    unfold ptr at CGb
    go_wp2_with fail
    refine CGb.out.mono ?_
    rintro e w6 ⟨rfl, hB6, o6⟩
    have d6 := d2.out.setB ap.out o6 hB6 (Nd.add_g b 1 2).1
    have ap6 : Two.Ap n a (b.add 1 2) := ⟨ap.out.nA, ap.out.aA, ap.out.bA, ap.out.na, ap.out.nb, ap.out.ab⟩
    have CGa := Lib.hid (grow_leaf (some n.g) a 1 (-2) w6 d6.ha (.inr rfl) ap.out.aA (by omega))
    unfold ptr at CGa
    replace hB6 := Lib.hid hB6; replace o6 := Lib.hid o6; replace d6 := Lib.hid d6; replace ap6 := Lib.hid ap6
    clear CGb
    go_wp2_with fail
    refine CGa.out.mono ?_
    rintro e w7 ⟨rfl, hA7, o7⟩
    have d7 := d6.out.setA ap6.out o7 hA7 (Nd.add_g a 1 (-2)).1
    have oo : Off [b.g, a.g] w5 w7 := (o6.out.sub (S' := [b.g, a.g]) (by simp)).trans o7 (by simp)
    have hbl : (T.mk n [.mk (a.add 1 (-2)) [], .mk (b.add 1 2) []]).bl = (T.mk n [.mk a [], .mk b []]).bl := by
      simp only [T.bl_mk, blL_cons, blL_nil, (Nd.add_g a 1 (-2)).1, (Nd.add_g a 1 (-2)).2.1, (Nd.add_g b 1 2).1, (Nd.add_g b 1 2).2.1]
    have hmem : ∀ x ∈ [b.g, a.g], x ∈ (T.mk n [.mk a [], .mk b []]).bl := by
      intro x hx
      rw [T.bl_mk, blL_cons, blL_cons, blL_nil, List.append_nil, bl_leaf, bl_leaf]
      simp only [List.mem_cons, List.not_mem_nil, or_false] at hx
      rcases hx with rfl | rfl <;> simp
    have hTr7 : Tr base w7 tr (plug c0 (.mk n [.mk (a.add 1 (-2)) [], .mk (b.add 1 2) []])) := by
      refine Tr.focus2 dT2.out oo (fun x hx => ⟨(hin.out x (hmem x hx)).1, (hin.out x (hmem x hx)).2.1⟩) d7.tp rfl (by rw [hbl]; exact nd.out) (fun x hx => ?_)
      rw [hbl] at hx
      exact ⟨(hin.out x hx).1, (hin.out x hx).2.1, (hin.out x hx).2.2.1⟩
    have bel7 : Below base w w7 := by
      have b1 : Below base w w5 := ⟨dG'.out.os, dG'.out.tape, dG'.out.output, dG'.out.size, fun k hk => dG'.out.block k (by omega) (by simp)⟩
      exact b1.trans (oo.below (fun x hx => (hin.out x (hmem x hx)).2.2.1) (by have := dG'.out.size; omega))
    obtain ⟨TF, hTF⟩ : ∃ TF, TF = plug c0 (.mk n [.mk (a.add 1 (-2)) [], .mk (b.add 1 2) []]) := ⟨_, rfl⟩
    have hw01' := hw01.out
    rw [← hTF] at hTr7 hw01'
    have q0 := hTr7.c0
    have CPl := Lib.hid (place_any TF none 0 0 w7 hTr7.p hTr7.nd hw01')
    unfold ptr at q0 CPl
    replace hTr7 := Lib.hid hTr7; replace bel7 := Lib.hid bel7; replace oo := Lib.hid oo; replace d7 := Lib.hid d7; replace o7 := Lib.hid o7; replace hA7 := Lib.hid hA7; replace hmem := Lib.hid hmem; replace hTF := Lib.hid hTF; replace hbl := Lib.hid hbl
    clear CGa
    go_wp2_with fail
    refine CPl.out.mono ?_
    rintro e w8 ⟨rfl, hT8, o8⟩
    go_wp2_with fail
    go_ret
    exact ⟨rfl, by have := hTr7.out.placed hT8 o8; rw [hTF.out] at this; exact this, bel7.out.trans (o8.below hTr7.out.lo.2 (by have := hTr7.out.lt; have := hTr7.out.lo.1; omega))⟩
end Go.Proofs.YtcklmkjlbpjojaaDoor
namespace Go.Proofs.YtcklmkjlbpjojaaDoor
open Go.RowKit
set_option linter.unusedSimpArgs false
set_option linter.unusedVariables false

def box5 (b : Int × Int × Int × Int × Int) : List Value := [.int .i64 b.1, .int .i64 b.2.1, .int .i64 b.2.2.1, .int .i64 b.2.2.2.1, .int .i64 b.2.2.2.2]
def boxL (l : List (Int × Int × Int × Int × Int)) : List Value := l.flatMap box5
theorem boxL_at {l : List (Int × Int × Int × Int × Int)} {j : Nat} {b : Int × Int × Int × Int × Int} (h : l[j]? = some b) (i : Nat) (u : Value) (hu : (box5 b)[i]? = some u) : (boxL l)[j * 5 + i]? = some u := by
  induction l generalizing j with
  | nil => simp at h
  | cons a l ih =>
    rcases j with _ | j
    · simp at h; subst h
      simp only [boxL, List.flatMap_cons]
      rw [List.getElem?_append_left (by rw [Nat.zero_mul, Nat.zero_add]; exact (List.getElem?_eq_some_iff.1 hu).1), Nat.zero_mul, Nat.zero_add]
      exact hu
    · simp only [boxL, List.flatMap_cons]
      rw [List.getElem?_append_right (by show 5 ≤ _; omega)]
      have := ih (j := j) (by simpa using h)
      rw [show (j + 1) * 5 + i - (box5 a).length = j * 5 + i by show (j + 1) * 5 + i - 5 = _; omega]
      exact this
theorem boxes_boxL (l : List T) : boxes l = boxL (l.map fun t => (t.n.p, t.n.x, t.n.y, t.n.a, t.n.b)) := by
  induction l with
  | nil => rfl
  | cons a l ih =>
    have e : boxes (a :: l) = boxOf a.n ++ boxes l := by simp [boxes]
    rw [e, ih]; rfl

set_option maxHeartbeats 1000000 in
set_option maxRecDepth 100000 in
theorem sameBoxes_any (A B : Option Addr) (len ca cb : Nat) (l : List (Int × Int × Int × Int × Int)) (w : World) (hn : len = l.length) (hb : len ≤ 100000) (hA : Rd w A (boxL l)) (hB : Rd w B (boxL l)) :
    Calls Tryd.prog 25 #[.slice A len ca, .slice B len cb] w fun e w' => e = .returned (.bool true) ∧ w.grownBy w' none := by
  replace hn := Lib.hid hn; replace hA := Lib.hid hA; replace hB := Lib.hid hB
  go_enter Tryd.func25, Tryd.ntmps25
  go_wp2_with fail
  go_loopw [5] (fun iv wr => ∃ j : Nat, j ≤ len ∧ iv = .int .i64 j ∧ Hid (w.grownBy wr none)) (fun iv _ => len - (match iv with | .int _ i => i | _ => 0).toNat)
  case atStart => exact ⟨0, Nat.zero_le _, rfl, Lib.hid (World.grownBy.refl _ _)⟩
  case round =>
    obtain ⟨j, hj, rfl, hI⟩ := hrel
    by_cases hlt : j < len
    · obtain ⟨o, ho⟩ : ∃ o, l[j]? = some o := ⟨l[j]'(by rw [← hn.out]; exact hlt), List.getElem?_eq_getElem _⟩
      obtain ⟨o1, o2, o3, o4, o5⟩ := o
      obtain ⟨b1, f1, rfl, _, _⟩ := hA.out.at_ (boxL_at ho 0 _ rfl)
      obtain ⟨b2, f2, rfl, _, _⟩ := hB.out.at_ (boxL_at ho 0 _ rfl)
      have hcA : ∀ (i : Nat) (u : Value), (box5 (o1, o2, o3, o4, o5))[i]? = some u → wr.cell? ⟨b1, f1 + j * 5 + i, none⟩ = some u := by
        intro i u hu
        obtain ⟨b', off', e, _, h⟩ := hA.out.at_ (boxL_at ho i u hu)
        cases e
        rw [← Nat.add_assoc] at h
        exact hI.out.cell h (by simp)
      have hcB : ∀ (i : Nat) (u : Value), (box5 (o1, o2, o3, o4, o5))[i]? = some u → wr.cell? ⟨b2, f2 + j * 5 + i, none⟩ = some u := by
        intro i u hu
        obtain ⟨b', off', e, _, h⟩ := hB.out.at_ (boxL_at ho i u hu)
        cases e
        rw [← Nat.add_assoc] at h
        exact hI.out.cell h (by simp)
      have x0 : wr.cell? ⟨b1, f1 + j * 5, none⟩ = some (.int .i64 o1) := hcA 0 _ rfl
      have x1 : wr.cell? ⟨b1, f1 + j * 5 + 1, none⟩ = some (.int .i64 o2) := hcA 1 _ rfl
      have x2 : wr.cell? ⟨b1, f1 + j * 5 + 2, none⟩ = some (.int .i64 o3) := hcA 2 _ rfl
      have x3 : wr.cell? ⟨b1, f1 + j * 5 + 3, none⟩ = some (.int .i64 o4) := hcA 3 _ rfl
      have x4 : wr.cell? ⟨b1, f1 + j * 5 + 4, none⟩ = some (.int .i64 o5) := hcA 4 _ rfl
      have y0 : wr.cell? ⟨b2, f2 + j * 5, none⟩ = some (.int .i64 o1) := hcB 0 _ rfl
      have y1 : wr.cell? ⟨b2, f2 + j * 5 + 1, none⟩ = some (.int .i64 o2) := hcB 1 _ rfl
      have y2 : wr.cell? ⟨b2, f2 + j * 5 + 2, none⟩ = some (.int .i64 o3) := hcB 2 _ rfl
      have y3 : wr.cell? ⟨b2, f2 + j * 5 + 3, none⟩ = some (.int .i64 o4) := hcB 3 _ rfl
      have y4 : wr.cell? ⟨b2, f2 + j * 5 + 4, none⟩ = some (.int .i64 o5) := hcB 4 _ rfl
      clear hcA hcB
      replace ho := Lib.hid ho
      go_upto_region 6 with fail
      go_quiet (fail)
      go_wp2_with fail
      refine ⟨⟨j + 1, by omega, by go_num, Lib.hid ⟨hI.out.os, hI.out.tape, hI.out.output, hI.out.size, hI.out.block⟩⟩, by simp; omega⟩
    · have : j = len := by omega
      subst this
      go_wp2_with fail
      go_ret
      exact ⟨rfl, hI.out⟩
end Go.Proofs.YtcklmkjlbpjojaaDoor
namespace Go.Proofs.YtcklmkjlbpjojaaDoor
open Go.RowKit
set_option linter.unusedSimpArgs false
set_option linter.unusedVariables false

/-- A node's blocks. -/
abbrev Bk := Nat × Option Nat × Nat
def mkN (k : Bk) (p x y a b way : Int) : Nd := ⟨k.1, k.2.1, k.2.2, p, x, y, a, b, way⟩
def bkOf (n : Nd) : Bk := (n.g, n.A, n.c)
theorem nd_eq {n : Nd} {p a b way : Int} (h1 : n.p = p) (h2 : n.a = a) (h3 : n.b = b) (h4 : n.way = way) (x y : Int) : ({ n with x := x, y := y } : Nd) = mkN (bkOf n) p x y a b way := by subst h1 h2 h3 h4; rfl
def tr1 (F L N : Bk) : T := .mk (mkN F 0 0 0 80 24 0) [.mk (mkN L 1 0 0 40 24 0) [], .mk (mkN N 2 41 0 39 24 0) []]
def tr2 (F L S A B : Bk) : T := .mk (mkN F 0 0 0 80 24 0) [.mk (mkN L 1 0 0 40 24 0) [], .mk (mkN S 0 41 0 39 24 1) [.mk (mkN A 2 41 0 39 18 0) [], .mk (mkN B 3 41 19 39 5 0) []]]
def tr3 (F L S A B : Bk) : T := .mk (mkN F 0 0 0 80 24 0) [.mk (mkN L 1 0 0 40 24 0) [], .mk (mkN S 0 41 0 39 24 1) [.mk (mkN A 2 41 0 39 16 0) [], .mk (mkN B 3 41 17 39 7 0) []]]
def tr4 (S A B : Bk) : T := .mk (mkN S 0 0 0 80 24 1) [.mk (mkN A 2 0 0 80 16 0) [], .mk (mkN B 3 0 17 80 7 0) []]
theorem leaves_leaf (n : Nd) : (T.mk n []).leaves = [.mk n []] := by rw [T.leaves_mk, leavesL_nil]; rfl
theorem leaves_tr1 (F L N : Bk) : (tr1 F L N).leaves = [.mk (mkN L 1 0 0 40 24 0) [], .mk (mkN N 2 41 0 39 24 0) []] := by
  unfold tr1; rw [T.leaves_mk, if_neg (by simp), leavesL_cons, leavesL_cons, leavesL_nil, leaves_leaf, leaves_leaf]; rfl
theorem leaves_tr2 (F L S A B : Bk) : (tr2 F L S A B).leaves = [.mk (mkN L 1 0 0 40 24 0) [], .mk (mkN A 2 41 0 39 18 0) [], .mk (mkN B 3 41 19 39 5 0) []] := by
  unfold tr2; rw [T.leaves_mk, if_neg (by simp), leavesL_cons, leavesL_cons, leavesL_nil, leaves_leaf, T.leaves_mk, if_neg (by simp), leavesL_cons, leavesL_cons, leavesL_nil, leaves_leaf, leaves_leaf]; rfl
theorem leaves_tr3 (F L S A B : Bk) : (tr3 F L S A B).leaves = [.mk (mkN L 1 0 0 40 24 0) [], .mk (mkN A 2 41 0 39 16 0) [], .mk (mkN B 3 41 17 39 7 0) []] := by
  unfold tr3; rw [T.leaves_mk, if_neg (by simp), leavesL_cons, leavesL_cons, leavesL_nil, leaves_leaf, T.leaves_mk, if_neg (by simp), leavesL_cons, leavesL_cons, leavesL_nil, leaves_leaf, leaves_leaf]; rfl
theorem leaves_tr4 (S A B : Bk) : (tr4 S A B).leaves = [.mk (mkN A 2 0 0 80 16 0) [], .mk (mkN B 3 0 17 80 7 0) []] := by
  unfold tr4; rw [T.leaves_mk, if_neg (by simp), leavesL_cons, leavesL_cons, leavesL_nil, leaves_leaf, leaves_leaf]; rfl
theorem wr_of {z : Int} (h : -9223372036854775808 ≤ z ∧ z ≤ 9223372036854775807) : wr64 z = z := by
  unfold wr64; have := IntKind.wrap_i64 z; unfold IntKind.wrap at this; first | (rw [wrap64]; omega) | (unfold wrap64; omega) | omega
theorem nds_leaf (n : Nd) : (T.mk n []).nds = [n] := by rw [T.nds_mk, ndsL_nil]

theorem show1 (base tr g : Nat) (w : World) (hT : Tr base w tr (nd1 g 1 80 24)) (hbase : base ≤ w.heap.size) :
    Calls Tryd.prog 12 #[ptr tr, .int .i64 1, .int .i64 2, .bool true, .int .i64 0, .bool false] w fun e w' => e = .returned (.int .i64 0) ∧ Below base w w' ∧ ∃ F L N, Tr base w' tr (tr1 F L N) := by
  have hlv : (plug [] (nd1 g 1 80 24)).leaves = [nd1 g 1 80 24] := by unfold nd1; exact leaves_leaf _
  refine (split_ok_true base tr [] (nd1 g 1 80 24) 1 2 0 false w hT hbase (by rw [hlv]; exact (by decide : 1 < 32)) ?_ rfl (by omega) ?_ (by omega) (by show (0:Int) ≤ 80 - 2; omega) (by show (3:Int) ≤ 80; omega) (by show (80:Int) ≤ 1000; omega) ?_).mono ?_
  · unfold T.find; rw [hlv]; rfl
  · unfold T.find; rw [hlv]; rfl
  · intro m hm
    have : m ∈ (T.mk (⟨g, none, 0, 1, 0, 0, 80, 24, 0⟩ : Nd) []).nds := hm
    rw [nds_leaf] at this
    simp at this; subst this; exact .inl rfl
  · rintro e w' ⟨f, c0, f', l', n', rfl, hT', hB, e1, e2, e3, e4, e5⟩
    rcases e5 with h | ⟨_, hc, hL, hR, ga, gb, gp⟩
    · cases h
    · subst hc
      refine ⟨rfl, hB, bkOf f', bkOf l', bkOf n', ?_⟩
      have l4 : l'.way = 0 := by rcases e3.2.2.2 with h | h; exact h; exact h
      have l2 : l'.a = 40 := e3.2.1.trans (by show (80 : Int) - ((if (0 : Int) = 0 then ((80 : Int) - 1) / 2 else 0) + 1) = 40; decide)
      have n2 : n'.a = 39 := e4.2.1.trans (by show (if (0 : Int) = 0 then ((80 : Int) - 1) / 2 else 0) = 39; decide)
      have fw : f'.way = 0 := e1.2.2.2.trans e2
      have fp : f'.p = 0 := e1.1.trans gp
      have fa : f'.a = 80 := e1.2.1.trans ga
      have fb : f'.b = 24 := e1.2.2.1.trans gb
      have lp : l'.p = 1 := e3.1
      have lb : l'.b = 24 := e3.2.2.1
      have np : n'.p = 2 := e4.1
      have nb : n'.b = 24 := e4.2.2.1
      have nw : n'.way = 0 := e4.2.2.2
      have hw : wr64 (0 + wr64 (40 + 1)) = 41 := by rw [wr_of (z := (40 : Int) + 1) (by omega), wr_of (by omega)]; rfl
      rw [hL, hR] at hT'
      simp only [plug, List.nil_append, List.append_nil, List.cons_append, Bool.false_eq_true, if_false, T.place_mk, placeL_cons, placeL_nil, nx, ny, if_true, T.n, fw, fp, fa, fb, lp, l2, lb, l4, np, n2, nb, nw, hw] at hT'
      exact hT'

theorem show2 (base tr : Nat) (F L N : Bk) (w : World) (hT : Tr base w tr (tr1 F L N)) (hbase : base ≤ w.heap.size) :
    Calls Tryd.prog 12 #[ptr tr, .int .i64 2, .int .i64 3, .bool false, .int .i64 5, .bool false] w fun e w' => e = .returned (.int .i64 0) ∧ Below base w w' ∧ ∃ L S A B, Tr base w' tr (tr2 F L S A B) := by
  have hlv := leaves_tr1 F L N
  have hpl : tr1 F L N = plug [⟨mkN F 0 0 0 80 24 0, [.mk (mkN L 1 0 0 40 24 0) []], []⟩] (.mk (mkN N 2 41 0 39 24 0) []) := rfl
  rw [hpl] at hT hlv
  refine (split_ok_false base tr _ (.mk (mkN N 2 41 0 39 24 0) []) 2 3 5 false w hT hbase (by rw [hlv]; exact (by decide : 2 < 32)) ?_ rfl (by omega) ?_ (by omega) (by show (5:Int) ≤ 24 - 2; omega) (by show (3:Int) ≤ 24; omega) (by show (24:Int) ≤ 1000; omega) ?_).mono ?_
  · unfold T.find; rw [hlv]; rfl
  · unfold T.find; rw [hlv]; rfl
  · intro m hm
    rw [← hpl] at hm
    unfold tr1 at hm
    rw [T.nds_mk, ndsL_cons, ndsL_cons, ndsL_nil, nds_leaf, nds_leaf] at hm
    simp at hm
    rcases hm with rfl | rfl | rfl <;> exact .inl rfl
  · rintro e w' ⟨f, c0, f', l', n', rfl, hT', hB, e1, e2, e3, e4, e5⟩
    rcases e5 with h | ⟨_, hc, hL, hR, ga, gb, gp⟩
    · injection h with h1 h2
      subst h1
      have : (0 : Int) = 1 := e2
      omega
    · subst hc
      refine ⟨rfl, hB, L, bkOf f', bkOf l', bkOf n', ?_⟩
      have l4 : l'.way = 0 := by rcases e3.2.2.2 with h | h; exact h; exact h
      have lb : l'.b = 18 := e3.2.2.1.trans (by show (24 : Int) - ((if (5 : Int) = 0 then ((24 : Int) - 1) / 2 else 5) + 1) = 18; decide)
      have nb : n'.b = 5 := e4.2.2.1.trans (by show (if (5 : Int) = 0 then ((24 : Int) - 1) / 2 else 5) = 5; decide)
      have fw : f'.way = 1 := e1.2.2.2.trans e2
      have fp : f'.p = 0 := e1.1.trans gp
      have fa : f'.a = 39 := e1.2.1.trans ga
      have fb : f'.b = 24 := e1.2.2.1.trans gb
      have lp : l'.p = 2 := e3.1
      have l2 : l'.a = 39 := e3.2.1
      have np : n'.p = 3 := e4.1
      have n2 : n'.a = 39 := e4.2.1
      have nw : n'.way = 0 := e4.2.2.2
      have hw : wr64 (0 + wr64 (40 + 1)) = 41 := by rw [wr_of (z := (40 : Int) + 1) (by omega), wr_of (by omega)]; rfl
      have hw2 : wr64 (0 + wr64 (18 + 1)) = 19 := by rw [wr_of (z := (18 : Int) + 1) (by omega), wr_of (by omega)]; rfl
      have h10 : ¬ ((1 : Int) = 0) := by decide
      rw [hL, hR] at hT'
      simp only [plug, mkN, List.nil_append, List.append_nil, List.cons_append, Bool.false_eq_true, if_false, T.place_mk, placeL_cons, placeL_nil, nx, ny, if_true, T.n, fw, fp, fa, fb, lp, l2, lb, l4, np, n2, nb, nw, hw, hw2, h10] at hT'
      exact hT'
theorem show3 (base tr : Nat) (F L S A B : Bk) (w : World) (hT : Tr base w tr (tr2 F L S A B)) (hbase : base ≤ w.heap.size) :
    Calls Tryd.prog 18 #[ptr tr, .int .i64 3, .int .u8 85, .int .i64 2] w fun e w' => e = .returned (.int .i64 0) ∧ Tr base w' tr (tr3 F L S A B) ∧ Below base w w' := by
  have hlv := leaves_tr2 F L S A B
  have hpl : tr2 F L S A B = plug [⟨mkN F 0 0 0 80 24 0, [.mk (mkN L 1 0 0 40 24 0) []], []⟩] (.mk (mkN S 0 41 0 39 24 1) [.mk (mkN A 2 41 0 39 18 0) [], .mk (mkN B 3 41 19 39 5 0) []]) := rfl
  rw [hpl] at hT hlv
  refine (resize_two base tr _ (mkN S 0 41 0 39 24 1) (mkN A 2 41 0 39 18 0) (mkN B 3 41 19 39 5 0) 3 w hT hbase (by rw [hlv]; exact (by decide : 3 ≤ 100000)) ?_ rfl (by show (4:Int) ≤ 18 ∧ (18:Int) ≤ 1000; omega) ?_).mono ?_
  · unfold T.find; rw [hlv]; rfl
  · intro m hm
    have hm : m ∈ (T.mk (mkN F 0 0 0 80 24 0) [.mk (mkN L 1 0 0 40 24 0) [], .mk (mkN S 0 41 0 39 24 1) [.mk ((mkN A 2 41 0 39 18 0).add 1 (-2)) [], .mk ((mkN B 3 41 19 39 5 0).add 1 2) []]]).nds := hm
    rw [T.nds_mk, ndsL_cons, ndsL_cons, ndsL_nil, nds_leaf, T.nds_mk, ndsL_cons, ndsL_cons, ndsL_nil, nds_leaf, nds_leaf] at hm
    simp at hm
    rcases hm with rfl | rfl | rfl | rfl | rfl
    · exact .inl rfl
    · exact .inl rfl
    · exact .inr rfl
    · exact .inl rfl
    · exact .inl rfl
  · rintro e w' ⟨rfl, hT', hB⟩
    refine ⟨rfl, ?_, hB⟩
    have hw : wr64 (0 + wr64 (40 + 1)) = 41 := by rw [wr_of (z := (40 : Int) + 1) (by omega), wr_of (by omega)]; rfl
    have hw2 : wr64 (0 + wr64 (16 + 1)) = 17 := by rw [wr_of (z := (16 : Int) + 1) (by omega), wr_of (by omega)]; rfl
    have a1 : (mkN A 2 41 0 39 18 0).add 1 (-2) = mkN A 2 41 0 39 16 0 := by unfold Nd.add; rw [if_neg (by decide)]; show (_ : Nd) = _; unfold mkN; simp; exact wr_of (by omega)
    have b1 : (mkN B 3 41 19 39 5 0).add 1 2 = mkN B 3 41 19 39 7 0 := by unfold Nd.add; rw [if_neg (by decide)]; show (_ : Nd) = _; unfold mkN; simp; exact wr_of (by omega)
    have h10 : ¬ ((1 : Int) = 0) := by decide
    rw [a1, b1] at hT'
    simp only [plug, mkN, List.nil_append, List.append_nil, List.cons_append, Bool.false_eq_true, if_false, T.place_mk, placeL_cons, placeL_nil, nx, ny, if_true, T.n, hw, hw2, h10] at hT'
    exact hT'
theorem show4 (base tr : Nat) (F L S A B : Bk) (w : World) (hT : Tr base w tr (tr3 F L S A B)) (hbase : base ≤ w.heap.size) :
    Calls Tryd.prog 14 #[ptr tr, .int .i64 1] w fun e w' => e = .returned (.int .i64 0) ∧ Tr base w' tr (tr4 S A B) ∧ Below base w w' ∧ Off (tr :: (tr3 F L S A B).bl) w w' := by
  have hlv := leaves_tr3 F L S A B
  have a1 : (mkN A 2 41 0 39 16 0).add 0 41 = mkN A 2 41 0 80 16 0 := by unfold Nd.add; rw [if_pos rfl]; show (_ : Nd) = _; unfold mkN; simp; exact wr_of (by omega)
  have b1 : (mkN B 3 41 17 39 7 0).add 0 41 = mkN B 3 41 17 80 7 0 := by unfold Nd.add; rw [if_pos rfl]; show (_ : Nd) = _; unfold mkN; simp; exact wr_of (by omega)
  have s1 : (mkN S 0 41 0 39 24 1).add 0 41 = mkN S 0 41 0 80 24 1 := by unfold Nd.add; rw [if_pos rfl]; show (_ : Nd) = _; unfold mkN; simp; exact wr_of (by omega)
  unfold tr3 at hT hlv
  have hnd := (Tr.apart (c := []) (t := _) hT).1
  have hnd2 : (T.mk (mkN S 0 41 0 39 24 1) [.mk (mkN A 2 41 0 39 16 0) [], .mk (mkN B 3 41 17 39 7 0) []]).bl.Nodup := by
    rw [T.bl_mk, blL_cons, blL_cons, blL_nil, List.append_nil] at hnd
    exact (List.nodup_append.1 (List.nodup_append.1 (List.nodup_cons.1 hnd).2).2.1).2.1
  refine (close_root base tr (mkN F 0 0 0 80 24 0) (.mk (mkN L 1 0 0 40 24 0) []) (.mk (mkN S 0 41 0 39 24 1) [.mk (mkN A 2 41 0 39 16 0) [], .mk (mkN B 3 41 17 39 7 0) []])
    (.mk (mkN S 0 41 0 80 24 1) [.mk (mkN A 2 41 0 80 16 0) [], .mk (mkN B 3 41 17 80 7 0) []]) 1 w hT hbase (by rw [hlv]; exact (by decide : 3 ≤ 100000)) ?_ rfl rfl (by show (0:Int) ≤ 40 ∧ (40:Int) ≤ 1000; omega) ?_ ⟨rfl, ?_⟩ ?_).mono ?_
  · unfold T.find; rw [hlv]; rfl
  · intro W hW
    have := grow_two (some (mkN F 0 0 0 80 24 0).g) (mkN S 0 41 0 39 24 1) (mkN A 2 41 0 39 16 0) (mkN B 3 41 17 39 7 0) 41 W hW hnd2 rfl (by omega)
    rw [a1, b1, s1] at this
    exact this
  · simp only [T.bl_mk, blL_cons, blL_nil]; rfl
  · intro m hm
    rw [T.nds_mk, ndsL_cons, ndsL_cons, ndsL_nil, nds_leaf, nds_leaf] at hm
    simp at hm
    rcases hm with rfl | rfl | rfl
    · exact .inr rfl
    · exact .inl rfl
    · exact .inl rfl
  · rintro e w' ⟨rfl, hT', hB, hO⟩
    refine ⟨rfl, ?_, hB, hO⟩
    have hw2 : wr64 (0 + wr64 (16 + 1)) = 17 := by rw [wr_of (z := (16 : Int) + 1) (by omega), wr_of (by omega)]; rfl
    have h10 : ¬ ((1 : Int) = 0) := by decide
    simp only [mkN, T.place_mk, placeL_cons, placeL_nil, nx, ny, if_true, if_false, T.n, hw2, h10] at hT'
    exact hT'
end Go.Proofs.YtcklmkjlbpjojaaDoor
