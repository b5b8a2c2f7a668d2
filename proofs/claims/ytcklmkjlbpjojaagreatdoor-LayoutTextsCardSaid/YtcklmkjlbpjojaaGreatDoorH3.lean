/- Layout: grow of two leaves across; Resize of the lower one of two. Layout: Resize of the lower one of two. Layout: sameBoxes of equal boxes. -/
import Derived.Test.YtcklmkjlbpjojaaGreatDoorD7
import Derived.Test.YtcklmkjlbpjojaaGreatDoorG2
import Derived.Test.YtcklmkjlbpjojaaGreatDoorR3b
import Derived.Test.YtcklmkjlbpjojaaGreatDoorF0
namespace Go.Proofs.YtcklmkjlbpjojaaGreatDoor
open Go.RowKit
set_option linter.unusedSimpArgs false
set_option linter.unusedVariables false

theorem Nd.add_g (n : Nd) (way z : Int) : (n.add way z).g = n.g ∧ (n.add way z).A = n.A ∧ (n.add way z).c = n.c := by unfold Nd.add; split <;> exact ⟨rfl, rfl, rfl⟩
theorem bl_leaf (n : Nd) : (T.mk n []).bl = n.g :: n.A.toList := by rw [T.bl_mk, blL_nil, List.append_nil]
structure Two (w : World) (up : Option Nat) (n : Nd) (a b : Nd) : Prop where
  hn : At w up n [.mk a [], .mk b []]
  ha : At w (some n.g) a []
  hb : At w (some n.g) b []
theorem Two.tp {w : World} {up : Option Nat} {n a b : Nd} (h : Two w up n a b) : TP w up (.mk n [.mk a [], .mk b []]) :=
  .mk h.hn (by rw [TPs, TPs, TPs]; exact ⟨.mk h.ha (by rw [TPs]; trivial), .mk h.hb (by rw [TPs]; trivial), trivial⟩)
theorem Two.of {w : World} {up : Option Nat} {n a b : Nd} (h : TP w up (.mk n [.mk a [], .mk b []])) : Two w up n a b := by
  have hk := h.kids
  rw [TPs, TPs, TPs] at hk
  exact ⟨h.at_, hk.1.at_, hk.2.1.at_⟩
/-- The blocks apart. -/
structure Two.Ap (n a b : Nd) : Prop where
  nA : n.A ≠ some n.g
  aA : a.A ≠ some a.g
  bA : b.A ≠ some b.g
  na : ∀ x ∈ a.g :: a.A.toList, x ≠ n.g ∧ n.A ≠ some x
  nb : ∀ x ∈ b.g :: b.A.toList, x ≠ n.g ∧ n.A ≠ some x
  ab : ∀ x ∈ a.g :: a.A.toList, x ≠ b.g ∧ b.A ≠ some x
theorem Two.ap {n a b : Nd} (nd : (T.mk n [.mk a [], .mk b []]).bl.Nodup) : Two.Ap n a b := by
  rw [T.bl_mk, blL_cons, blL_cons, blL_nil, List.append_nil, bl_leaf, bl_leaf] at nd
  obtain ⟨n1, n2⟩ := List.nodup_cons.1 nd
  obtain ⟨n3, n4, n5⟩ := List.nodup_append.1 n2
  obtain ⟨n6, n7, n8⟩ := List.nodup_append.1 n4
  refine ⟨fun e => n1 (by simp [e]), fun e => (List.nodup_cons.1 n6).1 (by simp [e]), fun e => (List.nodup_cons.1 n7).1 (by simp [e]), ?_, ?_, ?_⟩
  · intro x hx
    exact ⟨fun e => n1 (by rw [← e]; exact List.mem_append_right _ (List.mem_append_left _ hx)), fun e => n5 x (by simp [e]) x (List.mem_append_left _ hx) rfl⟩
  · intro x hx
    exact ⟨fun e => n1 (by rw [← e]; exact List.mem_append_right _ (List.mem_append_right _ hx)), fun e => n5 x (by simp [e]) x (List.mem_append_right _ hx) rfl⟩
  · intro x hx
    exact ⟨fun e => n8 x hx b.g (by simp) e, fun e => n8 x hx x (by simp [e]) rfl⟩
theorem At.kidn {w : World} {up : Option Nat} {n : Nd} {ks ks' : List T} (h : At w up n ks) (e : ptrs ks' = ptrs ks) : At w up n ks' := h.congr e
theorem two_ptrs {a b a' b' : Nd} (h1 : a'.g = a.g) (h2 : b'.g = b.g) : ptrs [T.mk a' [], T.mk b' []] = ptrs [T.mk a [], T.mk b []] := by simp [ptrs, T.g, T.n, h1, h2]
/-- The second one's cells are turned. -/
theorem Two.setB {w w' : World} {up : Option Nat} {n a b b' : Nd} (h : Two w up n a b) (ap : Two.Ap n a b) (o : Off [b.g] w w') (hb : At w' (some n.g) b' []) (e : b'.g = b.g) : Two w' up n a b' := by
  refine ⟨(h.hn.same fun x hx => o.block x (h.hn.lt x hx) ?_).congr (two_ptrs rfl e), h.ha.same fun x hx => o.block x (h.ha.lt x hx) ?_, hb⟩
  · simp only [List.mem_singleton]
    rintro rfl
    rcases List.mem_cons.1 hx with h1 | h1
    · exact (ap.nb b.g (by simp)).1 h1
    · exact (ap.nb b.g (by simp)).2 (by simpa using h1)
  · simp only [List.mem_singleton]
    rintro rfl
    exact (ap.ab b.g hx).1 rfl
theorem Two.setA {w w' : World} {up : Option Nat} {n a b a' : Nd} (h : Two w up n a b) (ap : Two.Ap n a b) (o : Off [a.g] w w') (ha : At w' (some n.g) a' []) (e : a'.g = a.g) : Two w' up n a' b := by
  refine ⟨(h.hn.same fun x hx => o.block x (h.hn.lt x hx) ?_).congr (two_ptrs e rfl), ha, h.hb.same fun x hx => o.block x (h.hb.lt x hx) ?_⟩
  · simp only [List.mem_singleton]
    rintro rfl
    rcases List.mem_cons.1 hx with h1 | h1
    · exact (ap.na a.g (by simp)).1 h1
    · exact (ap.na a.g (by simp)).2 (by simpa using h1)
  · simp only [List.mem_singleton]
    rintro rfl
    rcases List.mem_cons.1 hx with h1 | h1
    · exact (ap.ab a.g (by simp)).1 h1
    · exact (ap.ab a.g (by simp)).2 (by simpa using h1)

set_option maxHeartbeats 1000000 in
set_option maxRecDepth 100000 in
theorem grow_two (up : Option Nat) (n a b : Nd) (z : Int) (w : World) (hT : TP w up (.mk n [.mk a [], .mk b []])) (nd : (T.mk n [.mk a [], .mk b []]).bl.Nodup) (hway : n.way = 1) (hz : 0 < z ∧ z ≤ 1000) :
    Calls Tryz.prog 68 #[ptr n.g, .int .i64 0, .int .i64 z] w fun e w' => e = .returned (.tuple #[]) ∧ TP w' up (.mk (n.add 0 z) [.mk (a.add 0 z) [], .mk (b.add 0 z) []]) ∧ Off (T.mk n [.mk a [], .mk b []]).bl w w' := by
  have h2 := Two.of hT
  have ap := Two.ap nd
  have hA := h2.hn
  have c3 := hA.c3; have f3 := hA.free 3
  obtain ⟨bb, hbb, hb0⟩ := hA.kid (i := 0) (k := .mk a []) rfl
  have hAr : adr n.A = some ⟨bb, 0, none⟩ := by rw [hbb]; rfl
  have c6 : w.cell? ⟨n.g, 6, none⟩ = some (.slice (some ⟨bb, 0, none⟩) 2 n.c) := by have := hA.c6; rw [hAr] at this; exact this
  obtain ⟨W, hW⟩ : ∃ W, W = (w.setCell ⟨n.g, 3, none⟩ (.int .i64 (wr64 (n.a + z)))).drew := ⟨_, rfl⟩
  have o0 : Off [n.g] w W := by rw [hW]; exact (Off.set w ⟨n.g, 3, none⟩ _).trans (Off.drew (S := []) _) (by simp)
  have t0 : Two W up (n.add 0 z) a b := by
    refine ⟨?_, h2.ha.same fun x hx => o0.block x (h2.ha.lt x hx) (by simp; exact (ap.na x hx).1), h2.hb.same fun x hx => o0.block x (h2.hb.lt x hx) (by simp; exact (ap.nb x hx).1)⟩
    refine hA.upd rfl rfl rfl rfl o0 ?_ ap.nA
    rw [hW]
    have := heap_set (j := 3) hA.h (.int .i64 (wr64 (n.a + z)))
    exact this
  have ap0 : Two.Ap (n.add 0 z) a b := ⟨ap.nA, ap.aA, ap.bA, ap.na, ap.nb, ap.ab⟩
  have ap1 : Two.Ap (n.add 0 z) a (b.add 0 z) := ⟨ap.nA, ap.aA, ap.bA, ap.na, ap.nb, ap.ab⟩
  have hS : ∀ x, x = n.g ∨ x = a.g ∨ x = b.g → x ∈ (T.mk n [.mk a [], .mk b []]).bl := by
    intro x hx
    rw [T.bl_mk, blL_cons, blL_cons, blL_nil, List.append_nil, bl_leaf, bl_leaf]
    rcases hx with rfl | rfl | rfl <;> simp
  obtain ⟨S, hSe⟩ : ∃ S, S = (T.mk n [.mk a [], .mk b []]).bl := ⟨_, rfl⟩
  rw [← hSe] at hS ⊢
  have o0' : Off S w W := o0.sub (by intro x hx; simp at hx; exact .inl (hS x (.inl hx)))
  have hcells : ∀ (wr : World) (a' b' : Nd), Two wr up (n.add 0 z) a' b' → wr.cell? ⟨n.g, 6, none⟩ = some (.slice (some ⟨bb, 0, none⟩) 2 n.c) ∧ wr.cell? ⟨n.g, 5, none⟩ = some (.int .i64 1) ∧ wr.cell? ⟨bb, 0, none⟩ = some (ptr a'.g) ∧ wr.cell? ⟨bb, 1, none⟩ = some (ptr b'.g) := by
    intro wr a' b' h
    have k6 := h.hn.c6; have k5 := h.hn.c5
    obtain ⟨b1, e1, k0⟩ := h.hn.kid (i := 0) (k := .mk a' []) rfl
    obtain ⟨b2, e2, k1⟩ := h.hn.kid (i := 1) (k := .mk b' []) rfl
    have e3 : (n.add 0 z).A = some bb := hbb
    rw [e3] at e1 e2
    injection e1 with e1; injection e2 with e2
    subst e1; subst e2
    refine ⟨?_, ?_, k0, k1⟩
    · have : adr (n.add 0 z).A = some ⟨bb, 0, none⟩ := hAr
      rw [this] at k6; exact k6
    · have : (n.add 0 z).way = 1 := hway
      rw [this] at k5; exact k5
  have hz1 : -9223372036854775808 < z ∧ z ≤ 9223372036854775807 := by omega
  replace h2 := Lib.hid h2; replace ap := Lib.hid ap; replace hA := Lib.hid hA; replace hbb := Lib.hid hbb; replace hAr := Lib.hid hAr; replace o0 := Lib.hid o0; replace t0 := Lib.hid t0; replace ap0 := Lib.hid ap0; replace ap1 := Lib.hid ap1; replace hS := Lib.hid hS; replace hSe := Lib.hid hSe; replace o0' := Lib.hid o0'; replace hcells := Lib.hid hcells; replace nd := Lib.hid nd; replace hT := Lib.hid hT; replace hway := Lib.hid hway
  unfold ptr
  go_enter Tryz.func68, Tryz.ntmps68
  go_upto_region 0 with fail
  go_still_tail 11, (by kernel_rfl)
  change wpList _ _ _ _ _ w.drew
  go_upto_region 1 with fail
  have hWe : (w.setCell ⟨n.g, 3, none⟩ (.int .i64 (wrap64 (n.a + z)))).drew = W := hW.symm
  rw [hWe]
  have q := hcells.out W a b t0.out
  obtain ⟨q6, q5, q0, q1⟩ := q
  clear c3 f3 c6 hb0 hWe hW
  go_wp2_with fail
  go_loopw [2, 6] (fun bv iv wr => bv = .int .i64 z ∧ ((iv = .int .i64 1 ∧ Hid (Two wr up (n.add 0 z) a b ∧ Off S w wr)) ∨ (iv = .int .i64 0 ∧ Hid (Two wr up (n.add 0 z) a (b.add 0 z) ∧ Off S w wr)) ∨ (iv = .int .i64 (-1) ∧ Hid (Two wr up (n.add 0 z) (a.add 0 z) (b.add 0 z) ∧ Off S w wr)))) (fun _ iv _ => match iv with | .int _ i => (i + 1).toNat | _ => 0)
  case atStart => exact ⟨rfl, .inl ⟨rfl, Lib.hid ⟨t0.out, o0'.out⟩⟩⟩
  case round =>
    clear q6 q5 q0 q1
    obtain ⟨rfl, hrel⟩ := hrel
    rcases hrel with ⟨rfl, hI⟩ | ⟨rfl, hI⟩ | ⟨rfl, hI⟩
    · obtain ⟨q6, q5, q0, q1⟩ := hcells.out wr _ _ hI.out.1
      have CG := Lib.hid (grow_leaf (some n.g) b 0 z wr hI.out.1.hb (.inl rfl) ap.out.bA hz1)
      unfold ptr at q0 q1 CG
      go_wp2_with fail
      refine CG.out.mono ?_
      rintro e w2 ⟨rfl, hB, oB⟩
      have t2 := hI.out.1.setB ap0.out oB hB (by exact (Nd.add_g b 0 z).1)
      have o2 : Off S w w2 := hI.out.2.trans oB (by intro x hx; simp at hx; exact .inl (hS.out x (.inr (.inr hx))))
      replace t2 := Lib.hid t2; replace o2 := Lib.hid o2; replace hB := Lib.hid hB; replace oB := Lib.hid oB
      clear q6 q5 q0 q1 CG
      go_wp2_with fail
      exact ⟨⟨rfl, .inr (.inl ⟨by go_num, Lib.hid ⟨t2.out, o2.out⟩⟩)⟩, by simp⟩
    · obtain ⟨q6, q5, q0, q1⟩ := hcells.out wr _ _ hI.out.1
      have CG := Lib.hid (grow_leaf (some n.g) a 0 z wr hI.out.1.ha (.inl rfl) ap.out.aA hz1)
      unfold ptr at q0 q1 CG
      go_wp2_with fail
      refine CG.out.mono ?_
      rintro e w2 ⟨rfl, hB, oB⟩
      have t2 := hI.out.1.setA ap1.out oB hB (by exact (Nd.add_g a 0 z).1)
      have o2 : Off S w w2 := hI.out.2.trans oB (by intro x hx; simp at hx; exact .inl (hS.out x (.inr (.inl hx))))
      replace t2 := Lib.hid t2; replace o2 := Lib.hid o2; replace hB := Lib.hid hB; replace oB := Lib.hid oB
      clear q6 q5 q0 q1 CG
      go_wp2_with fail
      exact ⟨⟨rfl, .inr (.inr ⟨by go_num, Lib.hid ⟨t2.out, o2.out⟩⟩)⟩, by simp⟩
    · obtain ⟨q6, q5, q0, q1⟩ := hcells.out wr _ _ hI.out.1
      go_wp2_with fail
      go_end0
      exact ⟨rfl, hI.out.1.tp, hI.out.2⟩
end Go.Proofs.YtcklmkjlbpjojaaGreatDoor
namespace Go.Proofs.YtcklmkjlbpjojaaGreatDoor
open Go.RowKit
set_option linter.unusedSimpArgs false
set_option linter.unusedVariables false

set_option maxHeartbeats 1000000 in
set_option maxRecDepth 100000 in
theorem resize_two (base tr : Nat) (c0 : List Fr) (n a b : Nd) (pane : Int) (w : World) (hT : Tr base w tr (plug c0 (.mk n [.mk a [], .mk b []]))) (hbase : base ≤ w.heap.size) (hl : (plug c0 (.mk n [.mk a [], .mk b []])).leaves.length ≤ 100000)
    (hf : (plug c0 (.mk n [.mk a [], .mk b []])).find pane = some (.mk b [])) (hway : n.way = 1) (hz : 4 ≤ a.b ∧ a.b ≤ 1000)
    (hw01 : (plug c0 (.mk n [.mk (a.add 1 (-2)) [], .mk (b.add 1 2) []])).w01) :
    Calls Tryz.prog 19 #[ptr tr, .int .i64 pane, .int .u8 85, .int .i64 2] w fun e w' => e = .returned (.int .i64 0) ∧ Tr base w' tr ((plug c0 (.mk n [.mk (a.add 1 (-2)) [], .mk (b.add 1 2) []])).place 0 0) ∧ Below base w w' := by
  have CL := Lib.hid (leaf_any base tr _ pane w hT hl)
  rw [hf] at CL
  have CI : Hid (∀ W, Calls Tryz.prog 66 #[.string ⟨#[76, 82, 85, 68]⟩, .int .u8 85] W fun e w' => e = .returned (.int .i64 2) ∧ w' = W) := Lib.hid (fun W => ib_any 85 W (by omega) (by omega))
  simp only [Option.map_some, uptr] at CL
  replace CL : Hid (Calls Tryz.prog 24 #[ptr tr, .int .i64 pane] w fun e w' => e = .returned (ptr b.g) ∧ w.grownBy w' none) := CL
  replace hT := Lib.hid hT; replace hf := Lib.hid hf; replace hw01 := Lib.hid hw01
  unfold ptr at *
  go_enter Tryz.func19, Tryz.ntmps19
  go_wp2_with fail
  refine CL.out.mono ?_
  rintro e w1 ⟨rfl, G1⟩
  have hT1 := hT.out.grown G1
  have hp := (TP_plug c0 _).1 hT1.p
  have t1 := Two.of hp.2
  obtain ⟨nd, hin, hout⟩ := hT1.apart
  have ap := Two.ap nd
  have q7 : w1.cell? ⟨b.g, 7, none⟩ = some (.pointer (some ⟨n.g, 0, none⟩)) := t1.hb.c7
  have q5 := t1.hn.c5
  rw [hway] at q5
  obtain ⟨bb, hbb, hb0⟩ := t1.hn.kid (i := 0) (k := .mk a []) rfl
  obtain ⟨bb', hbb', hb1⟩ := t1.hn.kid (i := 1) (k := .mk b []) rfl
  have : bb' = bb := by rw [hbb] at hbb'; injection hbb' with e; exact e.symm
  subst this
  have hAr : adr n.A = some ⟨bb', 0, none⟩ := by rw [hbb]; rfl
  have c6 : w1.cell? ⟨n.g, 6, none⟩ = some (.slice (some ⟨bb', 0, none⟩) 2 n.c) := by have := t1.hn.c6; rw [hAr] at this; exact this
  have hrow : n.row 2 = .slice (some ⟨bb', 0, none⟩) 2 n.c := by unfold Nd.row; rw [hAr]
  have hO : w1.ownsRow 0 58 1 (.slice (some ⟨bb', 0, none⟩) 2 n.c) 2 (ptrs [.mk a [], .mk b []]) := by have := t1.hn.r; rw [show [T.mk a [], T.mk b []].length = 2 from rfl, hrow] at this; exact this
  have hR := own_Rd hO
  replace hb0 : w1.cell? ⟨bb', 0, none⟩ = some (ptr a.g) := hb0
  replace hb1 : w1.cell? ⟨bb', 1, none⟩ = some (ptr b.g) := hb1
  have hab : a.g ≠ b.g := (ap.ab a.g (by simp)).1
  have CX := index_any (some ⟨bb', 0, none⟩) 2 n.c b.g 1 [.mk a [], .mk b []] (.mk b []) w1 rfl (by omega) hR rfl rfl (by simp [T.g, T.n, hab]) (by
    intro s hs
    simp at hs
    rcases hs with rfl | rfl
    · exact ⟨_, _, t1.ha.h⟩
    · exact ⟨_, _, t1.hb.h⟩)
  have a4 : w1.cell? ⟨a.g, 4, none⟩ = some (.int .i64 a.b) := t1.ha.c4
  replace G1 := Lib.hid G1; replace hT1 := Lib.hid hT1; replace hp := Lib.hid hp; replace t1 := Lib.hid t1; replace nd := Lib.hid nd; replace hin := Lib.hid hin; replace hout := Lib.hid hout; replace ap := Lib.hid ap; replace hbb := Lib.hid hbb; replace hbb' := Lib.hid hbb'; replace hAr := Lib.hid hAr; replace hrow := Lib.hid hrow; replace hO := Lib.hid hO; replace hR := Lib.hid hR; replace CX := Lib.hid CX; replace hab := Lib.hid hab
  unfold ptr at hb0 hb1 CX
  clear CL
  go_wp2_with fail
  refine (CI.out _).mono ?_
  rintro e w2 ⟨rfl, rfl⟩
  go_wp2_with fail
  go_loopw [9] (fun lv wr => lv = .pointer (some ⟨b.g, 0, none⟩) ∧ wr = w2) (fun _ _ => 0)
  case atStart => exact ⟨rfl, rfl⟩
  case round =>
    obtain ⟨rfl, rfl⟩ := hrel
    go_wp2_with fail
    refine CX.out.mono ?_
    rintro e w3 ⟨rfl, rfl⟩
    have hmn : min (1 : Int) 0 = 0 := by decide
    have hmn2 : min (2 : Int) (a.b - 1) = 2 := by omega
    have hw1 : IntKind.i64.wrap (a.b - 1) = a.b - 1 := by rw [IntKind.wrap_i64]; omega
    go_upto_region 14 with fail
    go_quiet (fail)
    go_upto_region 15 with fail
    have d1 : Two (w3.drewN nq) (upOf c0) n a b := ⟨t1.out.hn.same fun _ _ => rfl, t1.out.ha.same fun _ _ => rfl, t1.out.hb.same fun _ _ => rfl⟩
    have dT : Tr base (w3.drewN nq) tr (plug c0 (.mk n [.mk a [], .mk b []])) := hT1.out.grown ⟨rfl, rfl, rfl, Nat.le_refl _, fun _ _ _ => rfl⟩
    have dG : w.grownBy (w3.drewN nq) none := ⟨G1.out.os, G1.out.tape, G1.out.output, G1.out.size, G1.out.block⟩
    generalize w3.drewN nq = w4 at *
    replace d1 := Lib.hid d1; replace dT := Lib.hid dT; replace dG := Lib.hid dG
    have a44 : w4.cell? ⟨a.g, 4, none⟩ = some (.int .i64 a.b) := d1.out.ha.c4
    have CLe := Lib.hid (fun W (hW : W.heap = w4.heap) => least_leaf (some n.g) a 1 W (d1.out.ha.same fun _ _ => by rw [hW]))
    unfold ptr at CLe
    clear a4 hb0 hb1 c6 q5 q7 CX CI
    go_upto_region 17 with fail
    go_quiet (refine Calls.quiet_of_same (CLe.out _ rfl))
    go_upto_region 18 with fail
    have dG' : w.grownBy (w4.drewN nq) none := ⟨dG.out.os, dG.out.tape, dG.out.output, dG.out.size, dG.out.block⟩
    have d2 : Two (w4.drewN nq) (upOf c0) n a b := ⟨d1.out.hn.same fun _ _ => rfl, d1.out.ha.same fun _ _ => rfl, d1.out.hb.same fun _ _ => rfl⟩
    have dT2 : Tr base (w4.drewN nq) tr (plug c0 (.mk n [.mk a [], .mk b []])) := dT.out.grown ⟨rfl, rfl, rfl, Nat.le_refl _, fun _ _ _ => rfl⟩
    clear CLe a44
    generalize w4.drewN nq = w5 at *
    replace d2 := Lib.hid d2; replace dT2 := Lib.hid dT2; replace dG' := Lib.hid dG'
    have CGb := Lib.hid (grow_leaf (some n.g) b 1 2 w5 d2.out.hb (.inr rfl) ap.out.bA (by omega))
    unfold ptr at CGb
    go_wp2_with fail
    refine CGb.out.mono ?_
    rintro e w6 ⟨rfl, hB6, o6⟩
    have d6 := d2.out.setB ap.out o6 hB6 (Nd.add_g b 1 2).1
    have ap6 : Two.Ap n a (b.add 1 2) := ⟨ap.out.nA, ap.out.aA, ap.out.bA, ap.out.na, ap.out.nb, ap.out.ab⟩
    have CGa := Lib.hid (grow_leaf (some n.g) a 1 (-2) w6 d6.ha (.inr rfl) ap.out.aA (by omega))
    unfold ptr at CGa
    replace hB6 := Lib.hid hB6; replace o6 := Lib.hid o6; replace d6 := Lib.hid d6; replace ap6 := Lib.hid ap6
    clear CGb
    go_wp2_with fail
    refine CGa.out.mono ?_
    rintro e w7 ⟨rfl, hA7, o7⟩
    have d7 := d6.out.setA ap6.out o7 hA7 (Nd.add_g a 1 (-2)).1
    have oo : Off [b.g, a.g] w5 w7 := (o6.out.sub (S' := [b.g, a.g]) (by simp)).trans o7 (by simp)
    have hbl : (T.mk n [.mk (a.add 1 (-2)) [], .mk (b.add 1 2) []]).bl = (T.mk n [.mk a [], .mk b []]).bl := by
      simp only [T.bl_mk, blL_cons, blL_nil, (Nd.add_g a 1 (-2)).1, (Nd.add_g a 1 (-2)).2.1, (Nd.add_g b 1 2).1, (Nd.add_g b 1 2).2.1]
    have hmem : ∀ x ∈ [b.g, a.g], x ∈ (T.mk n [.mk a [], .mk b []]).bl := by
      intro x hx
      rw [T.bl_mk, blL_cons, blL_cons, blL_nil, List.append_nil, bl_leaf, bl_leaf]
      simp only [List.mem_cons, List.not_mem_nil, or_false] at hx
      rcases hx with rfl | rfl <;> simp
    have hTr7 : Tr base w7 tr (plug c0 (.mk n [.mk (a.add 1 (-2)) [], .mk (b.add 1 2) []])) := by
      refine Tr.focus2 dT2.out oo (fun x hx => ⟨(hin.out x (hmem x hx)).1, (hin.out x (hmem x hx)).2.1⟩) d7.tp rfl (by rw [hbl]; exact nd.out) (fun x hx => ?_)
      rw [hbl] at hx
      exact ⟨(hin.out x hx).1, (hin.out x hx).2.1, (hin.out x hx).2.2.1⟩
    have bel7 : Below base w w7 := by
      have b1 : Below base w w5 := ⟨dG'.out.os, dG'.out.tape, dG'.out.output, dG'.out.size, fun k hk => dG'.out.block k (by omega) (by simp)⟩
      exact b1.trans (oo.below (fun x hx => (hin.out x (hmem x hx)).2.2.1) (by have := dG'.out.size; omega))
    obtain ⟨TF, hTF⟩ : ∃ TF, TF = plug c0 (.mk n [.mk (a.add 1 (-2)) [], .mk (b.add 1 2) []]) := ⟨_, rfl⟩
    have hw01' := hw01.out
    rw [← hTF] at hTr7 hw01'
    have q0 := hTr7.c0
    have CPl := Lib.hid (place_any TF none 0 0 w7 hTr7.p hTr7.nd hw01')
    unfold ptr at q0 CPl
    replace hTr7 := Lib.hid hTr7; replace bel7 := Lib.hid bel7; replace oo := Lib.hid oo; replace d7 := Lib.hid d7; replace o7 := Lib.hid o7; replace hA7 := Lib.hid hA7; replace hmem := Lib.hid hmem; replace hTF := Lib.hid hTF; replace hbl := Lib.hid hbl
    clear CGa
    go_wp2_with fail
    refine CPl.out.mono ?_
    rintro e w8 ⟨rfl, hT8, o8⟩
    go_wp2_with fail
    go_ret
    exact ⟨rfl, by have := hTr7.out.placed hT8 o8; rw [hTF.out] at this; exact this, bel7.out.trans (o8.below hTr7.out.lo.2 (by have := hTr7.out.lt; have := hTr7.out.lo.1; omega))⟩
end Go.Proofs.YtcklmkjlbpjojaaGreatDoor
namespace Go.Proofs.YtcklmkjlbpjojaaGreatDoor
open Go.RowKit
set_option linter.unusedSimpArgs false
set_option linter.unusedVariables false

def box5 (b : Int × Int × Int × Int × Int) : List Value := [.int .i64 b.1, .int .i64 b.2.1, .int .i64 b.2.2.1, .int .i64 b.2.2.2.1, .int .i64 b.2.2.2.2]
def boxL (l : List (Int × Int × Int × Int × Int)) : List Value := l.flatMap box5
theorem boxL_at {l : List (Int × Int × Int × Int × Int)} {j : Nat} {b : Int × Int × Int × Int × Int} (h : l[j]? = some b) (i : Nat) (u : Value) (hu : (box5 b)[i]? = some u) : (boxL l)[j * 5 + i]? = some u := by
  induction l generalizing j with
  | nil => simp at h
  | cons a l ih =>
    rcases j with _ | j
    · simp at h; subst h
      simp only [boxL, List.flatMap_cons]
      rw [List.getElem?_append_left (by rw [Nat.zero_mul, Nat.zero_add]; exact (List.getElem?_eq_some_iff.1 hu).1), Nat.zero_mul, Nat.zero_add]
      exact hu
    · simp only [boxL, List.flatMap_cons]
      rw [List.getElem?_append_right (by show 5 ≤ _; omega)]
      have := ih (j := j) (by simpa using h)
      rw [show (j + 1) * 5 + i - (box5 a).length = j * 5 + i by show (j + 1) * 5 + i - 5 = _; omega]
      exact this
theorem boxes_boxL (l : List T) : boxes l = boxL (l.map fun t => (t.n.p, t.n.x, t.n.y, t.n.a, t.n.b)) := by
  induction l with
  | nil => rfl
  | cons a l ih =>
    have e : boxes (a :: l) = boxOf a.n ++ boxes l := by simp [boxes]
    rw [e, ih]; rfl

set_option maxHeartbeats 1000000 in
set_option maxRecDepth 100000 in
theorem sameBoxes_any (A B : Option Addr) (len ca cb : Nat) (l : List (Int × Int × Int × Int × Int)) (w : World) (hn : len = l.length) (hb : len ≤ 100000) (hA : Rd w A (boxL l)) (hB : Rd w B (boxL l)) :
    Calls Tryz.prog 22 #[.slice A len ca, .slice B len cb] w fun e w' => e = .returned (.bool true) ∧ w.grownBy w' none := by
  replace hn := Lib.hid hn; replace hA := Lib.hid hA; replace hB := Lib.hid hB
  go_enter Tryz.func22, Tryz.ntmps22
  go_wp2_with fail
  go_loopw [5] (fun iv wr => ∃ j : Nat, j ≤ len ∧ iv = .int .i64 j ∧ Hid (w.grownBy wr none)) (fun iv _ => len - (match iv with | .int _ i => i | _ => 0).toNat)
  case atStart => exact ⟨0, Nat.zero_le _, rfl, Lib.hid (World.grownBy.refl _ _)⟩
  case round =>
    obtain ⟨j, hj, rfl, hI⟩ := hrel
    by_cases hlt : j < len
    · obtain ⟨o, ho⟩ : ∃ o, l[j]? = some o := ⟨l[j]'(by rw [← hn.out]; exact hlt), List.getElem?_eq_getElem _⟩
      obtain ⟨o1, o2, o3, o4, o5⟩ := o
      obtain ⟨b1, f1, rfl, _, _⟩ := hA.out.at_ (boxL_at ho 0 _ rfl)
      obtain ⟨b2, f2, rfl, _, _⟩ := hB.out.at_ (boxL_at ho 0 _ rfl)
      have hcA : ∀ (i : Nat) (u : Value), (box5 (o1, o2, o3, o4, o5))[i]? = some u → wr.cell? ⟨b1, f1 + j * 5 + i, none⟩ = some u := by
        intro i u hu
        obtain ⟨b', off', e, _, h⟩ := hA.out.at_ (boxL_at ho i u hu)
        cases e
        rw [← Nat.add_assoc] at h
        exact hI.out.cell h (by simp)
      have hcB : ∀ (i : Nat) (u : Value), (box5 (o1, o2, o3, o4, o5))[i]? = some u → wr.cell? ⟨b2, f2 + j * 5 + i, none⟩ = some u := by
        intro i u hu
        obtain ⟨b', off', e, _, h⟩ := hB.out.at_ (boxL_at ho i u hu)
        cases e
        rw [← Nat.add_assoc] at h
        exact hI.out.cell h (by simp)
      have x0 : wr.cell? ⟨b1, f1 + j * 5, none⟩ = some (.int .i64 o1) := hcA 0 _ rfl
      have x1 : wr.cell? ⟨b1, f1 + j * 5 + 1, none⟩ = some (.int .i64 o2) := hcA 1 _ rfl
      have x2 : wr.cell? ⟨b1, f1 + j * 5 + 2, none⟩ = some (.int .i64 o3) := hcA 2 _ rfl
      have x3 : wr.cell? ⟨b1, f1 + j * 5 + 3, none⟩ = some (.int .i64 o4) := hcA 3 _ rfl
      have x4 : wr.cell? ⟨b1, f1 + j * 5 + 4, none⟩ = some (.int .i64 o5) := hcA 4 _ rfl
      have y0 : wr.cell? ⟨b2, f2 + j * 5, none⟩ = some (.int .i64 o1) := hcB 0 _ rfl
      have y1 : wr.cell? ⟨b2, f2 + j * 5 + 1, none⟩ = some (.int .i64 o2) := hcB 1 _ rfl
      have y2 : wr.cell? ⟨b2, f2 + j * 5 + 2, none⟩ = some (.int .i64 o3) := hcB 2 _ rfl
      have y3 : wr.cell? ⟨b2, f2 + j * 5 + 3, none⟩ = some (.int .i64 o4) := hcB 3 _ rfl
      have y4 : wr.cell? ⟨b2, f2 + j * 5 + 4, none⟩ = some (.int .i64 o5) := hcB 4 _ rfl
      clear hcA hcB
      replace ho := Lib.hid ho
      go_upto_region 6 with fail
      go_quiet (fail)
      go_wp2_with fail
      refine ⟨⟨j + 1, by omega, by go_num, Lib.hid ⟨hI.out.os, hI.out.tape, hI.out.output, hI.out.size, hI.out.block⟩⟩, by simp; omega⟩
    · have : j = len := by omega
      subst this
      go_wp2_with fail
      go_ret
      exact ⟨rfl, hI.out⟩
end Go.Proofs.YtcklmkjlbpjojaaGreatDoor
