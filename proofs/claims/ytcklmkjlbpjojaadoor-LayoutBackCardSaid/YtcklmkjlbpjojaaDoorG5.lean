/- Layout: grow of two leaves across; Resize of the lower one of two. -/
import Derived.Test.YtcklmkjlbpjojaaDoorG3
import Derived.Test.YtcklmkjlbpjojaaDoorG2
namespace Go.Proofs.YtcklmkjlbpjojaaDoor
open Go.RowKit
set_option linter.unusedSimpArgs false
set_option linter.unusedVariables false

theorem Nd.add_g (n : Nd) (way z : Int) : (n.add way z).g = n.g ∧ (n.add way z).A = n.A ∧ (n.add way z).c = n.c := by unfold Nd.add; split <;> exact ⟨rfl, rfl, rfl⟩
theorem bl_leaf (n : Nd) : (T.mk n []).bl = n.g :: n.A.toList := by rw [T.bl_mk, blL_nil, List.append_nil]
structure Two (w : World) (up : Option Nat) (n : Nd) (a b : Nd) : Prop where
  hn : At w up n [.mk a [], .mk b []]
  ha : At w (some n.g) a []
  hb : At w (some n.g) b []
theorem Two.tp {w : World} {up : Option Nat} {n a b : Nd} (h : Two w up n a b) : TP w up (.mk n [.mk a [], .mk b []]) :=
  .mk h.hn (by rw [TPs, TPs, TPs]; exact ⟨.mk h.ha (by rw [TPs]; trivial), .mk h.hb (by rw [TPs]; trivial), trivial⟩)
theorem Two.of {w : World} {up : Option Nat} {n a b : Nd} (h : TP w up (.mk n [.mk a [], .mk b []])) : Two w up n a b := by
  have hk := h.kids
  rw [TPs, TPs, TPs] at hk
  exact ⟨h.at_, hk.1.at_, hk.2.1.at_⟩
/-- The blocks apart. -/
structure Two.Ap (n a b : Nd) : Prop where
  nA : n.A ≠ some n.g
  aA : a.A ≠ some a.g
  bA : b.A ≠ some b.g
  na : ∀ x ∈ a.g :: a.A.toList, x ≠ n.g ∧ n.A ≠ some x
  nb : ∀ x ∈ b.g :: b.A.toList, x ≠ n.g ∧ n.A ≠ some x
  ab : ∀ x ∈ a.g :: a.A.toList, x ≠ b.g ∧ b.A ≠ some x
theorem Two.ap {n a b : Nd} (nd : (T.mk n [.mk a [], .mk b []]).bl.Nodup) : Two.Ap n a b := by
  rw [T.bl_mk, blL_cons, blL_cons, blL_nil, List.append_nil, bl_leaf, bl_leaf] at nd
  obtain ⟨n1, n2⟩ := List.nodup_cons.1 nd
  obtain ⟨n3, n4, n5⟩ := List.nodup_append.1 n2
  obtain ⟨n6, n7, n8⟩ := List.nodup_append.1 n4
  refine ⟨fun e => n1 (by simp [e]), fun e => (List.nodup_cons.1 n6).1 (by simp [e]), fun e => (List.nodup_cons.1 n7).1 (by simp [e]), ?_, ?_, ?_⟩
  · intro x hx
    exact ⟨fun e => n1 (by rw [← e]; exact List.mem_append_right _ (List.mem_append_left _ hx)), fun e => n5 x (by simp [e]) x (List.mem_append_left _ hx) rfl⟩
  · intro x hx
    exact ⟨fun e => n1 (by rw [← e]; exact List.mem_append_right _ (List.mem_append_right _ hx)), fun e => n5 x (by simp [e]) x (List.mem_append_right _ hx) rfl⟩
  · intro x hx
    exact ⟨fun e => n8 x hx b.g (by simp) e, fun e => n8 x hx x (by simp [e]) rfl⟩
theorem At.kidn {w : World} {up : Option Nat} {n : Nd} {ks ks' : List T} (h : At w up n ks) (e : ptrs ks' = ptrs ks) : At w up n ks' := h.congr e
theorem two_ptrs {a b a' b' : Nd} (h1 : a'.g = a.g) (h2 : b'.g = b.g) : ptrs [T.mk a' [], T.mk b' []] = ptrs [T.mk a [], T.mk b []] := by simp [ptrs, T.g, T.n, h1, h2]
/-- The second one's cells are turned. -/
theorem Two.setB {w w' : World} {up : Option Nat} {n a b b' : Nd} (h : Two w up n a b) (ap : Two.Ap n a b) (o : Off [b.g] w w') (hb : At w' (some n.g) b' []) (e : b'.g = b.g) : Two w' up n a b' := by
  refine ⟨(h.hn.same fun x hx => o.block x (h.hn.lt x hx) ?_).congr (two_ptrs rfl e), h.ha.same fun x hx => o.block x (h.ha.lt x hx) ?_, hb⟩
  · simp only [List.mem_singleton]
    rintro rfl
    rcases List.mem_cons.1 hx with h1 | h1
    · exact (ap.nb b.g (by simp)).1 h1
    · exact (ap.nb b.g (by simp)).2 (by simpa using h1)
  · simp only [List.mem_singleton]
    rintro rfl
    exact (ap.ab b.g hx).1 rfl
theorem Two.setA {w w' : World} {up : Option Nat} {n a b a' : Nd} (h : Two w up n a b) (ap : Two.Ap n a b) (o : Off [a.g] w w') (ha : At w' (some n.g) a' []) (e : a'.g = a.g) : Two w' up n a' b := by
  refine ⟨(h.hn.same fun x hx => o.block x (h.hn.lt x hx) ?_).congr (two_ptrs e rfl), ha, h.hb.same fun x hx => o.block x (h.hb.lt x hx) ?_⟩
  · simp only [List.mem_singleton]
    rintro rfl
    rcases List.mem_cons.1 hx with h1 | h1
    · exact (ap.na a.g (by simp)).1 h1
    · exact (ap.na a.g (by simp)).2 (by simpa using h1)
  · simp only [List.mem_singleton]
    rintro rfl
    rcases List.mem_cons.1 hx with h1 | h1
    · exact (ap.ab a.g (by simp)).1 h1
    · exact (ap.ab a.g (by simp)).2 (by simpa using h1)

set_option maxHeartbeats 1000000 in
set_option maxRecDepth 100000 in
theorem grow_two (up : Option Nat) (n a b : Nd) (z : Int) (w : World) (hT : TP w up (.mk n [.mk a [], .mk b []])) (nd : (T.mk n [.mk a [], .mk b []]).bl.Nodup) (hway : n.way = 1) (hz : 0 < z ∧ z ≤ 1000) :
    Calls Tryd.prog 37 #[ptr n.g, .int .i64 0, .int .i64 z] w fun e w' => e = .returned (.tuple #[]) ∧ TP w' up (.mk (n.add 0 z) [.mk (a.add 0 z) [], .mk (b.add 0 z) []]) ∧ Off (T.mk n [.mk a [], .mk b []]).bl w w' := by
  have h2 := Two.of hT
  have ap := Two.ap nd
  have hA := h2.hn
  have c3 := hA.c3; have f3 := hA.free 3
  obtain ⟨bb, hbb, hb0⟩ := hA.kid (i := 0) (k := .mk a []) rfl
  have hAr : adr n.A = some ⟨bb, 0, none⟩ := by rw [hbb]; rfl
  have c6 : w.cell? ⟨n.g, 6, none⟩ = some (.slice (some ⟨bb, 0, none⟩) 2 n.c) := by have := hA.c6; rw [hAr] at this; exact this
  obtain ⟨W, hW⟩ : ∃ W, W = (w.setCell ⟨n.g, 3, none⟩ (.int .i64 (wr64 (n.a + z)))).drew := ⟨_, rfl⟩
  have o0 : Off [n.g] w W := by rw [hW]; exact (Off.set w ⟨n.g, 3, none⟩ _).trans (Off.drew (S := []) _) (by simp)
  have t0 : Two W up (n.add 0 z) a b := by
    refine ⟨?_, h2.ha.same fun x hx => o0.block x (h2.ha.lt x hx) (by simp; exact (ap.na x hx).1), h2.hb.same fun x hx => o0.block x (h2.hb.lt x hx) (by simp; exact (ap.nb x hx).1)⟩
    refine hA.upd rfl rfl rfl rfl o0 ?_ ap.nA
    rw [hW]
    have := heap_set (j := 3) hA.h (.int .i64 (wr64 (n.a + z)))
    exact this
  have ap0 : Two.Ap (n.add 0 z) a b := ⟨ap.nA, ap.aA, ap.bA, ap.na, ap.nb, ap.ab⟩
  have ap1 : Two.Ap (n.add 0 z) a (b.add 0 z) := ⟨ap.nA, ap.aA, ap.bA, ap.na, ap.nb, ap.ab⟩
  have hS : ∀ x, x = n.g ∨ x = a.g ∨ x = b.g → x ∈ (T.mk n [.mk a [], .mk b []]).bl := by
    intro x hx
    rw [T.bl_mk, blL_cons, blL_cons, blL_nil, List.append_nil, bl_leaf, bl_leaf]
    rcases hx with rfl | rfl | rfl <;> simp
  obtain ⟨S, hSe⟩ : ∃ S, S = (T.mk n [.mk a [], .mk b []]).bl := ⟨_, rfl⟩
  rw [← hSe] at hS ⊢
  have o0' : Off S w W := o0.sub (by intro x hx; simp at hx; exact .inl (hS x (.inl hx)))
  have hcells : ∀ (wr : World) (a' b' : Nd), Two wr up (n.add 0 z) a' b' → wr.cell? ⟨n.g, 6, none⟩ = some (.slice (some ⟨bb, 0, none⟩) 2 n.c) ∧ wr.cell? ⟨n.g, 5, none⟩ = some (.int .i64 1) ∧ wr.cell? ⟨bb, 0, none⟩ = some (ptr a'.g) ∧ wr.cell? ⟨bb, 1, none⟩ = some (ptr b'.g) := by
    intro wr a' b' h
    have k6 := h.hn.c6; have k5 := h.hn.c5
    obtain ⟨b1, e1, k0⟩ := h.hn.kid (i := 0) (k := .mk a' []) rfl
    obtain ⟨b2, e2, k1⟩ := h.hn.kid (i := 1) (k := .mk b' []) rfl
    have e3 : (n.add 0 z).A = some bb := hbb
    rw [e3] at e1 e2
    injection e1 with e1; injection e2 with e2
    subst e1; subst e2
    refine ⟨?_, ?_, k0, k1⟩
    · have : adr (n.add 0 z).A = some ⟨bb, 0, none⟩ := hAr
      rw [this] at k6; exact k6
    · have : (n.add 0 z).way = 1 := hway
      rw [this] at k5; exact k5
  have hz1 : -9223372036854775808 < z ∧ z ≤ 9223372036854775807 := by omega
  replace h2 := Lib.hid h2; replace ap := Lib.hid ap; replace hA := Lib.hid hA; replace hbb := Lib.hid hbb; replace hAr := Lib.hid hAr; replace o0 := Lib.hid o0; replace t0 := Lib.hid t0; replace ap0 := Lib.hid ap0; replace ap1 := Lib.hid ap1; replace hS := Lib.hid hS; replace hSe := Lib.hid hSe; replace o0' := Lib.hid o0'; replace hcells := Lib.hid hcells; replace nd := Lib.hid nd; replace hT := Lib.hid hT; replace hway := Lib.hid hway
  unfold ptr
  go_enter Tryd.func37, Tryd.ntmps37
  go_upto_region 0 with fail
  go_still_tail 11, (by kernel_rfl)
  change wpList _ _ _ _ _ w.drew
  go_upto_region 1 with fail
  have hWe : (w.setCell ⟨n.g, 3, none⟩ (.int .i64 (wrap64 (n.a + z)))).drew = W := hW.symm
  rw [hWe]
  have q := hcells.out W a b t0.out
  obtain ⟨q6, q5, q0, q1⟩ := q
  clear c3 f3 c6 hb0 hWe hW
  go_wp2_with fail
  go_loopw [2, 6] (fun bv iv wr => bv = .int .i64 z ∧ ((iv = .int .i64 1 ∧ Hid (Two wr up (n.add 0 z) a b ∧ Off S w wr)) ∨ (iv = .int .i64 0 ∧ Hid (Two wr up (n.add 0 z) a (b.add 0 z) ∧ Off S w wr)) ∨ (iv = .int .i64 (-1) ∧ Hid (Two wr up (n.add 0 z) (a.add 0 z) (b.add 0 z) ∧ Off S w wr)))) (fun _ iv _ => match iv with | .int _ i => (i + 1).toNat | _ => 0)
  case atStart => exact ⟨rfl, .inl ⟨rfl, Lib.hid ⟨t0.out, o0'.out⟩⟩⟩
  case round =>
    clear q6 q5 q0 q1
    obtain ⟨rfl, hrel⟩ := hrel
    rcases hrel with ⟨rfl, hI⟩ | ⟨rfl, hI⟩ | ⟨rfl, hI⟩
    · obtain ⟨q6, q5, q0, q1⟩ := hcells.out wr _ _ hI.out.1
      have CG := Lib.hid (grow_leaf (some n.g) b 0 z wr hI.out.1.hb (.inl rfl) ap.out.bA hz1)
      unfold ptr at q0 q1 CG
      go_wp2_with fail
      refine CG.out.mono ?_
      rintro e w2 ⟨rfl, hB, oB⟩
      have t2 := hI.out.1.setB ap0.out oB hB (by exact (Nd.add_g b 0 z).1)
      have o2 : Off S w w2 := hI.out.2.trans oB (by intro x hx; simp at hx; exact .inl (hS.out x (.inr (.inr hx))))
      replace t2 := Lib.hid t2; replace o2 := Lib.hid o2; replace hB := Lib.hid hB; replace oB := Lib.hid oB
      clear q6 q5 q0 q1 CG
      go_wp2_with fail
      exact ⟨⟨rfl, .inr (.inl ⟨by go_num, Lib.hid ⟨t2.out, o2.out⟩⟩)⟩, by simp⟩
    · obtain ⟨q6, q5, q0, q1⟩ := hcells.out wr _ _ hI.out.1
      have CG := Lib.hid (grow_leaf (some n.g) a 0 z wr hI.out.1.ha (.inl rfl) ap.out.aA hz1)
      unfold ptr at q0 q1 CG
      go_wp2_with fail
      refine CG.out.mono ?_
      rintro e w2 ⟨rfl, hB, oB⟩
      have t2 := hI.out.1.setA ap1.out oB hB (by exact (Nd.add_g a 0 z).1)
      have o2 : Off S w w2 := hI.out.2.trans oB (by intro x hx; simp at hx; exact .inl (hS.out x (.inr (.inl hx))))
      replace t2 := Lib.hid t2; replace o2 := Lib.hid o2; replace hB := Lib.hid hB; replace oB := Lib.hid oB
      clear q6 q5 q0 q1 CG
      go_wp2_with fail
      exact ⟨⟨rfl, .inr (.inr ⟨by go_num, Lib.hid ⟨t2.out, o2.out⟩⟩)⟩, by simp⟩
    · obtain ⟨q6, q5, q0, q1⟩ := hcells.out wr _ _ hI.out.1
      go_wp2_with fail
      go_end0
      exact ⟨rfl, hI.out.1.tp, hI.out.2⟩
end Go.Proofs.YtcklmkjlbpjojaaDoor
