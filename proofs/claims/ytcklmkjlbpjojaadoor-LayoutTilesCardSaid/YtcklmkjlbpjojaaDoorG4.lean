/- Layout: grow of two leaves across; Resize of the lower one of two. Layout: Delete of one kid. Layout: Close of the first of two beside one another, below the root. -/
import Derived.Test.YtcklmkjlbpjojaaDoorMA
import Derived.Test.YtcklmkjlbpjojaaDoorG2
import Derived.Test.YtcklmkjlbpjojaaDoorD3
namespace Go.Proofs.YtcklmkjlbpjojaaDoor
open Go.RowKit
set_option linter.unusedSimpArgs false
set_option linter.unusedVariables false

theorem Nd.add_g (n : Nd) (way z : Int) : (n.add way z).g = n.g ∧ (n.add way z).A = n.A ∧ (n.add way z).c = n.c := by unfold Nd.add; split <;> exact ⟨rfl, rfl, rfl⟩
theorem bl_leaf (n : Nd) : (T.mk n []).bl = n.g :: n.A.toList := by rw [T.bl_mk, blL_nil, List.append_nil]
structure Two (w : World) (up : Option Nat) (n : Nd) (a b : Nd) : Prop where
  hn : At w up n [.mk a [], .mk b []]
  ha : At w (some n.g) a []
  hb : At w (some n.g) b []
theorem Two.tp {w : World} {up : Option Nat} {n a b : Nd} (h : Two w up n a b) : TP w up (.mk n [.mk a [], .mk b []]) :=
  .mk h.hn (by rw [TPs, TPs, TPs]; exact ⟨.mk h.ha (by rw [TPs]; trivial), .mk h.hb (by rw [TPs]; trivial), trivial⟩)
theorem Two.of {w : World} {up : Option Nat} {n a b : Nd} (h : TP w up (.mk n [.mk a [], .mk b []])) : Two w up n a b := by
  have hk := h.kids
  rw [TPs, TPs, TPs] at hk
  exact ⟨h.at_, hk.1.at_, hk.2.1.at_⟩
/-- The blocks apart. -/
structure Two.Ap (n a b : Nd) : Prop where
  nA : n.A ≠ some n.g
  aA : a.A ≠ some a.g
  bA : b.A ≠ some b.g
  na : ∀ x ∈ a.g :: a.A.toList, x ≠ n.g ∧ n.A ≠ some x
  nb : ∀ x ∈ b.g :: b.A.toList, x ≠ n.g ∧ n.A ≠ some x
  ab : ∀ x ∈ a.g :: a.A.toList, x ≠ b.g ∧ b.A ≠ some x
theorem Two.ap {n a b : Nd} (nd : (T.mk n [.mk a [], .mk b []]).bl.Nodup) : Two.Ap n a b := by
  rw [T.bl_mk, blL_cons, blL_cons, blL_nil, List.append_nil, bl_leaf, bl_leaf] at nd
  obtain ⟨n1, n2⟩ := List.nodup_cons.1 nd
  obtain ⟨n3, n4, n5⟩ := List.nodup_append.1 n2
  obtain ⟨n6, n7, n8⟩ := List.nodup_append.1 n4
  refine ⟨fun e => n1 (by simp [e]), fun e => (List.nodup_cons.1 n6).1 (by simp [e]), fun e => (List.nodup_cons.1 n7).1 (by simp [e]), ?_, ?_, ?_⟩
  · intro x hx
    exact ⟨fun e => n1 (by rw [← e]; exact List.mem_append_right _ (List.mem_append_left _ hx)), fun e => n5 x (by simp [e]) x (List.mem_append_left _ hx) rfl⟩
  · intro x hx
    exact ⟨fun e => n1 (by rw [← e]; exact List.mem_append_right _ (List.mem_append_right _ hx)), fun e => n5 x (by simp [e]) x (List.mem_append_right _ hx) rfl⟩
  · intro x hx
    exact ⟨fun e => n8 x hx b.g (by simp) e, fun e => n8 x hx x (by simp [e]) rfl⟩
theorem At.kidn {w : World} {up : Option Nat} {n : Nd} {ks ks' : List T} (h : At w up n ks) (e : ptrs ks' = ptrs ks) : At w up n ks' := h.congr e
theorem two_ptrs {a b a' b' : Nd} (h1 : a'.g = a.g) (h2 : b'.g = b.g) : ptrs [T.mk a' [], T.mk b' []] = ptrs [T.mk a [], T.mk b []] := by simp [ptrs, T.g, T.n, h1, h2]
/-- The second one's cells are turned. -/
theorem Two.setB {w w' : World} {up : Option Nat} {n a b b' : Nd} (h : Two w up n a b) (ap : Two.Ap n a b) (o : Off [b.g] w w') (hb : At w' (some n.g) b' []) (e : b'.g = b.g) : Two w' up n a b' := by
  refine ⟨(h.hn.same fun x hx => o.block x (h.hn.lt x hx) ?_).congr (two_ptrs rfl e), h.ha.same fun x hx => o.block x (h.ha.lt x hx) ?_, hb⟩
  · simp only [List.mem_singleton]
    rintro rfl
    rcases List.mem_cons.1 hx with h1 | h1
    · exact (ap.nb b.g (by simp)).1 h1
    · exact (ap.nb b.g (by simp)).2 (by simpa using h1)
  · simp only [List.mem_singleton]
    rintro rfl
    exact (ap.ab b.g hx).1 rfl
theorem Two.setA {w w' : World} {up : Option Nat} {n a b a' : Nd} (h : Two w up n a b) (ap : Two.Ap n a b) (o : Off [a.g] w w') (ha : At w' (some n.g) a' []) (e : a'.g = a.g) : Two w' up n a' b := by
  refine ⟨(h.hn.same fun x hx => o.block x (h.hn.lt x hx) ?_).congr (two_ptrs e rfl), ha, h.hb.same fun x hx => o.block x (h.hb.lt x hx) ?_⟩
  · simp only [List.mem_singleton]
    rintro rfl
    rcases List.mem_cons.1 hx with h1 | h1
    · exact (ap.na a.g (by simp)).1 h1
    · exact (ap.na a.g (by simp)).2 (by simpa using h1)
  · simp only [List.mem_singleton]
    rintro rfl
    rcases List.mem_cons.1 hx with h1 | h1
    · exact (ap.ab a.g (by simp)).1 h1
    · exact (ap.ab a.g (by simp)).2 (by simpa using h1)

set_option maxHeartbeats 1000000 in
set_option maxRecDepth 100000 in
theorem grow_two (up : Option Nat) (n a b : Nd) (z : Int) (w : World) (hT : TP w up (.mk n [.mk a [], .mk b []])) (nd : (T.mk n [.mk a [], .mk b []]).bl.Nodup) (hway : n.way = 1) (hz : 0 < z ∧ z ≤ 1000) :
    Calls Tryd.prog 37 #[ptr n.g, .int .i64 0, .int .i64 z] w fun e w' => e = .returned (.tuple #[]) ∧ TP w' up (.mk (n.add 0 z) [.mk (a.add 0 z) [], .mk (b.add 0 z) []]) ∧ Off (T.mk n [.mk a [], .mk b []]).bl w w' := by
  have h2 := Two.of hT
  have ap := Two.ap nd
  have hA := h2.hn
  have c3 := hA.c3; have f3 := hA.free 3
  obtain ⟨bb, hbb, hb0⟩ := hA.kid (i := 0) (k := .mk a []) rfl
  have hAr : adr n.A = some ⟨bb, 0, none⟩ := by rw [hbb]; rfl
  have c6 : w.cell? ⟨n.g, 6, none⟩ = some (.slice (some ⟨bb, 0, none⟩) 2 n.c) := by have := hA.c6; rw [hAr] at this; exact this
  obtain ⟨W, hW⟩ : ∃ W, W = (w.setCell ⟨n.g, 3, none⟩ (.int .i64 (wr64 (n.a + z)))).drew := ⟨_, rfl⟩
  have o0 : Off [n.g] w W := by rw [hW]; exact (Off.set w ⟨n.g, 3, none⟩ _).trans (Off.drew (S := []) _) (by simp)
  have t0 : Two W up (n.add 0 z) a b := by
    refine ⟨?_, h2.ha.same fun x hx => o0.block x (h2.ha.lt x hx) (by simp; exact (ap.na x hx).1), h2.hb.same fun x hx => o0.block x (h2.hb.lt x hx) (by simp; exact (ap.nb x hx).1)⟩
    refine hA.upd rfl rfl rfl rfl o0 ?_ ap.nA
    rw [hW]
    have := heap_set (j := 3) hA.h (.int .i64 (wr64 (n.a + z)))
    exact this
  have ap0 : Two.Ap (n.add 0 z) a b := ⟨ap.nA, ap.aA, ap.bA, ap.na, ap.nb, ap.ab⟩
  have ap1 : Two.Ap (n.add 0 z) a (b.add 0 z) := ⟨ap.nA, ap.aA, ap.bA, ap.na, ap.nb, ap.ab⟩
  have hS : ∀ x, x = n.g ∨ x = a.g ∨ x = b.g → x ∈ (T.mk n [.mk a [], .mk b []]).bl := by
    intro x hx
    rw [T.bl_mk, blL_cons, blL_cons, blL_nil, List.append_nil, bl_leaf, bl_leaf]
    rcases hx with rfl | rfl | rfl <;> simp
  obtain ⟨S, hSe⟩ : ∃ S, S = (T.mk n [.mk a [], .mk b []]).bl := ⟨_, rfl⟩
  rw [← hSe] at hS ⊢
  have o0' : Off S w W := o0.sub (by intro x hx; simp at hx; exact .inl (hS x (.inl hx)))
  have hcells : ∀ (wr : World) (a' b' : Nd), Two wr up (n.add 0 z) a' b' → wr.cell? ⟨n.g, 6, none⟩ = some (.slice (some ⟨bb, 0, none⟩) 2 n.c) ∧ wr.cell? ⟨n.g, 5, none⟩ = some (.int .i64 1) ∧ wr.cell? ⟨bb, 0, none⟩ = some (ptr a'.g) ∧ wr.cell? ⟨bb, 1, none⟩ = some (ptr b'.g) := by
    intro wr a' b' h
    have k6 := h.hn.c6; have k5 := h.hn.c5
    obtain ⟨b1, e1, k0⟩ := h.hn.kid (i := 0) (k := .mk a' []) rfl
    obtain ⟨b2, e2, k1⟩ := h.hn.kid (i := 1) (k := .mk b' []) rfl
    have e3 : (n.add 0 z).A = some bb := hbb
    rw [e3] at e1 e2
    injection e1 with e1; injection e2 with e2
    subst e1; subst e2
    refine ⟨?_, ?_, k0, k1⟩
    · have : adr (n.add 0 z).A = some ⟨bb, 0, none⟩ := hAr
      rw [this] at k6; exact k6
    · have : (n.add 0 z).way = 1 := hway
      rw [this] at k5; exact k5
  have hz1 : -9223372036854775808 < z ∧ z ≤ 9223372036854775807 := by omega
  replace h2 := Lib.hid h2; replace ap := Lib.hid ap; replace hA := Lib.hid hA; replace hbb := Lib.hid hbb; replace hAr := Lib.hid hAr; replace o0 := Lib.hid o0; replace t0 := Lib.hid t0; replace ap0 := Lib.hid ap0; replace ap1 := Lib.hid ap1; replace hS := Lib.hid hS; replace hSe := Lib.hid hSe; replace o0' := Lib.hid o0'; replace hcells := Lib.hid hcells; replace nd := Lib.hid nd; replace hT := Lib.hid hT; replace hway := Lib.hid hway
  unfold ptr
  go_enter Tryd.func37, Tryd.ntmps37
  go_upto_region 0 with fail
  go_still_tail 11, (by kernel_rfl)
  change wpList _ _ _ _ _ w.drew
  go_upto_region 1 with fail
  have hWe : (w.setCell ⟨n.g, 3, none⟩ (.int .i64 (wrap64 (n.a + z)))).drew = W := hW.symm
  rw [hWe]
  have q := hcells.out W a b t0.out
  obtain ⟨q6, q5, q0, q1⟩ := q
  clear c3 f3 c6 hb0 hWe hW
  go_wp2_with fail
  go_loopw [2, 6] (fun bv iv wr => bv = .int .i64 z ∧ ((iv = .int .i64 1 ∧ Hid (Two wr up (n.add 0 z) a b ∧ Off S w wr)) ∨ (iv = .int .i64 0 ∧ Hid (Two wr up (n.add 0 z) a (b.add 0 z) ∧ Off S w wr)) ∨ (iv = .int .i64 (-1) ∧ Hid (Two wr up (n.add 0 z) (a.add 0 z) (b.add 0 z) ∧ Off S w wr)))) (fun _ iv _ => match iv with | .int _ i => (i + 1).toNat | _ => 0)
  case atStart => exact ⟨rfl, .inl ⟨rfl, Lib.hid ⟨t0.out, o0'.out⟩⟩⟩
  case round =>
    clear q6 q5 q0 q1
    obtain ⟨rfl, hrel⟩ := hrel
    rcases hrel with ⟨rfl, hI⟩ | ⟨rfl, hI⟩ | ⟨rfl, hI⟩
    · obtain ⟨q6, q5, q0, q1⟩ := hcells.out wr _ _ hI.out.1
      have CG := Lib.hid (grow_leaf (some n.g) b 0 z wr hI.out.1.hb (.inl rfl) ap.out.bA hz1)
      unfold ptr at q0 q1 CG
      go_wp2_with fail
      refine CG.out.mono ?_
      rintro e w2 ⟨rfl, hB, oB⟩
      have t2 := hI.out.1.setB ap0.out oB hB (by exact (Nd.add_g b 0 z).1)
      have o2 : Off S w w2 := hI.out.2.trans oB (by intro x hx; simp at hx; exact .inl (hS.out x (.inr (.inr hx))))
      replace t2 := Lib.hid t2; replace o2 := Lib.hid o2; replace hB := Lib.hid hB; replace oB := Lib.hid oB
      clear q6 q5 q0 q1 CG
      go_wp2_with fail
      exact ⟨⟨rfl, .inr (.inl ⟨by go_num, Lib.hid ⟨t2.out, o2.out⟩⟩)⟩, by simp⟩
    · obtain ⟨q6, q5, q0, q1⟩ := hcells.out wr _ _ hI.out.1
      have CG := Lib.hid (grow_leaf (some n.g) a 0 z wr hI.out.1.ha (.inl rfl) ap.out.aA hz1)
      unfold ptr at q0 q1 CG
      go_wp2_with fail
      refine CG.out.mono ?_
      rintro e w2 ⟨rfl, hB, oB⟩
      have t2 := hI.out.1.setA ap1.out oB hB (by exact (Nd.add_g a 0 z).1)
      have o2 : Off S w w2 := hI.out.2.trans oB (by intro x hx; simp at hx; exact .inl (hS.out x (.inr (.inl hx))))
      replace t2 := Lib.hid t2; replace o2 := Lib.hid o2; replace hB := Lib.hid hB; replace oB := Lib.hid oB
      clear q6 q5 q0 q1 CG
      go_wp2_with fail
      exact ⟨⟨rfl, .inr (.inr ⟨by go_num, Lib.hid ⟨t2.out, o2.out⟩⟩)⟩, by simp⟩
    · obtain ⟨q6, q5, q0, q1⟩ := hcells.out wr _ _ hI.out.1
      go_wp2_with fail
      go_end0
      exact ⟨rfl, hI.out.1.tp, hI.out.2⟩
end Go.Proofs.YtcklmkjlbpjojaaDoor
namespace Go.Proofs.YtcklmkjlbpjojaaDoor
open Go.RowKit Go.Lib
set_option linter.unusedSimpArgs false
set_option linter.unusedVariables false

theorem zero55 : ∀ w, (zeroValue 55).run Tryd.prog w = .ok (.pointer none) w := fun w => by
  obtain ⟨i0, hi0, h0, h1, h2⟩ := info_parts info55
  simp [zeroValue, typeInfo, hi0, h0]

set_option maxHeartbeats 4000000 in
set_option maxRecDepth 100000 in
theorem delete_any (base : Nat) (b n c i : Nat) (l : List T) (w : World) (hn : n = l.length) (hi : i < n) (hO : w.ownsRow base 55 1 (.slice (some ⟨b, 0, none⟩) n c) n (ptrs l)) :
    Calls Tryd.prog 38 #[.slice (some ⟨b, 0, none⟩) n c, .int .i64 i, .int .i64 ((i : Int) + 1)] w fun e w' => e = .returned (.slice (some ⟨b, 0, none⟩) (n - 1) c) ∧
      w'.ownsRow base 55 1 (.slice (some ⟨b, 0, none⟩) (n - 1) c) (n - 1) (ptrs (l.take i ++ l.drop (i + 1))) ∧ Off [b] w w' := by
  obtain ⟨cur, hbase, hh, hnc, hcm, hcs, htk⟩ : ∃ cur : Array Value, base ≤ b ∧ w.heap[b]? = some (.cells cur 55 (0, 0)) ∧ n ≤ c ∧ c ≤ maxLen ∧ cur.size = c ∧ cur.toList.take n = ptrs l := by
    rcases hO.2 with ⟨h, _⟩ | ⟨g', cap, cur, h, h1, h2, h3, h4, h5, h6⟩
    · cases h
    · injection h with h7 _ h8
      injection h7 with h7; injection h7 with h7
      subst h7; subst h8
      exact ⟨cur, h1, h2, h3, h4, by omega, by simpa using h6⟩
  have hc63 : c ≤ 9223372036854775807 := hcm
  have hpl : (ptrs l).length = n := by rw [ptrs_len, hn]
  have hdl : ((ptrs l).drop (i + 1)).length = n - (i + 1) := by rw [List.length_drop, hpl]
  have hz2 : ¬ ((i : Int) = (i : Int) + 1) := by omega
  have hb1 : (0 : Int) ≤ (i : Int) + 1 := by omega
  have hb2 : (i : Int) + 1 ≤ (n : Int) := by omega
  have hb3 : (i : Int) ≤ (i : Int) + 1 := by omega
  have hb5 : (i : Int) + 1 ≤ (c : Int) := by omega
  have htn : ((i : Int) + 1).toNat = i + 1 := by omega
  have hic : i ≤ c := by omega
  replace hh := Lib.hid hh; replace hO := Lib.hid hO; replace htk := Lib.hid htk; replace hcs := Lib.hid hcs; replace hn := Lib.hid hn
  have hcell : ∀ j, j < c → ∃ v, w.cell? ⟨b, j, none⟩ = some v := fun j hj => by
    refine ⟨cur[j]'(by have := hcs.out; omega), ?_⟩
    unfold World.cell?; rw [hh.out]; simp
  have hcellp : ∀ j v, (ptrs l)[j]? = some v → w.cell? ⟨b, j, none⟩ = some v := fun j v hj => by
    have := hO.out.cells (g := b) rfl j v hj
    rwa [Addr.add_lit, Nat.zero_add] at this
  have hfz : ∀ j, w.frozen? ⟨b, j, none⟩ = false := fun j => by unfold World.frozen?; rw [hh.out]; simp
  obtain ⟨A, hA, hsrc⟩ : ∃ A : Addr, (if c = i + 1 then some (⟨b, 0, none⟩ : Addr) else some ⟨b, i + 1, none⟩) = some A ∧ ∀ t u, ((ptrs l).drop (i + 1))[t]? = some u → w.drew.cell? (A.add t) = some u := by
    by_cases h : c = i + 1
    · refine ⟨⟨b, 0, none⟩, by simp [h], fun t u hu => ?_⟩
      have := (List.getElem?_eq_some_iff.1 hu).1
      rw [hdl] at this; omega
    · refine ⟨⟨b, i + 1, none⟩, by simp [h], fun t u hu => ?_⟩
      rw [Addr.add_lit]
      exact hcellp _ _ (by rwa [List.getElem?_drop] at hu)
  have hS : Src Tryd.prog 1 53 (.slice (some A) (n - (i + 1)) (c - (i + 1))) (n - (i + 1)) ((ptrs l).drop (i + 1)) w.drew :=
    Src.ofSlice w.drew Tryd.underlying53 A _ _ _ (by rw [hdl]; omega) hsrc (fun u hu => ptrs_one l u (List.mem_of_mem_drop hu))
  obtain ⟨W1, hW1⟩ : ∃ W1, W1 = w.drew.setCells b (0 + i) ((ptrs l).drop (i + 1)) := ⟨_, rfl⟩
  have hsp1 : ∀ k, k < c → (W1.cell? ⟨b, k, none⟩).isSome = true := fun k hk => by
    rw [hW1]
    exact isSome_setCells b _ _ _ (fun j hj => by rw [hdl] at hj; obtain ⟨v, hv⟩ := hcell (0 + i + j) (by omega); show (w.cell? _).isSome = true; rw [hv]; rfl) _ (by obtain ⟨v, hv⟩ := hcell k hk; show (w.cell? _).isSome = true; rw [hv]; rfl)
  have hcl : ∀ ty, (Builtin.clear_ #[53] ty #[.slice (some ⟨b, i + (n - (i + 1)), none⟩) (n - (i + (n - (i + 1)))) (c - (i + (n - (i + 1))))]).run Tryd.prog W1 = .ok (.tuple #[]) (W1.setCells b (i + (n - (i + 1))) (List.replicate (n - (i + (n - (i + 1)))) (.pointer none))) := fun ty =>
    run_clear_slice W1 53 55 ty (.pointer none) Tryd.underlying53 zero55 rfl rfl b (i + (n - (i + 1))) _ _ (by omega) (fun j hj => hsp1 _ (by omega)) (fun j hj => by rw [hW1, World.frozen?_setCells]; exact hfz _)
  have hW := Lib.hid hW1
  replace hsp1 := Lib.hid hsp1
  replace hcell := Lib.hid hcell; replace hcellp := Lib.hid hcellp; replace hsrc := Lib.hid hsrc; replace hS := Lib.hid hS; replace hfz := Lib.hid hfz
  clear hW1
  go_enter Tryd.func38, Tryd.ntmps38
  go_wp2_with fail
  go_still_tail 6, (by kernel_rfl)
  change wpList _ _ _ _ _ w.drew
  go_wp2_with (first
    | (at_builtin; go_must (refine wpList_append_room1 _ rfl _ _ 53 53 rfl 55 _ _ Tryd.underlying53 info55 b 0 i c rfl _ rfl (n - (i + 1)) ((ptrs l).drop (i + 1)) hS.out (by omega) (fun j hj => by rw [hdl] at hj; obtain ⟨v, hv⟩ := hcell.out (0 + i + j) (by omega); show (w.cell? _).isSome = true; rw [hv]; rfl) (fun j hj => hfz.out _) ?_; rw [← hW.out]))
    | fail)
  go_ret
  have e1 : i + (n - (i + 1)) = n - 1 := by omega
  have h1 : (w.drew).heap[b]? = some (.cells cur.toList.toArray 55 (0, 0)) := by show w.heap[b]? = _; simpa using hh.out
  have hcl2 : cur.toList.length = c := by simpa using hcs.out
  have h2 := heap_setCells ((ptrs l).drop (i + 1)) (0 + i) w.drew cur.toList h1 (by rw [hdl]; omega)
  rw [← hW.out] at h2
  obtain ⟨L2, hL2⟩ : ∃ L2, L2 = cur.toList.take (0 + i) ++ (ptrs l).drop (i + 1) ++ cur.toList.drop (0 + i + ((ptrs l).drop (i + 1)).length) := ⟨_, rfl⟩
  have a1 : (cur.toList.take (0 + i) ++ (ptrs l).drop (i + 1)).length = n - 1 := by rw [List.length_append, List.length_take, hdl]; omega
  have hl2 : L2.length = c := by rw [hL2, List.length_append, a1, List.length_drop, hdl]; omega
  rw [← hL2] at h2
  have h3 := heap_setCells (List.replicate (n - (i + (n - (i + 1)))) (Value.pointer none)) (i + (n - (i + 1))) W1 L2 h2 (by rw [List.length_replicate]; omega)
  refine ⟨by rw [← e1]; rfl, ⟨by have := hn.out; simp [ptrs]; omega, .inr ⟨b, c, _, rfl, hbase, h3, by omega, hcm, ?_, ?_⟩⟩, ?_⟩
  · have a2 : (L2.take (i + (n - (i + 1)))).length = i + (n - (i + 1)) := by rw [List.length_take]; omega
    rw [List.size_toArray, List.length_append, List.length_append, a2, List.length_replicate, List.length_drop]; omega
  · show List.take ((n - 1) * 1) _ = _
    rw [Nat.mul_one]
    have a2 : (L2.take (i + (n - (i + 1)))).length = n - 1 := by rw [List.length_take]; omega
    rw [List.append_assoc, List.take_append_of_le_length (by omega), List.take_of_length_le (by omega), e1, hL2, List.take_append_of_le_length (by omega), List.take_of_length_le (by omega)]
    have e3 : cur.toList.take (0 + i) = (ptrs l).take i := by rw [← htk.out, List.take_take, Nat.min_eq_left (by omega), Nat.zero_add]
    rw [e3]
    simp [ptrs, List.map_take, List.map_drop]
  · have o1 : Off [b] w W1 := by
      rw [hW.out]
      exact (Off.drew (S := [b]) w).trans (Off.setCells _ _ _) (by simp)
    exact o1.trans (Off.setCells _ _ W1) (by simp)
end Go.Proofs.YtcklmkjlbpjojaaDoor
namespace Go.Proofs.YtcklmkjlbpjojaaDoor
open Go.RowKit
set_option linter.unusedSimpArgs false
set_option linter.unusedVariables false

theorem TP.reup {w : World} {up up' : Option Nat} {t : T} (h : TP w up t) (nd : t.bl.Nodup) : TP (w.setCell ⟨t.g, 7, none⟩ (uptr up')) up' t ∧ Off [t.g] w (w.setCell ⟨t.g, 7, none⟩ (uptr up')) := by
  cases t with | mk n ks =>
    rw [T.bl_mk] at nd
    have h1 := (List.nodup_cons.1 nd).1
    have o : Off [n.g] w (w.setCell ⟨n.g, 7, none⟩ (uptr up')) := Off.set w ⟨n.g, 7, none⟩ _
    refine ⟨.mk (h.at_.upd rfl rfl rfl rfl o ?_ ?_) (h.kids.off o ?_), o⟩
    · have := heap_set (j := 7) h.at_.h (uptr up')
      exact this
    · intro e; exact h1 (by rw [e]; simp)
    · intro b hb; simp only [List.mem_singleton]; rintro rfl; exact h1 (by simp [hb])
set_option maxHeartbeats 4000000 in
set_option maxRecDepth 100000 in
theorem close_root (base tr : Nat) (n : Nd) (l h h' : T) (pane : Int) (w : World) (hT : Tr base w tr (.mk n [l, h])) (hbase : base ≤ w.heap.size) (hl : (T.mk n [l, h]).leaves.length ≤ 100000)
    (hf : (T.mk n [l, h]).find pane = some l) (hlk : l.ks = []) (hway : n.way = 0) (hz : 0 ≤ l.n.a ∧ l.n.a ≤ 1000)
    (hg : ∀ W, TP W (some n.g) h → Calls Tryd.prog 37 #[ptr h.g, .int .i64 0, .int .i64 (l.n.a + 1)] W fun e w' => e = .returned (.tuple #[]) ∧ TP w' (some n.g) h' ∧ Off h.bl W w')
    (hg' : h'.g = h.g ∧ h'.bl = h.bl) (hw01 : h'.w01) :
    Calls Tryd.prog 14 #[ptr tr, .int .i64 pane] w fun e w' => e = .returned (.int .i64 0) ∧ Tr base w' tr (h'.place 0 0) ∧ Below base w w' ∧ Off (tr :: (T.mk n [l, h]).bl) w w' := by
  have CL := Lib.hid (leaf_any base tr (.mk n [l, h]) pane w hT hl)
  rw [hf] at CL
  simp only [Option.map_some, uptr] at CL
  replace hT := Lib.hid hT; replace hf := Lib.hid hf; replace hlk := Lib.hid hlk; replace hg := Lib.hid hg; replace hg' := Lib.hid hg'; replace hw01 := Lib.hid hw01
  unfold ptr at *
  go_enter Tryd.func14, Tryd.ntmps14
  go_wp2_with fail
  refine CL.out.mono ?_
  rintro e w1 ⟨rfl, G1⟩
  have hT1 := hT.out.grown G1
  have hA := hT1.p.at_
  have hK := TPs_iff.1 hT1.p.kids
  have hlA : At w1 (some n.g) l.n [] := by
    have h1 := hK l (by simp)
    have h2 := hlk.out
    cases l with | mk n ks => cases h2; exact h1.at_
  have q7 : w1.cell? ⟨l.g, 7, none⟩ = some (.pointer (some ⟨n.g, 0, none⟩)) := hlA.c7
  have q3 : w1.cell? ⟨l.g, 3, none⟩ = some (.int .i64 l.n.a) := hlA.c3
  obtain ⟨bb, hbb, hb0⟩ := hA.kid (i := 0) (k := l) rfl
  obtain ⟨bb', hbb', hb1⟩ := hA.kid (i := 1) (k := h) rfl
  have : bb' = bb := by rw [hbb] at hbb'; injection hbb' with e; exact e.symm
  subst this
  have hAr : adr n.A = some ⟨bb', 0, none⟩ := by rw [hbb]; rfl
  have c6 : w1.cell? ⟨n.g, 6, none⟩ = some (.slice (some ⟨bb', 0, none⟩) 2 n.c) := by have := hA.c6; rw [hAr] at this; exact this
  have c5 := hA.c5
  rw [hway] at c5
  have c7 : w1.cell? ⟨n.g, 7, none⟩ = some (.pointer none) := hA.c7
  have hrow : n.row 2 = .slice (some ⟨bb', 0, none⟩) 2 n.c := by unfold Nd.row; rw [hAr]
  have hO : w1.ownsRow 0 55 1 (.slice (some ⟨bb', 0, none⟩) 2 n.c) 2 (ptrs [l, h]) := by have := hA.r; rw [show [l, h].length = 2 from rfl, hrow] at this; exact this
  have hR := own_Rd hO
  obtain ⟨nd, hin, hout⟩ := Tr.apart (c := []) (t := .mk n [l, h]) hT1
  have hblm : (T.mk n [l, h]).bl = n.g :: (bb' :: (l.bl ++ h.bl)) := by rw [T.bl_mk, hbb, blL_cons, blL_cons, blL_nil, List.append_nil]; rfl
  rw [hblm] at nd hin
  obtain ⟨m1, m2⟩ := List.nodup_cons.1 nd
  obtain ⟨m3, m4⟩ := List.nodup_cons.1 m2
  obtain ⟨m5, m6, m7⟩ := List.nodup_append.1 m4
  have CI := index_any (some ⟨bb', 0, none⟩) 2 n.c l.g 0 [l, h] l w1 rfl (by omega) hR rfl rfl (by simp) (fun s hs => (hK s hs).isC)
  have hw1 : IntKind.i64.wrap (l.n.a + 1) = l.n.a + 1 := by rw [IntKind.wrap_i64]; omega
  have CG := hg.out w1.drew ((hK h (by simp)).same _ _ fun _ _ => rfl)
  have hnb : bb' ≠ n.g := fun e => m1 (by rw [← e]; simp)
  have hnl : n.g ∉ l.bl := fun e => m1 (by simp [e])
  have hnh : n.g ∉ h.bl := fun e => m1 (by simp [e])
  have hbl : bb' ∉ l.bl := fun e => m3 (by simp [e])
  have hbh : bb' ∉ h.bl := fun e => m3 (by simp [e])
  have hlt : ∀ b ∈ n.g :: bb' :: (l.bl ++ h.bl), b < w1.heap.size ∧ b ≠ tr ∧ base ≤ b := fun b hb => ⟨(hin b hb).2.2.2, (hin b hb).2.1, (hin b hb).2.2.1⟩
  replace G1 := Lib.hid G1; replace hT1 := Lib.hid hT1; replace hA := Lib.hid hA; replace hK := Lib.hid hK; replace hlA := Lib.hid hlA; replace hbb := Lib.hid hbb; replace hbb' := Lib.hid hbb'; replace hrow := Lib.hid hrow; replace hO := Lib.hid hO; replace hR := Lib.hid hR; replace hAr := Lib.hid hAr
  replace nd := Lib.hid nd; replace hin := Lib.hid hin; replace hout := Lib.hid hout; replace m1 := Lib.hid m1; replace m2 := Lib.hid m2; replace m3 := Lib.hid m3; replace m4 := Lib.hid m4; replace m5 := Lib.hid m5; replace m6 := Lib.hid m6; replace m7 := Lib.hid m7; replace CI := Lib.hid CI; replace CG := Lib.hid CG; replace hblm := Lib.hid hblm
  replace hnb := Lib.hid hnb; replace hnl := Lib.hid hnl; replace hnh := Lib.hid hnh; replace hbl := Lib.hid hbl; replace hbh := Lib.hid hbh; replace hlt := Lib.hid hlt
  unfold ptr at hb0 hb1 CI CG
  clear CL
  go_wp2_with fail
  refine CI.out.mono ?_
  rintro e w2 ⟨rfl, rfl⟩
  clear CI
  go_upto_region 11 with fail
  go_still_tail 21, (by kernel_rfl)
  change wpList _ _ _ _ _ w2.drew
  go_wp2_with fail
  refine CG.out.mono ?_
  rintro e w3 ⟨rfl, hT3, o3⟩
  have o3' : Off h.bl w2 w3 := ⟨o3.os, o3.tape, o3.output, o3.size, o3.block⟩
  have kp : ∀ b, b < w2.heap.size → b ∉ h.bl → w3.heap[b]? = w2.heap[b]? := fun b h1 h2 => o3'.block b h1 h2
  have hA3 : At w3 none n [l, h'] := by
    have h1 : At w3 none n [l, h] := hA.out.same fun b hb => by
      rw [hbb.out] at hb
      simp at hb
      rcases hb with rfl | rfl
      · exact kp _ (hlt.out _ (by simp)).1 hnh.out
      · exact kp _ (hlt.out _ (by simp)).1 hbh.out
    exact h1.congr (by simp [ptrs, hg'.out.1])
  have c63 : w3.cell? ⟨n.g, 6, none⟩ = some (.slice (some ⟨bb', 0, none⟩) 2 n.c) := by have := hA3.c6; rw [hAr.out] at this; exact this
  have f63 := hA3.free 6
  have c73 : w3.cell? ⟨n.g, 7, none⟩ = some (.pointer none) := hA3.c7
  have hO3 : w3.ownsRow 0 55 1 (.slice (some ⟨bb', 0, none⟩) 2 n.c) 2 (ptrs [l, h']) := by have := hA3.r; rw [show [l, h'].length = 2 from rfl, hrow.out] at this; exact this
  have hD := fun W (hW : w3.heap = W.heap ) => delete_any 0 bb' 2 n.c 0 [l, h'] W rfl (by omega) (own_same hO3 fun b hb => by rw [hW])
  have CD : Calls Tryd.prog 38 #[.slice (some ⟨bb', 0, none⟩) 2 n.c, .int .i64 0, .int .i64 1] w3 (fun e w' => e = .returned (.slice (some ⟨bb', 0, none⟩) 1 n.c) ∧ Hid (w'.ownsRow 0 55 1 (.slice (some ⟨bb', 0, none⟩) 1 n.c) 1 (ptrs [h']) ∧ Off [bb'] w3 w')) :=
    (hD w3 rfl).mono fun e w' ⟨h1, h2, h3⟩ => ⟨h1, Lib.hid ⟨h2, ⟨h3.os, h3.tape, h3.output, h3.size, h3.block⟩⟩⟩
  have hkd : ∀ w4, Off [bb'] w3 w4 → w4.cell? ⟨n.g, 6, none⟩ = some (.slice (some ⟨bb', 0, none⟩) 2 n.c) ∧ w4.frozen? ⟨n.g, 6, none⟩ = false ∧ w4.cell? ⟨n.g, 7, none⟩ = some (.pointer none) := fun w4 h => by
    have e : w4.heap[n.g]? = w3.heap[n.g]? := h.block _ (lt_of_heap hA3.h) (by simp; exact fun e => hnb.out e.symm)
    exact ⟨(World.cell?_of_block (a := ⟨n.g, 6, none⟩) e).trans c63, (World.frozen?_of_block (a := ⟨n.g, 6, none⟩) e).trans f63, (World.cell?_of_block (a := ⟨n.g, 7, none⟩) e).trans c73⟩
  replace hkd := Lib.hid hkd
  replace hA3 := Lib.hid hA3; replace hO3 := Lib.hid hO3; replace kp := Lib.hid kp; replace o3 := Lib.hid o3; replace o3' := Lib.hid o3'; replace hT3 := Lib.hid hT3; replace CD := Lib.hid CD
  clear CG hD c6 c5 q3 q7 hb0 hb1
  have hnbb : n.g ≠ bb' := fun e => hnb.out e.symm
  replace hnbb := Lib.hid hnbb
  go_wp2_with fail
  refine CD.out.mono ?_
  rintro e w4 ⟨rfl, hP4⟩
  obtain ⟨d6, d6f, d7⟩ := hkd.out w4 hP4.out.2
  go_upto_region 13 with fail
  obtain ⟨hO4, o4⟩ := hP4.out
  obtain ⟨W5, hW5⟩ : ∃ W5, W5 = w4.setCell ⟨n.g, 6, none⟩ (.slice (some ⟨bb', 0, none⟩) 1 n.c) := ⟨_, rfl⟩
  rw [← hW5]
  have o5 : Off [n.g] w4 W5 := by rw [hW5]; exact Off.set w4 ⟨n.g, 6, none⟩ _
  have e4 : w4.heap[n.g]? = w3.heap[n.g]? := o4.block _ (lt_of_heap hA3.out.h) (by simp; exact hnbb.out)
  have h5n := heap_set (j := 6) (e4.trans hA3.out.h) (.slice (some ⟨bb', 0, none⟩) 1 n.c)
  rw [← hW5] at h5n
  have d56 : W5.cell? ⟨n.g, 6, none⟩ = some (.slice (some ⟨bb', 0, none⟩) 1 n.c) := by rw [cell_of_heap h5n]; rfl
  have d57 : W5.cell? ⟨n.g, 7, none⟩ = some (.pointer none) := by rw [cell_of_heap h5n]; rfl
  have hbb4 : bb' < w4.heap.size := by have := (hlt.out bb' (by simp)).1; have := o3'.out.size; have := o4.size; omega
  have d5b : W5.cell? ⟨bb', 0, none⟩ = some (.pointer (some ⟨h.g, 0, none⟩)) := by
    rw [World.cell?_of_block (o5.block bb' hbb4 (by simp; exact hnb.out))]
    have := hO4.cells (g := bb') rfl 0 (ptr h'.g) rfl
    rw [hg'.out.1] at this
    simpa [Addr.add, ptr] using this
  have hhlt : ∀ b ∈ h.bl, b < w3.heap.size ∧ b ≠ bb' ∧ b ≠ n.g := fun b hb => ⟨by have := (hlt.out b (by simp [hb])).1; have := o3'.out.size; omega, fun e => hbh.out (e ▸ hb), fun e => hnh.out (e ▸ hb)⟩
  have hT5 : TP W5 (some n.g) h' := hT3.out.same _ _ fun b hb => by
    rw [hg'.out.2] at hb
    obtain ⟨h1, h2, h3⟩ := hhlt b hb
    exact (o5.block b (by have := o4.size; omega) (by simpa using h3)).trans (o4.block b h1 (by simpa using h2))
  have h57 : ∃ u, W5.cell? ⟨h.g, 7, none⟩ = some u ∧ W5.frozen? ⟨h.g, 7, none⟩ = false := by
    have hgg := hg'.out.1
    rw [← hgg]
    cases h' with | mk m ks => exact ⟨_, hT5.at_.c7, hT5.at_.free 7⟩
  obtain ⟨u, h57, h57f⟩ := h57
  have htr5 : W5.heap[tr]? = some (.cells #[ptr n.g] 60 (0, 0)) := by
    have h1 := hT1.out.lt
    rw [o5.block tr (by have := o3'.out.size; have := o4.size; omega) (by simp; exact fun e => (hlt.out n.g (by simp)).2.1 e.symm),
      o4.block tr (by have := o3'.out.size; omega) (by simp; exact fun e => (hlt.out bb' (by simp)).2.1 e.symm),
      kp.out tr h1 (fun e => (hlt.out tr (by simp [e])).2.1 rfl)]
    exact hT1.out.h
  have htr0 : W5.cell? ⟨tr, 0, none⟩ = some (.pointer (some ⟨n.g, 0, none⟩)) := by rw [cell_of_heap htr5]; rfl
  have htrf := free_of_heap htr5 0
  have hhg : h.g ∈ h.bl := h.g_mem
  have CPt := put_root tr n.g h.g u (.pointer (some ⟨n.g, 0, none⟩)) W5 d57 (fun e => (hhlt _ hhg).2.2 e.symm) h57 h57f htr0 htrf (hlt.out h.g (by simp [hhg])).2.1
  have nd' : h'.bl.Nodup := by rw [hg'.out.2]; exact m6.out
  -- the world behind put
  have hw6 : ∀ w6, w6 = (W5.setCell ⟨h.g, 7, none⟩ (.pointer none)).setCell ⟨tr, 0, none⟩ (ptr h.g) → Tr base w6 tr h' ∧ Below base w w6 ∧ Off (tr :: (T.mk n [l, h]).bl) w w6 := by
    rintro w6 rfl
    obtain ⟨h1, h2⟩ := hT5.reup (up' := none) nd'
    rw [hg'.out.1] at h1 h2
    have o6 : Off [tr] (W5.setCell ⟨h.g, 7, none⟩ (.pointer none)) ((W5.setCell ⟨h.g, 7, none⟩ (.pointer none)).setCell ⟨tr, 0, none⟩ (ptr h.g)) := Off.set _ ⟨tr, 0, none⟩ _
    have hlo : ∀ b ∈ h.bl, base ≤ b ∧ b ≠ tr := fun b hb => ⟨(hlt.out b (by simp [hb])).2.2, (hlt.out b (by simp [hb])).2.1⟩
    refine ⟨⟨?_, h1.off o6 (fun b hb => by rw [hg'.out.2] at hb; simpa using (hlo b hb).2), nd', fun hm => by rw [hg'.out.2] at hm; exact (hlo tr hm).2 rfl, hT.out.lo.1, fun b hb => by rw [hg'.out.2] at hb; exact (hlo b hb).1⟩, ?_, ?_⟩
    · have e1 : (W5.setCell ⟨h.g, 7, none⟩ (.pointer none)).heap[tr]? = some (.cells #[ptr n.g] 60 (0, 0)) := by
        rw [Below.heap_setCell _ _ _ _ (by exact fun e => (hlo _ hhg).2 e.symm)]; exact htr5
      rw [heap_set e1, hg'.out.1]; rfl
    · have b1 : Below base w w2 := ⟨G1.out.os, G1.out.tape, G1.out.output, G1.out.size, fun k hk => G1.out.block k (by omega) (by simp)⟩
      have hw2 : base ≤ w2.heap.size := by have := G1.out.size; omega
      have b2 := o3'.out.below (B := base) (fun b hb => (hlo b hb).1) hw2
      have b3 := o4.below (B := base) (by simp; exact (hlt.out bb' (by simp)).2.2) (Nat.le_trans hw2 o3'.out.size)
      have b4 := o5.below (B := base) (by simp; exact (hlt.out n.g (by simp)).2.2) (Nat.le_trans hw2 (Nat.le_trans o3'.out.size o4.size))
      have hs5 : base ≤ W5.heap.size := Nat.le_trans hw2 (Nat.le_trans o3'.out.size (Nat.le_trans o4.size o5.size))
      have b5 := h2.below (B := base) (by simp; exact (hlo _ hhg).1) hs5
      have b6 := o6.below (B := base) (by simp; exact hT.out.lo.1) (Nat.le_trans hs5 h2.size)
      exact ((((b1.trans b2).trans b3).trans b4).trans b5).trans b6
    · rw [hblm.out]
      obtain ⟨SS, hSS⟩ : ∃ SS, SS = tr :: n.g :: bb' :: (l.bl ++ h.bl) := ⟨_, rfl⟩
      rw [← hSS]
      have z1 : Off SS w w2 := Off.of_grown G1.out
      have z2 := z1.trans o3'.out (by intro b hb; exact .inl (by rw [hSS]; simp [hb]))
      have z3 := z2.trans o4 (by intro b hb; simp at hb; exact .inl (by rw [hSS]; simp [hb]))
      have z4 := z3.trans o5 (by intro b hb; simp at hb; exact .inl (by rw [hSS]; simp [hb]))
      have z5 := z4.trans h2 (by intro b hb; simp at hb; exact .inl (by rw [hSS]; simp [hb, hhg]))
      exact z5.trans o6 (by intro b hb; simp at hb; exact .inl (by rw [hSS]; simp [hb]))
  replace CPt := Lib.hid CPt; replace hw6 := Lib.hid hw6; replace hP4 := Lib.hid hP4; replace hO4 := Lib.hid hO4; replace o4 := Lib.hid o4; replace o5 := Lib.hid o5; replace h5n := Lib.hid h5n; replace hT5 := Lib.hid hT5; replace htr5 := Lib.hid htr5; replace hhlt := Lib.hid hhlt; replace nd' := Lib.hid nd'; replace e4 := Lib.hid e4
  clear hW5 h57 h57f htrf hhg CD d6 d6f d7 c63 f63 c73
  unfold ptr at CPt
  go_wp2_with fail
  refine CPt.out.mono ?_
  rintro e w6 ⟨rfl, hw6e⟩
  obtain ⟨hTr6, hB6, hO6⟩ := hw6.out w6 hw6e
  replace hO6 := Lib.hid hO6
  have q60 := hTr6.c0
  rw [hg'.out.1] at q60
  have CPl := place_any h' none 0 0 w6 hTr6.p hTr6.nd hw01.out
  rw [hg'.out.1] at CPl
  replace hTr6 := Lib.hid hTr6; replace hB6 := Lib.hid hB6; replace CPl := Lib.hid CPl; replace hw6e := Lib.hid hw6e
  clear CPt d56 d57 d5b htr0
  unfold ptr at CPl q60
  go_wp2_with fail
  refine CPl.out.mono ?_
  rintro e w7 ⟨rfl, hT7, o7⟩
  go_wp2_with fail
  go_ret
  exact ⟨rfl, hTr6.out.placed hT7 o7, hB6.out.trans (o7.below hTr6.out.lo.2 (by have := hTr6.out.lt; have := hTr6.out.lo.1; omega)), hO6.out.trans o7 (by intro b hb; rw [hg'.out.2] at hb; exact .inl (by rw [hblm.out]; simp [hb]))⟩
end Go.Proofs.YtcklmkjlbpjojaaDoor
