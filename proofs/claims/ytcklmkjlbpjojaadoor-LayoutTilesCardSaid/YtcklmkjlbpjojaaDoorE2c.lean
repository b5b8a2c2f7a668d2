/- Layout: Split. Layout: what Split leaves in memory. No walk. Layout: a kid's slot turned; a tree apart from what was turned. No walk. Layout: what Split leaves in the end. No walk. -/
import Derived.Test.YtcklmkjlbpjojaaDoorC4
import Derived.Test.YtcklmkjlbpjojaaDoorD3
import Derived.Test.YtcklmkjlbpjojaaDoorD6
import Derived.Deep.DeepCutAuto
import Derived.Deep.CutBlock
namespace Go.Proofs.YtcklmkjlbpjojaaDoor
open Go.RowKit
set_option linter.unusedSimpArgs false
set_option linter.unusedVariables false

/-- A split's refusals. -/
def splitErr (t : T) (other size : Int) (l : Option T) (z : T → Int) : Option Int :=
  match l with
  | none => some 8
  | some l =>
    if other < 1 ∨ (t.find other).isSome = true ∨ size < 0 then some 1
    else if 32 ≤ t.leaves.length then some 3
    else if z l < 3 ∨ z l - 2 < size then some 5
    else none
theorem find_mem {t s : T} {p : Int} (h : t.find p = some s) : s ∈ t.leaves ∧ s.n.p = p := by
  unfold T.find at h
  exact ⟨List.mem_of_find?_eq_some h, by simpa using List.find?_some h⟩

set_option maxHeartbeats 4000000 in
set_option maxRecDepth 100000 in
theorem split_no (base tr : Nat) (t : T) (pane other size err : Int) (beside before : Bool) (w : World) (hT : Tr base w tr t) (hl : t.leaves.length ≤ 100000) (hs1 : -9223372036854775808 ≤ size) (hs2 : size ≤ 9223372036854775807)
    (hz : ∀ s ∈ t.leaves, 0 ≤ s.n.a ∧ s.n.a ≤ 1000 ∧ 0 ≤ s.n.b ∧ s.n.b ≤ 1000)
    (he : splitErr t other size (t.find pane) (fun s => if beside then s.n.a else s.n.b) = some err) :
    Calls Tryd.prog 12 #[ptr tr, .int .i64 pane, .int .i64 other, .bool beside, .int .i64 size, .bool before] w fun e w' => e = .returned (.int .i64 err) ∧ w.grownBy w' none := by
  have CL := Lib.hid (leaf_any base tr t pane w hT hl)
  have CW := Lib.hid (fun W => wayOf_any beside W)
  have CH := Lib.hid (fun W (hg : w.grownBy W none) => has_any base tr t other W (hT.grown hg) hl)
  have CA := Lib.hid (fun W (hg : w.grownBy W none) => all_any base tr t W (hT.grown hg) hl)
  cases hf : t.find pane with
  | none =>
    rw [hf] at he CL
    simp only [splitErr, Option.some.injEq] at he
    subst he
    simp only [Option.map_none, uptr] at CL
    replace hT := Lib.hid hT; replace hf := Lib.hid hf; replace hz := Lib.hid hz
    unfold ptr at *
    go_enter Tryd.func12, Tryd.ntmps12
    go_wp2_with fail
    refine CL.out.mono ?_
    rintro e w1 ⟨rfl, G1⟩
    clear CL
    obtain ⟨wy, hwy⟩ : ∃ wy : Int, wy = (if beside = true then 0 else 1) := ⟨_, rfl⟩
    rw [← hwy] at CW
    replace hwy := Lib.hid hwy
    go_wp2_with fail
    refine (CW.out _).mono ?_
    rintro e w2 ⟨rfl, rfl⟩
    clear CW
    go_wp2_with fail
    go_ret
    exact ⟨rfl, G1⟩
  | some l =>
    rw [hf] at he CL
    obtain ⟨hlm, _⟩ := find_mem hf
    obtain ⟨up', hlT, _, _⟩ := mem_leaves t w none hT.p l hlm
    have hlA : At w up' l.n l.ks := by cases l; exact hlT.at_
    obtain ⟨za0, za1, zb0, zb1⟩ := hz l hlm
    simp only [splitErr] at he
    simp only [Option.map_some, uptr] at CL
    obtain ⟨len, hln⟩ : ∃ len, len = t.leaves.length := ⟨_, rfl⟩
    obtain ⟨so, hso⟩ : ∃ so, so = (t.find other).isSome := ⟨_, rfl⟩
    rw [← hln] at he CA
    rw [← hso] at he CH
    have hl2 : len ≤ 100000 := by omega
    cases beside
    · have CW' : Hid (∀ W, Calls Tryd.prog 30 #[.bool false] W fun e w' => e = .returned (.int .i64 1) ∧ W = w') := CW
      have qz := hlA.c4
      rw [show l.n.g = l.g from rfl] at qz
      have hz0 : 0 ≤ l.n.b ∧ l.n.b ≤ 1000 := by omega
      simp only [if_true, Bool.false_eq_true, if_false] at he
      generalize l.n.b = z at *
      clear za0 za1 zb0 zb1 CW
      obtain ⟨z0, z1⟩ := hz0
      replace hT := Lib.hid hT; replace hf := Lib.hid hf; replace hlT := Lib.hid hlT; replace hlA := Lib.hid hlA; replace hz := Lib.hid hz; replace hln := Lib.hid hln; replace hso := Lib.hid hso; replace hlm := Lib.hid hlm
      unfold ptr at *
      by_cases c1 : other < 1
      · rw [if_pos (.inl c1)] at he
        injection he with he
        subst he
        go_enter Tryd.func12, Tryd.ntmps12
        go_wp2_with fail
        refine CL.out.mono ?_
        rintro e w1 ⟨rfl, G1⟩
        go_wp2_with fail
        refine (CW'.out _).mono ?_
        rintro e w2 ⟨rfl, rfl⟩
        go_wp2_with fail
        go_ret
        exact ⟨rfl, G1⟩
      · cases so with
        | true =>
          rw [if_pos (.inr (.inl rfl))] at he
          injection he with he
          subst he
          go_enter Tryd.func12, Tryd.ntmps12
          go_wp2_with fail
          refine CL.out.mono ?_
          rintro e w1 ⟨rfl, G1⟩
          replace G1 := Lib.hid G1
          go_wp2_with fail
          refine (CW'.out _).mono ?_
          rintro e w2 ⟨rfl, rfl⟩
          go_wp2_with fail
          refine (CH.out _ G1.out).mono ?_
          rintro e w2 ⟨rfl, G2⟩
          replace G2 := Lib.hid G2
          go_wp2_with fail
          go_ret
          exact ⟨rfl, G1.out.trans G2.out⟩
        | false =>
          by_cases c2 : size < 0
          · rw [if_pos (.inr (.inr c2))] at he
            injection he with he
            subst he
            go_enter Tryd.func12, Tryd.ntmps12
            go_wp2_with fail
            refine CL.out.mono ?_
            rintro e w1 ⟨rfl, G1⟩
            replace G1 := Lib.hid G1
            go_wp2_with fail
            refine (CW'.out _).mono ?_
            rintro e w2 ⟨rfl, rfl⟩
            go_wp2_with fail
            refine (CH.out _ G1.out).mono ?_
            rintro e w2 ⟨rfl, G2⟩
            replace G2 := Lib.hid G2
            go_wp2_with fail
            go_ret
            exact ⟨rfl, G1.out.trans G2.out⟩
          · rw [if_neg (by simp; omega)] at he
            go_enter Tryd.func12, Tryd.ntmps12
            go_wp2_with fail
            refine CL.out.mono ?_
            rintro e w1 ⟨rfl, G1⟩
            replace G1 := Lib.hid G1
            go_wp2_with fail
            refine (CW'.out _).mono ?_
            rintro e w2 ⟨rfl, rfl⟩
            go_wp2_with fail
            refine (CH.out _ G1.out).mono ?_
            rintro e w3 ⟨rfl, G2⟩
            have G12 := G1.out.trans G2
            replace G2 := Lib.hid G2; replace G12 := Lib.hid G12
            go_wp2_with fail
            refine (CA.out _ G12.out).mono ?_
            rintro e w4 ⟨A4, c4, rfl, O4, G3⟩
            have G13 := G12.out.trans G3
            have qz' := G13.cell qz (by simp)
            replace G3 := Lib.hid G3; replace G13 := Lib.hid G13; replace O4 := Lib.hid O4
            clear CL CW' CH CA qz
            by_cases c3 : 32 ≤ len
            · rw [if_pos c3] at he
              injection he with he
              subst he
              have c3' : (32 : Int) ≤ len := by omega
              go_wp2_with fail
              go_ret
              exact ⟨rfl, G13.out⟩
            · rw [if_neg c3] at he
              have c3' : ¬ (32 : Int) ≤ len := by omega
              have hw : IntKind.i64.wrap (z - 2) = z - 2 := by rw [IntKind.wrap_i64]; omega
              by_cases c4 : z < 3 ∨ z - 2 < size
              · rw [if_pos c4] at he
                injection he with he
                subst he
                by_cases c5 : z < 3
                · go_wp2_with fail
                  go_ret
                  exact ⟨rfl, G13.out⟩
                · have c6 : z - 2 < size := by omega
                  replace c4 := Lib.hid c4
                  go_wp2_with fail
                  go_ret
                  exact ⟨rfl, G13.out⟩
              · rw [if_neg c4] at he
                cases he
    · have CW' : Hid (∀ W, Calls Tryd.prog 30 #[.bool true] W fun e w' => e = .returned (.int .i64 0) ∧ W = w') := CW
      have qz := hlA.c3
      rw [show l.n.g = l.g from rfl] at qz
      have hz0 : 0 ≤ l.n.a ∧ l.n.a ≤ 1000 := by omega
      simp only [if_true, Bool.false_eq_true, if_false] at he
      generalize l.n.a = z at *
      clear za0 za1 zb0 zb1 CW
      obtain ⟨z0, z1⟩ := hz0
      replace hT := Lib.hid hT; replace hf := Lib.hid hf; replace hlT := Lib.hid hlT; replace hlA := Lib.hid hlA; replace hz := Lib.hid hz; replace hln := Lib.hid hln; replace hso := Lib.hid hso; replace hlm := Lib.hid hlm
      unfold ptr at *
      by_cases c1 : other < 1
      · rw [if_pos (.inl c1)] at he
        injection he with he
        subst he
        go_enter Tryd.func12, Tryd.ntmps12
        go_wp2_with fail
        refine CL.out.mono ?_
        rintro e w1 ⟨rfl, G1⟩
        go_wp2_with fail
        refine (CW'.out _).mono ?_
        rintro e w2 ⟨rfl, rfl⟩
        go_wp2_with fail
        go_ret
        exact ⟨rfl, G1⟩
      · cases so with
        | true =>
          rw [if_pos (.inr (.inl rfl))] at he
          injection he with he
          subst he
          go_enter Tryd.func12, Tryd.ntmps12
          go_wp2_with fail
          refine CL.out.mono ?_
          rintro e w1 ⟨rfl, G1⟩
          replace G1 := Lib.hid G1
          go_wp2_with fail
          refine (CW'.out _).mono ?_
          rintro e w2 ⟨rfl, rfl⟩
          go_wp2_with fail
          refine (CH.out _ G1.out).mono ?_
          rintro e w2 ⟨rfl, G2⟩
          replace G2 := Lib.hid G2
          go_wp2_with fail
          go_ret
          exact ⟨rfl, G1.out.trans G2.out⟩
        | false =>
          by_cases c2 : size < 0
          · rw [if_pos (.inr (.inr c2))] at he
            injection he with he
            subst he
            go_enter Tryd.func12, Tryd.ntmps12
            go_wp2_with fail
            refine CL.out.mono ?_
            rintro e w1 ⟨rfl, G1⟩
            replace G1 := Lib.hid G1
            go_wp2_with fail
            refine (CW'.out _).mono ?_
            rintro e w2 ⟨rfl, rfl⟩
            go_wp2_with fail
            refine (CH.out _ G1.out).mono ?_
            rintro e w2 ⟨rfl, G2⟩
            replace G2 := Lib.hid G2
            go_wp2_with fail
            go_ret
            exact ⟨rfl, G1.out.trans G2.out⟩
          · rw [if_neg (by simp; omega)] at he
            go_enter Tryd.func12, Tryd.ntmps12
            go_wp2_with fail
            refine CL.out.mono ?_
            rintro e w1 ⟨rfl, G1⟩
            replace G1 := Lib.hid G1
            go_wp2_with fail
            refine (CW'.out _).mono ?_
            rintro e w2 ⟨rfl, rfl⟩
            go_wp2_with fail
            refine (CH.out _ G1.out).mono ?_
            rintro e w3 ⟨rfl, G2⟩
            have G12 := G1.out.trans G2
            replace G2 := Lib.hid G2; replace G12 := Lib.hid G12
            go_wp2_with fail
            refine (CA.out _ G12.out).mono ?_
            rintro e w4 ⟨A4, c4, rfl, O4, G3⟩
            have G13 := G12.out.trans G3
            have qz' := G13.cell qz (by simp)
            replace G3 := Lib.hid G3; replace G13 := Lib.hid G13; replace O4 := Lib.hid O4
            clear CL CW' CH CA qz
            by_cases c3 : 32 ≤ len
            · rw [if_pos c3] at he
              injection he with he
              subst he
              have c3' : (32 : Int) ≤ len := by omega
              go_wp2_with fail
              go_ret
              exact ⟨rfl, G13.out⟩
            · rw [if_neg c3] at he
              have c3' : ¬ (32 : Int) ≤ len := by omega
              have hw : IntKind.i64.wrap (z - 2) = z - 2 := by rw [IntKind.wrap_i64]; omega
              by_cases c4 : z < 3 ∨ z - 2 < size
              · rw [if_pos c4] at he
                injection he with he
                subst he
                by_cases c5 : z < 3
                · go_wp2_with fail
                  go_ret
                  exact ⟨rfl, G13.out⟩
                · have c6 : z - 2 < size := by omega
                  replace c4 := Lib.hid c4
                  go_wp2_with fail
                  go_ret
                  exact ⟨rfl, G13.out⟩
              · rw [if_neg c4] at he
                cases he
end Go.Proofs.YtcklmkjlbpjojaaDoor
namespace Go.Proofs.YtcklmkjlbpjojaaDoor
open Go.RowKit
set_option linter.unusedSimpArgs false
set_option linter.unusedVariables false

/-- A split with one pane in it. -/
def wrapT (s A gi : Nat) (p a b way : Int) : T := .mk ⟨s, some A, 1, 0, 0, 0, a, b, way⟩ [.mk ⟨gi, none, 0, p, 0, 0, a, b, 0⟩ []]
theorem wrapT_bl (s A gi : Nat) (p a b way : Int) : (wrapT s A gi p a b way).bl = [s, A, gi] := by simp [wrapT, T.bl_mk, blL_cons, blL_nil]
theorem tp_wrap {w : World} {up : Option Nat} {s A gi : Nat} {p a b way : Int} (hs : w.heap[s]? = some (.cells (nodeC 0 0 0 a b way (.slice (some ⟨A, 0, none⟩) 1 1) (uptr up)) 58 (0, 0)))
    (hi : w.heap[gi]? = some (.cells (nodeC p 0 0 a b 0 (.slice none 0 0) (ptr s)) 58 (0, 0))) (hA : w.heap[A]? = some (.cells #[ptr gi] 55 (0, 0))) : TP w up (wrapT s A gi p a b way) := by
  refine .mk ⟨hs, ?_⟩ ?_
  · exact ⟨by simp [ptrs], .inr ⟨A, 1, #[ptr gi], rfl, Nat.zero_le _, hA, Nat.le_refl _, by decide, rfl, rfl⟩⟩
  · rw [TPs, TPs]
    exact ⟨.mk ⟨hi, World.ownsRow_nil _ _ _ _⟩ (by rw [TPs]; trivial), trivial⟩
theorem wrap_root {base tr : Nat} {w w' : World} {t : T} {s A gi : Nat} {p a b way : Int} (h : Tr base w tr t) (hbase : base ≤ w.heap.size)
    (hs : w'.heap[s]? = some (.cells (nodeC 0 0 0 a b way (.slice (some ⟨A, 0, none⟩) 1 1) (.pointer none)) 58 (0, 0)))
    (hi : w'.heap[gi]? = some (.cells (nodeC p 0 0 a b 0 (.slice none 0 0) (ptr s)) 58 (0, 0))) (hA : w'.heap[A]? = some (.cells #[ptr gi] 55 (0, 0)))
    (ht : w'.heap[tr]? = some (.cells #[ptr s] 60 (0, 0))) (n1 : w.heap.size ≤ s) (n2 : w.heap.size ≤ gi) (n3 : w.heap.size ≤ A) (d1 : s ≠ A) (d2 : s ≠ gi) (d3 : A ≠ gi) : Tr base w' tr (wrapT s A gi p a b way) := by
  have htl := h.lt
  refine ⟨ht, tp_wrap (up := none) hs hi hA, ?_, ?_, h.lo.1, ?_⟩
  · rw [wrapT_bl]; simp [d1, d2, d3]
  · rw [wrapT_bl]; simp; omega
  · rw [wrapT_bl]; simp; omega
theorem wrap_in {base tr : Nat} {w w' : World} {f : Fr} {c : List Fr} {l : T} {s A gi bb : Nat} {p a b way : Int} (h : Tr base w tr (plug (f :: c) l)) (hbase : base ≤ w.heap.size) (hbb : f.n.A = some bb)
    (hs : w'.heap[s]? = some (.cells (nodeC 0 0 0 a b way (.slice (some ⟨A, 0, none⟩) 1 1) (ptr f.n.g)) 58 (0, 0)))
    (hi : w'.heap[gi]? = some (.cells (nodeC p 0 0 a b 0 (.slice none 0 0) (ptr s)) 58 (0, 0))) (hA : w'.heap[A]? = some (.cells #[ptr gi] 55 (0, 0)))
    (hAt : At w' (upOf c) f.n (f.L ++ wrapT s A gi p a b way :: f.R)) (ho : Off [bb] w w')
    (n1 : w.heap.size ≤ s) (n2 : w.heap.size ≤ gi) (n3 : w.heap.size ≤ A) (d1 : s ≠ A) (d2 : s ≠ gi) (d3 : A ≠ gi) : Tr base w' tr (plug (f :: c) (wrapT s A gi p a b way)) := by
  have hp := (TP_plug (f :: c) l).1 h.p
  obtain ⟨⟨hA0, hL, hR, hC⟩, hl⟩ := hp
  have h' : Tr base w tr (plug c (.mk f.n (f.L ++ l :: f.R))) := h
  have hnd := (perm_plug c (.mk f.n (f.L ++ l :: f.R))).nodup_iff.1 h'.nd
  have hnd2 := (List.nodup_append.1 hnd).2.1
  have hblm : (T.mk f.n (f.L ++ l :: f.R)).bl = f.n.g :: (bb :: (blL f.L ++ (l.bl ++ blL f.R))) := by
    rw [T.bl_mk, hbb, blL_app, blL_cons]; rfl
  rw [hblm] at hnd2
  have hmem : ∀ x ∈ f.n.g :: (bb :: (blL f.L ++ (l.bl ++ blL f.R))), x < w.heap.size := fun x hx => h'.p.lt _ _ x ((perm_plug c _).mem_iff.2 (by rw [hblm]; exact List.mem_append_right _ hx))
  obtain ⟨m1, m2⟩ := List.nodup_cons.1 hnd2
  obtain ⟨m3, m4⟩ := List.nodup_cons.1 m2
  refine Tr.focus (c := c) (t := .mk f.n (f.L ++ l :: f.R)) (t' := .mk f.n (f.L ++ wrapT s A gi p a b way :: f.R)) (S := [bb]) h' ho ?_ ?_ rfl ?_ ?_ hbase
  · intro x hx
    simp only [List.mem_singleton] at hx
    subst hx
    exact .inl (by rw [hblm]; simp)
  · refine .mk hAt ?_
    rw [TPs_app, TPs]
    refine ⟨hL.off ho fun x hx => ?_, tp_wrap (up := some f.n.g) hs hi hA, hR.off ho fun x hx => ?_⟩
    · simp only [List.mem_singleton]; rintro rfl; exact m3 (by simp [hx])
    · simp only [List.mem_singleton]; rintro rfl; exact m3 (by simp [hx])
  · rw [T.bl_mk, hbb, blL_app, blL_cons, wrapT_bl]
    obtain ⟨k1, k2, k3⟩ := List.nodup_append.1 m4
    obtain ⟨k4, k5, k6⟩ := List.nodup_append.1 k2
    have hLlt : ∀ x ∈ blL f.L, x < w.heap.size := fun x hx => hmem x (by simp [hx])
    have hRlt : ∀ x ∈ blL f.R, x < w.heap.size := fun x hx => hmem x (by simp [hx])
    have hglt := hmem f.n.g (by simp)
    have hblt := hmem bb (by simp)
    have hLR : ∀ x ∈ blL f.L, x ∉ blL f.R := fun x hx hr => k3 x hx x (by simp [hr]) rfl
    have hgm : f.n.g ≠ bb ∧ f.n.g ∉ blL f.L ∧ f.n.g ∉ blL f.R := ⟨fun e => m1 (by simp [e]), fun e => m1 (by simp [e]), fun e => m1 (by simp [e])⟩
    have hbm : bb ∉ blL f.L ∧ bb ∉ blL f.R := ⟨fun e => m3 (by simp [e]), fun e => m3 (by simp [e])⟩
    show (f.n.g :: bb :: (blL f.L ++ ([s, A, gi] ++ blL f.R))).Nodup
    refine List.nodup_cons.2 ⟨?_, List.nodup_cons.2 ⟨?_, List.nodup_append.2 ⟨k1, ?_, ?_⟩⟩⟩
    · rw [List.mem_cons]
      simp only [List.mem_append, List.mem_cons, List.not_mem_nil, or_false, not_or]
      exact ⟨hgm.1, hgm.2.1, ⟨by omega, by omega, by omega⟩, hgm.2.2⟩
    · simp only [List.mem_append, List.mem_cons, List.not_mem_nil, or_false, not_or]
      exact ⟨hbm.1, ⟨by omega, by omega, by omega⟩, hbm.2⟩
    · refine List.nodup_append.2 ⟨by simp [d1, d2, d3], k5, ?_⟩
      rintro x hx y hy rfl
      have := hRlt x hy
      simp only [List.mem_cons, List.not_mem_nil, or_false] at hx
      omega
    · rintro x hx y hy rfl
      have := hLlt x hx
      simp only [List.mem_append, List.mem_cons, List.not_mem_nil, or_false] at hy
      rcases hy with hy | hy
      · omega
      · exact hLR x hx hy
  · intro x hx
    rw [T.bl_mk, hbb, blL_app, blL_cons, wrapT_bl] at hx
    rw [hblm]
    simp only [List.mem_cons, List.mem_append, Option.toList_some, List.not_mem_nil, or_false] at hx ⊢
    rcases hx with h | h | h | (h | h | h) | h
    · exact .inl (.inl h)
    · exact .inl (.inr (.inl h))
    · exact .inl (.inr (.inr (.inl h)))
    · exact .inr (by omega)
    · exact .inr (by omega)
    · exact .inr (by omega)
    · exact .inl (.inr (.inr (.inr (.inr h))))
end Go.Proofs.YtcklmkjlbpjojaaDoor
namespace Go.Proofs.YtcklmkjlbpjojaaDoor
open Go.RowKit
set_option linter.unusedSimpArgs false
set_option linter.unusedVariables false

theorem Tr.off {base tr : Nat} {w w' : World} {t : T} {S : List Nat} (h : Tr base w tr t) (ho : Off S w w') (h1 : tr ∉ S) (h2 : ∀ b ∈ t.bl, b ∉ S) : Tr base w' tr t :=
  ⟨(ho.block tr h.lt h1).trans h.h, h.p.off ho h2, h.nd, h.nt, h.lo⟩
theorem At.slot {w : World} {up : Option Nat} {n : Nd} {L R : List T} {t t' : T} {b x : Nat} (h : At w up n (L ++ t :: R)) (hA : n.A = some b) (hb : b ≠ n.g) (ht : t'.g = x) :
    At (w.setCell ⟨b, L.length, none⟩ (ptr x)) up n (L ++ t' :: R) := by
  have hlen : (L ++ t' :: R).length = (L ++ t :: R).length := by simp
  refine ⟨?_, ?_⟩
  · rw [Below.heap_setCell _ _ _ _ (by exact fun e => hb e.symm), hlen]; exact h.h
  · rw [hlen]
    have hr := h.r
    refine ⟨by simp [ptrs], ?_⟩
    rcases hr.2 with ⟨h1, h2⟩ | ⟨g, cap, cur, h1, h2, h3, h4, h5, h6, h7⟩
    · simp at h2
    · have hgb : g = b := by
        unfold Nd.row adr at h1
        rw [hA] at h1
        injection h1 with h1
        injection h1 with h1; injection h1 with h1; exact h1.symm
      subst hgb
      refine .inr ⟨g, cap, _, h1, h2, heap_set h3 (ptr x), h4, h5, by simp [h6], ?_⟩
      rw [Array.toList_setIfInBounds, List.take_set, h7]
      simp [ptrs, ht]
theorem TP.isC {w : World} {up : Option Nat} {t : T} (h : TP w up t) : IsC w t.g := by
  cases t with | mk n ks => exact ⟨_, _, h.at_.h⟩
theorem g_sep {L R : List T} {t : T} (h : (blL (L ++ t :: R)).Nodup) : ∀ s ∈ L, s.g ≠ t.g := fun s hs e => by
  rw [blL_app, blL_cons] at h
  have h3 := (List.nodup_append.1 h).2.2
  exact h3 s.g (mem_blL.2 ⟨s, hs, s.g_mem⟩) t.g (by simp [t.g_mem]) e
end Go.Proofs.YtcklmkjlbpjojaaDoor
namespace Go.Proofs.YtcklmkjlbpjojaaDoor
open Go.RowKit
set_option linter.unusedSimpArgs false
set_option linter.unusedVariables false

theorem plug_g : ∀ (c : List Fr) (a b : T), a.g = b.g → (plug c a).g = (plug c b).g := by
  intro c
  induction c with
  | nil => intro a b h; exact h
  | cons f c ih => intro a b _; rw [plug, plug]; exact ih _ _ rfl
/-- What is turned at a place, with blocks that lie outside of the tree. -/
theorem Tr.focus2 {base tr : Nat} {w w' : World} {c : List Fr} {t t' : T} {S : List Nat} (h : Tr base w tr (plug c t)) (ho : Off S w w') (hS : ∀ b ∈ S, b ∉ cbl c ∧ b ≠ tr)
    (hT : TP w' (upOf c) t') (hg : t'.g = t.g) (hN : t'.bl.Nodup) (hb : ∀ b ∈ t'.bl, b ∉ cbl c ∧ b ≠ tr ∧ base ≤ b) : Tr base w' tr (plug c t') := by
  have hp := perm_plug c t
  have hp' := perm_plug c t'
  have hnd := hp.nodup_iff.1 h.nd
  obtain ⟨n1, n2, n3⟩ := List.nodup_append.1 hnd
  have hlt : ∀ b ∈ cbl c ++ t.bl, b < w.heap.size := fun b hb' => h.p.lt _ _ b (hp.mem_iff.2 hb')
  have hcl : ∀ b ∈ cbl c, w'.heap[b]? = w.heap[b]? := fun b hb' => ho.block b (hlt b (by simp [hb'])) (fun hm => (hS b hm).1 hb')
  have hpt := (TP_plug c t).1 h.p
  refine ⟨?_, (TP_plug c t').2 ⟨CP.other c t t' hpt.1 hg hcl, hT⟩, ?_, ?_, h.lo.1, ?_⟩
  · rw [plug_g c _ _ hg, ho.block tr h.lt (fun hm => (hS tr hm).2 rfl)]; exact h.h
  · refine hp'.nodup_iff.2 (List.nodup_append.2 ⟨n1, hN, ?_⟩)
    rintro b hb1 b' hb2 rfl
    exact (hb b hb2).1 hb1
  · intro hm
    rcases List.mem_append.1 (hp'.mem_iff.1 hm) with h1 | h1
    · exact h.nt (hp.mem_iff.2 (by simp [h1]))
    · exact (hb tr h1).2.1 rfl
  · intro b hm
    rcases List.mem_append.1 (hp'.mem_iff.1 hm) with h1 | h1
    · exact h.lo.2 b (hp.mem_iff.2 (by simp [h1]))
    · exact (hb b h1).2.2
/-- What is known of a place's blocks. -/
theorem Tr.apart {base tr : Nat} {w : World} {c : List Fr} {t : T} (h : Tr base w tr (plug c t)) : t.bl.Nodup ∧ (∀ b ∈ t.bl, b ∉ cbl c ∧ b ≠ tr ∧ base ≤ b ∧ b < w.heap.size) ∧ (∀ b ∈ cbl c, b < w.heap.size ∧ b ≠ tr) := by
  have hp := perm_plug c t
  obtain ⟨n1, n2, n3⟩ := List.nodup_append.1 (hp.nodup_iff.1 h.nd)
  have hm : ∀ b ∈ t.bl, b ∈ (plug c t).bl := fun b hb => hp.mem_iff.2 (by simp [hb])
  refine ⟨n2, fun b hb => ⟨fun hc => n3 b hc b hb rfl, ?_, h.lo.2 b (hm b hb), h.p.lt _ _ b (hm b hb)⟩, fun b hb => ⟨h.p.lt _ _ b (hp.mem_iff.2 (by simp [hb])), ?_⟩⟩
  · rintro rfl; exact h.nt (hm _ hb)
  · rintro rfl; exact h.nt (hp.mem_iff.2 (by simp [hb]))
set_option maxHeartbeats 1000000 in
/-- Split's end: the new node stands in the row. -/
theorem split_end {base tr : Nat} {wx w' : World} {f : Fr} {c0 : List Fr} {l1 : T} {gn : Nat} {nl nn : Nd} {A' : Option Nat} {c' : Nat} {X : List T} {bb : Nat}
    (h : Tr base wx tr (plug (f :: c0) l1)) (hk : l1.ks = []) (hbb : f.n.A = some bb)
    (hgn : gn ∉ (plug (f :: c0) l1).bl) (hgnt : gn ≠ tr) (hgb : base ≤ gn) (hgl : gn < wx.heap.size) (hbase : base ≤ wx.heap.size)
    (hnl : nl.g = l1.n.g ∧ nl.A = l1.n.A) (hnn : nn.g = gn ∧ nn.A = none)
    (hX : X = [.mk nl [], .mk nn []] ∨ X = [.mk nn [], .mk nl []])
    (hA' : A' = some bb ∨ ∃ b, A' = some b ∧ wx.heap.size ≤ b)
    (ho : Off [bb, f.n.g, l1.n.g, gn] wx w')
    (hf : At w' (upOf c0) { f.n with A := A', c := c' } (f.L ++ X ++ f.R)) (hl : At w' (some f.n.g) nl []) (hn : At w' (some f.n.g) nn []) :
    Tr base w' tr (plug c0 (.mk { f.n with A := A', c := c' } (f.L ++ X ++ f.R))) := by
  have h' : Tr base wx tr (plug c0 (.mk f.n (f.L ++ l1 :: f.R))) := h
  obtain ⟨nd, hin, hout⟩ := h'.apart
  have htr := h'.lt
  have hp := ((TP_plug (f :: c0) l1).1 h.p).1
  have hl1 : l1.bl = l1.n.g :: l1.n.A.toList := by cases l1 with | mk n ks => cases hk; rw [T.bl_mk, blL_nil, List.append_nil]; rfl
  have hbl : (T.mk f.n (f.L ++ l1 :: f.R)).bl = f.n.g :: bb :: (blL f.L ++ (l1.n.g :: l1.n.A.toList ++ blL f.R)) := by
    rw [T.bl_mk, hbb, blL_app, blL_cons, hl1]; rfl
  rw [hbl] at nd hin
  have hgn2 : gn ∉ cbl c0 ∧ gn ∉ f.n.g :: bb :: (blL f.L ++ (l1.n.g :: l1.n.A.toList ++ blL f.R)) := by
    have hm := (perm_plug c0 (.mk f.n (f.L ++ l1 :: f.R))).mem_iff (a := gn)
    rw [hbl] at hm
    constructor
    · intro hc; exact hgn (hm.2 (by simp [hc]))
    · intro hc; exact hgn (hm.2 (List.mem_append_right _ hc))
  have hXb : (blL X).Perm (gn :: (l1.n.g :: l1.n.A.toList)) := by
    rcases hX with rfl | rfl
    · simp only [blL_cons, blL_nil, T.bl_mk, hnl.1, hnl.2, hnn.1, hnn.2, Option.toList_none, List.append_nil, List.nil_append]
      exact List.perm_append_comm
    · simp only [blL_cons, blL_nil, T.bl_mk, hnl.1, hnl.2, hnn.1, hnn.2, Option.toList_none, List.append_nil, List.nil_append]
      exact List.Perm.refl _
  obtain ⟨a1, rfl, ha1⟩ : ∃ a1, A' = some a1 ∧ (a1 = bb ∨ wx.heap.size ≤ a1) := by
    rcases hA' with rfl | ⟨b, rfl, hb⟩
    · exact ⟨_, rfl, .inl rfl⟩
    · exact ⟨_, rfl, .inr hb⟩
  obtain ⟨L, hL⟩ : ∃ L, L = blL f.L := ⟨_, rfl⟩
  obtain ⟨R, hR⟩ : ∃ R, R = blL f.R := ⟨_, rfl⟩
  obtain ⟨Q, hQ⟩ : ∃ Q, Q = l1.n.g :: l1.n.A.toList := ⟨_, rfl⟩
  have hQg : l1.n.g ∈ Q := by simp [hQ]
  rw [← hQ] at hXb hgn2 nd hin
  rw [← hL, ← hR] at hgn2 nd hin
  have hbl' : (T.mk { f.n with A := some a1, c := c' } (f.L ++ X ++ f.R)).bl.Perm (gn :: a1 :: f.n.g :: (L ++ (Q ++ R))) := by
    rw [T.bl_mk, blL_app, blL_app, ← hL, ← hR]
    refine List.perm_iff_count.2 fun a => ?_
    have := List.perm_iff_count.1 hXb a
    simp only [Option.toList_some, List.count_append, List.count_cons, List.count_nil] at this ⊢
    omega
  have hnd2 : (gn :: a1 :: f.n.g :: (L ++ (Q ++ R))).Nodup := by
    obtain ⟨m1, m2⟩ := List.nodup_cons.1 nd
    obtain ⟨m3, m4⟩ := List.nodup_cons.1 m2
    have hsub : ∀ x ∈ f.n.g :: (L ++ (Q ++ R)), x ∈ f.n.g :: bb :: (L ++ (Q ++ R)) := fun x hx => by
      rcases List.mem_cons.1 hx with rfl | hx
      · simp
      · exact List.mem_cons_of_mem _ (List.mem_cons_of_mem _ hx)
    have h3 : (f.n.g :: (L ++ (Q ++ R))).Nodup := List.nodup_cons.2 ⟨fun hx => m1 (List.mem_cons_of_mem _ hx), m4⟩
    have h4 : a1 ∉ f.n.g :: (L ++ (Q ++ R)) := by
      intro hx
      rcases ha1 with rfl | h
      · rcases List.mem_cons.1 hx with e | hx
        · exact m1 (by rw [← e]; simp)
        · exact m3 hx
      · have := (hin _ (hsub _ hx)).2.2.2; omega
    refine List.nodup_cons.2 ⟨?_, List.nodup_cons.2 ⟨h4, h3⟩⟩
    intro hx
    rcases List.mem_cons.1 hx with e | hx
    · rcases ha1 with rfl | h
      · exact hgn2.2 (by rw [e]; simp)
      · omega
    · exact hgn2.2 (hsub _ hx)
  have hsep : ∀ x, x ∈ L ∨ x ∈ R → x ∉ [bb, f.n.g, l1.n.g, gn] := by
    obtain ⟨m1, m2⟩ := List.nodup_cons.1 nd
    obtain ⟨m3, m4⟩ := List.nodup_cons.1 m2
    obtain ⟨k1, k2, k3⟩ := List.nodup_append.1 m4
    obtain ⟨k4, k5, k6⟩ := List.nodup_append.1 k2
    intro x hx
    have hx2 : x ∈ L ++ (Q ++ R) := by rcases hx with h | h <;> simp [h]
    simp only [List.mem_cons, List.not_mem_nil, or_false, not_or]
    refine ⟨?_, ?_, ?_, ?_⟩
    · rintro rfl; exact m3 hx2
    · rintro rfl; exact m1 (List.mem_cons_of_mem _ hx2)
    · rintro rfl
      rcases hx with h | h
      · exact k3 _ h _ (List.mem_append_left _ hQg) rfl
      · exact k6 _ hQg _ h rfl
    · rintro rfl; exact hgn2.2 (List.mem_cons_of_mem _ (List.mem_cons_of_mem _ hx2))
  have hSin : ∀ b ∈ [bb, f.n.g, l1.n.g, gn], b ∉ cbl c0 ∧ b ≠ tr := by
    intro b hb
    simp only [List.mem_cons, List.not_mem_nil, or_false] at hb
    rcases hb with rfl | rfl | rfl | rfl
    · have := hin b (by simp); exact ⟨this.1, this.2.1⟩
    · have := hin f.n.g (by simp); exact ⟨this.1, this.2.1⟩
    · have := hin l1.n.g (by simp [hQg]); exact ⟨this.1, this.2.1⟩
    · exact ⟨hgn2.1, hgnt⟩
  refine Tr.focus2 h' ho hSin (.mk hf ?_) rfl (hbl'.nodup_iff.2 hnd2) ?_
  · rw [TPs_app, TPs_app]
    refine ⟨⟨hp.2.1.off ho fun x hx => hsep x (.inl (hL ▸ hx)), ?_⟩, hp.2.2.1.off ho fun x hx => hsep x (.inr (hR ▸ hx))⟩
    have e1 : TP w' (some f.n.g) (.mk nl []) := .mk hl (by rw [TPs]; trivial)
    have e2 : TP w' (some f.n.g) (.mk nn []) := .mk hn (by rw [TPs]; trivial)
    rcases hX with rfl | rfl
    · rw [TPs, TPs, TPs]; exact ⟨e1, e2, trivial⟩
    · rw [TPs, TPs, TPs]; exact ⟨e2, e1, trivial⟩
  · intro b hb
    have hb := hbl'.mem_iff.1 hb
    rcases List.mem_cons.1 hb with rfl | hb
    · exact ⟨hgn2.1, hgnt, hgb⟩
    · rcases List.mem_cons.1 hb with rfl | hb
      · rcases ha1 with rfl | h
        · have := hin b (by simp); exact ⟨this.1, this.2.1, this.2.2.1⟩
        · refine ⟨fun hc => ?_, by omega, by omega⟩
          have := (hout _ hc).1; omega
      · have := hin b (by
          rcases List.mem_cons.1 hb with rfl | hx
          · simp
          · exact List.mem_cons_of_mem _ (List.mem_cons_of_mem _ hx))
        exact ⟨this.1, this.2.1, this.2.2.1⟩
theorem insert_any (base : Nat) (b n c i vb g : Nat) (l : List T) (w : World) (hn : n = l.length) (hb : n ≤ 100000) (hi : i ≤ n) (hbase : base ≤ w.heap.size) (hO : w.ownsRow base 55 1 (.slice (some ⟨b, 0, none⟩) n c) n (ptrs l))
    (hv : w.heap[vb]? = some (.cells #[ptr g] 55 (0, 0))) (hvb : vb ≠ b) :
    Calls Tryd.prog 35 #[.slice (some ⟨b, 0, none⟩) n c, .int .i64 i, .slice (some ⟨vb, 0, none⟩) 1 1] w (InsPost base w (some b) l i g) := by
  by_cases h : i = n
  · subst h; exact insert_end base b i c vb g l w hn hb hbase hO hv
  · by_cases h2 : n + 1 ≤ c
    · exact insert_shift base b n c i vb g l w hn (by omega) h2 hO hv hvb
    · exact insert_grow base b n c i vb g l w hn hb (by omega) (by omega) hbase hO hv
theorem nds_ctx : ∀ c : List Fr, ∃ A : List Nd, ∀ (t : T) (m : Nd), m ∈ (plug c t).nds ↔ m ∈ A ∨ m ∈ t.nds
  | [] => ⟨[], fun t m => by simp [plug]⟩
  | f :: c => by
    obtain ⟨A, h⟩ := nds_ctx c
    refine ⟨A ++ (f.n :: (ndsL f.L ++ ndsL f.R)), fun t m => ?_⟩
    rw [plug, h, T.nds_mk, ndsL_app, ndsL_cons]
    simp only [List.mem_append, List.mem_cons]
    constructor
    · rintro (h | h | h | h | h) <;> simp [h]
    · rintro ((h | h | h | h) | h) <;> simp [h]
theorem Tr.placed {base tr : Nat} {w w' : World} {t : T} (h : Tr base w tr t) (hp : TP w' none (t.place 0 0)) (ho : Off t.bl w w') : Tr base w' tr (t.place 0 0) :=
  ⟨by rw [T.place_g, ho.block tr h.lt h.nt]; exact h.h, hp, by rw [T.place_bl]; exact h.nd, by rw [T.place_bl]; exact h.nt, by rw [T.place_bl]; exact h.lo⟩
/-- What Split leaves. -/
def SplitS (base tr : Nat) (w : World) (c : List Fr) (l : T) (way other a' b' na nb : Int) (before : Bool) (e : Ending) (w' : World) : Prop :=
  ∃ (f : Fr) (c0 : List Fr) (f' l' n' : Nd), e = .returned (.int .i64 0) ∧ Tr base w' tr ((plug c0 (.mk f' (f.L ++ (if before = true then [.mk n' [], .mk l' []] else [.mk l' [], .mk n' []]) ++ f.R))).place 0 0) ∧ Below base w w' ∧
    (f'.p = f.n.p ∧ f'.a = f.n.a ∧ f'.b = f.n.b ∧ f'.way = f.n.way) ∧ f.n.way = way ∧ (l'.p = l.n.p ∧ l'.a = a' ∧ l'.b = b' ∧ (l'.way = l.n.way ∨ l'.way = 0)) ∧ (n'.p = other ∧ n'.a = na ∧ n'.b = nb ∧ n'.way = 0) ∧
    (c = f :: c0 ∨ ((∀ g d, c = g :: d → g.n.way ≠ way) ∧ c0 = c ∧ f.L = [] ∧ f.R = [] ∧ f.n.a = l.n.a ∧ f.n.b = l.n.b ∧ f.n.p = 0))
/-- Behind the first half: the pane stands in a split of the way; the new node stands by itself. -/
structure MidS (base tr : Nat) (w : World) (c : List Fr) (l : T) (way : Int) (gn : Nat) (nc : Array Value) (wx : World) (f : Fr) (c0 : List Fr) (l1 : T) : Prop where
  t : Tr base wx tr (plug (f :: c0) l1)
  fw : f.n.way = way
  lk : l1.ks = []
  lp : l1.n.p = l.n.p
  la : l1.n.a = l.n.a
  lb : l1.n.b = l.n.b
  lw : l1.n.way = l.n.way ∨ l1.n.way = 0
  nb : wx.heap[gn]? = some (.cells nc 58 (0, 0))
  gl : w.heap.size ≤ gn
  nt : gn ∉ (plug (f :: c0) l1).bl
  o : Off (tr :: (plug c l).bl) w wx
  hw : w.heap.size ≤ wx.heap.size
  from_ : (c = f :: c0 ∧ l1 = l) ∨ ((∀ g d, c = g :: d → g.n.way ≠ way) ∧ c0 = c ∧ f.L = [] ∧ f.R = [] ∧ f.n.a = l.n.a ∧ f.n.b = l.n.b ∧ f.n.p = 0)
end Go.Proofs.YtcklmkjlbpjojaaDoor
