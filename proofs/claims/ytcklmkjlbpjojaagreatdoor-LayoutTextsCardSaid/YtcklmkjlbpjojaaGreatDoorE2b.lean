/- Layout: Split. Layout: what Split leaves in memory. No walk. Layout: a kid's slot turned; a tree apart from what was turned. No walk. -/
import Derived.Test.YtcklmkjlbpjojaaGreatDoorC4
import Derived.Test.YtcklmkjlbpjojaaGreatDoorD3
import Derived.Test.YtcklmkjlbpjojaaGreatDoorD6
import Derived.Deep.DeepCutAuto
import Derived.Deep.CutBlock
namespace Go.Proofs.YtcklmkjlbpjojaaGreatDoor
open Go.RowKit
set_option linter.unusedSimpArgs false
set_option linter.unusedVariables false

/-- A split's refusals. -/
def splitErr (t : T) (other size : Int) (l : Option T) (z : T → Int) : Option Int :=
  match l with
  | none => some 8
  | some l =>
    if other < 1 ∨ (t.find other).isSome = true ∨ size < 0 then some 1
    else if 32 ≤ t.leaves.length then some 3
    else if z l < 3 ∨ z l - 2 < size then some 5
    else none
theorem find_mem {t s : T} {p : Int} (h : t.find p = some s) : s ∈ t.leaves ∧ s.n.p = p := by
  unfold T.find at h
  exact ⟨List.mem_of_find?_eq_some h, by simpa using List.find?_some h⟩

set_option maxHeartbeats 4000000 in
set_option maxRecDepth 100000 in
theorem split_no (base tr : Nat) (t : T) (pane other size err : Int) (beside before : Bool) (w : World) (hT : Tr base w tr t) (hl : t.leaves.length ≤ 100000) (hs1 : -9223372036854775808 ≤ size) (hs2 : size ≤ 9223372036854775807)
    (hz : ∀ s ∈ t.leaves, 0 ≤ s.n.a ∧ s.n.a ≤ 1000 ∧ 0 ≤ s.n.b ∧ s.n.b ≤ 1000)
    (he : splitErr t other size (t.find pane) (fun s => if beside then s.n.a else s.n.b) = some err) :
    Calls Tryz.prog 9 #[ptr tr, .int .i64 pane, .int .i64 other, .bool beside, .int .i64 size, .bool before] w fun e w' => e = .returned (.int .i64 err) ∧ w.grownBy w' none := by
  have CL := Lib.hid (leaf_any base tr t pane w hT hl)
  have CW := Lib.hid (fun W => wayOf_any beside W)
  have CH := Lib.hid (fun W (hg : w.grownBy W none) => has_any base tr t other W (hT.grown hg) hl)
  have CA := Lib.hid (fun W (hg : w.grownBy W none) => all_any base tr t W (hT.grown hg) hl)
  cases hf : t.find pane with
  | none =>
    rw [hf] at he CL
    simp only [splitErr, Option.some.injEq] at he
    subst he
    simp only [Option.map_none, uptr] at CL
    replace hT := Lib.hid hT; replace hf := Lib.hid hf; replace hz := Lib.hid hz
    unfold ptr at *
    go_enter Tryz.func9, Tryz.ntmps9
    go_wp2_with fail
    refine CL.out.mono ?_
    rintro e w1 ⟨rfl, G1⟩
    clear CL
    obtain ⟨wy, hwy⟩ : ∃ wy : Int, wy = (if beside = true then 0 else 1) := ⟨_, rfl⟩
    rw [← hwy] at CW
    replace hwy := Lib.hid hwy
    go_wp2_with fail
    refine (CW.out _).mono ?_
    rintro e w2 ⟨rfl, rfl⟩
    clear CW
    go_wp2_with fail
    go_ret
    exact ⟨rfl, G1⟩
  | some l =>
    rw [hf] at he CL
    obtain ⟨hlm, _⟩ := find_mem hf
    obtain ⟨up', hlT, _, _⟩ := mem_leaves t w none hT.p l hlm
    have hlA : At w up' l.n l.ks := by cases l; exact hlT.at_
    obtain ⟨za0, za1, zb0, zb1⟩ := hz l hlm
    simp only [splitErr] at he
    simp only [Option.map_some, uptr] at CL
    obtain ⟨len, hln⟩ : ∃ len, len = t.leaves.length := ⟨_, rfl⟩
    obtain ⟨so, hso⟩ : ∃ so, so = (t.find other).isSome := ⟨_, rfl⟩
    rw [← hln] at he CA
    rw [← hso] at he CH
    have hl2 : len ≤ 100000 := by omega
    cases beside
    · have CW' : Hid (∀ W, Calls Tryz.prog 25 #[.bool false] W fun e w' => e = .returned (.int .i64 1) ∧ W = w') := CW
      have qz := hlA.c4
      rw [show l.n.g = l.g from rfl] at qz
      have hz0 : 0 ≤ l.n.b ∧ l.n.b ≤ 1000 := by omega
      simp only [if_true, Bool.false_eq_true, if_false] at he
      generalize l.n.b = z at *
      clear za0 za1 zb0 zb1 CW
      obtain ⟨z0, z1⟩ := hz0
      replace hT := Lib.hid hT; replace hf := Lib.hid hf; replace hlT := Lib.hid hlT; replace hlA := Lib.hid hlA; replace hz := Lib.hid hz; replace hln := Lib.hid hln; replace hso := Lib.hid hso; replace hlm := Lib.hid hlm
      unfold ptr at *
      by_cases c1 : other < 1
      · rw [if_pos (.inl c1)] at he
        injection he with he
        subst he
        go_enter Tryz.func9, Tryz.ntmps9
        go_wp2_with fail
        refine CL.out.mono ?_
        rintro e w1 ⟨rfl, G1⟩
        go_wp2_with fail
        refine (CW'.out _).mono ?_
        rintro e w2 ⟨rfl, rfl⟩
        go_wp2_with fail
        go_ret
        exact ⟨rfl, G1⟩
      · cases so with
        | true =>
          rw [if_pos (.inr (.inl rfl))] at he
          injection he with he
          subst he
          go_enter Tryz.func9, Tryz.ntmps9
          go_wp2_with fail
          refine CL.out.mono ?_
          rintro e w1 ⟨rfl, G1⟩
          replace G1 := Lib.hid G1
          go_wp2_with fail
          refine (CW'.out _).mono ?_
          rintro e w2 ⟨rfl, rfl⟩
          go_wp2_with fail
          refine (CH.out _ G1.out).mono ?_
          rintro e w2 ⟨rfl, G2⟩
          replace G2 := Lib.hid G2
          go_wp2_with fail
          go_ret
          exact ⟨rfl, G1.out.trans G2.out⟩
        | false =>
          by_cases c2 : size < 0
          · rw [if_pos (.inr (.inr c2))] at he
            injection he with he
            subst he
            go_enter Tryz.func9, Tryz.ntmps9
            go_wp2_with fail
            refine CL.out.mono ?_
            rintro e w1 ⟨rfl, G1⟩
            replace G1 := Lib.hid G1
            go_wp2_with fail
            refine (CW'.out _).mono ?_
            rintro e w2 ⟨rfl, rfl⟩
            go_wp2_with fail
            refine (CH.out _ G1.out).mono ?_
            rintro e w2 ⟨rfl, G2⟩
            replace G2 := Lib.hid G2
            go_wp2_with fail
            go_ret
            exact ⟨rfl, G1.out.trans G2.out⟩
          · rw [if_neg (by simp; omega)] at he
            go_enter Tryz.func9, Tryz.ntmps9
            go_wp2_with fail
            refine CL.out.mono ?_
            rintro e w1 ⟨rfl, G1⟩
            replace G1 := Lib.hid G1
            go_wp2_with fail
            refine (CW'.out _).mono ?_
            rintro e w2 ⟨rfl, rfl⟩
            go_wp2_with fail
            refine (CH.out _ G1.out).mono ?_
            rintro e w3 ⟨rfl, G2⟩
            have G12 := G1.out.trans G2
            replace G2 := Lib.hid G2; replace G12 := Lib.hid G12
            go_wp2_with fail
            refine (CA.out _ G12.out).mono ?_
            rintro e w4 ⟨A4, c4, rfl, O4, G3⟩
            have G13 := G12.out.trans G3
            have qz' := G13.cell qz (by simp)
            replace G3 := Lib.hid G3; replace G13 := Lib.hid G13; replace O4 := Lib.hid O4
            clear CL CW' CH CA qz
            by_cases c3 : 32 ≤ len
            · rw [if_pos c3] at he
              injection he with he
              subst he
              have c3' : (32 : Int) ≤ len := by omega
              go_wp2_with fail
              go_ret
              exact ⟨rfl, G13.out⟩
            · rw [if_neg c3] at he
              have c3' : ¬ (32 : Int) ≤ len := by omega
              have hw : IntKind.i64.wrap (z - 2) = z - 2 := by rw [IntKind.wrap_i64]; omega
              by_cases c4 : z < 3 ∨ z - 2 < size
              · rw [if_pos c4] at he
                injection he with he
                subst he
                by_cases c5 : z < 3
                · go_wp2_with fail
                  go_ret
                  exact ⟨rfl, G13.out⟩
                · have c6 : z - 2 < size := by omega
                  replace c4 := Lib.hid c4
                  go_wp2_with fail
                  go_ret
                  exact ⟨rfl, G13.out⟩
              · rw [if_neg c4] at he
                cases he
    · have CW' : Hid (∀ W, Calls Tryz.prog 25 #[.bool true] W fun e w' => e = .returned (.int .i64 0) ∧ W = w') := CW
      have qz := hlA.c3
      rw [show l.n.g = l.g from rfl] at qz
      have hz0 : 0 ≤ l.n.a ∧ l.n.a ≤ 1000 := by omega
      simp only [if_true, Bool.false_eq_true, if_false] at he
      generalize l.n.a = z at *
      clear za0 za1 zb0 zb1 CW
      obtain ⟨z0, z1⟩ := hz0
      replace hT := Lib.hid hT; replace hf := Lib.hid hf; replace hlT := Lib.hid hlT; replace hlA := Lib.hid hlA; replace hz := Lib.hid hz; replace hln := Lib.hid hln; replace hso := Lib.hid hso; replace hlm := Lib.hid hlm
      unfold ptr at *
      by_cases c1 : other < 1
      · rw [if_pos (.inl c1)] at he
        injection he with he
        subst he
        go_enter Tryz.func9, Tryz.ntmps9
        go_wp2_with fail
        refine CL.out.mono ?_
        rintro e w1 ⟨rfl, G1⟩
        go_wp2_with fail
        refine (CW'.out _).mono ?_
        rintro e w2 ⟨rfl, rfl⟩
        go_wp2_with fail
        go_ret
        exact ⟨rfl, G1⟩
      · cases so with
        | true =>
          rw [if_pos (.inr (.inl rfl))] at he
          injection he with he
          subst he
          go_enter Tryz.func9, Tryz.ntmps9
          go_wp2_with fail
          refine CL.out.mono ?_
          rintro e w1 ⟨rfl, G1⟩
          replace G1 := Lib.hid G1
          go_wp2_with fail
          refine (CW'.out _).mono ?_
          rintro e w2 ⟨rfl, rfl⟩
          go_wp2_with fail
          refine (CH.out _ G1.out).mono ?_
          rintro e w2 ⟨rfl, G2⟩
          replace G2 := Lib.hid G2
          go_wp2_with fail
          go_ret
          exact ⟨rfl, G1.out.trans G2.out⟩
        | false =>
          by_cases c2 : size < 0
          · rw [if_pos (.inr (.inr c2))] at he
            injection he with he
            subst he
            go_enter Tryz.func9, Tryz.ntmps9
            go_wp2_with fail
            refine CL.out.mono ?_
            rintro e w1 ⟨rfl, G1⟩
            replace G1 := Lib.hid G1
            go_wp2_with fail
            refine (CW'.out _).mono ?_
            rintro e w2 ⟨rfl, rfl⟩
            go_wp2_with fail
            refine (CH.out _ G1.out).mono ?_
            rintro e w2 ⟨rfl, G2⟩
            replace G2 := Lib.hid G2
            go_wp2_with fail
            go_ret
            exact ⟨rfl, G1.out.trans G2.out⟩
          · rw [if_neg (by simp; omega)] at he
            go_enter Tryz.func9, Tryz.ntmps9
            go_wp2_with fail
            refine CL.out.mono ?_
            rintro e w1 ⟨rfl, G1⟩
            replace G1 := Lib.hid G1
            go_wp2_with fail
            refine (CW'.out _).mono ?_
            rintro e w2 ⟨rfl, rfl⟩
            go_wp2_with fail
            refine (CH.out _ G1.out).mono ?_
            rintro e w3 ⟨rfl, G2⟩
            have G12 := G1.out.trans G2
            replace G2 := Lib.hid G2; replace G12 := Lib.hid G12
            go_wp2_with fail
            refine (CA.out _ G12.out).mono ?_
            rintro e w4 ⟨A4, c4, rfl, O4, G3⟩
            have G13 := G12.out.trans G3
            have qz' := G13.cell qz (by simp)
            replace G3 := Lib.hid G3; replace G13 := Lib.hid G13; replace O4 := Lib.hid O4
            clear CL CW' CH CA qz
            by_cases c3 : 32 ≤ len
            · rw [if_pos c3] at he
              injection he with he
              subst he
              have c3' : (32 : Int) ≤ len := by omega
              go_wp2_with fail
              go_ret
              exact ⟨rfl, G13.out⟩
            · rw [if_neg c3] at he
              have c3' : ¬ (32 : Int) ≤ len := by omega
              have hw : IntKind.i64.wrap (z - 2) = z - 2 := by rw [IntKind.wrap_i64]; omega
              by_cases c4 : z < 3 ∨ z - 2 < size
              · rw [if_pos c4] at he
                injection he with he
                subst he
                by_cases c5 : z < 3
                · go_wp2_with fail
                  go_ret
                  exact ⟨rfl, G13.out⟩
                · have c6 : z - 2 < size := by omega
                  replace c4 := Lib.hid c4
                  go_wp2_with fail
                  go_ret
                  exact ⟨rfl, G13.out⟩
              · rw [if_neg c4] at he
                cases he
end Go.Proofs.YtcklmkjlbpjojaaGreatDoor
namespace Go.Proofs.YtcklmkjlbpjojaaGreatDoor
open Go.RowKit
set_option linter.unusedSimpArgs false
set_option linter.unusedVariables false

/-- A split with one pane in it. -/
def wrapT (s A gi : Nat) (p a b way : Int) : T := .mk ⟨s, some A, 1, 0, 0, 0, a, b, way⟩ [.mk ⟨gi, none, 0, p, 0, 0, a, b, 0⟩ []]
theorem wrapT_bl (s A gi : Nat) (p a b way : Int) : (wrapT s A gi p a b way).bl = [s, A, gi] := by simp [wrapT, T.bl_mk, blL_cons, blL_nil]
theorem tp_wrap {w : World} {up : Option Nat} {s A gi : Nat} {p a b way : Int} (hs : w.heap[s]? = some (.cells (nodeC 0 0 0 a b way (.slice (some ⟨A, 0, none⟩) 1 1) (uptr up)) 66 (0, 0)))
    (hi : w.heap[gi]? = some (.cells (nodeC p 0 0 a b 0 (.slice none 0 0) (ptr s)) 66 (0, 0))) (hA : w.heap[A]? = some (.cells #[ptr gi] 58 (0, 0))) : TP w up (wrapT s A gi p a b way) := by
  refine .mk ⟨hs, ?_⟩ ?_
  · exact ⟨by simp [ptrs], .inr ⟨A, 1, #[ptr gi], rfl, Nat.zero_le _, hA, Nat.le_refl _, by decide, rfl, rfl⟩⟩
  · rw [TPs, TPs]
    exact ⟨.mk ⟨hi, World.ownsRow_nil _ _ _ _⟩ (by rw [TPs]; trivial), trivial⟩
theorem wrap_root {base tr : Nat} {w w' : World} {t : T} {s A gi : Nat} {p a b way : Int} (h : Tr base w tr t) (hbase : base ≤ w.heap.size)
    (hs : w'.heap[s]? = some (.cells (nodeC 0 0 0 a b way (.slice (some ⟨A, 0, none⟩) 1 1) (.pointer none)) 66 (0, 0)))
    (hi : w'.heap[gi]? = some (.cells (nodeC p 0 0 a b 0 (.slice none 0 0) (ptr s)) 66 (0, 0))) (hA : w'.heap[A]? = some (.cells #[ptr gi] 58 (0, 0)))
    (ht : w'.heap[tr]? = some (.cells #[ptr s] 73 (0, 0))) (n1 : w.heap.size ≤ s) (n2 : w.heap.size ≤ gi) (n3 : w.heap.size ≤ A) (d1 : s ≠ A) (d2 : s ≠ gi) (d3 : A ≠ gi) : Tr base w' tr (wrapT s A gi p a b way) := by
  have htl := h.lt
  refine ⟨ht, tp_wrap (up := none) hs hi hA, ?_, ?_, h.lo.1, ?_⟩
  · rw [wrapT_bl]; simp [d1, d2, d3]
  · rw [wrapT_bl]; simp; omega
  · rw [wrapT_bl]; simp; omega
theorem wrap_in {base tr : Nat} {w w' : World} {f : Fr} {c : List Fr} {l : T} {s A gi bb : Nat} {p a b way : Int} (h : Tr base w tr (plug (f :: c) l)) (hbase : base ≤ w.heap.size) (hbb : f.n.A = some bb)
    (hs : w'.heap[s]? = some (.cells (nodeC 0 0 0 a b way (.slice (some ⟨A, 0, none⟩) 1 1) (ptr f.n.g)) 66 (0, 0)))
    (hi : w'.heap[gi]? = some (.cells (nodeC p 0 0 a b 0 (.slice none 0 0) (ptr s)) 66 (0, 0))) (hA : w'.heap[A]? = some (.cells #[ptr gi] 58 (0, 0)))
    (hAt : At w' (upOf c) f.n (f.L ++ wrapT s A gi p a b way :: f.R)) (ho : Off [bb] w w')
    (n1 : w.heap.size ≤ s) (n2 : w.heap.size ≤ gi) (n3 : w.heap.size ≤ A) (d1 : s ≠ A) (d2 : s ≠ gi) (d3 : A ≠ gi) : Tr base w' tr (plug (f :: c) (wrapT s A gi p a b way)) := by
  have hp := (TP_plug (f :: c) l).1 h.p
  obtain ⟨⟨hA0, hL, hR, hC⟩, hl⟩ := hp
  have h' : Tr base w tr (plug c (.mk f.n (f.L ++ l :: f.R))) := h
  have hnd := (perm_plug c (.mk f.n (f.L ++ l :: f.R))).nodup_iff.1 h'.nd
  have hnd2 := (List.nodup_append.1 hnd).2.1
  have hblm : (T.mk f.n (f.L ++ l :: f.R)).bl = f.n.g :: (bb :: (blL f.L ++ (l.bl ++ blL f.R))) := by
    rw [T.bl_mk, hbb, blL_app, blL_cons]; rfl
  rw [hblm] at hnd2
  have hmem : ∀ x ∈ f.n.g :: (bb :: (blL f.L ++ (l.bl ++ blL f.R))), x < w.heap.size := fun x hx => h'.p.lt _ _ x ((perm_plug c _).mem_iff.2 (by rw [hblm]; exact List.mem_append_right _ hx))
  obtain ⟨m1, m2⟩ := List.nodup_cons.1 hnd2
  obtain ⟨m3, m4⟩ := List.nodup_cons.1 m2
  refine Tr.focus (c := c) (t := .mk f.n (f.L ++ l :: f.R)) (t' := .mk f.n (f.L ++ wrapT s A gi p a b way :: f.R)) (S := [bb]) h' ho ?_ ?_ rfl ?_ ?_ hbase
  · intro x hx
    simp only [List.mem_singleton] at hx
    subst hx
    exact .inl (by rw [hblm]; simp)
  · refine .mk hAt ?_
    rw [TPs_app, TPs]
    refine ⟨hL.off ho fun x hx => ?_, tp_wrap (up := some f.n.g) hs hi hA, hR.off ho fun x hx => ?_⟩
    · simp only [List.mem_singleton]; rintro rfl; exact m3 (by simp [hx])
    · simp only [List.mem_singleton]; rintro rfl; exact m3 (by simp [hx])
  · rw [T.bl_mk, hbb, blL_app, blL_cons, wrapT_bl]
    obtain ⟨k1, k2, k3⟩ := List.nodup_append.1 m4
    obtain ⟨k4, k5, k6⟩ := List.nodup_append.1 k2
    have hLlt : ∀ x ∈ blL f.L, x < w.heap.size := fun x hx => hmem x (by simp [hx])
    have hRlt : ∀ x ∈ blL f.R, x < w.heap.size := fun x hx => hmem x (by simp [hx])
    have hglt := hmem f.n.g (by simp)
    have hblt := hmem bb (by simp)
    have hLR : ∀ x ∈ blL f.L, x ∉ blL f.R := fun x hx hr => k3 x hx x (by simp [hr]) rfl
    have hgm : f.n.g ≠ bb ∧ f.n.g ∉ blL f.L ∧ f.n.g ∉ blL f.R := ⟨fun e => m1 (by simp [e]), fun e => m1 (by simp [e]), fun e => m1 (by simp [e])⟩
    have hbm : bb ∉ blL f.L ∧ bb ∉ blL f.R := ⟨fun e => m3 (by simp [e]), fun e => m3 (by simp [e])⟩
    show (f.n.g :: bb :: (blL f.L ++ ([s, A, gi] ++ blL f.R))).Nodup
    refine List.nodup_cons.2 ⟨?_, List.nodup_cons.2 ⟨?_, List.nodup_append.2 ⟨k1, ?_, ?_⟩⟩⟩
    · rw [List.mem_cons]
      simp only [List.mem_append, List.mem_cons, List.not_mem_nil, or_false, not_or]
      exact ⟨hgm.1, hgm.2.1, ⟨by omega, by omega, by omega⟩, hgm.2.2⟩
    · simp only [List.mem_append, List.mem_cons, List.not_mem_nil, or_false, not_or]
      exact ⟨hbm.1, ⟨by omega, by omega, by omega⟩, hbm.2⟩
    · refine List.nodup_append.2 ⟨by simp [d1, d2, d3], k5, ?_⟩
      rintro x hx y hy rfl
      have := hRlt x hy
      simp only [List.mem_cons, List.not_mem_nil, or_false] at hx
      omega
    · rintro x hx y hy rfl
      have := hLlt x hx
      simp only [List.mem_append, List.mem_cons, List.not_mem_nil, or_false] at hy
      rcases hy with hy | hy
      · omega
      · exact hLR x hx hy
  · intro x hx
    rw [T.bl_mk, hbb, blL_app, blL_cons, wrapT_bl] at hx
    rw [hblm]
    simp only [List.mem_cons, List.mem_append, Option.toList_some, List.not_mem_nil, or_false] at hx ⊢
    rcases hx with h | h | h | (h | h | h) | h
    · exact .inl (.inl h)
    · exact .inl (.inr (.inl h))
    · exact .inl (.inr (.inr (.inl h)))
    · exact .inr (by omega)
    · exact .inr (by omega)
    · exact .inr (by omega)
    · exact .inl (.inr (.inr (.inr (.inr h))))
end Go.Proofs.YtcklmkjlbpjojaaGreatDoor
namespace Go.Proofs.YtcklmkjlbpjojaaGreatDoor
open Go.RowKit
set_option linter.unusedSimpArgs false
set_option linter.unusedVariables false

theorem Tr.off {base tr : Nat} {w w' : World} {t : T} {S : List Nat} (h : Tr base w tr t) (ho : Off S w w') (h1 : tr ∉ S) (h2 : ∀ b ∈ t.bl, b ∉ S) : Tr base w' tr t :=
  ⟨(ho.block tr h.lt h1).trans h.h, h.p.off ho h2, h.nd, h.nt, h.lo⟩
theorem At.slot {w : World} {up : Option Nat} {n : Nd} {L R : List T} {t t' : T} {b x : Nat} (h : At w up n (L ++ t :: R)) (hA : n.A = some b) (hb : b ≠ n.g) (ht : t'.g = x) :
    At (w.setCell ⟨b, L.length, none⟩ (ptr x)) up n (L ++ t' :: R) := by
  have hlen : (L ++ t' :: R).length = (L ++ t :: R).length := by simp
  refine ⟨?_, ?_⟩
  · rw [Below.heap_setCell _ _ _ _ (by exact fun e => hb e.symm), hlen]; exact h.h
  · rw [hlen]
    have hr := h.r
    refine ⟨by simp [ptrs], ?_⟩
    rcases hr.2 with ⟨h1, h2⟩ | ⟨g, cap, cur, h1, h2, h3, h4, h5, h6, h7⟩
    · simp at h2
    · have hgb : g = b := by
        unfold Nd.row adr at h1
        rw [hA] at h1
        injection h1 with h1
        injection h1 with h1; injection h1 with h1; exact h1.symm
      subst hgb
      refine .inr ⟨g, cap, _, h1, h2, heap_set h3 (ptr x), h4, h5, by simp [h6], ?_⟩
      rw [Array.toList_setIfInBounds, List.take_set, h7]
      simp [ptrs, ht]
theorem TP.isC {w : World} {up : Option Nat} {t : T} (h : TP w up t) : IsC w t.g := by
  cases t with | mk n ks => exact ⟨_, _, h.at_.h⟩
theorem g_sep {L R : List T} {t : T} (h : (blL (L ++ t :: R)).Nodup) : ∀ s ∈ L, s.g ≠ t.g := fun s hs e => by
  rw [blL_app, blL_cons] at h
  have h3 := (List.nodup_append.1 h).2.2
  exact h3 s.g (mem_blL.2 ⟨s, hs, s.g_mem⟩) t.g (by simp [t.g_mem]) e
end Go.Proofs.YtcklmkjlbpjojaaGreatDoor
