/- Layout: Resize of the lower one of two. -/
import Derived.Test.YtcklmkjlbpjojaaDoorG5
import Derived.Test.YtcklmkjlbpjojaaDoorG4
namespace Go.Proofs.YtcklmkjlbpjojaaDoor
open Go.RowKit
set_option linter.unusedSimpArgs false
set_option linter.unusedVariables false

set_option maxHeartbeats 1000000 in
set_option maxRecDepth 100000 in
theorem resize_two (base tr : Nat) (c0 : List Fr) (n a b : Nd) (pane : Int) (w : World) (hT : Tr base w tr (plug c0 (.mk n [.mk a [], .mk b []]))) (hbase : base ≤ w.heap.size) (hl : (plug c0 (.mk n [.mk a [], .mk b []])).leaves.length ≤ 100000)
    (hf : (plug c0 (.mk n [.mk a [], .mk b []])).find pane = some (.mk b [])) (hway : n.way = 1) (hz : 4 ≤ a.b ∧ a.b ≤ 1000)
    (hw01 : (plug c0 (.mk n [.mk (a.add 1 (-2)) [], .mk (b.add 1 2) []])).w01) :
    Calls Tryd.prog 18 #[ptr tr, .int .i64 pane, .int .u8 85, .int .i64 2] w fun e w' => e = .returned (.int .i64 0) ∧ Tr base w' tr ((plug c0 (.mk n [.mk (a.add 1 (-2)) [], .mk (b.add 1 2) []])).place 0 0) ∧ Below base w w' := by
  have CL := Lib.hid (leaf_any base tr _ pane w hT hl)
  rw [hf] at CL
  have CI : Hid (∀ W, Calls Tryd.prog 40 #[.string ⟨#[76, 82, 85, 68]⟩, .int .u8 85] W fun e w' => e = .returned (.int .i64 2) ∧ w' = W) := Lib.hid (fun W => ib_any 85 W (by omega) (by omega))
  simp only [Option.map_some, uptr] at CL
  replace CL : Hid (Calls Tryd.prog 29 #[ptr tr, .int .i64 pane] w fun e w' => e = .returned (ptr b.g) ∧ w.grownBy w' none) := CL
  replace hT := Lib.hid hT; replace hf := Lib.hid hf; replace hw01 := Lib.hid hw01
  unfold ptr at *
  go_enter Tryd.func18, Tryd.ntmps18
  go_wp2_with fail
  refine CL.out.mono ?_
  rintro e w1 ⟨rfl, G1⟩
  have hT1 := hT.out.grown G1
  have hp := (TP_plug c0 _).1 hT1.p
  have t1 := Two.of hp.2
  obtain ⟨nd, hin, hout⟩ := hT1.apart
  have ap := Two.ap nd
  have q7 : w1.cell? ⟨b.g, 7, none⟩ = some (.pointer (some ⟨n.g, 0, none⟩)) := t1.hb.c7
  have q5 := t1.hn.c5
  rw [hway] at q5
  obtain ⟨bb, hbb, hb0⟩ := t1.hn.kid (i := 0) (k := .mk a []) rfl
  obtain ⟨bb', hbb', hb1⟩ := t1.hn.kid (i := 1) (k := .mk b []) rfl
  have : bb' = bb := by rw [hbb] at hbb'; injection hbb' with e; exact e.symm
  subst this
  have hAr : adr n.A = some ⟨bb', 0, none⟩ := by rw [hbb]; rfl
  have c6 : w1.cell? ⟨n.g, 6, none⟩ = some (.slice (some ⟨bb', 0, none⟩) 2 n.c) := by have := t1.hn.c6; rw [hAr] at this; exact this
  have hrow : n.row 2 = .slice (some ⟨bb', 0, none⟩) 2 n.c := by unfold Nd.row; rw [hAr]
  have hO : w1.ownsRow 0 55 1 (.slice (some ⟨bb', 0, none⟩) 2 n.c) 2 (ptrs [.mk a [], .mk b []]) := by have := t1.hn.r; rw [show [T.mk a [], T.mk b []].length = 2 from rfl, hrow] at this; exact this
  have hR := own_Rd hO
  replace hb0 : w1.cell? ⟨bb', 0, none⟩ = some (ptr a.g) := hb0
  replace hb1 : w1.cell? ⟨bb', 1, none⟩ = some (ptr b.g) := hb1
  have hab : a.g ≠ b.g := (ap.ab a.g (by simp)).1
  have CX := index_any (some ⟨bb', 0, none⟩) 2 n.c b.g 1 [.mk a [], .mk b []] (.mk b []) w1 rfl (by omega) hR rfl rfl (by simp [T.g, T.n, hab]) (by
    intro s hs
    simp at hs
    rcases hs with rfl | rfl
    · exact ⟨_, _, t1.ha.h⟩
    · exact ⟨_, _, t1.hb.h⟩)
  have a4 : w1.cell? ⟨a.g, 4, none⟩ = some (.int .i64 a.b) := t1.ha.c4
  replace G1 := Lib.hid G1; replace hT1 := Lib.hid hT1; replace hp := Lib.hid hp; replace t1 := Lib.hid t1; replace nd := Lib.hid nd; replace hin := Lib.hid hin; replace hout := Lib.hid hout; replace ap := Lib.hid ap; replace hbb := Lib.hid hbb; replace hbb' := Lib.hid hbb'; replace hAr := Lib.hid hAr; replace hrow := Lib.hid hrow; replace hO := Lib.hid hO; replace hR := Lib.hid hR; replace CX := Lib.hid CX; replace hab := Lib.hid hab
  unfold ptr at hb0 hb1 CX
  clear CL
  go_wp2_with fail
  refine (CI.out _).mono ?_
  rintro e w2 ⟨rfl, rfl⟩
  go_wp2_with fail
  go_loopw [9] (fun lv wr => lv = .pointer (some ⟨b.g, 0, none⟩) ∧ wr = w2) (fun _ _ => 0)
  case atStart => exact ⟨rfl, rfl⟩
  case round =>
    obtain ⟨rfl, rfl⟩ := hrel
    go_wp2_with fail
    refine CX.out.mono ?_
    rintro e w3 ⟨rfl, rfl⟩
    have hmn : min (1 : Int) 0 = 0 := by decide
    have hmn2 : min (2 : Int) (a.b - 1) = 2 := by omega
    have hw1 : IntKind.i64.wrap (a.b - 1) = a.b - 1 := by rw [IntKind.wrap_i64]; omega
    go_upto_region 14 with fail
    go_quiet (fail)
    go_upto_region 15 with fail
    have d1 : Two (w3.drewN nq) (upOf c0) n a b := ⟨t1.out.hn.same fun _ _ => rfl, t1.out.ha.same fun _ _ => rfl, t1.out.hb.same fun _ _ => rfl⟩
    have dT : Tr base (w3.drewN nq) tr (plug c0 (.mk n [.mk a [], .mk b []])) := hT1.out.grown ⟨rfl, rfl, rfl, Nat.le_refl _, fun _ _ _ => rfl⟩
    have dG : w.grownBy (w3.drewN nq) none := ⟨G1.out.os, G1.out.tape, G1.out.output, G1.out.size, G1.out.block⟩
    generalize w3.drewN nq = w4 at *
    replace d1 := Lib.hid d1; replace dT := Lib.hid dT; replace dG := Lib.hid dG
    have a44 : w4.cell? ⟨a.g, 4, none⟩ = some (.int .i64 a.b) := d1.out.ha.c4
    have CLe := Lib.hid (fun W (hW : W.heap = w4.heap) => least_leaf (some n.g) a 1 W (d1.out.ha.same fun _ _ => by rw [hW]))
    unfold ptr at CLe
    clear a4 hb0 hb1 c6 q5 q7 CX CI
    go_upto_region 17 with fail
    go_quiet (refine Calls.quiet_of_same (CLe.out _ rfl))
    go_upto_region 18 with fail
    have dG' : w.grownBy (w4.drewN nq) none := ⟨dG.out.os, dG.out.tape, dG.out.output, dG.out.size, dG.out.block⟩
    have d2 : Two (w4.drewN nq) (upOf c0) n a b := ⟨d1.out.hn.same fun _ _ => rfl, d1.out.ha.same fun _ _ => rfl, d1.out.hb.same fun _ _ => rfl⟩
    have dT2 : Tr base (w4.drewN nq) tr (plug c0 (.mk n [.mk a [], .mk b []])) := dT.out.grown ⟨rfl, rfl, rfl, Nat.le_refl _, fun _ _ _ => rfl⟩
    clear CLe a44
    generalize w4.drewN nq = w5 at *
    replace d2 := Lib.hid d2; replace dT2 := Lib.hid dT2; replace dG' := Lib.hid dG'
    have CGb := Lib.hid (grow_leaf (some n.g) b 1 2 w5 d2.out.hb (.inr rfl) ap.out.bA (by omega))
    unfold ptr at CGb
    go_wp2_with fail
    refine CGb.out.mono ?_
    rintro e w6 ⟨rfl, hB6, o6⟩
    have d6 := d2.out.setB ap.out o6 hB6 (Nd.add_g b 1 2).1
    have ap6 : Two.Ap n a (b.add 1 2) := ⟨ap.out.nA, ap.out.aA, ap.out.bA, ap.out.na, ap.out.nb, ap.out.ab⟩
    have CGa := Lib.hid (grow_leaf (some n.g) a 1 (-2) w6 d6.ha (.inr rfl) ap.out.aA (by omega))
    unfold ptr at CGa
    replace hB6 := Lib.hid hB6; replace o6 := Lib.hid o6; replace d6 := Lib.hid d6; replace ap6 := Lib.hid ap6
    clear CGb
    go_wp2_with fail
    refine CGa.out.mono ?_
    rintro e w7 ⟨rfl, hA7, o7⟩
    have d7 := d6.out.setA ap6.out o7 hA7 (Nd.add_g a 1 (-2)).1
    have oo : Off [b.g, a.g] w5 w7 := (o6.out.sub (S' := [b.g, a.g]) (by simp)).trans o7 (by simp)
    have hbl : (T.mk n [.mk (a.add 1 (-2)) [], .mk (b.add 1 2) []]).bl = (T.mk n [.mk a [], .mk b []]).bl := by
      simp only [T.bl_mk, blL_cons, blL_nil, (Nd.add_g a 1 (-2)).1, (Nd.add_g a 1 (-2)).2.1, (Nd.add_g b 1 2).1, (Nd.add_g b 1 2).2.1]
    have hmem : ∀ x ∈ [b.g, a.g], x ∈ (T.mk n [.mk a [], .mk b []]).bl := by
      intro x hx
      rw [T.bl_mk, blL_cons, blL_cons, blL_nil, List.append_nil, bl_leaf, bl_leaf]
      simp only [List.mem_cons, List.not_mem_nil, or_false] at hx
      rcases hx with rfl | rfl <;> simp
    have hTr7 : Tr base w7 tr (plug c0 (.mk n [.mk (a.add 1 (-2)) [], .mk (b.add 1 2) []])) := by
      refine Tr.focus2 dT2.out oo (fun x hx => ⟨(hin.out x (hmem x hx)).1, (hin.out x (hmem x hx)).2.1⟩) d7.tp rfl (by rw [hbl]; exact nd.out) (fun x hx => ?_)
      rw [hbl] at hx
      exact ⟨(hin.out x hx).1, (hin.out x hx).2.1, (hin.out x hx).2.2.1⟩
    have bel7 : Below base w w7 := by
      have b1 : Below base w w5 := ⟨dG'.out.os, dG'.out.tape, dG'.out.output, dG'.out.size, fun k hk => dG'.out.block k (by omega) (by simp)⟩
      exact b1.trans (oo.below (fun x hx => (hin.out x (hmem x hx)).2.2.1) (by have := dG'.out.size; omega))
    obtain ⟨TF, hTF⟩ : ∃ TF, TF = plug c0 (.mk n [.mk (a.add 1 (-2)) [], .mk (b.add 1 2) []]) := ⟨_, rfl⟩
    have hw01' := hw01.out
    rw [← hTF] at hTr7 hw01'
    have q0 := hTr7.c0
    have CPl := Lib.hid (place_any TF none 0 0 w7 hTr7.p hTr7.nd hw01')
    unfold ptr at q0 CPl
    replace hTr7 := Lib.hid hTr7; replace bel7 := Lib.hid bel7; replace oo := Lib.hid oo; replace d7 := Lib.hid d7; replace o7 := Lib.hid o7; replace hA7 := Lib.hid hA7; replace hmem := Lib.hid hmem; replace hTF := Lib.hid hTF; replace hbl := Lib.hid hbl
    clear CGa
    go_wp2_with fail
    refine CPl.out.mono ?_
    rintro e w8 ⟨rfl, hT8, o8⟩
    go_wp2_with fail
    go_ret
    exact ⟨rfl, by have := hTr7.out.placed hT8 o8; rw [hTF.out] at this; exact this, bel7.out.trans (o8.below hTr7.out.lo.2 (by have := hTr7.out.lt; have := hTr7.out.lo.1; omega))⟩
end Go.Proofs.YtcklmkjlbpjojaaDoor
