/-
  FormatPlain, second form: the contract and the step.
-/
import Derived.Test.YtfhdfhlabkeipaaGreatDoorRows
import Derived.Test.YtfhdfhlabkeipaaGreatDoorV1
import Derived.Test.YtfhdfhlabkeipaaGreatDoorY5
import Derived.OpenShut
import Derived.ShutString
import Derived.ChangeOld
import Derived.Below
import Derived.SevenTiedAt
import Derived.ChangeSame
import Derived.ChangeVars
import Derived.JoinedOf
import Derived.JoinedCond
import Derived.Lib.SmallJoins
import Derived.Laws.Cover2
import Derived.Deep.DeepHandedRow
namespace Go.Proofs.YtfhdfhlabkeipaaGreatDoor.formatPlain
open Go.ChangeShapes Go.WideShapes Go.ChangeAt Go.RowKit Go.Joins
set_option linter.unusedVariables false

theorem own : ownKnob Tryz.prog.godebug = none := by kernel_rfl
theorem laidOut : laidOutB Tryz.prog = true := by kernel_rfl
theorem ba_st (b : ByteArray) : st b.data.toList = b := by apply ByteArray.ext; simp [st]
theorem slice25 {H : Type} {enc : TypeId × Value → H} {W : World} {n : Nat} {t e : TypeId} {v : Value} {y : DataW H × List MemPlace} (ht : Tryz.prog.underlying t = some (.slice e)) (h : DataW.trod enc Tryz.prog W 0 (fun _ => true) true n t [v] = some y) : ∃ A k c, v = .slice A k c := by
  rcases DataW.trod_slice ht h with ⟨e1, _⟩ | ⟨a, len, cap, _, _, _, _, e1, _⟩
  · injection e1 with e1 _
    exact ⟨none, 0, 0, e1⟩
  · injection e1 with e1 _
    exact ⟨some a, len, cap, e1⟩
theorem bulk_str {H : Type} {b : List UInt8} {d : DataW H} {gs : List (DataW H)} (hk : Rows.uptoSmall H ([.lit (.string b), d] ++ gs) = true) : b.length ≤ 1048576 := by
  have h := of_decide_eq_true hk
  simp only [List.cons_append, List.nil_append, Rows.uptoBulkAll, Rows.uptoBulk] at h
  omega
abbrev tabs : List (String × DataW Unit) := Rows.formatPlainUptoRow.laid
set_option maxRecDepth 100000 in
theorem contract (H : Type) (enc : TypeId × Value → H) (W : World) (base : Nat) (args : Array Value) (ds gs : List (DataW H)) (before : List MemPlace)
    (hval0 : ∀ (j : Nat) t v, Tryz.f7.params[j]? = some t → args[j]? = some v → Value.okWide Tryz.prog W .any base t v)
    (hW : DataW.Whole enc Tryz.prog Tryz.f7.params.toList Rows.formatPlainSpec.vars false W args.toList ds gs before) (hL : laidMetH Tryz.prog tabs W) (hSh : W.ShapedOpen Tryz.prog) (hk : Rows.uptoSmall H (ds ++ gs) = true) :
    Calls Tryz.prog 7 args W fun e W' => ∃ v, e = .returned v ∧ Rows.formatPlainSpec.post enc Tryz.prog Tryz.f7 false true false false W args v W' := by
  have hval : ∀ (j : Nat) t v, Tryz.f7.params[j]? = some t → args[j]? = some v → Value.okWide Tryz.prog W .any base t v := hval0
  have hW' := hW
  obtain ⟨p, q, hA0, hV, rfl, hfz, hnd⟩ := hW
  have hA : DataW.TrodAll enc Tryz.prog W 0 (fun _ => true) true Tryz.f7.params.toList args.toList ds p := hA0
  rw [Tryz.params7] at hA hval
  obtain ⟨v0, vs0, d0, ds0, p0, q0, hargs, rfl, rfl, h0, r0⟩ := trodAll_cons hA
  obtain ⟨v1, vs1, d1, ds1, p1, q1, rfl, rfl, rfl, h1, r1⟩ := trodAll_cons r0
  obtain ⟨rfl, rfl, rfl⟩ := trodAll_nil r1
  obtain rfl : args = #[v0, v1] := by cases args; simp_all
  have k0 := h0; have k1 := h1
  have lt0 : ∀ x ∈ p0, x.block < W.heap.size := by obtain ⟨m, hm⟩ := k0; exact DataW.trod_lt m _ _ _ hm
  have lt1 : ∀ x ∈ p1, x.block < W.heap.size := by obtain ⟨m, hm⟩ := k1; exact DataW.trod_lt m _ _ _ hm
  obtain ⟨rfl, rfl⟩ := trodVars_none hV
  obtain ⟨a0, rfl, rfl, rfl, w0⟩ := Go.ChangeMaps.open_string Tryz.underlying9 (hval 0 9 v0 rfl rfl) h0
  obtain ⟨c0, c1, y0, y1, m, rfl, rfl, rfl, hy0, hy1⟩ := open_agg2 Tryz.underlying28 (by kernel_rfl) (by kernel_rfl) (hval 1 28 v1 rfl rfl) h1
  obtain ⟨Av, nv, cv, rfl⟩ := slice25 Tryz.underlying25 hy0
  obtain ⟨Al, nl, cl, rfl⟩ := slice25 Tryz.underlying26 hy1
  have hWd : TB W.heap.size W := tb_of hL hSh
  have hlen : a0.data.toList.length ≤ 2000000 := by have := bulk_str hk; omega
  clear hA0 hval0
  have hwalk := plain_any a0.data.toList Av Al nv cv nl cl W hWd hlen
  rw [ba_st a0] at hwalk
  refine hwalk.mono fun e W' ⟨he, g⟩ => ?_
  subst he
  have bel := Below.of_grown g
  exact ⟨_, rfl, _, _, _, [], _, [], hW', trodAll_mk1 (shut_bool Tryz.underlying4 _), (trodAll_cons_mk (Below.trod laidOut (by kernel_rfl) (of_decide_eq_true (by kernel_rfl)) k0 bel lt0) (trodAll_cons_mk (Below.trod laidOut (by kernel_rfl) (of_decide_eq_true (by kernel_rfl)) k1 bel lt1) trodAll_mk0)), rfl, bel.frame _, fun h => by cases h⟩
theorem reads (os : Os) {H : Type} (enc : TypeId × Value → H) : ∃ places, DataW.whole enc Tryz.prog ((World.laidAll Tryz.prog os tabs).forCall (fun _ _ => 0) ⟨#[], #[.string ⟨#[]⟩, .agg #[.slice none 0 0, .slice none 0 0]], []⟩).memory Tryz.f7.params.toList Rows.formatPlainSpec.vars false #[Value.string ⟨#[]⟩, .agg #[.slice none 0 0, .slice none 0 0]].toList 8 = some ([.lit (.string []), .agg [.nil, .nil]], [], places) :=
  ⟨[], by kernel_rfl⟩
set_option maxRecDepth 100000 in
theorem lifted (os : Os) (started : os.Started) (H : Type) (enc : TypeId × Value → H) (F : Stop.Interp) :
    ReturnsInHanded {} Tryz.checked os 7 .any ((Rows.OpenSpec.upto Rows.formatPlainSpec).preRow enc Tryz.prog Tryz.f7 Rows.formatPlainUptoRow.domain false Rows.formatPlainUptoRow.laid) (((Rows.OpenSpec.upto Rows.formatPlainSpec).at F).post enc Tryz.prog Tryz.f7 false true false false) := by
  obtain ⟨places, hx⟩ := reads os enc
  refine returnsInHanded_of_row (C := Tryz.checked) (s := Rows.OpenSpec.upto Rows.formatPlainSpec) own started (by kernel_rfl) Tryz.func7
    ⟨World.laidAll Tryz.prog os tabs, fun _ _ => 0, ⟨#[], #[.string ⟨#[]⟩, .agg #[.slice none 0 0, .slice none 0 0]], []⟩, World.laidAll_os _ _ _, World.shaped_of_ZipB (by kernel_rfl) (by kernel_rfl), rfl, (Input.okWide_of_okWideB (by kernel_rfl)).2,
      OpenSpec.preRow_of_cond 8 hx (by kernel_rfl) (fun k hk => by cases hk; kernel_rfl) (by kernel_rfl) (by rw [MakeChecks.laidMetH_plain _ _ _ (by kernel_rfl)]; exact laidMet_laidAll _ (by kernel_rfl) (by kernel_rfl)), by
        simp only [Assume.holds]
        exact ⟨by simp, by simp, fun _ => Modest.zero, by simp, by simp⟩⟩ ?_
  intro W base args ds gs before hval hW _ hcond _ hL hSh _
  exact contract H enc W base args ds gs before hval hW hL hSh (hcond _ rfl)
end Go.Proofs.YtfhdfhlabkeipaaGreatDoor.formatPlain
