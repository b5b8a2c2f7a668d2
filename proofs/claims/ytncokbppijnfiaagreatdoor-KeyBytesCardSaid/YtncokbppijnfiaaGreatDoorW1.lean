/- Key: what the listed variables give; the wrap with 'laid' and the world's shape. -/
import Derived.Test.YtncokbppijnfiaaGreatDoorRows
import Derived.Test.YtncokbppijnfiaaGreatDoorC2
import Derived.WalkKit
import Derived.ProofKit
import Derived.SizedLaws
import Derived.LaidLaws
import Derived.LaidHandle
import Derived.LaidMore
import Derived.Lay
import Derived.Stop.Joined
import Derived.Lib.LaidTab
import Derived.Lib.LaidU8T
import Derived.PinnedBridge
import Derived.Stop.LaidErr
import Derived.Handed
namespace Go.Proofs.YtncokbppijnfiaaGreatDoor
open Go.RowKit
set_option linter.unusedVariables false
set_option linter.unusedSimpArgs false

def tabsK : List (String × DataW Unit) := [("math/bits.deBruijn32tab", Rows.laid_math_bits_deBruijn32tab), ("math/bits.deBruijn64tab", Rows.laid_math_bits_deBruijn64tab), ("internal/strconv.uint64pow10", Rows.laid_internal_strconv_uint64pow10), ("unicode/utf8.acceptRanges", Rows.laid_unicode_utf8_acceptRanges), ("strconv.ErrRange", Rows.laid_strconv_ErrRange), ("strconv.ErrSyntax", Rows.laid_strconv_ErrSyntax), ("unicode.White_Space", Rows.laid_unicode_White_Space), ("strings.asciiSpace", Rows.laid_strings_asciiSpace), ("mullion/key.letters", Rows.laid_mullion_key_letters), ("mullion/key.numbers", Rows.laid_mullion_key_numbers), ("unicode/utf8.first", Rows.laid_unicode_utf8_first)]
theorem acc_eq : Rows.laid_unicode_utf8_acceptRanges (H := Unit) = Go.Lib.acceptData := by kernel_rfl
theorem first_eq : Rows.laid_unicode_utf8_first = Go.Lib.firstData := Pinned.utf8First_eq
theorem row175 (u : TypeId) (h : Tryz.prog.typeName? 3 u = some "*errors.errorString") : u = 175 :=
  typeName_ptr_named (nm := "errors.errorString") (by kernel_rfl) (by kernel_rfl) (by decide) u h
set_option maxRecDepth 100000 in
theorem of_laid {W : World} (h : laidMetH Tryz.prog tabsK W) (hs : W.ShapedOpen Tryz.prog) : Wd W := by
  have h0 : laidMet Tryz.prog tabsK W := by
    rw [MakeChecks.laidMetH_plain _ _ _ (by kernel_rfl)] at h
    exact h
  unfold tabsK at h0
  have h2 := laidMet.tail (laidMet.tail h0)
  have h4 := laidMet.tail (laidMet.tail h2)
  have h5 := laidMet.tail h4
  have h7 := laidMet.tail (laidMet.tail h5)
  have h8 := laidMet.tail h7
  have h9 := laidMet.tail h8
  obtain ⟨a1, t1, hv1, _⟩ := laid_sentinel (g := 11) h4 (by kernel_rfl) (by kernel_rfl) Tryz.underlying80 row175 Tryz.underlying175 Tryz.underlying177 rfl rfl Tryz.underlying9 (by kernel_rfl) (by kernel_rfl)
  obtain ⟨a0, t0, hv0, _⟩ := laid_sentinel (g := 10) h5 (by kernel_rfl) (by kernel_rfl) Tryz.underlying80 row175 Tryz.underlying175 Tryz.underlying177 rfl rfl Tryz.underlying9 (by kernel_rfl) (by kernel_rfl)
  refine ⟨?_, ?_, ?_, ⟨_, _, hv0⟩, ⟨_, _, hv1⟩, Tryz.laysM146.s1_3 W hs, ?_, ?_⟩
  · exact Lib.tabIs_of_head (g := 2) (t := 89) (e := 5) (by kernel_rfl) (by kernel_rfl) Tryz.underlying89 Tryz.underlying5 (by kernel_rfl) (by kernel_rfl) h7
  · exact Lib.tabIs_of_head (g := 7) (t := 139) (e := 96) (by kernel_rfl) (by kernel_rfl) Tryz.underlying139 Tryz.underlying96 (by kernel_rfl) (by kernel_rfl) h2
  · exact utf8Tabs_of_readsT (U8Types.of260 Tryz.lays260) ⟨by kernel_rfl, by kernel_rfl, by kernel_rfl, by kernel_rfl, by kernel_rfl, by kernel_rfl, by kernel_rfl⟩ (first_eq ▸ Lib.laidMet.reads h0 (by simp)) (acc_eq ▸ Lib.laidMet.reads h0 (by simp))
  · exact Lib.tabIs_of_head (g := 1) (t := 85) (e := 5) (by kernel_rfl) (by kernel_rfl) Tryz.underlying85 Tryz.underlying5 (by kernel_rfl) (by kernel_rfl) h8
  · exact Lib.tabIs_of_head (g := 0) (t := 60) (e := 3) (by kernel_rfl) (by kernel_rfl) Tryz.underlying60 Tryz.underlying3 (by kernel_rfl) (by kernel_rfl) h9
section
variable {H : Type} {enc : TypeId × Value → H}
theorem handed_and_shaped {a : Assume} {C : Checked} {os : Os} {f : FuncId} {fn : Func} {s : ChangeSpec} {conds : List PathCond} {apart fresh handsOn again : Bool} {X : World → Array Value → Prop}
    (hX : ∀ (w w' : World) (args : Array Value), w.heap = w'.heap → X w args → X w' args)
    (own : ownKnob C.prog.godebug = none) (started : os.Started) (noInit : C.prog.inits.idxOf? f = none) (hfn : C.prog.funcs[f]? = some fn)
    (witness : ∃ (w : World) (tape : Tape) (i : Input), w.os = os ∧ (w.forCall tape i).Shaped C.prog ∧ i.vars = [] ∧ Input.okWide C.prog (w.forCall tape i) .any w.heap.size f i ∧
      ((s.pre enc C.prog fn conds apart (w.forCall tape i).memory i.args ∧ X (w.forCall tape i).memory i.args) ∧ sizedMet enc C.prog fn (OpenSpec.ofChange s) apart (w.forCall tape i).memory i.args) ∧ a.holds C.prog (lone (Frame.enter C.prog f i.args .normal) [] (w.forCall tape i)))
    (contract : ∀ (W : World) (base : Nat) (args : Array Value) (ds gs : List (DataW H)) (before : List MemPlace),
      (∀ (j : Nat) t v, fn.params[j]? = some t → args[j]? = some v → Value.okWide C.prog W .any base t v) →
      DataW.Whole enc C.prog fn.params.toList s.vars apart W args.toList ds gs before →
      conds.all (PathCond.test C.prog ⟨fn.params.toList, ds, s.plain.varTypes C.prog, gs⟩) = true →
      (DataW.weightsEach C.prog (fn.params.toList ++ s.plain.varTypes C.prog) (ds ++ gs)).all (· ≤ reachBytes) = true → X W args →
      W.ShapedOpen C.prog →
      a.holds C.prog (lone (Frame.enter C.prog f args .normal) [] W) →
      Calls C.prog f args W fun e W' => ∃ v, e = .returned v ∧ s.post enc C.prog fn apart fresh handsOn again W args v W') :
    ReturnsInHanded a C os f .any (fun w args => (s.pre enc C.prog fn conds apart w args ∧ X w args) ∧ sizedMet enc C.prog fn (OpenSpec.ofChange s) apart w args) (s.post enc C.prog fn apart fresh handsOn again) := by
  refine returnsInHanded_of_calls own started noInit witness ?_
  intro w tape i _ hsh _ hok hpre hholds
  obtain ⟨_, _, _, fn', hfn', _, _, _, _, hval⟩ := hok
  have e : fn' = fn := Option.some.inj (hfn'.symm.trans hfn)
  subst e
  obtain ⟨⟨⟨ds, gs, before, hw, hc⟩, hx⟩, hz⟩ := hpre
  have hw' := DataW.Whole.of_heap (w' := w.forCall tape i) (by rfl) hw
  refine (contract (w.forCall tape i) w.heap.size i.args ds gs before hval hw' hc (hz.weights hw) (hX _ _ _ (by rfl) hx) hsh hholds).mono fun e W' ⟨v, he, hp⟩ => ?_
  subst he
  exact ChangeSpec.post_blind hp
end
end Go.Proofs.YtncokbppijnfiaaGreatDoor
