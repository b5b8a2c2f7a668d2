/-
  FormatPlain returns true for any text and any scope, where text and scope are together of bulk at most 1048576: what is no sign stands as it is. Condition: the fifteen variables that the card lists (tables of strconv, of math/bits and of unicode/utf8, strconv's two errors) are as the program's text and the form's constants lay them; the card is tied by the given tie.
-/
import Derived.Test.YtfhdfhlabkeipaaGreatDoorRows
import Derived.Test.YtfhdfhlabkeipaaGreatDoorCards
import Derived.Test.YtfhdfhlabkeipaaGreatDoorTie
import Derived.Test.YtfhdfhlabkeipaaGreatDoorY7
import Derived.OpenShut
import Derived.ShutString
import Derived.ChangeOld
import Derived.Below
import Derived.SevenTiedAt
import Derived.ChangeSame
import Derived.ChangeVars
import Derived.JoinedOf
import Derived.JoinedCond
import Derived.Lib.SmallJoins
import Derived.Laws.Cover2
import Derived.Deep.DeepHandedRow
namespace Go.Proofs.YtfhdfhlabkeipaaGreatDoor.formatPlain
open Go.ChangeShapes Go.WideShapes Go.ChangeAt Go.RowKit Go.Joins
set_option linter.unusedVariables false

/-- The statement: the tied card, the second form. -/
theorem proved : Rows.FormatPlainUptoCardSaid :=
  Claim7.holds_tied_plain_at .later [] _ _ _ _ saidUpto (fun _ h => by cases h) (by kernel_rfl) (fun _ h => by cases h) formatPlainUpto_row_tie rfl ⟨rfl, rfl⟩ (by kernel_rfl) rfl
    (fun f fn hf hfn => by
      obtain rfl : f = 7 := Option.some.inj ((show Tryz.prog.funcNamed "mullion/mullionlaw10.FormatPlain" = some 7 by kernel_rfl).symm.trans hf) |>.symm
      obtain rfl : fn = Tryz.f7 := (Option.some.inj (Tryz.func7.symm.trans hfn)).symm
      exact ⟨by kernel_rfl, fun j t ht => by
        rw [Tryz.params7] at ht
        have h3 : t = 9 ∨ t = 28 := by
          have hj : j < 2 := (Array.getElem?_eq_some_iff.1 ht).1
          have : j = 0 ∨ j = 1 := by omega
          rcases this with rfl | rfl <;> (simp at ht; simp [← ht])
        rcases h3 with rfl | rfl
        · exact (show Tryz.prog.wantsStandIn 9 = false by kernel_rfl)
        · exact (show Tryz.prog.wantsStandIn 28 = false by kernel_rfl)⟩)
    (by kernel_rfl)
#print axioms proved
end Go.Proofs.YtfhdfhlabkeipaaGreatDoor.formatPlain
