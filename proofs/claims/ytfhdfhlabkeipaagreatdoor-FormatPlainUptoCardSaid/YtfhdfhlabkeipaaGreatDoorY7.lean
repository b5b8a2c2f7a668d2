/- FormatPlain, second form: the row's closed facts, and the row. -/
import Derived.Test.YtfhdfhlabkeipaaGreatDoorRows
import Derived.Test.YtfhdfhlabkeipaaGreatDoorY6
import Derived.OpenShut
import Derived.ShutString
import Derived.ChangeOld
import Derived.Below
import Derived.SevenTiedAt
import Derived.ChangeSame
import Derived.ChangeVars
import Derived.JoinedOf
import Derived.JoinedCond
import Derived.Lib.SmallJoins
import Derived.Laws.Cover2
import Derived.Deep.DeepHandedRow
namespace Go.Proofs.YtfhdfhlabkeipaaGreatDoor.formatPlain
open Go.ChangeShapes Go.WideShapes Go.ChangeAt Go.RowKit Go.Joins
set_option linter.unusedVariables false

theorem closed : joinedFacts Tryz.pinned.checked.prog 7 Tryz.f7 (Rows.OpenSpec.upto Rows.formatPlainSpec).bare Rows.formatPlainUptoRow = true := by kernel_rfl
theorem pre_eq {H : Type} (enc : TypeId × Value → H) : Rows.formatPlainUptoRow.pre enc Tryz.prog Tryz.f7 (Rows.OpenSpec.upto Rows.formatPlainSpec) = (Rows.OpenSpec.upto Rows.formatPlainSpec).preRow enc Tryz.prog Tryz.f7 Rows.formatPlainUptoRow.domain false Rows.formatPlainUptoRow.laid := OpenClaim.pre_eq_preRow _ _ _ _
theorem saidUpto : Rows.FormatPlainUptoSaid :=
  OpenClaim.holds_of_cond 7 Tryz.f7 rfl rfl rfl rfl rfl rfl rfl ⟨rfl, rfl, rfl, rfl, rfl⟩ rfl rfl rfl rfl rfl (by kernel_rfl) Tryz.func7 closed
    (of_decide_eq_true (by kernel_rfl)) (by unfold Func.isWrapper; first | (rw [if_pos (by decide +kernel)]; kernel_rfl) | (rw [if_neg (by decide +kernel)]; exact ⟨rfl, rfl⟩))
    (fun os started H enc _ F => (pre_eq enc).symm ▸ lifted os started H enc F)
end Go.Proofs.YtfhdfhlabkeipaaGreatDoor.formatPlain
