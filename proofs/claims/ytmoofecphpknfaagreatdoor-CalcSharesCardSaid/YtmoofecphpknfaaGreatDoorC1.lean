/- Calc: digits, plain at the examples' texts. -/
import Derived.Test.YtmoofecphpknfaaGreatDoorBase
import Derived.Test.YtmoofecphpknfaaGreatDoorProg
import Derived.WalkKit
import Derived.WalkSpells
import Derived.WalkLawsBesides
import Derived.Lib.Hide
import Derived.Deep.Draws
import Derived.Outline
import Derived.StillTailTactics
namespace Go.Proofs.YtmoofecphpknfaaGreatDoor
open Go.RowKit
set_option linter.unusedSimpArgs false
set_option linter.unusedVariables false

set_option maxRecDepth 100000 in
theorem digits_15 (w : World) : Calls Tryz.prog 61 #[.string ⟨#[49, 46, 53]⟩, .int .i64 0] w fun e w' => e = .returned (.int .i64 1) ∧ w' = w := by
  go_enter Tryz.func61, Tryz.ntmps61
  go_wp2_with fail
  refine wp_loop_in (loopWp_round ?_)
  go_wp2_with fail
  trace_state
  refine loopWp_round ?_
  go_wp2_with fail
  go_ret
  exact ⟨rfl, rfl⟩
end Go.Proofs.YtmoofecphpknfaaGreatDoor
