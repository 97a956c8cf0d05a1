/-
  ValueLimits: the sanity check is true, by evaluation.
-/
import Derived.Test.YtpmafnbhkhdaiaaGreatDoorTab
set_option linter.unusedSimpArgs false
set_option linter.unusedVariables false
namespace Go.Proofs.YtpmafnbhkhdaiaaGreatDoor
open Go.Tel
theorem check_ev {R : Nat → Option (List PV)} : pureV (env R) 400 7 [] = some (scv (.bool true)) := by kernel_rfl
end Go.Proofs.YtpmafnbhkhdaiaaGreatDoor
