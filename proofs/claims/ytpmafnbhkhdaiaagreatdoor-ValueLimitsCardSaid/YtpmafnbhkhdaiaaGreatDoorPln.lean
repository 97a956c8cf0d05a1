/-
  The plans of the regions with a drawn order are in order.
-/
import Derived.Test.YtpmafnbhkhdaiaaGreatDoorTab
set_option linter.unusedSimpArgs false
set_option linter.unusedVariables false
namespace Go.Proofs.YtpmafnbhkhdaiaaGreatDoor
open Go.Tel
theorem plansEv0 (R : Nat → Option (List PV)) : allPlans (env0 R) = true := by kernel_rfl
end Go.Proofs.YtpmafnbhkhdaiaaGreatDoor
