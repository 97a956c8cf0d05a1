/-
  The plans of the regions with a drawn order are in order.
-/
import Derived.Test.YtmipbilokjkjiaaGreatDoorTab
set_option linter.unusedSimpArgs false
set_option linter.unusedVariables false
namespace Go.Proofs.YtmipbilokjkjiaaGreatDoor
open Go.Tel
theorem plansEv0 (R : Nat → Option (List PV)) : allPlans (env0 R) = true := by kernel_rfl
end Go.Proofs.YtmipbilokjkjiaaGreatDoor
