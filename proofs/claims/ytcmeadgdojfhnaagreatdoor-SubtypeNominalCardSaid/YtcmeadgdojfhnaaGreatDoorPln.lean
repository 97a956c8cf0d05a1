/-
  The plans of the regions with a drawn order are in order.
-/
import Derived.Test.YtcmeadgdojfhnaaGreatDoorTab
set_option linter.unusedSimpArgs false
set_option linter.unusedVariables false
namespace Go.Proofs.YtcmeadgdojfhnaaGreatDoor
open Go.Tel
theorem plansEv (R : Nat → Option (List PV)) : allPlans (env R) = true := by kernel_rfl
end Go.Proofs.YtcmeadgdojfhnaaGreatDoor
