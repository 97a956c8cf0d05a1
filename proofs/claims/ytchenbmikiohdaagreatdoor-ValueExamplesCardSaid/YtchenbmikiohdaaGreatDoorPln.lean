/-
  The plans of the regions with a drawn order are in order.
-/
import Derived.Test.YtchenbmikiohdaaGreatDoorTab
set_option linter.unusedSimpArgs false
set_option linter.unusedVariables false
namespace Go.Proofs.YtchenbmikiohdaaGreatDoor
open Go.Tel

theorem plansEv : allPlans env = true := by kernel_rfl

end Go.Proofs.YtchenbmikiohdaaGreatDoor
