/-
  The plans of the regions with a drawn order are in order.
-/
import Derived.Test.YtghaphbkhdhmdaaGreatDoorTab
set_option linter.unusedSimpArgs false
set_option linter.unusedVariables false
namespace Go.Proofs.YtghaphbkhdhmdaaGreatDoor
open Go.Tel

theorem plansEv0 : allPlans env0 = true := by kernel_rfl

end Go.Proofs.YtghaphbkhdhmdaaGreatDoor
