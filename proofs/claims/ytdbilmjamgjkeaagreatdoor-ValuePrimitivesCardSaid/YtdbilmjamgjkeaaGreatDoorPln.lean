/-
  The plans of the regions with a drawn order are in order.
-/
import Derived.Test.YtdbilmjamgjkeaaGreatDoorTab
namespace Go.Proofs.YtdbilmjamgjkeaaGreatDoor
open Go.Tel

theorem plansEv : allPlans env = true := by kernel_rfl

end Go.Proofs.YtdbilmjamgjkeaaGreatDoor
