/-
  The plans of the regions with a drawn order are in order.
-/
import Derived.Test.YtpgfpakdnijngaaGreatDoorTab
set_option linter.unusedSimpArgs false
set_option linter.unusedVariables false
namespace Go.Proofs.YtpgfpakdnijngaaGreatDoor
open Go.Tel
theorem yY (R:Nat->Option (List PV)):ZL (env R)=true:=by kernel_rfl
end Go.Proofs.YtpgfpakdnijngaaGreatDoor
