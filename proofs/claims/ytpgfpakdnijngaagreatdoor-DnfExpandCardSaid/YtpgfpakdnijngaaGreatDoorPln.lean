/-
  The plans of the regions with a drawn order are in order.
-/
import Derived.Test.YtpgfpakdnijngaaGreatDoorTab
set_option linter.all false
namespace Go.Proofs.YtpgfpakdnijngaaGreatDoor
open Go.Tel
theorem ACY (R:Nat->Option (List PV)):ZQ (env R)=true:=by kernel_rfl
end Go.Proofs.YtpgfpakdnijngaaGreatDoor
