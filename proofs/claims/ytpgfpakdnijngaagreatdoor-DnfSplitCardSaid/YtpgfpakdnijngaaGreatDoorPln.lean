/-
  The plans of the regions with a drawn order are in order.
-/
import Derived.Test.YtpgfpakdnijngaaGreatDoorTab
set_option linter.all false
namespace Go.Proofs.YtpgfpakdnijngaaGreatDoor
open Go.Tel
theorem AAm (R:Nat->Option (List PV)):aa (env R)=true:=AW
end Go.Proofs.YtpgfpakdnijngaaGreatDoor
