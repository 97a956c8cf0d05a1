/-
  The plans of the regions with a drawn order are in order.
-/
import Derived.Test.YtpgfpakdnijngaaGreatDoorTab
set_option linter.all false
namespace Go.Proofs.YtpgfpakdnijngaaGreatDoor
open Go.Tel
theorem ABd (R:Nat->Option (List PV)):cC (env R)=true:=AW
end Go.Proofs.YtpgfpakdnijngaaGreatDoor
