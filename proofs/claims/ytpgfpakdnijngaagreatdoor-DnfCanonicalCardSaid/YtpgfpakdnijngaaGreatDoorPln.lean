/-
  The plans of the regions with a drawn order are in order.
-/
import Derived.Test.YtpgfpakdnijngaaGreatDoorTab
set_option linter.all false
namespace Go.Proofs.YtpgfpakdnijngaaGreatDoor
open Go.Tel
theorem ABn (R:Nat->Option (List PV)):Zi (env R)=true:=by kernel_rfl
end Go.Proofs.YtpgfpakdnijngaaGreatDoor
