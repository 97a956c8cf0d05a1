/- The plans. -/
import Derived.Test.YtpgfpakdnijngaaGreatDoorTab
set_option linter.all false
namespace Go.Proofs.YtpgfpakdnijngaaGreatDoor
open Go.Tel
theorem zT (R:Nat->Option (List PV)):bD (env R)=true:=Ac
end Go.Proofs.YtpgfpakdnijngaaGreatDoor
