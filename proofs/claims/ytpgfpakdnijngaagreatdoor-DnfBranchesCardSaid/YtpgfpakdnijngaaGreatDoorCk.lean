/- The sanity check. -/
import Derived.Test.YtpgfpakdnijngaaGreatDoorTab
set_option linter.all false
namespace Go.Proofs.YtpgfpakdnijngaaGreatDoor
open Go.Tel
theorem qz {R:Nat->Option (List PV)}:aq (env R) 400 16 []=some (Jo (.bool true)):=Ac
end Go.Proofs.YtpgfpakdnijngaaGreatDoor
