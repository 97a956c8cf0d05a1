/-
  Dnf: the sanity check is true, by evaluation.
-/
import Derived.Test.YtpgfpakdnijngaaGreatDoorTab
set_option linter.all false
namespace Go.Proofs.YtpgfpakdnijngaaGreatDoor
open Go.Tel
theorem sY {R:Nat->Option (List PV)}:aR (env R) 400 16 []=some (Kc (.bool true)):=AW
end Go.Proofs.YtpgfpakdnijngaaGreatDoor
