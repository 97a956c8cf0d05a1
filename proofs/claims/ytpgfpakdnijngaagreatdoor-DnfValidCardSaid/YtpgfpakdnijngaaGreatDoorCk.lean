/-
  Dnf: the sanity check is true, by evaluation.
-/
import Derived.Test.YtpgfpakdnijngaaGreatDoorTab
set_option linter.all false
namespace Go.Proofs.YtpgfpakdnijngaaGreatDoor
open Go.Tel
theorem uD {R:Nat->Option (List PV)}:bg (env R) 400 16 []=some (Kr (.bool true)):=AW
end Go.Proofs.YtpgfpakdnijngaaGreatDoor
