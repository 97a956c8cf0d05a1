/-
  Dnf: the sanity check is true, by evaluation.
-/
import Derived.Test.YtpgfpakdnijngaaGreatDoorTab
set_option linter.all false
namespace Go.Proofs.YtpgfpakdnijngaaGreatDoor
open Go.Tel
theorem sC {R:Nat->Option (List PV)}:ZZ (env R) 400 16 []=some (Iz (.bool true)):=by kernel_rfl
end Go.Proofs.YtpgfpakdnijngaaGreatDoor
