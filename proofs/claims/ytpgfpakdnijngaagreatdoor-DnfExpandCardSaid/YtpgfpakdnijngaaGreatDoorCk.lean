/-
  Dnf: the sanity check is true, by evaluation.
-/
import Derived.Test.YtpgfpakdnijngaaGreatDoorTab
set_option linter.all false
namespace Go.Proofs.YtpgfpakdnijngaaGreatDoor
open Go.Tel
theorem qy {R:Nat->Option (List PV)}:ZI (env R) 400 16 []=some (J1 (.bool true)):=by kernel_rfl
end Go.Proofs.YtpgfpakdnijngaaGreatDoor
