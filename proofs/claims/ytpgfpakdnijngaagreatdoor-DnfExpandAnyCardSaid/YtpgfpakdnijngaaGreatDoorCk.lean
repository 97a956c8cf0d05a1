/-
  Dnf: the sanity check is true, by evaluation.
-/
import Derived.Test.YtpgfpakdnijngaaGreatDoorTab
set_option linter.all false
namespace Go.Proofs.YtpgfpakdnijngaaGreatDoor
open Go.Tel
theorem rT {R:Nat->Option (List PV)}:rY (env R) 400 16 []=some (IE (.bool true)):=by kernel_rfl
end Go.Proofs.YtpgfpakdnijngaaGreatDoor
