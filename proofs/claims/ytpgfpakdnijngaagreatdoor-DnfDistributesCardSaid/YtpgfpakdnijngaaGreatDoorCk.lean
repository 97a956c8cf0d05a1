/-
  Dnf: the sanity check is true, by evaluation.
-/
import Derived.Test.YtpgfpakdnijngaaGreatDoorTab
set_option linter.unusedSimpArgs false
set_option linter.unusedVariables false
namespace Go.Proofs.YtpgfpakdnijngaaGreatDoor
open Go.Tel
theorem nk {R:Nat->Option (List PV)}:Y7 (env R) 400 16 []=some (IW (.bool true)):=by kernel_rfl
end Go.Proofs.YtpgfpakdnijngaaGreatDoor
