/-
  The sanity check is true, by evaluation.
-/
import Derived.Test.YtcmeadgdojfhnaaGreatDoorTab
set_option linter.unusedSimpArgs false
set_option linter.unusedVariables false
namespace Go.Proofs.YtcmeadgdojfhnaaGreatDoor
open Go.Tel
theorem check_ev {R : Nat → Option (List PV)} : pureV (env R) 400 8 [] = some (scv (.bool true)) := by kernel_rfl
end Go.Proofs.YtcmeadgdojfhnaaGreatDoor
