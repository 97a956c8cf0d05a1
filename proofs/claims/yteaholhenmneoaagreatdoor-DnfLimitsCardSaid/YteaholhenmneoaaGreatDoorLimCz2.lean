/-
  DnfLimits: the small expansions behind a remainder of 2, by the kernel.
-/
import Derived.Test.YteaholhenmneoaaGreatDoorLimA
namespace Go.Proofs.YteaholhenmneoaaGreatDoor.dnfLimits
open Go.Tel

theorem x22 : okPair 4 (pureV env 389 12 [term 2 1 2]) = true := by kernel_rfl
theorem y22 : okPair 4 (pureV env 389 13 [term 2 1 2]) = true := by kernel_rfl
theorem x23 : okPair 4 (pureV env 389 12 [term 2 1 3]) = true := by kernel_rfl
theorem y23 : okPair 4 (pureV env 389 13 [term 2 1 3]) = true := by kernel_rfl

end Go.Proofs.YteaholhenmneoaaGreatDoor.dnfLimits
