/-
  DnfLimits: the small expansions behind a remainder of 1, by the kernel.
-/
import Derived.Test.YteaholhenmneoaaGreatDoorLimA
namespace Go.Proofs.YteaholhenmneoaaGreatDoor.dnfLimits
open Go.Tel

theorem x12 : okPair 0 (pureV env 389 12 [term 1 0 2]) = true := by kernel_rfl
theorem y12 : okPair 0 (pureV env 389 13 [term 1 0 2]) = true := by kernel_rfl
theorem x13 : okPair 0 (pureV env 389 12 [term 1 0 3]) = true := by kernel_rfl
theorem y13 : okPair 0 (pureV env 389 13 [term 1 0 3]) = true := by kernel_rfl

end Go.Proofs.YteaholhenmneoaaGreatDoor.dnfLimits
