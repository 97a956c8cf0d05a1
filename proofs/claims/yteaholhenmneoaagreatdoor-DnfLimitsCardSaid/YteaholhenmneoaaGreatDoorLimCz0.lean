/-
  DnfLimits: the small expansions behind a remainder of 0, by the kernel.
-/
import Derived.Test.YteaholhenmneoaaGreatDoorLimA
namespace Go.Proofs.YteaholhenmneoaaGreatDoor.dnfLimits
open Go.Tel

theorem x02 : okPair 0 (pureV env 389 12 [term 0 (-1) 2]) = true := by kernel_rfl
theorem y02 : okPair 0 (pureV env 389 13 [term 0 (-1) 2]) = true := by kernel_rfl
theorem x03 : okPair 0 (pureV env 389 12 [term 0 (-1) 3]) = true := by kernel_rfl
theorem y03 : okPair 0 (pureV env 389 13 [term 0 (-1) 3]) = true := by kernel_rfl

end Go.Proofs.YteaholhenmneoaaGreatDoor.dnfLimits
