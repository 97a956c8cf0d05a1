/-
  DnfLimits: one expansion (remainders 0 and 1), by the kernel.
-/
import Derived.Test.YteaholhenmneoaaGreatDoorLimA
namespace Go.Proofs.YteaholhenmneoaaGreatDoor.dnfLimits
open Go.Tel

theorem y01 : okPair 0 (pureV env 389 13 [term 0 (-1) 1]) = true := by kernel_rfl

end Go.Proofs.YteaholhenmneoaaGreatDoor.dnfLimits
