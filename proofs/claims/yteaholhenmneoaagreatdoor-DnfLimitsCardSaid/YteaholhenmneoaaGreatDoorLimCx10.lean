/-
  DnfLimits: one expansion (remainders 1 and 0), by the kernel.
-/
import Derived.Test.YteaholhenmneoaaGreatDoorLimA
namespace Go.Proofs.YteaholhenmneoaaGreatDoor.dnfLimits
open Go.Tel

theorem x10 : okPair 0 (pureV env 389 12 [term 1 0 0]) = true := by kernel_rfl

end Go.Proofs.YteaholhenmneoaaGreatDoor.dnfLimits
