/-
  DnfLimits: one expansion (remainders 0 and 0), by the kernel.
-/
import Derived.Test.YteaholhenmneoaaGreatDoorLimA
namespace Go.Proofs.YteaholhenmneoaaGreatDoor.dnfLimits
open Go.Tel

theorem y00 : okPair 0 (pureV env 389 13 [term 0 (-1) 0]) = true := by kernel_rfl

end Go.Proofs.YteaholhenmneoaaGreatDoor.dnfLimits
