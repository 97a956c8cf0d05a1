/-
  DnfExamples: the evaluation, by the kernel.
-/
import Derived.Test.YteaholhenmneoaaGreatDoorTab
namespace Go.Proofs.YteaholhenmneoaaGreatDoor.dnfExamples
open Go.Tel

theorem ev : callN env 400 L0 4 [] ⟨[], []⟩ = some (scv (.bool true), ⟨[], []⟩) := by kernel_rfl

end Go.Proofs.YteaholhenmneoaaGreatDoor.dnfExamples
