/-
  Closed facts of the row of ValuePrimitives.
-/
import Derived.Test.YtdbilmjamgjkeaaGreatDoorRows
import Derived.Test.YtdbilmjamgjkeaaGreatDoorChecked
import Derived.ProofKit
import Derived.OpenShut
import Derived.Deep.DeepHandedRow
namespace Go.Proofs.YtdbilmjamgjkeaaGreatDoor.valuePrimitives

set_option maxRecDepth 100000 in
theorem jf_a1 : Rows.valuePrimitivesRow.wf (OpenSpec.ofChange Rows.valuePrimitivesSpec) = true := by kernel_rfl

set_option maxRecDepth 100000 in
theorem jf_a2 : laidOutB Tryz.prog = true := by kernel_rfl

set_option maxRecDepth 100000 in
theorem jf_a3 : mapsRowed Tryz.prog = true := by kernel_rfl

set_option maxRecDepth 100000 in
theorem jf_b : (Rows.valuePrimitivesRow.inPlace == Tryz.prog.inPlace 3) = true := by kernel_rfl

set_option maxRecDepth 100000 in
theorem jf_g : (Rows.valuePrimitivesRow.lifted == Tryz.prog.liftsFinal) = true := by kernel_rfl

end Go.Proofs.YtdbilmjamgjkeaaGreatDoor.valuePrimitives
