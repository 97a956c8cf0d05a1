/-
  Closed facts of the row of ValuePrimitives.
-/
import Derived.Test.YtdbilmjamgjkeaaGreatDoorRows
import Derived.Test.YtdbilmjamgjkeaaGreatDoorChecked
import Derived.ProofKit
import Derived.OpenShut
import Derived.Deep.DeepHandedRow
namespace Go.Proofs.YtdbilmjamgjkeaaGreatDoor.valuePrimitives

set_option maxRecDepth 100000 in
theorem jf_e : (Rows.valuePrimitivesRow.named == Tryz.prog.varsNamed 3) = true := by kernel_rfl

set_option maxRecDepth 100000 in
theorem jf_f1 : Tryz.prog.stopsHeard = true := by kernel_rfl

set_option maxRecDepth 100000 in
theorem jf_f2 : Tryz.prog.mayEnter = true := by kernel_rfl

end Go.Proofs.YtdbilmjamgjkeaaGreatDoor.valuePrimitives
