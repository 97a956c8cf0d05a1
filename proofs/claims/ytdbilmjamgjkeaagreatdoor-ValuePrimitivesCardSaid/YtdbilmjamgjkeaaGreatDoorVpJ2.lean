/-
  Closed facts of the row of ValuePrimitives.
-/
import Derived.Test.YtdbilmjamgjkeaaGreatDoorRows
import Derived.Test.YtdbilmjamgjkeaaGreatDoorChecked
import Derived.ProofKit
import Derived.OpenShut
import Derived.Deep.DeepHandedRow
namespace Go.Proofs.YtdbilmjamgjkeaaGreatDoor.valuePrimitives

set_option maxRecDepth 100000 in
theorem jf_c : (Rows.valuePrimitivesRow.unfollowed == Tryz.prog.unfollowed 3) = true := by kernel_rfl

set_option maxRecDepth 100000 in
theorem jf_d : (Rows.valuePrimitivesRow.recurses == Tryz.prog.recurses 3) = true := by kernel_rfl

end Go.Proofs.YtdbilmjamgjkeaaGreatDoor.valuePrimitives
