/-
  ValuePrimitives: the closed facts of the row.
-/
import Derived.Test.YtdbilmjamgjkeaaGreatDoorVpJ1
import Derived.Test.YtdbilmjamgjkeaaGreatDoorVpJ2
import Derived.Test.YtdbilmjamgjkeaaGreatDoorVpJ3
namespace Go.Proofs.YtdbilmjamgjkeaaGreatDoor.valuePrimitives
open Go.RowKit

theorem band {a b : Bool} (h : a = true) (k : b = true) : (a && b) = true := by rw [h, k]; rfl

set_option maxRecDepth 100000 in
theorem closed : joinedFacts Tryz.prog 3 Tryz.f3 Rows.valuePrimitivesSpec Rows.valuePrimitivesRow = true := by
  unfold joinedFacts
  repeat' (with_reducible refine band ?_ ?_)
  all_goals first
    | with_reducible exact jf_a1
    | with_reducible exact jf_a2
    | with_reducible exact jf_a3
    | with_reducible exact jf_b
    | with_reducible exact jf_c
    | with_reducible exact jf_d
    | with_reducible exact jf_e
    | with_reducible exact jf_f1
    | with_reducible exact jf_f2
    | with_reducible exact jf_g
    | kernel_rfl

end Go.Proofs.YtdbilmjamgjkeaaGreatDoor.valuePrimitives
