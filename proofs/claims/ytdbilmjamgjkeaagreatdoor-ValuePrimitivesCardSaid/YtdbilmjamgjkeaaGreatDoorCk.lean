/-
  ValuePrimitives: the sanity check is true, by evaluation.
-/
import Derived.Test.YtdbilmjamgjkeaaGreatDoorTab
namespace Go.Proofs.YtdbilmjamgjkeaaGreatDoor
open Go.Tel

theorem check_ev : pureV env 400 16 [] = some (scv (.bool true)) := by kernel_rfl

end Go.Proofs.YtdbilmjamgjkeaaGreatDoor
