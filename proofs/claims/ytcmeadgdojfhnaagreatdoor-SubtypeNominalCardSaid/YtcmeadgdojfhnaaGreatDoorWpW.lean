/-
  Slices of integers as arguments, with the datum.
-/
import Derived.Test.YtcmeadgdojfhnaaGreatDoorWvF
set_option linter.unusedSimpArgs false
set_option linter.unusedVariables false
namespace Go.Tel
open Go.ChangeShapes Go.WideShapes Go.ChangeMaps
end Go.Tel
