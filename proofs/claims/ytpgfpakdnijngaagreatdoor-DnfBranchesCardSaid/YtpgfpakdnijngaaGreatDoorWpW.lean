/-
  Slices of integers as arguments, with the datum.
-/
import Derived.Test.YtpgfpakdnijngaaGreatDoorWvF
set_option linter.all false
namespace Go.Tel
open Go.ChangeShapes Go.WideShapes Go.ChangeMaps
end Go.Tel
