/-
  What the points of some functions' code need: written by a program (wip/tel/GenW.lean.txt).
-/
import Derived.Test.YtmipbilokjkjiaaGreatDoorTab
import Derived.Test.YtmipbilokjkjiaaGreatDoorWpH
set_option linter.unusedSimpArgs false
set_option linter.unusedVariables false
namespace Go.Proofs.YtmipbilokjkjiaaGreatDoor
open Go.Tel
variable {R : RT} {n0 ro rt : Nat} {s : Sto} {QR : QT}
end Go.Proofs.YtmipbilokjkjiaaGreatDoor
