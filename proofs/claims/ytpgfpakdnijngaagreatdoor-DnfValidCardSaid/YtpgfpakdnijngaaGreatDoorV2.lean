/-
  DnfValid's own environment: every call but the law's is told; the two ValidBranch with their arguments closed; what the law appends to are blocks.
-/
import Derived.Test.YtpgfpakdnijngaaGreatDoorTenS
import Derived.Test.YtpgfpakdnijngaaGreatDoorTab
set_option linter.all false
namespace Go.Proofs.YtpgfpakdnijngaaGreatDoor
open Go.Tel
noncomputable def Dh (R:Nat->Option (List PV)):Env:=KF (env R) (λf=>Nat.beq f 7) (λf=>Nat.beq f 27||Nat.beq f 28) (λf t=>Nat.beq f 7&&(Nat.beq t 25||Nat.beq t 1000025))
end Go.Proofs.YtpgfpakdnijngaaGreatDoor
