/-
  ValueLimits: closed calls, by evaluation.
-/
import Derived.Test.YtpmafnbhkhdaiaaGreatDoorW1
import Derived.Test.YtpmafnbhkhdaiaaGreatDoorH0
set_option linter.unusedSimpArgs false
set_option linter.unusedVariables false
namespace Go.Proofs.YtpmafnbhkhdaiaaGreatDoor
open Go.Tel
noncomputable abbrev L3 (R : Nat → Option (List PV)) : Lim := LFE (env R) 3 0 0 0
abbrev dotV : AV := .agg [I64 2, SS [68, 111, 116], I64 0, .capped []]
abbrev zeroV : AV := .agg [I64 0, I64 0, SS [], .capped []]
def dotRow : List PV := [.sc (.int .i64 2), .sc (.string ⟨#[68, 111, 116]⟩), .sc (.int .i64 0), .list [], .list []]
theorem base_ev (R : Nat → Option (List PV)) : callN (env R) 60 (L3 R) 5 [] ⟨[], []⟩ = some (baseV, ⟨[], []⟩) := by kernel_rfl
theorem hier_ev (R : Nat → Option (List PV)) : callN (env R) 100 (L3 R) 4 [baseV] ⟨[], []⟩ = some (.tuple [.ptr 1 0, .ptr 2 0, BB true], ⟨[hB0, hB1, hB2], tsH⟩) := by kernel_rfl
theorem new_ev (R : Nat → Option (List PV)) : callN (env R) 20 (L3 R) 6 [.ptr 1 0] ⟨[hB0, hB1, hB2], tsH⟩ = some (.ptr 3 0, ⟨[hB0, hB1, hB2, [.ptr 1 0, .capped []]], tsH⟩) := by kernel_rfl
end Go.Proofs.YtpmafnbhkhdaiaaGreatDoor
