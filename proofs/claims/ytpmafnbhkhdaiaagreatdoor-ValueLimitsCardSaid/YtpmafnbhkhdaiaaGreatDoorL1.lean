/-
  ValueLimits: what Allocate asks of the hierarchy, by evaluation.
-/
import Derived.Test.YtpmafnbhkhdaiaaGreatDoorL0
set_option linter.unusedSimpArgs false
set_option linter.unusedVariables false
namespace Go.Proofs.YtpmafnbhkhdaiaaGreatDoor
open Go.Tel
theorem conc0_ev (R : Nat → Option (List PV)) (L : Lim) (rest : List (List AV)) : callN (env R) 1 L 32 [.ptr 1 0, dotV] ⟨hB0 :: hB1 :: hB2 :: rest, tsH⟩ = some (BB true, ⟨hB0 :: hB1 :: hB2 :: rest, tsH⟩) := by kernel_rfl
theorem conc1_ev (R : Nat → Option (List PV)) (L : Lim) (rest : List (List AV)) (k : Nat) : callN (env R) 1 L 32 [.ptr 1 0, dotV] ⟨hB0 :: hB1 :: hB2 :: rest, tsH ++ [(k, 83)]⟩ = some (BB true, ⟨hB0 :: hB1 :: hB2 :: rest, tsH ++ [(k, 83)]⟩) := by kernel_rfl
theorem flds0_ev (R : Nat → Option (List PV)) (L : Lim) (rest : List (List AV)) : callN (env R) 1 L 33 [.ptr 1 0, dotV] ⟨hB0 :: hB1 :: hB2 :: rest, tsH⟩ = some (.tuple [.capped [], BB true], ⟨hB0 :: hB1 :: hB2 :: rest, tsH⟩) := by kernel_rfl
theorem flds1_ev (R : Nat → Option (List PV)) (L : Lim) (rest : List (List AV)) (k : Nat) : callN (env R) 1 L 33 [.ptr 1 0, dotV] ⟨hB0 :: hB1 :: hB2 :: rest, tsH ++ [(k, 83)]⟩ = some (.tuple [.capped [], BB true], ⟨hB0 :: hB1 :: hB2 :: rest, tsH ++ [(k, 83)]⟩) := by kernel_rfl
theorem eqf0_ev (R : Nat → Option (List PV)) (L : Lim) (rest : List (List AV)) : callN (env R) 1 L 34 [.capped [], .capped [], .func (.func 35) [.ptr 3 0] []] ⟨hB0 :: hB1 :: hB2 :: [.ptr 1 0, .capped []] :: rest, tsH⟩ = some (BB true, ⟨hB0 :: hB1 :: hB2 :: [.ptr 1 0, .capped []] :: rest, tsH⟩) := by kernel_rfl
theorem eqf1_ev (R : Nat → Option (List PV)) (L : Lim) (rest : List (List AV)) (k : Nat) (rows : List (List PV)) : callN (env R) 1 L 34 [.capped [], .capped [], .func (.func 35) [.ptr 3 0] []] ⟨hB0 :: hB1 :: hB2 :: [.ptr 1 0, .own 12 rows] :: rest, tsH ++ [(k, 83)]⟩ = some (BB true, ⟨hB0 :: hB1 :: hB2 :: [.ptr 1 0, .own 12 rows] :: rest, tsH ++ [(k, 83)]⟩) := by kernel_rfl
theorem built_ev (R : Nat → Option (List PV)) : pureV (env R) 40 31 [SS [68, 111, 116]] = some (BB false) := by kernel_rfl
theorem within_ev (R : Nat → Option (List PV)) : pureV (env R) 40 30 [dotV] = some (BB true) := by kernel_rfl
theorem ctype_ev (R : Nat → Option (List PV)) : pureV (env R) 40 36 [dotV] = some dotV := by kernel_rfl
theorem cvals_ev (R : Nat → Option (List PV)) : pureV (env R) 40 28 [.capped []] = some (.capped []) := by kernel_rfl
end Go.Proofs.YtpmafnbhkhdaiaaGreatDoor
