/-
  slices.Clone of an empty slice.
-/
import Derived.Test.YtpmafnbhkhdaiaaGreatDoorTab
import Derived.WalkKit
set_option linter.unusedSimpArgs false
set_option linter.unusedVariables false
namespace Go.Proofs.YtpmafnbhkhdaiaaGreatDoor
open Go.Tel Go.RowKit
set_option maxRecDepth 100000 in
theorem clone131 (w : World) (base : Option Addr) (cap : Nat) : Calls Tryz.prog 131 #[.slice base 0 cap] w fun e w' => ∃ b', e = .returned (.slice b' 0 0) ∧ (w' = w ∨ ∃ o, w' = objW w o) := by
  cases base with
  | none =>
    go_enter Tryz.func131, Tryz.ntmps131
    go_wp2
    simp only [eq_nil_slice Tryz.underlying87, Option.isNone_none, Result.andThen_ok]
    go_wp2
    all_goals go_ret
    all_goals exact ⟨_, rfl, .inl rfl⟩
  | some a =>
    go_enter Tryz.func131, Tryz.ntmps131
    go_wp2
    simp only [eq_nil_slice Tryz.underlying87, Option.isNone_some, Result.andThen_ok]
    go_wp2
    all_goals go_ret
    all_goals exact ⟨_, rfl, .inr ⟨_, rfl⟩⟩
set_option maxRecDepth 100000 in
theorem clone139 (w : World) (base : Option Addr) (cap : Nat) : Calls Tryz.prog 139 #[.slice base 0 cap] w fun e w' => ∃ b', e = .returned (.slice b' 0 0) ∧ (w' = w ∨ ∃ o, w' = objW w o) := by
  cases base with
  | none =>
    go_enter Tryz.func139, Tryz.ntmps139
    go_wp2
    simp only [eq_nil_slice Tryz.underlying142, Option.isNone_none, Result.andThen_ok]
    go_wp2
    all_goals go_ret
    all_goals exact ⟨_, rfl, .inl rfl⟩
  | some a =>
    go_enter Tryz.func139, Tryz.ntmps139
    go_wp2
    simp only [eq_nil_slice Tryz.underlying142, Option.isNone_some, Result.andThen_ok]
    go_wp2
    all_goals go_ret
    all_goals exact ⟨_, rfl, .inr ⟨_, rfl⟩⟩
set_option maxRecDepth 100000 in
theorem clone217 (w : World) (base : Option Addr) (cap : Nat) : Calls Tryz.prog 217 #[.slice base 0 cap] w fun e w' => ∃ b', e = .returned (.slice b' 0 0) ∧ (w' = w ∨ ∃ o, w' = objW w o) := by
  cases base with
  | none =>
    go_enter Tryz.func217, Tryz.ntmps217
    go_wp2
    simp only [eq_nil_slice Tryz.underlying40, Option.isNone_none, Result.andThen_ok]
    go_wp2
    all_goals go_ret
    all_goals exact ⟨_, rfl, .inl rfl⟩
  | some a =>
    go_enter Tryz.func217, Tryz.ntmps217
    go_wp2
    simp only [eq_nil_slice Tryz.underlying40, Option.isNone_some, Result.andThen_ok]
    go_wp2
    all_goals go_ret
    all_goals exact ⟨_, rfl, .inr ⟨_, rfl⟩⟩
end Go.Proofs.YtpmafnbhkhdaiaaGreatDoor
