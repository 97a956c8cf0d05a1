/-
  slices.Clone of an empty slice.
-/
import Derived.Test.YtcmeadgdojfhnaaGreatDoorTab
import Derived.WalkKit
set_option linter.unusedSimpArgs false
set_option linter.unusedVariables false
namespace Go.Proofs.YtcmeadgdojfhnaaGreatDoor
open Go.Tel Go.RowKit
set_option maxRecDepth 100000 in
theorem clone117 (w : World) (base : Option Addr) (cap : Nat) : Calls Tryz.prog 117 #[.slice base 0 cap] w fun e w' => ∃ b', e = .returned (.slice b' 0 0) ∧ (w' = w ∨ ∃ o, w' = objW w o) := by
  cases base with
  | none =>
    go_enter Tryz.func117, Tryz.ntmps117
    go_wp2
    simp only [eq_nil_slice Tryz.underlying31, Option.isNone_none, Result.andThen_ok]
    go_wp2
    all_goals go_ret
    all_goals exact ⟨_, rfl, .inl rfl⟩
  | some a =>
    go_enter Tryz.func117, Tryz.ntmps117
    go_wp2
    simp only [eq_nil_slice Tryz.underlying31, Option.isNone_some, Result.andThen_ok]
    go_wp2
    all_goals go_ret
    all_goals exact ⟨_, rfl, .inr ⟨_, rfl⟩⟩
end Go.Proofs.YtcmeadgdojfhnaaGreatDoor
