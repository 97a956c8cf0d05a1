/-
  slices.Clone of an empty slice.
-/
import Derived.Test.YtdbilmjamgjkeaaGreatDoorTab
import Derived.WalkKit
namespace Go.Proofs.YtdbilmjamgjkeaaGreatDoor
open Go.Tel Go.RowKit

set_option maxRecDepth 100000 in
theorem clone185 (w : World) (base : Option Addr) (cap : Nat) : Calls Tryz.prog 185 #[.slice base 0 cap] w fun e w' => ∃ b', e = .returned (.slice b' 0 0) ∧ (w' = w ∨ ∃ o, w' = objW w o) := by
  cases base with
  | none =>
    go_enter Tryz.func185, Tryz.ntmps185
    go_wp2
    simp only [eq_nil_slice Tryz.underlying68, Option.isNone_none, Result.andThen_ok]
    go_wp2
    all_goals go_ret
    all_goals exact ⟨_, rfl, .inl rfl⟩
  | some a =>
    go_enter Tryz.func185, Tryz.ntmps185
    go_wp2
    simp only [eq_nil_slice Tryz.underlying68, Option.isNone_some, Result.andThen_ok]
    go_wp2
    all_goals go_ret
    all_goals exact ⟨_, rfl, .inr ⟨_, rfl⟩⟩

set_option maxRecDepth 100000 in
theorem clone265 (w : World) (base : Option Addr) (cap : Nat) : Calls Tryz.prog 265 #[.slice base 0 cap] w fun e w' => ∃ b', e = .returned (.slice b' 0 0) ∧ (w' = w ∨ ∃ o, w' = objW w o) := by
  cases base with
  | none =>
    go_enter Tryz.func265, Tryz.ntmps265
    go_wp2
    simp only [eq_nil_slice Tryz.underlying125, Option.isNone_none, Result.andThen_ok]
    go_wp2
    all_goals go_ret
    all_goals exact ⟨_, rfl, .inl rfl⟩
  | some a =>
    go_enter Tryz.func265, Tryz.ntmps265
    go_wp2
    simp only [eq_nil_slice Tryz.underlying125, Option.isNone_some, Result.andThen_ok]
    go_wp2
    all_goals go_ret
    all_goals exact ⟨_, rfl, .inr ⟨_, rfl⟩⟩

set_option maxRecDepth 100000 in
theorem clone330 (w : World) (base : Option Addr) (cap : Nat) : Calls Tryz.prog 330 #[.slice base 0 cap] w fun e w' => ∃ b', e = .returned (.slice b' 0 0) ∧ (w' = w ∨ ∃ o, w' = objW w o) := by
  cases base with
  | none =>
    go_enter Tryz.func330, Tryz.ntmps330
    go_wp2
    simp only [eq_nil_slice Tryz.underlying43, Option.isNone_none, Result.andThen_ok]
    go_wp2
    all_goals go_ret
    all_goals exact ⟨_, rfl, .inl rfl⟩
  | some a =>
    go_enter Tryz.func330, Tryz.ntmps330
    go_wp2
    simp only [eq_nil_slice Tryz.underlying43, Option.isNone_some, Result.andThen_ok]
    go_wp2
    all_goals go_ret
    all_goals exact ⟨_, rfl, .inr ⟨_, rfl⟩⟩

end Go.Proofs.YtdbilmjamgjkeaaGreatDoor
