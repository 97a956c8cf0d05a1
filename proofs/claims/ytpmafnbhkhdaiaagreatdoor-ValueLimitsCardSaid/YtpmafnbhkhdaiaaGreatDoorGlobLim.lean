/-
  What the listed variables hold: ValueLimits.
-/
import Derived.Test.YtpmafnbhkhdaiaaGreatDoorTab
set_option linter.unusedSimpArgs false
set_option linter.unusedVariables false
namespace Go.Proofs.YtpmafnbhkhdaiaaGreatDoor.valueLimits
open Go.Tel
def RLim (f : Nat) : Option (List PV) := none
theorem cellsE9 : Tryz.prog.cellsOf 9 = 1 := by kernel_rfl
theorem gNamed0 : Tryz.prog.globalNamed "telpher/hierarchy.reserved" = some 0 := by kernel_rfl
theorem gType0 : (Tryz.prog.globals[0]?).map (·.type) = some 87 := by kernel_rfl
theorem gNamed2 : Tryz.prog.globalNamed "telpher/typeterm.reserved" = some 2 := by kernel_rfl
theorem gType2 : (Tryz.prog.globals[2]?).map (·.type) = some 87 := by kernel_rfl
theorem globs {W : World} (h : laidMetH Tryz.prog Rows.valueLimitsRow.laid W) : Globs (env RLim) W := by
  rw [MakeChecks.laidMetH_plain _ _ _ (by kernel_rfl)] at h
  intro gl row hr
  have hr' : globT RLim gl = some row := hr
  by_cases e0 : gl = 0
  · subst e0
    have hr'' : row = strRow [[65, 110, 121], [78, 101, 118, 101, 114], [116, 117, 112, 108, 101], [117, 110, 105, 111, 110], [101, 120, 105, 115, 116, 115]] := (Option.some.inj hr').symm
    subst hr''
    exact glob_strings h (by simp [Rows.valueLimitsRow, strData, Rows.laid_telpher_hierarchy_reserved]) gNamed0 gType0 Tryz.underlying87 Tryz.underlying9 cellsE9
  have b0 : Nat.beq gl 0 = false := beq_ne e0
  by_cases e2 : gl = 2
  · subst e2
    have hr'' : row = strRow [[65, 110, 121], [78, 101, 118, 101, 114], [116, 117, 112, 108, 101], [117, 110, 105, 111, 110], [101, 120, 105, 115, 116, 115]] := (Option.some.inj hr').symm
    subst hr''
    exact glob_strings h (by simp [Rows.valueLimitsRow, strData, Rows.laid_telpher_typeterm_reserved]) gNamed2 gType2 Tryz.underlying87 Tryz.underlying9 cellsE9
  have b2 : Nat.beq gl 2 = false := beq_ne e2
  unfold globT RLim at hr'
  simp [b0, b2] at hr'
end Go.Proofs.YtpmafnbhkhdaiaaGreatDoor.valueLimits
