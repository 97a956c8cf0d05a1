/-
  What the listed variables hold.
-/
import Derived.Test.YtedmfigcajdkbaaGreatDoorTab
namespace Go.Proofs.YtedmfigcajdkbaaGreatDoor
open Go.Tel

theorem cellsE9 : Tryz.prog.cellsOf 9 = 1 := by kernel_rfl
theorem gNamed0 : Tryz.prog.globalNamed "telpher/hierarchy.reserved" = some 0 := by kernel_rfl
theorem gType0 : (Tryz.prog.globals[0]?).map (·.type) = some 55 := by kernel_rfl
theorem gNamed1 : Tryz.prog.globalNamed "telpher/typeterm.reserved" = some 1 := by kernel_rfl
theorem gType1 : (Tryz.prog.globals[1]?).map (·.type) = some 55 := by kernel_rfl

theorem globsEx {W : World} (h : laidMetH Tryz.prog Rows.subtypeExamplesRow.laid W) : Globs env W := by
  rw [MakeChecks.laidMetH_plain _ _ _ (by kernel_rfl)] at h
  intro gl row hr j c hj
  have hr' : globT gl = some row := hr
  by_cases e0 : gl = 0
  · subst e0
    have hr'' : row = strRow [[65, 110, 121], [78, 101, 118, 101, 114], [116, 117, 112, 108, 101], [117, 110, 105, 111, 110], [101, 120, 105, 115, 116, 115]] := (Option.some.inj hr').symm
    subst hr''
    exact glob_strings h (by simp [Rows.subtypeExamplesRow, strData, Rows.laid_telpher_hierarchy_reserved]) gNamed0 gType0 Tryz.underlying55 Tryz.underlying9 cellsE9 j c hj
  have b0 : Nat.beq gl 0 = false := beq_ne e0
  by_cases e1 : gl = 1
  · subst e1
    have hr'' : row = strRow [[65, 110, 121], [78, 101, 118, 101, 114], [116, 117, 112, 108, 101], [117, 110, 105, 111, 110], [101, 120, 105, 115, 116, 115]] := (Option.some.inj hr').symm
    subst hr''
    exact glob_strings h (by simp [Rows.subtypeExamplesRow, strData, Rows.laid_telpher_typeterm_reserved]) gNamed1 gType1 Tryz.underlying55 Tryz.underlying9 cellsE9 j c hj
  have b1 : Nat.beq gl 1 = false := beq_ne e1
  unfold globT at hr'
  simp [b0, b1] at hr'

end Go.Proofs.YtedmfigcajdkbaaGreatDoor
