/-
  What the listed variables hold.
-/
import Derived.Test.YtghaphbkhdhmdaaGreatDoorTab
set_option linter.unusedSimpArgs false
set_option linter.unusedVariables false
namespace Go.Proofs.YtghaphbkhdhmdaaGreatDoor
open Go.Tel

theorem cellsE9 : Tryz.prog.cellsOf 9 = 1 := by kernel_rfl
theorem gNamed0 : Tryz.prog.globalNamed "telpher/hierarchy.reserved" = some 0 := by kernel_rfl
theorem gType0 : (Tryz.prog.globals[0]?).map (·.type) = some 65 := by kernel_rfl
theorem gNamed1 : Tryz.prog.globalNamed "telpher/typeterm.reserved" = some 1 := by kernel_rfl
theorem gType1 : (Tryz.prog.globals[1]?).map (·.type) = some 65 := by kernel_rfl
theorem gNamed2 : Tryz.prog.globalNamed "telpher/typetext.reserved" = some 2 := by kernel_rfl
theorem gType2 : (Tryz.prog.globals[2]?).map (·.type) = some 65 := by kernel_rfl

theorem globsEx {W : World} (h : laidMetH Tryz.prog Rows.typetextExamplesRow.laid W) : Globs env W := by
  rw [MakeChecks.laidMetH_plain _ _ _ (by kernel_rfl)] at h
  intro gl row hr j c hj
  have hr' : globT gl = some row := hr
  by_cases e0 : gl = 0
  · subst e0
    have hr'' : row = strRow [[65, 110, 121], [78, 101, 118, 101, 114], [116, 117, 112, 108, 101], [117, 110, 105, 111, 110], [101, 120, 105, 115, 116, 115]] := (Option.some.inj hr').symm
    subst hr''
    exact glob_strings h (by simp [Rows.typetextExamplesRow, strData, Rows.laid_telpher_hierarchy_reserved]) gNamed0 gType0 Tryz.underlying65 Tryz.underlying9 cellsE9 j c hj
  have b0 : Nat.beq gl 0 = false := beq_ne e0
  by_cases e1 : gl = 1
  · subst e1
    have hr'' : row = strRow [[65, 110, 121], [78, 101, 118, 101, 114], [116, 117, 112, 108, 101], [117, 110, 105, 111, 110], [101, 120, 105, 115, 116, 115]] := (Option.some.inj hr').symm
    subst hr''
    exact glob_strings h (by simp [Rows.typetextExamplesRow, strData, Rows.laid_telpher_typeterm_reserved]) gNamed1 gType1 Tryz.underlying65 Tryz.underlying9 cellsE9 j c hj
  have b1 : Nat.beq gl 1 = false := beq_ne e1
  by_cases e2 : gl = 2
  · subst e2
    have hr'' : row = strRow [[65, 110, 121], [78, 101, 118, 101, 114], [116, 117, 112, 108, 101], [117, 110, 105, 111, 110], [101, 120, 105, 115, 116, 115]] := (Option.some.inj hr').symm
    subst hr''
    exact glob_strings h (by simp [Rows.typetextExamplesRow, strData, Rows.laid_telpher_typetext_reserved]) gNamed2 gType2 Tryz.underlying65 Tryz.underlying9 cellsE9 j c hj
  have b2 : Nat.beq gl 2 = false := beq_ne e2
  unfold globT at hr'
  simp [b0, b1, b2] at hr'

end Go.Proofs.YtghaphbkhdhmdaaGreatDoor
