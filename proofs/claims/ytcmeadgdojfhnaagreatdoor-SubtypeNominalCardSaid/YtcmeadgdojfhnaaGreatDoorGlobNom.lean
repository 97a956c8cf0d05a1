/-
  What the listed variables hold: SubtypeNominal.
-/
import Derived.Test.YtcmeadgdojfhnaaGreatDoorTab
set_option linter.unusedSimpArgs false
set_option linter.unusedVariables false
namespace Go.Proofs.YtcmeadgdojfhnaaGreatDoor.subtypeNominal
open Go.Tel
def RNom (f : Nat) : Option (List PV) := none
theorem cellsE9 : Tryz.prog.cellsOf 9 = 1 := by kernel_rfl
theorem gNamed0 : Tryz.prog.globalNamed "telpher/telmake.extraNames" = some 0 := by kernel_rfl
theorem gType0 : (Tryz.prog.globals[0]?).map (·.type) = some 29 := by kernel_rfl
theorem gNamed1 : Tryz.prog.globalNamed "telpher/hierarchy.reserved" = some 1 := by kernel_rfl
theorem gType1 : (Tryz.prog.globals[1]?).map (·.type) = some 29 := by kernel_rfl
theorem gNamed2 : Tryz.prog.globalNamed "telpher/telmake.leafNames" = some 2 := by kernel_rfl
theorem gType2 : (Tryz.prog.globals[2]?).map (·.type) = some 29 := by kernel_rfl
theorem gNamed3 : Tryz.prog.globalNamed "telpher/typeterm.reserved" = some 3 := by kernel_rfl
theorem gType3 : (Tryz.prog.globals[3]?).map (·.type) = some 29 := by kernel_rfl
theorem globs {W : World} (h : laidMetH Tryz.prog Rows.subtypeNominalRow.laid W) : Globs (env RNom) W := by
  rw [MakeChecks.laidMetH_plain _ _ _ (by kernel_rfl)] at h
  intro gl row hr
  have hr' : globT RNom gl = some row := hr
  by_cases e0 : gl = 0
  · subst e0
    have hr'' : row = strRow [[88, 97], [88, 98], [88, 99], [88, 100]] := (Option.some.inj hr').symm
    subst hr''
    exact glob_strings h (by simp [Rows.subtypeNominalRow, strData, Rows.laid_telpher_telmake_extraNames]) gNamed0 gType0 Tryz.underlying29 Tryz.underlying9 cellsE9
  have b0 : Nat.beq gl 0 = false := beq_ne e0
  by_cases e1 : gl = 1
  · subst e1
    have hr'' : row = strRow [[65, 110, 121], [78, 101, 118, 101, 114], [116, 117, 112, 108, 101], [117, 110, 105, 111, 110], [101, 120, 105, 115, 116, 115]] := (Option.some.inj hr').symm
    subst hr''
    exact glob_strings h (by simp [Rows.subtypeNominalRow, strData, Rows.laid_telpher_hierarchy_reserved]) gNamed1 gType1 Tryz.underlying29 Tryz.underlying9 cellsE9
  have b1 : Nat.beq gl 1 = false := beq_ne e1
  by_cases e2 : gl = 2
  · subst e2
    have hr'' : row = strRow [[73, 110, 116], [66, 111, 111, 108], [83, 116, 114, 105, 110, 103], [78, 105, 108]] := (Option.some.inj hr').symm
    subst hr''
    exact glob_strings h (by simp [Rows.subtypeNominalRow, strData, Rows.laid_telpher_telmake_leafNames]) gNamed2 gType2 Tryz.underlying29 Tryz.underlying9 cellsE9
  have b2 : Nat.beq gl 2 = false := beq_ne e2
  by_cases e3 : gl = 3
  · subst e3
    have hr'' : row = strRow [[65, 110, 121], [78, 101, 118, 101, 114], [116, 117, 112, 108, 101], [117, 110, 105, 111, 110], [101, 120, 105, 115, 116, 115]] := (Option.some.inj hr').symm
    subst hr''
    exact glob_strings h (by simp [Rows.subtypeNominalRow, strData, Rows.laid_telpher_typeterm_reserved]) gNamed3 gType3 Tryz.underlying29 Tryz.underlying9 cellsE9
  have b3 : Nat.beq gl 3 = false := beq_ne e3
  unfold globT RNom at hr'
  simp [b0, b1, b2, b3] at hr'
end Go.Proofs.YtcmeadgdojfhnaaGreatDoor.subtypeNominal
