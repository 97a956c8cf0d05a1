/-
  What the listed variables hold.
-/
import Derived.Test.YtdbilmjamgjkeaaGreatDoorTab
namespace Go.Proofs.YtdbilmjamgjkeaaGreatDoor
open Go.Tel

theorem cellsE9 : Tryz.prog.cellsOf 9 = 1 := by kernel_rfl
theorem gNamed0 : Tryz.prog.globalNamed "telpher/telmake.strings" = some 0 := by kernel_rfl
theorem gType0 : (Tryz.prog.globals[0]?).map (·.type) = some 68 := by kernel_rfl
theorem gNamed3 : Tryz.prog.globalNamed "telpher/hierarchy.reserved" = some 3 := by kernel_rfl
theorem gType3 : (Tryz.prog.globals[3]?).map (·.type) = some 68 := by kernel_rfl
theorem gNamed5 : Tryz.prog.globalNamed "telpher/typeterm.reserved" = some 5 := by kernel_rfl
theorem gType5 : (Tryz.prog.globals[5]?).map (·.type) = some 68 := by kernel_rfl

theorem globsVp {W : World} (h : laidMetH Tryz.prog Rows.valuePrimitivesRow.laid W) : Globs env W := by
  rw [MakeChecks.laidMetH_plain _ _ _ (by kernel_rfl)] at h
  intro gl row hr j c hj
  have hr' : globT gl = some row := hr
  by_cases e0 : gl = 0
  · subst e0
    have hr'' : row = strRow [[], [97, 32, 98], [113, 117, 111, 116, 101, 32, 34, 32, 97, 110, 100, 32, 92], [126], [40, 110, 111, 116, 32, 97, 32, 108, 105, 115, 116, 41], [59, 32, 110, 111, 32, 99, 111, 109, 109, 101, 110, 116]] := (Option.some.inj hr').symm
    subst hr''
    exact glob_strings h (by simp [Rows.valuePrimitivesRow, strData, Rows.laid_telpher_telmake_strings]) gNamed0 gType0 Tryz.underlying68 Tryz.underlying9 cellsE9 j c hj
  have b0 : Nat.beq gl 0 = false := beq_ne e0
  by_cases e3 : gl = 3
  · subst e3
    have hr'' : row = strRow [[65, 110, 121], [78, 101, 118, 101, 114], [116, 117, 112, 108, 101], [117, 110, 105, 111, 110], [101, 120, 105, 115, 116, 115]] := (Option.some.inj hr').symm
    subst hr''
    exact glob_strings h (by simp [Rows.valuePrimitivesRow, strData, Rows.laid_telpher_hierarchy_reserved]) gNamed3 gType3 Tryz.underlying68 Tryz.underlying9 cellsE9 j c hj
  have b3 : Nat.beq gl 3 = false := beq_ne e3
  by_cases e5 : gl = 5
  · subst e5
    have hr'' : row = strRow [[65, 110, 121], [78, 101, 118, 101, 114], [116, 117, 112, 108, 101], [117, 110, 105, 111, 110], [101, 120, 105, 115, 116, 115]] := (Option.some.inj hr').symm
    subst hr''
    exact glob_strings h (by simp [Rows.valuePrimitivesRow, strData, Rows.laid_telpher_typeterm_reserved]) gNamed5 gType5 Tryz.underlying68 Tryz.underlying9 cellsE9 j c hj
  have b5 : Nat.beq gl 5 = false := beq_ne e5
  unfold globT at hr'
  simp [b0, b3, b5] at hr'

end Go.Proofs.YtdbilmjamgjkeaaGreatDoor
