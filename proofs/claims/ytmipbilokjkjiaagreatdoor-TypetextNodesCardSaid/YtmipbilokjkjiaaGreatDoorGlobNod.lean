/-
  What the listed variables hold: TypetextNodes.
-/
import Derived.Test.YtmipbilokjkjiaaGreatDoorTab
set_option linter.unusedSimpArgs false
set_option linter.unusedVariables false
namespace Go.Proofs.YtmipbilokjkjiaaGreatDoor.typetextNodes
open Go.Tel
def tb1 : List (List UInt8) := [[], [97, 32, 98], [113, 117, 111, 116, 101, 32, 34, 32, 97, 110, 100, 32, 92], [126], [40, 110, 111, 116, 32, 97, 32, 108, 105, 115, 116, 41], [59, 32, 110, 111, 32, 99, 111, 109, 109, 101, 110, 116]]
def tb2 : List (List UInt8) := [[97], [120, 49], [45, 55], [48], [66, 111, 120], [97, 100, 100], [108, 101, 116], [116, 114, 117, 101], [110, 105, 108], [65], [65, 110, 121], [116, 117, 112, 108, 101], [97, 45, 98], [101, 120, 105, 115, 116, 115], [116, 97, 115, 107], [50, 49, 52, 55, 52, 56, 51, 54, 52, 56]]
def tb3 : List (List UInt8) := [[73, 110, 116], [66, 111, 111, 108], [65], [66], [65, 110, 121], [78, 101, 118, 101, 114], [83, 104, 97, 112, 101], [68, 105, 115, 107], [77, 105, 115, 115, 105, 110, 103], [116, 117, 112, 108, 101]]
def RNod (f : Nat) : Option (List PV) := bif Nat.beq f 1 then some (strRow tb1) else bif Nat.beq f 2 then some (strRow tb2) else bif Nat.beq f 3 then some (strRow tb3) else none
theorem cellsE9 : Tryz.prog.cellsOf 9 = 1 := by kernel_rfl
theorem gNamed1 : Tryz.prog.globalNamed "telpher/telmake.strings" = some 1 := by kernel_rfl
theorem gType1 : (Tryz.prog.globals[1]?).map (·.type) = some 46 := by kernel_rfl
theorem gNamed2 : Tryz.prog.globalNamed "telpher/telmake.words" = some 2 := by kernel_rfl
theorem gType2 : (Tryz.prog.globals[2]?).map (·.type) = some 46 := by kernel_rfl
theorem gNamed3 : Tryz.prog.globalNamed "telpher/telmake.typeWords" = some 3 := by kernel_rfl
theorem gType3 : (Tryz.prog.globals[3]?).map (·.type) = some 46 := by kernel_rfl
theorem gNamed6 : Tryz.prog.globalNamed "telpher/typeterm.reserved" = some 6 := by kernel_rfl
theorem gType6 : (Tryz.prog.globals[6]?).map (·.type) = some 46 := by kernel_rfl
theorem gNamed7 : Tryz.prog.globalNamed "telpher/typetext.reserved" = some 7 := by kernel_rfl
theorem gType7 : (Tryz.prog.globals[7]?).map (·.type) = some 46 := by kernel_rfl
theorem globs {W : World} (h : laidMetH Tryz.prog Rows.typetextNodesRow.laid W) : Globs (env RNod) W := by
  rw [MakeChecks.laidMetH_plain _ _ _ (by kernel_rfl)] at h
  intro gl row hr j c hj
  have hr' : globT RNod gl = some row := hr
  by_cases e1 : gl = 1
  · subst e1
    have hr'' : row = strRow [[], [97, 32, 98], [113, 117, 111, 116, 101, 32, 34, 32, 97, 110, 100, 32, 92], [126], [40, 110, 111, 116, 32, 97, 32, 108, 105, 115, 116, 41], [59, 32, 110, 111, 32, 99, 111, 109, 109, 101, 110, 116]] := (Option.some.inj hr').symm
    subst hr''
    exact glob_strings h (by simp [Rows.typetextNodesRow, strData, Rows.laid_telpher_telmake_strings]) gNamed1 gType1 Tryz.underlying46 Tryz.underlying9 cellsE9 j c hj
  have b1 : Nat.beq gl 1 = false := beq_ne e1
  by_cases e2 : gl = 2
  · subst e2
    have hr'' : row = strRow [[97], [120, 49], [45, 55], [48], [66, 111, 120], [97, 100, 100], [108, 101, 116], [116, 114, 117, 101], [110, 105, 108], [65], [65, 110, 121], [116, 117, 112, 108, 101], [97, 45, 98], [101, 120, 105, 115, 116, 115], [116, 97, 115, 107], [50, 49, 52, 55, 52, 56, 51, 54, 52, 56]] := (Option.some.inj hr').symm
    subst hr''
    exact glob_strings h (by simp [Rows.typetextNodesRow, strData, Rows.laid_telpher_telmake_words]) gNamed2 gType2 Tryz.underlying46 Tryz.underlying9 cellsE9 j c hj
  have b2 : Nat.beq gl 2 = false := beq_ne e2
  by_cases e3 : gl = 3
  · subst e3
    have hr'' : row = strRow [[73, 110, 116], [66, 111, 111, 108], [65], [66], [65, 110, 121], [78, 101, 118, 101, 114], [83, 104, 97, 112, 101], [68, 105, 115, 107], [77, 105, 115, 115, 105, 110, 103], [116, 117, 112, 108, 101]] := (Option.some.inj hr').symm
    subst hr''
    exact glob_strings h (by simp [Rows.typetextNodesRow, strData, Rows.laid_telpher_telmake_typeWords]) gNamed3 gType3 Tryz.underlying46 Tryz.underlying9 cellsE9 j c hj
  have b3 : Nat.beq gl 3 = false := beq_ne e3
  by_cases e6 : gl = 6
  · subst e6
    have hr'' : row = strRow [[65, 110, 121], [78, 101, 118, 101, 114], [116, 117, 112, 108, 101], [117, 110, 105, 111, 110], [101, 120, 105, 115, 116, 115]] := (Option.some.inj hr').symm
    subst hr''
    exact glob_strings h (by simp [Rows.typetextNodesRow, strData, Rows.laid_telpher_typeterm_reserved]) gNamed6 gType6 Tryz.underlying46 Tryz.underlying9 cellsE9 j c hj
  have b6 : Nat.beq gl 6 = false := beq_ne e6
  by_cases e7 : gl = 7
  · subst e7
    have hr'' : row = strRow [[65, 110, 121], [78, 101, 118, 101, 114], [116, 117, 112, 108, 101], [117, 110, 105, 111, 110], [101, 120, 105, 115, 116, 115]] := (Option.some.inj hr').symm
    subst hr''
    exact glob_strings h (by simp [Rows.typetextNodesRow, strData, Rows.laid_telpher_typetext_reserved]) gNamed7 gType7 Tryz.underlying46 Tryz.underlying9 cellsE9 j c hj
  have b7 : Nat.beq gl 7 = false := beq_ne e7
  unfold globT RNod at hr'
  simp [b1, b2, b3, b6, b7] at hr'
end Go.Proofs.YtmipbilokjkjiaaGreatDoor.typetextNodes
