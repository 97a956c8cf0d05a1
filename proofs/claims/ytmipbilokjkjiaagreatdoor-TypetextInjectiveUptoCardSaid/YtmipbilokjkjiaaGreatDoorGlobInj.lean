/-
  What the listed variables hold: TypetextInjectiveUpto.
-/
import Derived.Test.YtmipbilokjkjiaaGreatDoorTab
set_option linter.unusedSimpArgs false
set_option linter.unusedVariables false
namespace Go.Proofs.YtmipbilokjkjiaaGreatDoor.typetextInjectiveUpto
open Go.Tel
def tb4 : List (List UInt8) := [[73, 110, 116], [66, 111, 111, 108], [83, 116, 114, 105, 110, 103], [78, 105, 108]]
def RInj (f : Nat) : Option (List PV) := bif Nat.beq f 4 then some (strRow tb4) else none
theorem cellsE9 : Tryz.prog.cellsOf 9 = 1 := by kernel_rfl
theorem gNamed4 : Tryz.prog.globalNamed "telpher/telmake.leafNames" = some 4 := by kernel_rfl
theorem gType4 : (Tryz.prog.globals[4]?).map (·.type) = some 46 := by kernel_rfl
theorem gNamed6 : Tryz.prog.globalNamed "telpher/typeterm.reserved" = some 6 := by kernel_rfl
theorem gType6 : (Tryz.prog.globals[6]?).map (·.type) = some 46 := by kernel_rfl
theorem gNamed7 : Tryz.prog.globalNamed "telpher/typetext.reserved" = some 7 := by kernel_rfl
theorem gType7 : (Tryz.prog.globals[7]?).map (·.type) = some 46 := by kernel_rfl
theorem globs {W : World} (h : laidMetH Tryz.prog Rows.typetextInjectiveUptoRow.laid W) : Globs (env RInj) W := by
  rw [MakeChecks.laidMetH_plain _ _ _ (by kernel_rfl)] at h
  intro gl row hr j c hj
  have hr' : globT RInj gl = some row := hr
  by_cases e4 : gl = 4
  · subst e4
    have hr'' : row = strRow [[73, 110, 116], [66, 111, 111, 108], [83, 116, 114, 105, 110, 103], [78, 105, 108]] := (Option.some.inj hr').symm
    subst hr''
    exact glob_strings h (by simp [Rows.typetextInjectiveUptoRow, strData, Rows.laid_telpher_telmake_leafNames]) gNamed4 gType4 Tryz.underlying46 Tryz.underlying9 cellsE9 j c hj
  have b4 : Nat.beq gl 4 = false := beq_ne e4
  by_cases e6 : gl = 6
  · subst e6
    have hr'' : row = strRow [[65, 110, 121], [78, 101, 118, 101, 114], [116, 117, 112, 108, 101], [117, 110, 105, 111, 110], [101, 120, 105, 115, 116, 115]] := (Option.some.inj hr').symm
    subst hr''
    exact glob_strings h (by simp [Rows.typetextInjectiveUptoRow, strData, Rows.laid_telpher_typeterm_reserved]) gNamed6 gType6 Tryz.underlying46 Tryz.underlying9 cellsE9 j c hj
  have b6 : Nat.beq gl 6 = false := beq_ne e6
  by_cases e7 : gl = 7
  · subst e7
    have hr'' : row = strRow [[65, 110, 121], [78, 101, 118, 101, 114], [116, 117, 112, 108, 101], [117, 110, 105, 111, 110], [101, 120, 105, 115, 116, 115]] := (Option.some.inj hr').symm
    subst hr''
    exact glob_strings h (by simp [Rows.typetextInjectiveUptoRow, strData, Rows.laid_telpher_typetext_reserved]) gNamed7 gType7 Tryz.underlying46 Tryz.underlying9 cellsE9 j c hj
  have b7 : Nat.beq gl 7 = false := beq_ne e7
  unfold globT RInj at hr'
  simp [b4, b6, b7] at hr'
end Go.Proofs.YtmipbilokjkjiaaGreatDoor.typetextInjectiveUpto
