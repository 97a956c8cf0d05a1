/-
  What the listed variables hold: TypetextRoundTrip.
-/
import Derived.Test.YtmipbilokjkjiaaGreatDoorTab
set_option linter.unusedSimpArgs false
set_option linter.unusedVariables false
namespace Go.Proofs.YtmipbilokjkjiaaGreatDoor.typetextRoundTrip
open Go.Tel
def tb4 : List (List UInt8) := [[73, 110, 116], [66, 111, 111, 108], [83, 116, 114, 105, 110, 103], [78, 105, 108]]
def tb5 : List (List UInt8) := [[88, 97], [88, 98], [88, 99], [88, 100]]
def RRnd (f : Nat) : Option (List PV) := bif Nat.beq f 4 then some (strRow tb4) else bif Nat.beq f 5 then some (strRow tb5) else none
theorem cellsE9 : Tryz.prog.cellsOf 9 = 1 := by kernel_rfl
theorem gNamed4 : Tryz.prog.globalNamed "telpher/telmake.leafNames" = some 4 := by kernel_rfl
theorem gType4 : (Tryz.prog.globals[4]?).map (·.type) = some 46 := by kernel_rfl
theorem gNamed5 : Tryz.prog.globalNamed "telpher/telmake.extraNames" = some 5 := by kernel_rfl
theorem gType5 : (Tryz.prog.globals[5]?).map (·.type) = some 46 := by kernel_rfl
theorem gNamed6 : Tryz.prog.globalNamed "telpher/typeterm.reserved" = some 6 := by kernel_rfl
theorem gType6 : (Tryz.prog.globals[6]?).map (·.type) = some 46 := by kernel_rfl
theorem gNamed7 : Tryz.prog.globalNamed "telpher/typetext.reserved" = some 7 := by kernel_rfl
theorem gType7 : (Tryz.prog.globals[7]?).map (·.type) = some 46 := by kernel_rfl
theorem globs {W : World} (h : laidMetH Tryz.prog Rows.typetextRoundTripRow.laid W) : Globs (env RRnd) W := by
  rw [MakeChecks.laidMetH_plain _ _ _ (by kernel_rfl)] at h
  intro gl row hr
  have hr' : globT RRnd gl = some row := hr
  by_cases e4 : gl = 4
  · subst e4
    have hr'' : row = strRow [[73, 110, 116], [66, 111, 111, 108], [83, 116, 114, 105, 110, 103], [78, 105, 108]] := (aLs0036 hr').symm
    subst hr''
    exact glob_strings h (by simp [Rows.typetextRoundTripRow, strData, Rows.laid_telpher_telmake_leafNames]) gNamed4 gType4 Tryz.underlying46 Tryz.underlying9 cellsE9
  have b4 : Nat.beq gl 4 = false := beq_ne e4
  by_cases e5 : gl = 5
  · subst e5
    have hr'' : row = strRow [[88, 97], [88, 98], [88, 99], [88, 100]] := (aLs0036 hr').symm
    subst hr''
    exact glob_strings h (by simp [Rows.typetextRoundTripRow, strData, Rows.laid_telpher_telmake_extraNames]) gNamed5 gType5 Tryz.underlying46 Tryz.underlying9 cellsE9
  have b5 : Nat.beq gl 5 = false := beq_ne e5
  by_cases e6 : gl = 6
  · subst e6
    have hr'' : row = strRow [[65, 110, 121], [78, 101, 118, 101, 114], [116, 117, 112, 108, 101], [117, 110, 105, 111, 110], [101, 120, 105, 115, 116, 115]] := (aLs0036 hr').symm
    subst hr''
    exact glob_strings h (by simp [Rows.typetextRoundTripRow, strData, Rows.laid_telpher_typeterm_reserved]) gNamed6 gType6 Tryz.underlying46 Tryz.underlying9 cellsE9
  have b6 : Nat.beq gl 6 = false := beq_ne e6
  by_cases e7 : gl = 7
  · subst e7
    have hr'' : row = strRow [[65, 110, 121], [78, 101, 118, 101, 114], [116, 117, 112, 108, 101], [117, 110, 105, 111, 110], [101, 120, 105, 115, 116, 115]] := (aLs0036 hr').symm
    subst hr''
    exact glob_strings h (by simp [Rows.typetextRoundTripRow, strData, Rows.laid_telpher_typetext_reserved]) gNamed7 gType7 Tryz.underlying46 Tryz.underlying9 cellsE9
  have b7 : Nat.beq gl 7 = false := beq_ne e7
  unfold globT RRnd at hr'
  simp [b4, b5, b6, b7] at hr'
end Go.Proofs.YtmipbilokjkjiaaGreatDoor.typetextRoundTrip
