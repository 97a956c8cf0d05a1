/-
  What the listed variable holds.
-/
import Derived.Test.YteaholhenmneoaaGreatDoorTab
namespace Go.Proofs.YteaholhenmneoaaGreatDoor
open Go.Tel

theorem gRes : Tryz.prog.globalNamed "telpher/typeterm.reserved" = some 0 := by kernel_rfl
theorem tRes : (Tryz.prog.globals[0]?).map (·.type) = some 113 := by kernel_rfl
theorem cells9 : Tryz.prog.cellsOf 9 = 1 := by kernel_rfl

theorem globs {W : World} (h : laidMetH Tryz.prog Rows.dnfExamplesRow.laid W) : Globs env W := by
  rw [MakeChecks.laidMetH_plain _ _ _ (by kernel_rfl)] at h
  intro gl row hr j c hj
  have hr' : globT gl = some row := hr
  unfold globT at hr'
  cases hb : Nat.beq gl 0 with
  | false => rw [hb] at hr'; simp at hr'
  | true =>
    have h0 := Nat.eq_of_beq_eq_true hb
    subst h0
    simp only [Nat.beq, cond_true, Option.some.injEq] at hr'
    subst hr'
    exact glob_strings h (by simp [Rows.dnfExamplesRow, strData, Rows.laid_telpher_typeterm_reserved]) gRes tRes Tryz.underlying113 Tryz.underlying9 cells9 j c hj

end Go.Proofs.YteaholhenmneoaaGreatDoor
