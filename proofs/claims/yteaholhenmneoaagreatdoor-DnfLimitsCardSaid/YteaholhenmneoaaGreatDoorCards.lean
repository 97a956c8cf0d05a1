/-
  DERIVED. GIVEN WITH THE SEED: THE CARDS: each row of YteaholhenmneoaaGreatDoorRows.lean that lists a variable, with what it lists TIED to the program's text (the seventh form; the later family's looks); each row that meets fmt, with fmt's text TOLD by the authors' own Lean function (tested against real Go, not proved from fmt's source: count such statements apart). THE CARD IS WHAT COUNTS. Prove the row's statement (the work); the ties are given (YteaholhenmneoaaGreatDoorTie.lean); close each card by the builder's one call (the guide's Derived/Test/ToyasCard.lean, 'card_holds'). Laid BY PROGRAM, IN A SANDBOX (cutbox-door.mjs). By AI agents, Wed Nov 11 2026. No macro, syntax, notation, axiom, sorry.
-/
import Derived.Test.YteaholhenmneoaaGreatDoorRows
import GoSem.ClaimSeven
namespace Go.Proofs.YteaholhenmneoaaGreatDoor
namespace Rows

/-- THE TIED CARD OF 'tellaw4.DnfLimits'. -/
def dnfLimitsCard : Claim7 := { stood := { row := dnfLimitsRow, standIns := [], harness := (true, "acba10c864cdf2203d9b8feaeda2f6a625d2d77a62c50e57aa0053b51e699e16"), looks := true }, kinds := [], alts := [], laidByText := true, laidKinds := [.data, .data, .data, .sentinel, .sentinel, .widerDeep], laidTests := true, laidLooks := .later }
def DnfLimitsCardSaid : Prop := Claim7.holds Tryz.pinned (.plain (OpenSpec.ofChange dnfLimitsSpec)) dnfLimitsCard

/-- THE TIED CARD OF 'tellaw4.DnfExamples'. -/
def dnfExamplesCard : Claim7 := { stood := { row := dnfExamplesRow, standIns := [], harness := (true, "acba10c864cdf2203d9b8feaeda2f6a625d2d77a62c50e57aa0053b51e699e16"), looks := true }, kinds := [], alts := [], laidByText := true, laidKinds := [.data, .data, .data, .sentinel, .sentinel, .widerDeep], laidTests := true, laidLooks := .later }
def DnfExamplesCardSaid : Prop := Claim7.holds Tryz.pinned (.plain (OpenSpec.ofChange dnfExamplesSpec)) dnfExamplesCard

/-- THE SECOND FORM's CARD OF 'tellaw4.DnfLimits'. -/
def dnfLimitsUptoCard : Claim7 := { stood := { row := dnfLimitsUptoRow, standIns := [], harness := (true, "acba10c864cdf2203d9b8feaeda2f6a625d2d77a62c50e57aa0053b51e699e16"), looks := true }, kinds := [], alts := [], laidByText := true, laidKinds := [.data, .data, .data, .sentinel, .sentinel, .widerDeep], laidTests := true, laidLooks := .later }
def DnfLimitsUptoCardSaid : Prop := Claim7.holds Tryz.pinned (.plain (OpenSpec.upto dnfLimitsSpec)) dnfLimitsUptoCard

/-- THE SECOND FORM's CARD OF 'tellaw4.DnfExamples'. -/
def dnfExamplesUptoCard : Claim7 := { stood := { row := dnfExamplesUptoRow, standIns := [], harness := (true, "acba10c864cdf2203d9b8feaeda2f6a625d2d77a62c50e57aa0053b51e699e16"), looks := true }, kinds := [], alts := [], laidByText := true, laidKinds := [.data, .data, .data, .sentinel, .sentinel, .widerDeep], laidTests := true, laidLooks := .later }
def DnfExamplesUptoCardSaid : Prop := Claim7.holds Tryz.pinned (.plain (OpenSpec.upto dnfExamplesSpec)) dnfExamplesUptoCard
end Rows
end Go.Proofs.YteaholhenmneoaaGreatDoor
