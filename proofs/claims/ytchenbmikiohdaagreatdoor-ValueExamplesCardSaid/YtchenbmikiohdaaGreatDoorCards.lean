/-
  DERIVED. GIVEN WITH THE SEED: THE CARDS: each row of YtchenbmikiohdaaGreatDoorRows.lean that lists a variable, with what it lists TIED to the program's text (the seventh form; the later family's looks); each row that meets fmt, with fmt's text TOLD by the authors' own Lean function (tested against real Go, not proved from fmt's source: count such statements apart). THE CARD IS WHAT COUNTS. Prove the row's statement (the work); the ties are given (YtchenbmikiohdaaGreatDoorTie.lean); close each card by the builder's one call (the guide's Derived/Test/ToyasCard.lean, 'card_holds'). Laid BY PROGRAM, IN A SANDBOX (cutbox-door.mjs). By AI agents, Wed Nov 11 2026. No macro, syntax, notation, axiom, sorry.
-/
import Derived.Test.YtchenbmikiohdaaGreatDoorRows
import GoSem.ClaimSeven
namespace Go.Proofs.YtchenbmikiohdaaGreatDoor
namespace Rows

/-- THE TIED CARD OF 'tellaw17.ValueExamples'. -/
def valueExamplesCard : Claim7 := { stood := { row := valueExamplesRow, standIns := [], harness := (true, "70844c583ca3995bd89042028e87cabb399721949eebb951000e8a4663f5e17d"), looks := true }, kinds := [], alts := [], laidByText := true, laidKinds := [.data, .data, .data, .sentinel, .sentinel, .widerDeep, .widerDeep], laidTests := true, laidLooks := .later }
def ValueExamplesCardSaid : Prop := Claim7.holds Tryz.pinned (.plain (OpenSpec.ofChange valueExamplesSpec)) valueExamplesCard

/-- THE SECOND FORM's CARD OF 'tellaw17.ValueExamples'. -/
def valueExamplesUptoCard : Claim7 := { stood := { row := valueExamplesUptoRow, standIns := [], harness := (true, "70844c583ca3995bd89042028e87cabb399721949eebb951000e8a4663f5e17d"), looks := true }, kinds := [], alts := [], laidByText := true, laidKinds := [.data, .data, .data, .sentinel, .sentinel, .widerDeep, .widerDeep], laidTests := true, laidLooks := .later }
def ValueExamplesUptoCardSaid : Prop := Claim7.holds Tryz.pinned (.plain (OpenSpec.upto valueExamplesSpec)) valueExamplesUptoCard
end Rows
end Go.Proofs.YtchenbmikiohdaaGreatDoor
