/-
  DERIVED. GIVEN WITH THE SEED: THE CARDS: each row of YtedmfigcajdkbaaGreatDoorRows.lean that lists a variable, with what it lists TIED to the program's text (the seventh form; the later family's looks); each row that meets fmt, with fmt's text TOLD by the authors' own Lean function (tested against real Go, not proved from fmt's source: count such statements apart). THE CARD IS WHAT COUNTS. Prove the row's statement (the work); the ties are given (YtedmfigcajdkbaaGreatDoorTie.lean); close each card by the builder's one call (the guide's Derived/Test/ToyasCard.lean, 'card_holds'). Laid BY PROGRAM, IN A SANDBOX (cutbox-door.mjs). By AI agents, Wed Nov 11 2026. No macro, syntax, notation, axiom, sorry.
-/
import Derived.Test.YtedmfigcajdkbaaGreatDoorRows
import GoSem.ClaimSeven
namespace Go.Proofs.YtedmfigcajdkbaaGreatDoor
namespace Rows

/-- THE TIED CARD OF 'tellaw5.SubtypeExamples'. -/
def subtypeExamplesCard : Claim7 := { stood := { row := subtypeExamplesRow, standIns := [], harness := (true, "0780d1b4c3889564b7d542dabe9733ab4b9144a3c87e9214cb34c5181ce9993d"), looks := true }, kinds := [], alts := [], laidByText := true, laidKinds := [.data, .data, .data, .sentinel, .sentinel, .widerDeep, .widerDeep], laidTests := true, laidLooks := .later }
def SubtypeExamplesCardSaid : Prop := Claim7.holds Tryz.pinned (.plain (OpenSpec.ofChange subtypeExamplesSpec)) subtypeExamplesCard

/-- THE SECOND FORM's CARD OF 'tellaw5.SubtypeExamples'. -/
def subtypeExamplesUptoCard : Claim7 := { stood := { row := subtypeExamplesUptoRow, standIns := [], harness := (true, "0780d1b4c3889564b7d542dabe9733ab4b9144a3c87e9214cb34c5181ce9993d"), looks := true }, kinds := [], alts := [], laidByText := true, laidKinds := [.data, .data, .data, .sentinel, .sentinel, .widerDeep, .widerDeep], laidTests := true, laidLooks := .later }
def SubtypeExamplesUptoCardSaid : Prop := Claim7.holds Tryz.pinned (.plain (OpenSpec.upto subtypeExamplesSpec)) subtypeExamplesUptoCard
end Rows
end Go.Proofs.YtedmfigcajdkbaaGreatDoor
