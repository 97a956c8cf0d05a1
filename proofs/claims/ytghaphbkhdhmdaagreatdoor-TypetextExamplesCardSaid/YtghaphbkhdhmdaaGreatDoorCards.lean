/-
  DERIVED. GIVEN WITH THE SEED: THE CARDS: each row of YtghaphbkhdhmdaaGreatDoorRows.lean that lists a variable, with what it lists TIED to the program's text (the seventh form; the later family's looks); each row that meets fmt, with fmt's text TOLD by the authors' own Lean function (tested against real Go, not proved from fmt's source: count such statements apart). THE CARD IS WHAT COUNTS. Prove the row's statement (the work); the ties are given (YtghaphbkhdhmdaaGreatDoorTie.lean); close each card by the builder's one call (the guide's Derived/Test/ToyasCard.lean, 'card_holds'). Laid BY PROGRAM, IN A SANDBOX (cutbox-door.mjs). By AI agents, Wed Nov 11 2026. No macro, syntax, notation, axiom, sorry.
-/
import Derived.Test.YtghaphbkhdhmdaaGreatDoorRows
import GoSem.ClaimSeven
namespace Go.Proofs.YtghaphbkhdhmdaaGreatDoor
namespace Rows

/-- THE TIED CARD OF 'tellaw11.TypetextExamples'. -/
def typetextExamplesCard : Claim7 := { stood := { row := typetextExamplesRow, standIns := [], harness := (true, "708d6d52405d90600be9778ebda6e3466c2a7e8b9748f5bdceeb1151f9ffb3bd"), looks := true }, kinds := [], alts := [], laidByText := true, laidKinds := [.data, .data, .data, .sentinel, .sentinel, .widerDeep, .widerDeep, .widerDeep], laidTests := true, laidLooks := .later }
def TypetextExamplesCardSaid : Prop := Claim7.holds Tryz.pinned (.plain (OpenSpec.ofChange typetextExamplesSpec)) typetextExamplesCard

/-- THE SECOND FORM's CARD OF 'tellaw11.TypetextExamples'. -/
def typetextExamplesUptoCard : Claim7 := { stood := { row := typetextExamplesUptoRow, standIns := [], harness := (true, "708d6d52405d90600be9778ebda6e3466c2a7e8b9748f5bdceeb1151f9ffb3bd"), looks := true }, kinds := [], alts := [], laidByText := true, laidKinds := [.data, .data, .data, .sentinel, .sentinel, .widerDeep, .widerDeep, .widerDeep], laidTests := true, laidLooks := .later }
def TypetextExamplesUptoCardSaid : Prop := Claim7.holds Tryz.pinned (.plain (OpenSpec.upto typetextExamplesSpec)) typetextExamplesUptoCard
end Rows
end Go.Proofs.YtghaphbkhdhmdaaGreatDoor
