/-
  DERIVED. GIVEN WITH THE SEED: THE CARDS: each row of YtcmeadgdojfhnaaGreatDoorRows.lean that lists a variable, with what it lists TIED to the program's text (the seventh form; the later family's looks); each row that meets fmt, with fmt's text TOLD by the authors' own Lean function (tested against real Go, not proved from fmt's source: count such statements apart). THE CARD IS WHAT COUNTS. Prove the row's statement (the work); the ties are given (YtcmeadgdojfhnaaGreatDoorTie.lean); close each card by the builder's one call (the guide's Derived/Test/ToyasCard.lean, 'card_holds'). Laid BY PROGRAM, IN A SANDBOX (cutbox-door.mjs). By AI agents, Wed Nov 11 2026. No macro, syntax, notation, axiom, sorry.
-/
import Derived.Test.YtcmeadgdojfhnaaGreatDoorRows
import GoSem.ClaimSeven
namespace Go.Proofs.YtcmeadgdojfhnaaGreatDoor
namespace Rows

/-- THE TIED CARD OF 'tellaw5.SubtypeNominal'. -/
def subtypeNominalCard : Claim7 := { stood := { row := subtypeNominalRow, standIns := [], harness := (true, "12a49f691bc89481df706a4eb0674e9bc0426f1b3b556baa2488b881c6808026"), looks := true }, kinds := [], alts := [], laidByText := true, laidKinds := [.data, .data, .data, .sentinel, .sentinel, .widerDeep, .widerDeep, .data, .data], laidTests := true, laidLooks := .later }
def SubtypeNominalCardSaid : Prop := Claim7.holds Tryz.pinned (.plain (OpenSpec.ofChange subtypeNominalSpec)) subtypeNominalCard

/-- THE SECOND FORM's CARD OF 'tellaw5.SubtypeNominal'. -/
def subtypeNominalUptoCard : Claim7 := { stood := { row := subtypeNominalUptoRow, standIns := [], harness := (true, "12a49f691bc89481df706a4eb0674e9bc0426f1b3b556baa2488b881c6808026"), looks := true }, kinds := [], alts := [], laidByText := true, laidKinds := [.data, .data, .data, .sentinel, .sentinel, .widerDeep, .widerDeep, .data, .data], laidTests := true, laidLooks := .later }
def SubtypeNominalUptoCardSaid : Prop := Claim7.holds Tryz.pinned (.plain (OpenSpec.upto subtypeNominalSpec)) subtypeNominalUptoCard
end Rows
end Go.Proofs.YtcmeadgdojfhnaaGreatDoor
