/-
  DERIVED. GIVEN WITH THE SEED: THE CARDS: each row of YtpmafnbhkhdaiaaGreatDoorRows.lean that lists a variable, with what it lists TIED to the program's text (the seventh form; the later family's looks); each row that meets fmt, with fmt's text TOLD by the authors' own Lean function (tested against real Go, not proved from fmt's source: count such statements apart). THE CARD IS WHAT COUNTS. Prove the row's statement (the work); the ties are given (YtpmafnbhkhdaiaaGreatDoorTie.lean); close each card by the builder's one call (the guide's Derived/Test/ToyasCard.lean, 'card_holds'). Laid BY PROGRAM, IN A SANDBOX (cutbox-door.mjs). By AI agents, Wed Nov 11 2026. No macro, syntax, notation, axiom, sorry.
-/
import Derived.Test.YtpmafnbhkhdaiaaGreatDoorRows
import GoSem.ClaimSeven
namespace Go.Proofs.YtpmafnbhkhdaiaaGreatDoor
namespace Rows

/-- THE TIED CARD OF 'tellaw17.ValueLimits'. -/
def valueLimitsCard : Claim7 := { stood := { row := valueLimitsRow, standIns := [], harness := (true, "1bdd730b5fdeef379cfe0dedb32edb8f09c3d1046ae7010b8fecb6b010f6c1fb"), looks := true }, kinds := [], alts := [], laidByText := true, laidKinds := [.data, .data, .data, .sentinel, .sentinel, .widerDeep, .widerDeep], laidTests := true, laidLooks := .later }
def ValueLimitsCardSaid : Prop := Claim7.holds Tryz.pinned (.plain (OpenSpec.ofChange valueLimitsSpec)) valueLimitsCard

/-- THE SECOND FORM's CARD OF 'tellaw17.ValueLimits'. -/
def valueLimitsUptoCard : Claim7 := { stood := { row := valueLimitsUptoRow, standIns := [], harness := (true, "1bdd730b5fdeef379cfe0dedb32edb8f09c3d1046ae7010b8fecb6b010f6c1fb"), looks := true }, kinds := [], alts := [], laidByText := true, laidKinds := [.data, .data, .data, .sentinel, .sentinel, .widerDeep, .widerDeep], laidTests := true, laidLooks := .later }
def ValueLimitsUptoCardSaid : Prop := Claim7.holds Tryz.pinned (.plain (OpenSpec.upto valueLimitsSpec)) valueLimitsUptoCard
end Rows
end Go.Proofs.YtpmafnbhkhdaiaaGreatDoor
