/-
  DERIVED. GIVEN WITH THE SEED: THE CARDS: each row of YtmipbilokjkjiaaGreatDoorRows.lean that lists a variable, with what it lists TIED to the program's text (the seventh form; the later family's looks); each row that meets fmt, with fmt's text TOLD by the authors' own Lean function (tested against real Go, not proved from fmt's source: count such statements apart). THE CARD IS WHAT COUNTS. Prove the row's statement (the work); the ties are given (YtmipbilokjkjiaaGreatDoorTie.lean); close each card by the builder's one call (the guide's Derived/Test/ToyasCard.lean, 'card_holds'). Laid BY PROGRAM, IN A SANDBOX (cutbox-door.mjs). By AI agents, Wed Nov 11 2026. No macro, syntax, notation, axiom, sorry.
-/
import Derived.Test.YtmipbilokjkjiaaGreatDoorRows
import GoSem.ClaimSeven
namespace Go.Proofs.YtmipbilokjkjiaaGreatDoor
namespace Rows

/-- THE TIED CARD OF 'tellaw11.TypetextRoundTrip'. -/
def typetextRoundTripCard : Claim7 := { stood := { row := typetextRoundTripRow, standIns := [], harness := (true, "3eff87a0c249283f0a159f49e8f3b0da4ef928fd450f047862ef6ed4ca9cb791"), looks := true }, kinds := [], alts := [], laidByText := true, laidKinds := [.data, .data, .data, .widerDeep, .data, .data, .widerDeep], laidTests := true, laidLooks := .later }
def TypetextRoundTripCardSaid : Prop := Claim7.holds Tryz.pinned (.plain (OpenSpec.ofChange typetextRoundTripSpec)) typetextRoundTripCard

/-- THE TIED CARD OF 'tellaw11.TypetextFormat'. -/
def typetextFormatCard : Claim7 := { stood := { row := typetextFormatRow, standIns := [], harness := (true, "3eff87a0c249283f0a159f49e8f3b0da4ef928fd450f047862ef6ed4ca9cb791"), looks := true }, kinds := [], alts := [], laidByText := true, laidKinds := [.data, .data, .data, .widerDeep, .data, .data, .widerDeep], laidTests := true, laidLooks := .later }
def TypetextFormatCardSaid : Prop := Claim7.holds Tryz.pinned (.plain (OpenSpec.ofChange typetextFormatSpec)) typetextFormatCard

/-- THE TIED CARD OF 'tellaw11.TypetextNodes'. -/
def typetextNodesCard : Claim7 := { stood := { row := typetextNodesRow, standIns := [], harness := (true, "3eff87a0c249283f0a159f49e8f3b0da4ef928fd450f047862ef6ed4ca9cb791"), looks := true }, kinds := [], alts := [], laidByText := true, laidKinds := [.data, .data, .data, .widerDeep, .data, .data, .data, .widerDeep], laidTests := true, laidLooks := .later }
def TypetextNodesCardSaid : Prop := Claim7.holds Tryz.pinned (.plain (OpenSpec.ofChange typetextNodesSpec)) typetextNodesCard

/-- THE TIED CARD OF 'tellaw11.TypetextInjective'. -/
def typetextInjectiveCard : Claim7 := { stood := { row := typetextInjectiveRow, standIns := [], harness := (true, "3eff87a0c249283f0a159f49e8f3b0da4ef928fd450f047862ef6ed4ca9cb791"), looks := true }, kinds := [], alts := [], laidByText := true, laidKinds := [.data, .data, .data, .widerDeep, .data, .widerDeep], laidTests := true, laidLooks := .later }
def TypetextInjectiveCardSaid : Prop := Claim7.holds Tryz.pinned (.plain (OpenSpec.ofChange typetextInjectiveSpec)) typetextInjectiveCard

/-- THE SECOND FORM's CARD OF 'tellaw11.TypetextRoundTrip'. -/
def typetextRoundTripUptoCard : Claim7 := { stood := { row := typetextRoundTripUptoRow, standIns := [], harness := (true, "3eff87a0c249283f0a159f49e8f3b0da4ef928fd450f047862ef6ed4ca9cb791"), looks := true }, kinds := [], alts := [], laidByText := true, laidKinds := [.data, .data, .data, .widerDeep, .data, .data, .widerDeep], laidTests := true, laidLooks := .later }
def TypetextRoundTripUptoCardSaid : Prop := Claim7.holds Tryz.pinned (.plain (OpenSpec.upto typetextRoundTripSpec)) typetextRoundTripUptoCard

/-- THE SECOND FORM's CARD OF 'tellaw11.TypetextFormat'. -/
def typetextFormatUptoCard : Claim7 := { stood := { row := typetextFormatUptoRow, standIns := [], harness := (true, "3eff87a0c249283f0a159f49e8f3b0da4ef928fd450f047862ef6ed4ca9cb791"), looks := true }, kinds := [], alts := [], laidByText := true, laidKinds := [.data, .data, .data, .widerDeep, .data, .data, .widerDeep], laidTests := true, laidLooks := .later }
def TypetextFormatUptoCardSaid : Prop := Claim7.holds Tryz.pinned (.plain (OpenSpec.upto typetextFormatSpec)) typetextFormatUptoCard

/-- THE SECOND FORM's CARD OF 'tellaw11.TypetextNodes'. -/
def typetextNodesUptoCard : Claim7 := { stood := { row := typetextNodesUptoRow, standIns := [], harness := (true, "3eff87a0c249283f0a159f49e8f3b0da4ef928fd450f047862ef6ed4ca9cb791"), looks := true }, kinds := [], alts := [], laidByText := true, laidKinds := [.data, .data, .data, .widerDeep, .data, .data, .data, .widerDeep], laidTests := true, laidLooks := .later }
def TypetextNodesUptoCardSaid : Prop := Claim7.holds Tryz.pinned (.plain (OpenSpec.upto typetextNodesSpec)) typetextNodesUptoCard

/-- THE SECOND FORM's CARD OF 'tellaw11.TypetextInjective'. -/
def typetextInjectiveUptoCard : Claim7 := { stood := { row := typetextInjectiveUptoRow, standIns := [], harness := (true, "3eff87a0c249283f0a159f49e8f3b0da4ef928fd450f047862ef6ed4ca9cb791"), looks := true }, kinds := [], alts := [], laidByText := true, laidKinds := [.data, .data, .data, .widerDeep, .data, .widerDeep], laidTests := true, laidLooks := .later }
def TypetextInjectiveUptoCardSaid : Prop := Claim7.holds Tryz.pinned (.plain (OpenSpec.upto typetextInjectiveSpec)) typetextInjectiveUptoCard
end Rows
end Go.Proofs.YtmipbilokjkjiaaGreatDoor
