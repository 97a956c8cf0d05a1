/-
  DERIVED. GIVEN WITH THE SEED: THE CARDS: each row of YtpgfpakdnijngaaGreatDoorRows.lean that lists a variable, with what it lists TIED to the program's text (the seventh form; the later family's looks); each row that meets fmt, with fmt's text TOLD by the authors' own Lean function (tested against real Go, not proved from fmt's source: count such statements apart). THE CARD IS WHAT COUNTS. Prove the row's statement (the work); the ties are given (YtpgfpakdnijngaaGreatDoorTie.lean); close each card by the builder's one call (the guide's Derived/Test/ToyasCard.lean, 'card_holds'). Laid BY PROGRAM, IN A SANDBOX (cutbox-door.mjs). By AI agents, Wed Nov 11 2026. No macro, syntax, notation, axiom, sorry.
-/
import Derived.Test.YtpgfpakdnijngaaGreatDoorRows
import GoSem.ClaimSeven
namespace Go.Proofs.YtpgfpakdnijngaaGreatDoor
namespace Rows

/-- THE TIED CARD OF 'tellaw4.DnfExpand'. -/
def dnfExpandCard : Claim7 := { stood := { row := dnfExpandRow, standIns := [], harness := (true, "2b65ba239c629430b63f979ade614d0d63ee7f35d4d4b64838f3fb50025d86e1"), looks := true }, kinds := [], alts := [], laidByText := true, laidKinds := [.data, .data, .data, .sentinel, .sentinel, .widerDeep, .data], laidTests := true, laidLooks := .later }
def DnfExpandCardSaid : Prop := Claim7.holds Tryz.pinned (.plain (OpenSpec.ofChange dnfExpandSpec)) dnfExpandCard

/-- THE TIED CARD OF 'tellaw4.DnfExpandAny'. -/
def dnfExpandAnyCard : Claim7 := { stood := { row := dnfExpandAnyRow, standIns := [], harness := (true, "2b65ba239c629430b63f979ade614d0d63ee7f35d4d4b64838f3fb50025d86e1"), looks := true }, kinds := [], alts := [], laidByText := true, laidKinds := [.data, .data, .data, .sentinel, .sentinel, .widerDeep, .data], laidTests := true, laidLooks := .later }
def DnfExpandAnyCardSaid : Prop := Claim7.holds Tryz.pinned (.plain (OpenSpec.ofChange dnfExpandAnySpec)) dnfExpandAnyCard

/-- THE TIED CARD OF 'tellaw4.DnfDistributes'. -/
def dnfDistributesCard : Claim7 := { stood := { row := dnfDistributesRow, standIns := [], harness := (true, "2b65ba239c629430b63f979ade614d0d63ee7f35d4d4b64838f3fb50025d86e1"), looks := true }, kinds := [], alts := [], laidByText := true, laidKinds := [.data, .data, .data, .sentinel, .sentinel, .widerDeep, .data], laidTests := true, laidLooks := .later }
def DnfDistributesCardSaid : Prop := Claim7.holds Tryz.pinned (.plain (OpenSpec.ofChange dnfDistributesSpec)) dnfDistributesCard

/-- THE TIED CARD OF 'tellaw4.DnfSplit'. -/
def dnfSplitCard : Claim7 := { stood := { row := dnfSplitRow, standIns := [], harness := (true, "2b65ba239c629430b63f979ade614d0d63ee7f35d4d4b64838f3fb50025d86e1"), looks := true }, kinds := [], alts := [], laidByText := true, laidKinds := [.data, .data, .data, .sentinel, .sentinel, .widerDeep, .data], laidTests := true, laidLooks := .later }
def DnfSplitCardSaid : Prop := Claim7.holds Tryz.pinned (.plain (OpenSpec.ofChange dnfSplitSpec)) dnfSplitCard

/-- THE TIED CARD OF 'tellaw4.DnfValid'. -/
def dnfValidCard : Claim7 := { stood := { row := dnfValidRow, standIns := [], harness := (true, "2b65ba239c629430b63f979ade614d0d63ee7f35d4d4b64838f3fb50025d86e1"), looks := true }, kinds := [], alts := [], laidByText := true, laidKinds := [.data, .data, .data, .sentinel, .sentinel, .widerDeep, .data], laidTests := true, laidLooks := .later }
def DnfValidCardSaid : Prop := Claim7.holds Tryz.pinned (.plain (OpenSpec.ofChange dnfValidSpec)) dnfValidCard

/-- THE TIED CARD OF 'tellaw4.DnfCanonical'. -/
def dnfCanonicalCard : Claim7 := { stood := { row := dnfCanonicalRow, standIns := [], harness := (true, "2b65ba239c629430b63f979ade614d0d63ee7f35d4d4b64838f3fb50025d86e1"), looks := true }, kinds := [], alts := [], laidByText := true, laidKinds := [.data, .data, .data, .sentinel, .sentinel, .widerDeep, .data], laidTests := true, laidLooks := .later }
def DnfCanonicalCardSaid : Prop := Claim7.holds Tryz.pinned (.plain (OpenSpec.ofChange dnfCanonicalSpec)) dnfCanonicalCard

/-- THE TIED CARD OF 'tellaw4.DnfBranches'. -/
def dnfBranchesCard : Claim7 := { stood := { row := dnfBranchesRow, standIns := [], harness := (true, "2b65ba239c629430b63f979ade614d0d63ee7f35d4d4b64838f3fb50025d86e1"), looks := true }, kinds := [], alts := [], laidByText := true, laidKinds := [.data, .data, .data, .sentinel, .sentinel, .widerDeep, .data], laidTests := true, laidLooks := .later }
def DnfBranchesCardSaid : Prop := Claim7.holds Tryz.pinned (.plain (OpenSpec.ofChange dnfBranchesSpec)) dnfBranchesCard

/-- THE SECOND FORM's CARD OF 'tellaw4.DnfExpand'. -/
def dnfExpandUptoCard : Claim7 := { stood := { row := dnfExpandUptoRow, standIns := [], harness := (true, "2b65ba239c629430b63f979ade614d0d63ee7f35d4d4b64838f3fb50025d86e1"), looks := true }, kinds := [], alts := [], laidByText := true, laidKinds := [.data, .data, .data, .sentinel, .sentinel, .widerDeep, .data], laidTests := true, laidLooks := .later }
def DnfExpandUptoCardSaid : Prop := Claim7.holds Tryz.pinned (.plain (OpenSpec.upto dnfExpandSpec)) dnfExpandUptoCard

/-- THE SECOND FORM's CARD OF 'tellaw4.DnfExpandAny'. -/
def dnfExpandAnyUptoCard : Claim7 := { stood := { row := dnfExpandAnyUptoRow, standIns := [], harness := (true, "2b65ba239c629430b63f979ade614d0d63ee7f35d4d4b64838f3fb50025d86e1"), looks := true }, kinds := [], alts := [], laidByText := true, laidKinds := [.data, .data, .data, .sentinel, .sentinel, .widerDeep, .data], laidTests := true, laidLooks := .later }
def DnfExpandAnyUptoCardSaid : Prop := Claim7.holds Tryz.pinned (.plain (OpenSpec.upto dnfExpandAnySpec)) dnfExpandAnyUptoCard

/-- THE SECOND FORM's CARD OF 'tellaw4.DnfDistributes'. -/
def dnfDistributesUptoCard : Claim7 := { stood := { row := dnfDistributesUptoRow, standIns := [], harness := (true, "2b65ba239c629430b63f979ade614d0d63ee7f35d4d4b64838f3fb50025d86e1"), looks := true }, kinds := [], alts := [], laidByText := true, laidKinds := [.data, .data, .data, .sentinel, .sentinel, .widerDeep, .data], laidTests := true, laidLooks := .later }
def DnfDistributesUptoCardSaid : Prop := Claim7.holds Tryz.pinned (.plain (OpenSpec.upto dnfDistributesSpec)) dnfDistributesUptoCard

/-- THE SECOND FORM's CARD OF 'tellaw4.DnfSplit'. -/
def dnfSplitUptoCard : Claim7 := { stood := { row := dnfSplitUptoRow, standIns := [], harness := (true, "2b65ba239c629430b63f979ade614d0d63ee7f35d4d4b64838f3fb50025d86e1"), looks := true }, kinds := [], alts := [], laidByText := true, laidKinds := [.data, .data, .data, .sentinel, .sentinel, .widerDeep, .data], laidTests := true, laidLooks := .later }
def DnfSplitUptoCardSaid : Prop := Claim7.holds Tryz.pinned (.plain (OpenSpec.upto dnfSplitSpec)) dnfSplitUptoCard

/-- THE SECOND FORM's CARD OF 'tellaw4.DnfValid'. -/
def dnfValidUptoCard : Claim7 := { stood := { row := dnfValidUptoRow, standIns := [], harness := (true, "2b65ba239c629430b63f979ade614d0d63ee7f35d4d4b64838f3fb50025d86e1"), looks := true }, kinds := [], alts := [], laidByText := true, laidKinds := [.data, .data, .data, .sentinel, .sentinel, .widerDeep, .data], laidTests := true, laidLooks := .later }
def DnfValidUptoCardSaid : Prop := Claim7.holds Tryz.pinned (.plain (OpenSpec.upto dnfValidSpec)) dnfValidUptoCard

/-- THE SECOND FORM's CARD OF 'tellaw4.DnfCanonical'. -/
def dnfCanonicalUptoCard : Claim7 := { stood := { row := dnfCanonicalUptoRow, standIns := [], harness := (true, "2b65ba239c629430b63f979ade614d0d63ee7f35d4d4b64838f3fb50025d86e1"), looks := true }, kinds := [], alts := [], laidByText := true, laidKinds := [.data, .data, .data, .sentinel, .sentinel, .widerDeep, .data], laidTests := true, laidLooks := .later }
def DnfCanonicalUptoCardSaid : Prop := Claim7.holds Tryz.pinned (.plain (OpenSpec.upto dnfCanonicalSpec)) dnfCanonicalUptoCard

/-- THE SECOND FORM's CARD OF 'tellaw4.DnfBranches'. -/
def dnfBranchesUptoCard : Claim7 := { stood := { row := dnfBranchesUptoRow, standIns := [], harness := (true, "2b65ba239c629430b63f979ade614d0d63ee7f35d4d4b64838f3fb50025d86e1"), looks := true }, kinds := [], alts := [], laidByText := true, laidKinds := [.data, .data, .data, .sentinel, .sentinel, .widerDeep, .data], laidTests := true, laidLooks := .later }
def DnfBranchesUptoCardSaid : Prop := Claim7.holds Tryz.pinned (.plain (OpenSpec.upto dnfBranchesSpec)) dnfBranchesUptoCard
end Rows
end Go.Proofs.YtpgfpakdnijngaaGreatDoor
