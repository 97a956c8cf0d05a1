/-
  DERIVED. GIVEN WITH THE SEED: THE CARDS: each row of YtdbilmjamgjkeaaGreatDoorRows.lean that lists a variable, with what it lists TIED to the program's text (the seventh form; the later family's looks); each row that meets fmt, with fmt's text TOLD by the authors' own Lean function (tested against real Go, not proved from fmt's source: count such statements apart). THE CARD IS WHAT COUNTS. Prove the row's statement (the work); the ties are given (YtdbilmjamgjkeaaGreatDoorTie.lean); close each card by the builder's one call (the guide's Derived/Test/ToyasCard.lean, 'card_holds'). Laid BY PROGRAM, IN A SANDBOX (cutbox-door.mjs). By AI agents, Wed Nov 11 2026. No macro, syntax, notation, axiom, sorry.
-/
import Derived.Test.YtdbilmjamgjkeaaGreatDoorRows
import GoSem.ClaimSeven
namespace Go.Proofs.YtdbilmjamgjkeaaGreatDoor
namespace Rows

/-- THE TIED CARD OF 'tellaw17.ValuePrimitives'. -/
def valuePrimitivesCard : Claim7 := { stood := { row := valuePrimitivesRow, standIns := [], harness := (true, "5ba786d06526c93692974a5825e284b15ae0bd54cd45bdbbd5a43305d9f6fe9f"), looks := true }, kinds := [], alts := [], laidByText := true, laidKinds := [.data, .data, .data, .widerDeep, .widerDeep, .data], laidTests := true, laidLooks := .later }
def ValuePrimitivesCardSaid : Prop := Claim7.holds Tryz.pinned (.plain (OpenSpec.ofChange valuePrimitivesSpec)) valuePrimitivesCard

/-- THE TIED CARD OF 'tellaw17.ValueTypes'. -/
def valueTypesCard : Claim7 := { stood := { row := valueTypesRow, standIns := [], harness := (true, "5ba786d06526c93692974a5825e284b15ae0bd54cd45bdbbd5a43305d9f6fe9f"), looks := true }, kinds := [], alts := [], laidByText := true, laidKinds := [.data, .data, .data, .sentinel, .sentinel, .widerDeep, .widerDeep, .data, .data, .data], laidTests := true, laidLooks := .later }
def ValueTypesCardSaid : Prop := Claim7.holds Tryz.pinned (.plain (OpenSpec.ofChange valueTypesSpec)) valueTypesCard

/-- THE TIED CARD OF 'tellaw17.ValueLimits'. -/
def valueLimitsCard : Claim7 := { stood := { row := valueLimitsRow, standIns := [], harness := (true, "5ba786d06526c93692974a5825e284b15ae0bd54cd45bdbbd5a43305d9f6fe9f"), looks := true }, kinds := [], alts := [], laidByText := true, laidKinds := [.data, .data, .data, .sentinel, .sentinel, .widerDeep, .widerDeep], laidTests := true, laidLooks := .later }
def ValueLimitsCardSaid : Prop := Claim7.holds Tryz.pinned (.plain (OpenSpec.ofChange valueLimitsSpec)) valueLimitsCard

/-- THE TIED CARD OF 'tellaw17.ValueSafety'. -/
def valueSafetyCard : Claim7 := { stood := { row := valueSafetyRow, standIns := [], harness := (true, "5ba786d06526c93692974a5825e284b15ae0bd54cd45bdbbd5a43305d9f6fe9f"), looks := true }, kinds := [], alts := [], laidByText := true, laidKinds := [.data, .data, .data, .sentinel, .sentinel, .widerDeep, .widerDeep, .data, .data, .data], laidTests := true, laidLooks := .later }
def ValueSafetyCardSaid : Prop := Claim7.holds Tryz.pinned (.plain (OpenSpec.ofChange valueSafetySpec)) valueSafetyCard

/-- THE TIED CARD OF 'tellaw17.ValueFields'. -/
def valueFieldsCard : Claim7 := { stood := { row := valueFieldsRow, standIns := [], harness := (true, "5ba786d06526c93692974a5825e284b15ae0bd54cd45bdbbd5a43305d9f6fe9f"), looks := true }, kinds := [], alts := [], laidByText := true, laidKinds := [.data, .data, .data, .sentinel, .sentinel, .widerDeep, .widerDeep, .data, .data, .data], laidTests := true, laidLooks := .later }
def ValueFieldsCardSaid : Prop := Claim7.holds Tryz.pinned (.plain (OpenSpec.ofChange valueFieldsSpec)) valueFieldsCard

/-- THE TIED CARD OF 'tellaw17.ValueExamples'. -/
def valueExamplesCard : Claim7 := { stood := { row := valueExamplesRow, standIns := [], harness := (true, "5ba786d06526c93692974a5825e284b15ae0bd54cd45bdbbd5a43305d9f6fe9f"), looks := true }, kinds := [], alts := [], laidByText := true, laidKinds := [.data, .data, .data, .sentinel, .sentinel, .widerDeep, .widerDeep], laidTests := true, laidLooks := .later }
def ValueExamplesCardSaid : Prop := Claim7.holds Tryz.pinned (.plain (OpenSpec.ofChange valueExamplesSpec)) valueExamplesCard

/-- THE TIED CARD OF 'tellaw17.ValueStore'. -/
def valueStoreCard : Claim7 := { stood := { row := valueStoreRow, standIns := [], harness := (true, "5ba786d06526c93692974a5825e284b15ae0bd54cd45bdbbd5a43305d9f6fe9f"), looks := true }, kinds := [], alts := [], laidByText := true, laidKinds := [.data, .data, .data, .sentinel, .sentinel, .widerDeep, .widerDeep, .data, .data, .data], laidTests := true, laidLooks := .later }
def ValueStoreCardSaid : Prop := Claim7.holds Tryz.pinned (.plain (OpenSpec.ofChange valueStoreSpec)) valueStoreCard

/-- THE SECOND FORM's CARD OF 'tellaw17.ValuePrimitives'. -/
def valuePrimitivesUptoCard : Claim7 := { stood := { row := valuePrimitivesUptoRow, standIns := [], harness := (true, "5ba786d06526c93692974a5825e284b15ae0bd54cd45bdbbd5a43305d9f6fe9f"), looks := true }, kinds := [], alts := [], laidByText := true, laidKinds := [.data, .data, .data, .widerDeep, .widerDeep, .data], laidTests := true, laidLooks := .later }
def ValuePrimitivesUptoCardSaid : Prop := Claim7.holds Tryz.pinned (.plain (OpenSpec.upto valuePrimitivesSpec)) valuePrimitivesUptoCard

/-- THE SECOND FORM's CARD OF 'tellaw17.ValueTypes'. -/
def valueTypesUptoCard : Claim7 := { stood := { row := valueTypesUptoRow, standIns := [], harness := (true, "5ba786d06526c93692974a5825e284b15ae0bd54cd45bdbbd5a43305d9f6fe9f"), looks := true }, kinds := [], alts := [], laidByText := true, laidKinds := [.data, .data, .data, .sentinel, .sentinel, .widerDeep, .widerDeep, .data, .data, .data], laidTests := true, laidLooks := .later }
def ValueTypesUptoCardSaid : Prop := Claim7.holds Tryz.pinned (.plain (OpenSpec.upto valueTypesSpec)) valueTypesUptoCard

/-- THE SECOND FORM's CARD OF 'tellaw17.ValueLimits'. -/
def valueLimitsUptoCard : Claim7 := { stood := { row := valueLimitsUptoRow, standIns := [], harness := (true, "5ba786d06526c93692974a5825e284b15ae0bd54cd45bdbbd5a43305d9f6fe9f"), looks := true }, kinds := [], alts := [], laidByText := true, laidKinds := [.data, .data, .data, .sentinel, .sentinel, .widerDeep, .widerDeep], laidTests := true, laidLooks := .later }
def ValueLimitsUptoCardSaid : Prop := Claim7.holds Tryz.pinned (.plain (OpenSpec.upto valueLimitsSpec)) valueLimitsUptoCard

/-- THE SECOND FORM's CARD OF 'tellaw17.ValueSafety'. -/
def valueSafetyUptoCard : Claim7 := { stood := { row := valueSafetyUptoRow, standIns := [], harness := (true, "5ba786d06526c93692974a5825e284b15ae0bd54cd45bdbbd5a43305d9f6fe9f"), looks := true }, kinds := [], alts := [], laidByText := true, laidKinds := [.data, .data, .data, .sentinel, .sentinel, .widerDeep, .widerDeep, .data, .data, .data], laidTests := true, laidLooks := .later }
def ValueSafetyUptoCardSaid : Prop := Claim7.holds Tryz.pinned (.plain (OpenSpec.upto valueSafetySpec)) valueSafetyUptoCard

/-- THE SECOND FORM's CARD OF 'tellaw17.ValueFields'. -/
def valueFieldsUptoCard : Claim7 := { stood := { row := valueFieldsUptoRow, standIns := [], harness := (true, "5ba786d06526c93692974a5825e284b15ae0bd54cd45bdbbd5a43305d9f6fe9f"), looks := true }, kinds := [], alts := [], laidByText := true, laidKinds := [.data, .data, .data, .sentinel, .sentinel, .widerDeep, .widerDeep, .data, .data, .data], laidTests := true, laidLooks := .later }
def ValueFieldsUptoCardSaid : Prop := Claim7.holds Tryz.pinned (.plain (OpenSpec.upto valueFieldsSpec)) valueFieldsUptoCard

/-- THE SECOND FORM's CARD OF 'tellaw17.ValueExamples'. -/
def valueExamplesUptoCard : Claim7 := { stood := { row := valueExamplesUptoRow, standIns := [], harness := (true, "5ba786d06526c93692974a5825e284b15ae0bd54cd45bdbbd5a43305d9f6fe9f"), looks := true }, kinds := [], alts := [], laidByText := true, laidKinds := [.data, .data, .data, .sentinel, .sentinel, .widerDeep, .widerDeep], laidTests := true, laidLooks := .later }
def ValueExamplesUptoCardSaid : Prop := Claim7.holds Tryz.pinned (.plain (OpenSpec.upto valueExamplesSpec)) valueExamplesUptoCard

/-- THE SECOND FORM's CARD OF 'tellaw17.ValueStore'. -/
def valueStoreUptoCard : Claim7 := { stood := { row := valueStoreUptoRow, standIns := [], harness := (true, "5ba786d06526c93692974a5825e284b15ae0bd54cd45bdbbd5a43305d9f6fe9f"), looks := true }, kinds := [], alts := [], laidByText := true, laidKinds := [.data, .data, .data, .sentinel, .sentinel, .widerDeep, .widerDeep, .data, .data, .data], laidTests := true, laidLooks := .later }
def ValueStoreUptoCardSaid : Prop := Claim7.holds Tryz.pinned (.plain (OpenSpec.upto valueStoreSpec)) valueStoreUptoCard
end Rows
end Go.Proofs.YtdbilmjamgjkeaaGreatDoor
