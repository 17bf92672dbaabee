/-
  DERIVED. GIVEN WITH THE SEED: THE CARDS: each row of YtcjiefknhfhmkaaGreatDoorRows.lean that lists a variable, with what it lists TIED to the program's text (the seventh form; the later family's looks); each row that meets fmt, with fmt's text TOLD by the authors' own Lean function (tested against real Go, not proved from fmt's source: count such statements apart). THE CARD IS WHAT COUNTS. Prove the row's statement (the work); the ties are given (YtcjiefknhfhmkaaGreatDoorTie.lean); close each card by the builder's one call (the guide's Derived/Test/ToyasCard.lean, 'card_holds'). Laid BY PROGRAM, IN A SANDBOX (cutbox-door.mjs). By AI agents, Wed Nov 11 2026. No macro, syntax, notation, axiom, sorry.
-/
import Derived.Test.YtcjiefknhfhmkaaGreatDoorRows
import GoSem.ClaimSeven
namespace Go.Proofs.YtcjiefknhfhmkaaGreatDoor
namespace Rows

/-- THE TIED CARD OF 'micropartlaw16.MpartDetectsChanges'. -/
def mpartDetectsChangesCard : Claim7 := { stood := { row := mpartDetectsChangesRow, standIns := [], harness := (true, "d0d4173868792047d990df2bda76d94c52c335a6fa8b66d2c730091608499023"), looks := false }, kinds := [], alts := [], laidByText := true, laidKinds := [.data, .data, .data], laidTests := true, laidLooks := .later }
def MpartDetectsChangesCardSaid : Prop := Claim7.holds Tryz.pinned (.plain (OpenSpec.ofChange mpartDetectsChangesSpec)) mpartDetectsChangesCard

/-- THE TIED CARD OF 'micropartlaw16.MpartSchemas'. -/
def mpartSchemasCard : Claim7 := { stood := { row := mpartSchemasRow, standIns := [], harness := (true, "d0d4173868792047d990df2bda76d94c52c335a6fa8b66d2c730091608499023"), looks := false }, kinds := [], alts := [], laidByText := true, laidKinds := [.data, .data, .data], laidTests := true, laidLooks := .later }
def MpartSchemasCardSaid : Prop := Claim7.holds Tryz.pinned (.plain (OpenSpec.ofChange mpartSchemasSpec)) mpartSchemasCard

/-- THE TIED CARD OF 'micropartlaw16.MpartColumns'. -/
def mpartColumnsCard : Claim7 := { stood := { row := mpartColumnsRow, standIns := [], harness := (true, "d0d4173868792047d990df2bda76d94c52c335a6fa8b66d2c730091608499023"), looks := false }, kinds := [], alts := [], laidByText := true, laidKinds := [.data, .data, .data], laidTests := true, laidLooks := .later }
def MpartColumnsCardSaid : Prop := Claim7.holds Tryz.pinned (.plain (OpenSpec.ofChange mpartColumnsSpec)) mpartColumnsCard

/-- THE TIED CARD OF 'micropartlaw16.MpartReads'. -/
def mpartReadsCard : Claim7 := { stood := { row := mpartReadsRow, standIns := [], harness := (true, "d0d4173868792047d990df2bda76d94c52c335a6fa8b66d2c730091608499023"), looks := false }, kinds := [], alts := [], laidByText := true, laidKinds := [.data, .data, .data], laidTests := true, laidLooks := .later }
def MpartReadsCardSaid : Prop := Claim7.holds Tryz.pinned (.plain (OpenSpec.ofChange mpartReadsSpec)) mpartReadsCard

/-- THE TIED CARD OF 'micropartlaw16.MpartMutations'. -/
def mpartMutationsCard : Claim7 := { stood := { row := mpartMutationsRow, standIns := [], harness := (true, "d0d4173868792047d990df2bda76d94c52c335a6fa8b66d2c730091608499023"), looks := false }, kinds := [], alts := [], laidByText := true, laidKinds := [.data, .data, .data], laidTests := true, laidLooks := .later }
def MpartMutationsCardSaid : Prop := Claim7.holds Tryz.pinned (.plain (OpenSpec.ofChange mpartMutationsSpec)) mpartMutationsCard

/-- THE TIED CARD OF 'micropartlaw16.MpartFooters'. -/
def mpartFootersCard : Claim7 := { stood := { row := mpartFootersRow, standIns := [], harness := (true, "d0d4173868792047d990df2bda76d94c52c335a6fa8b66d2c730091608499023"), looks := false }, kinds := [], alts := [], laidByText := true, laidKinds := [.data, .data, .data], laidTests := true, laidLooks := .later }
def MpartFootersCardSaid : Prop := Claim7.holds Tryz.pinned (.plain (OpenSpec.ofChange mpartFootersSpec)) mpartFootersCard

/-- THE TIED CARD OF 'micropartlaw16.MpartExamples'. -/
def mpartExamplesCard : Claim7 := { stood := { row := mpartExamplesRow, standIns := [], harness := (true, "d0d4173868792047d990df2bda76d94c52c335a6fa8b66d2c730091608499023"), looks := false }, kinds := [], alts := [], laidByText := true, laidKinds := [.data, .data, .data], laidTests := true, laidLooks := .later }
def MpartExamplesCardSaid : Prop := Claim7.holds Tryz.pinned (.plain (OpenSpec.ofChange mpartExamplesSpec)) mpartExamplesCard

/-- THE TIED CARD OF 'micropartlaw16.MpartRoundTrip'. -/
def mpartRoundTripCard : Claim7 := { stood := { row := mpartRoundTripRow, standIns := [], harness := (true, "d0d4173868792047d990df2bda76d94c52c335a6fa8b66d2c730091608499023"), looks := false }, kinds := [], alts := [], laidByText := true, laidKinds := [.data, .data, .data], laidTests := true, laidLooks := .later }
def MpartRoundTripCardSaid : Prop := Claim7.holds Tryz.pinned (.plain (OpenSpec.ofChange mpartRoundTripSpec)) mpartRoundTripCard

/-- THE TIED CARD OF 'micropartlaw16.MpartEncodes'. -/
def mpartEncodesCard : Claim7 := { stood := { row := mpartEncodesRow, standIns := [], harness := (true, "d0d4173868792047d990df2bda76d94c52c335a6fa8b66d2c730091608499023"), looks := false }, kinds := [], alts := [], laidByText := true, laidKinds := [.data, .data, .data], laidTests := true, laidLooks := .later }
def MpartEncodesCardSaid : Prop := Claim7.holds Tryz.pinned (.plain (OpenSpec.ofChange mpartEncodesSpec)) mpartEncodesCard

/-- THE TIED CARD OF 'micropartlaw16.MpartBounds'. -/
def mpartBoundsCard : Claim7 := { stood := { row := mpartBoundsRow, standIns := [], harness := (true, "d0d4173868792047d990df2bda76d94c52c335a6fa8b66d2c730091608499023"), looks := false }, kinds := [], alts := [], laidByText := true, laidKinds := [.data, .data, .data], laidTests := true, laidLooks := .later }
def MpartBoundsCardSaid : Prop := Claim7.holds Tryz.pinned (.plain (OpenSpec.ofChange mpartBoundsSpec)) mpartBoundsCard

/-- THE SECOND FORM's CARD OF 'micropartlaw16.MpartDetectsChanges'. -/
def mpartDetectsChangesUptoCard : Claim7 := { stood := { row := mpartDetectsChangesUptoRow, standIns := [], harness := (true, "d0d4173868792047d990df2bda76d94c52c335a6fa8b66d2c730091608499023"), looks := false }, kinds := [], alts := [], laidByText := true, laidKinds := [.data, .data, .data], laidTests := true, laidLooks := .later }
def MpartDetectsChangesUptoCardSaid : Prop := Claim7.holds Tryz.pinned (.plain (OpenSpec.upto mpartDetectsChangesSpec)) mpartDetectsChangesUptoCard

/-- THE SECOND FORM's CARD OF 'micropartlaw16.MpartSchemas'. -/
def mpartSchemasUptoCard : Claim7 := { stood := { row := mpartSchemasUptoRow, standIns := [], harness := (true, "d0d4173868792047d990df2bda76d94c52c335a6fa8b66d2c730091608499023"), looks := false }, kinds := [], alts := [], laidByText := true, laidKinds := [.data, .data, .data], laidTests := true, laidLooks := .later }
def MpartSchemasUptoCardSaid : Prop := Claim7.holds Tryz.pinned (.plain (OpenSpec.upto mpartSchemasSpec)) mpartSchemasUptoCard

/-- THE SECOND FORM's CARD OF 'micropartlaw16.MpartColumns'. -/
def mpartColumnsUptoCard : Claim7 := { stood := { row := mpartColumnsUptoRow, standIns := [], harness := (true, "d0d4173868792047d990df2bda76d94c52c335a6fa8b66d2c730091608499023"), looks := false }, kinds := [], alts := [], laidByText := true, laidKinds := [.data, .data, .data], laidTests := true, laidLooks := .later }
def MpartColumnsUptoCardSaid : Prop := Claim7.holds Tryz.pinned (.plain (OpenSpec.upto mpartColumnsSpec)) mpartColumnsUptoCard

/-- THE SECOND FORM's CARD OF 'micropartlaw16.MpartReads'. -/
def mpartReadsUptoCard : Claim7 := { stood := { row := mpartReadsUptoRow, standIns := [], harness := (true, "d0d4173868792047d990df2bda76d94c52c335a6fa8b66d2c730091608499023"), looks := false }, kinds := [], alts := [], laidByText := true, laidKinds := [.data, .data, .data], laidTests := true, laidLooks := .later }
def MpartReadsUptoCardSaid : Prop := Claim7.holds Tryz.pinned (.plain (OpenSpec.upto mpartReadsSpec)) mpartReadsUptoCard

/-- THE SECOND FORM's CARD OF 'micropartlaw16.MpartMutations'. -/
def mpartMutationsUptoCard : Claim7 := { stood := { row := mpartMutationsUptoRow, standIns := [], harness := (true, "d0d4173868792047d990df2bda76d94c52c335a6fa8b66d2c730091608499023"), looks := false }, kinds := [], alts := [], laidByText := true, laidKinds := [.data, .data, .data], laidTests := true, laidLooks := .later }
def MpartMutationsUptoCardSaid : Prop := Claim7.holds Tryz.pinned (.plain (OpenSpec.upto mpartMutationsSpec)) mpartMutationsUptoCard

/-- THE SECOND FORM's CARD OF 'micropartlaw16.MpartFooters'. -/
def mpartFootersUptoCard : Claim7 := { stood := { row := mpartFootersUptoRow, standIns := [], harness := (true, "d0d4173868792047d990df2bda76d94c52c335a6fa8b66d2c730091608499023"), looks := false }, kinds := [], alts := [], laidByText := true, laidKinds := [.data, .data, .data], laidTests := true, laidLooks := .later }
def MpartFootersUptoCardSaid : Prop := Claim7.holds Tryz.pinned (.plain (OpenSpec.upto mpartFootersSpec)) mpartFootersUptoCard

/-- THE SECOND FORM's CARD OF 'micropartlaw16.MpartExamples'. -/
def mpartExamplesUptoCard : Claim7 := { stood := { row := mpartExamplesUptoRow, standIns := [], harness := (true, "d0d4173868792047d990df2bda76d94c52c335a6fa8b66d2c730091608499023"), looks := false }, kinds := [], alts := [], laidByText := true, laidKinds := [.data, .data, .data], laidTests := true, laidLooks := .later }
def MpartExamplesUptoCardSaid : Prop := Claim7.holds Tryz.pinned (.plain (OpenSpec.upto mpartExamplesSpec)) mpartExamplesUptoCard

/-- THE SECOND FORM's CARD OF 'micropartlaw16.MpartRoundTrip'. -/
def mpartRoundTripUptoCard : Claim7 := { stood := { row := mpartRoundTripUptoRow, standIns := [], harness := (true, "d0d4173868792047d990df2bda76d94c52c335a6fa8b66d2c730091608499023"), looks := false }, kinds := [], alts := [], laidByText := true, laidKinds := [.data, .data, .data], laidTests := true, laidLooks := .later }
def MpartRoundTripUptoCardSaid : Prop := Claim7.holds Tryz.pinned (.plain (OpenSpec.upto mpartRoundTripSpec)) mpartRoundTripUptoCard

/-- THE SECOND FORM's CARD OF 'micropartlaw16.MpartEncodes'. -/
def mpartEncodesUptoCard : Claim7 := { stood := { row := mpartEncodesUptoRow, standIns := [], harness := (true, "d0d4173868792047d990df2bda76d94c52c335a6fa8b66d2c730091608499023"), looks := false }, kinds := [], alts := [], laidByText := true, laidKinds := [.data, .data, .data], laidTests := true, laidLooks := .later }
def MpartEncodesUptoCardSaid : Prop := Claim7.holds Tryz.pinned (.plain (OpenSpec.upto mpartEncodesSpec)) mpartEncodesUptoCard

/-- THE SECOND FORM's CARD OF 'micropartlaw16.MpartBounds'. -/
def mpartBoundsUptoCard : Claim7 := { stood := { row := mpartBoundsUptoRow, standIns := [], harness := (true, "d0d4173868792047d990df2bda76d94c52c335a6fa8b66d2c730091608499023"), looks := false }, kinds := [], alts := [], laidByText := true, laidKinds := [.data, .data, .data], laidTests := true, laidLooks := .later }
def MpartBoundsUptoCardSaid : Prop := Claim7.holds Tryz.pinned (.plain (OpenSpec.upto mpartBoundsSpec)) mpartBoundsUptoCard
end Rows
end Go.Proofs.YtcjiefknhfhmkaaGreatDoor
