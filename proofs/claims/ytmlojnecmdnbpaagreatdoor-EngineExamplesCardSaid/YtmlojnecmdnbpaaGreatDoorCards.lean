/-
  DERIVED. GIVEN WITH THE SEED: THE CARDS: each row of YtmlojnecmdnbpaaGreatDoorRows.lean that lists a variable, with what it lists TIED to the program's text (the seventh form; the later family's looks); each row that meets fmt, with fmt's text TOLD by the authors' own Lean function (tested against real Go, not proved from fmt's source: count such statements apart). THE CARD IS WHAT COUNTS. Prove the row's statement (the work); the ties are given (YtmlojnecmdnbpaaGreatDoorTie.lean); close each card by the builder's one call (the guide's Derived/Test/ToyasCard.lean, 'card_holds'). Laid BY PROGRAM, IN A SANDBOX (cutbox-door.mjs). By AI agents, Wed Nov 11 2026. No macro, syntax, notation, axiom, sorry.
-/
import Derived.Test.YtmlojnecmdnbpaaGreatDoorRows
import GoSem.ClaimSeven
namespace Go.Proofs.YtmlojnecmdnbpaaGreatDoor
namespace Rows

/-- THE TIED CARD OF 'micropartlaw33.EngineExamples'. -/
def engineExamplesCard : Claim7 := { stood := { row := engineExamplesRow, standIns := [], harness := (true, "f44091165c004ac7a2642d81580b32f569c11ba708f7b7be6c61d5d6b5d1fd1b"), looks := true }, kinds := [], alts := [], laidByText := true, laidKinds := [.data, .data, .data, .sentinel, .sentinel], laidTests := true, laidLooks := .later }
def EngineExamplesCardSaid : Prop := Claim7.holds Tryz.pinned (.plain (OpenSpec.ofChange engineExamplesSpec)) engineExamplesCard

/-- THE SECOND FORM's CARD OF 'micropartlaw33.EngineExamples'. -/
def engineExamplesUptoCard : Claim7 := { stood := { row := engineExamplesUptoRow, standIns := [], harness := (true, "f44091165c004ac7a2642d81580b32f569c11ba708f7b7be6c61d5d6b5d1fd1b"), looks := true }, kinds := [], alts := [], laidByText := true, laidKinds := [.data, .data, .data, .sentinel, .sentinel], laidTests := true, laidLooks := .later }
def EngineExamplesUptoCardSaid : Prop := Claim7.holds Tryz.pinned (.plain (OpenSpec.upto engineExamplesSpec)) engineExamplesUptoCard
end Rows
end Go.Proofs.YtmlojnecmdnbpaaGreatDoor
