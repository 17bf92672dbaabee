/-
  No cell of these rows narrows 'for every input' (looked for: loops, veiled, ifaces, maps, wideKeys, modest, calm, conditions, laid).
  DERIVED. THE GIVEN ROWS OF THIS SEAT. 7 by the template 'for every input the law returns true; each argument reads behind the call as it read before'; 0 by the template 'total and deterministic' (their statements: YthomnlfmamagcaaTotals.lean).
  GIVEN WITH THE SEED: the statements are not yours to turn. If you find one false, say at which input.
  Laid BY PROGRAM, IN A SANDBOX (cutbox-rows.mjs): the forced cells as the released guide's own fill.sh prints them over the translation 55f1a970f0b5f8f6… (all of the seat's roots in one cut). By AI agents, Wed Nov 11 2026. No macro, syntax, notation, axiom, sorry.
-/
import Derived.Test.YthomnlfmamagcaaChecked
import GoSem.Claim
import GoSem.ClaimJoined
import GoSem.ClaimMapViews
import Derived.JoinedTies
import Derived.KernelRfl
namespace Go.Proofs.Ythomnlfmamagcaa
/- THE CELL 'sum', in the pinned program and in every row, IS THE sha256 OF THE DUMP (.gsa) THAT YthomnlfmamagcaaProg.lean LOADS. Nothing in Lean hashes anything: it is a label: what it is worth is what the hold of that sum in a sandbox is worth. -/
noncomputable def Try.pinned : Pinned := { name := "ythomnlfmamagcaa", sum := "55f1a970f0b5f8f62a8b0d36c65505b7ef2ab74bbc5371f92539462793c090f9", checked := Try.checked }
namespace Rows
def none {H : Type} : Left H := { results := [], args := [] }

/-- 'micropartlaw10.DictExamples': WHATEVER THE INPUT: true; the input reads as it did. -/
def dictExamplesSpec : ChangeSpec := { name := "dictExamples", fn := fun _ => fun
  | [] => { results := [.lit (.bool true)], args := [] }
  | _ => none }
def dictExamplesRow : OpenClaim := { program := "ythomnlfmamagcaa", sum := "55f1a970f0b5f8f62a8b0d36c65505b7ef2ab74bbc5371f92539462793c090f9", func := "micropart/micropartlaw10.DictExamples", spec := "dictExamples", recurses := true, apart := false }
def DictExamplesSaid : Prop := dictExamplesRow.holds Try.pinned (OpenSpec.ofChange dictExamplesSpec)

/-- ITS FALSE NEIGHBOUR: 'it returns false'. Refute it at one input. -/
def dictExamplesWrong : ChangeSpec := { name := "dictExamples", fn := fun _ => fun
  | [] => { results := [.lit (.bool false)], args := [] }
  | _ => none }
def DictExamplesWrongFalsely : Prop := dictExamplesRow.holds Try.pinned (OpenSpec.ofChange dictExamplesWrong)

/-- 'micropartlaw10.DictBuilds': WHATEVER THE INPUT: true; the input reads as it did. -/
def dictBuildsSpec : ChangeSpec := { name := "dictBuilds", fn := fun _ => fun
  | [d1, d2] => { results := [.lit (.bool true)], args := [d1, d2] }
  | _ => none }
def dictBuildsRow : OpenClaim := { program := "ythomnlfmamagcaa", sum := "55f1a970f0b5f8f62a8b0d36c65505b7ef2ab74bbc5371f92539462793c090f9", func := "micropart/micropartlaw10.DictBuilds", spec := "dictBuilds", recurses := true, apart := false }
def DictBuildsSaid : Prop := dictBuildsRow.holds Try.pinned (OpenSpec.ofChange dictBuildsSpec)

/-- ITS FALSE NEIGHBOUR: 'it returns false'. Refute it at one input. -/
def dictBuildsWrong : ChangeSpec := { name := "dictBuilds", fn := fun _ => fun
  | [d1, d2] => { results := [.lit (.bool false)], args := [d1, d2] }
  | _ => none }
def DictBuildsWrongFalsely : Prop := dictBuildsRow.holds Try.pinned (OpenSpec.ofChange dictBuildsWrong)

/-- 'micropartlaw10.DictIndexes': WHATEVER THE INPUT: true; the input reads as it did. -/
def dictIndexesSpec : ChangeSpec := { name := "dictIndexes", fn := fun _ => fun
  | [d] => { results := [.lit (.bool true)], args := [d] }
  | _ => none }
def dictIndexesRow : OpenClaim := { program := "ythomnlfmamagcaa", sum := "55f1a970f0b5f8f62a8b0d36c65505b7ef2ab74bbc5371f92539462793c090f9", func := "micropart/micropartlaw10.DictIndexes", spec := "dictIndexes", recurses := true, apart := false }
def DictIndexesSaid : Prop := dictIndexesRow.holds Try.pinned (OpenSpec.ofChange dictIndexesSpec)

/-- ITS FALSE NEIGHBOUR: 'it returns false'. Refute it at one input. -/
def dictIndexesWrong : ChangeSpec := { name := "dictIndexes", fn := fun _ => fun
  | [d] => { results := [.lit (.bool false)], args := [d] }
  | _ => none }
def DictIndexesWrongFalsely : Prop := dictIndexesRow.holds Try.pinned (OpenSpec.ofChange dictIndexesWrong)

/-- 'micropartlaw10.DictDecodes': WHATEVER THE INPUT: true; the input reads as it did. -/
def dictDecodesSpec : ChangeSpec := { name := "dictDecodes", fn := fun _ => fun
  | [d1, d2] => { results := [.lit (.bool true)], args := [d1, d2] }
  | _ => none }
def dictDecodesRow : OpenClaim := { program := "ythomnlfmamagcaa", sum := "55f1a970f0b5f8f62a8b0d36c65505b7ef2ab74bbc5371f92539462793c090f9", func := "micropart/micropartlaw10.DictDecodes", spec := "dictDecodes", recurses := true, apart := false }
def DictDecodesSaid : Prop := dictDecodesRow.holds Try.pinned (OpenSpec.ofChange dictDecodesSpec)

/-- ITS FALSE NEIGHBOUR: 'it returns false'. Refute it at one input. -/
def dictDecodesWrong : ChangeSpec := { name := "dictDecodes", fn := fun _ => fun
  | [d1, d2] => { results := [.lit (.bool false)], args := [d1, d2] }
  | _ => none }
def DictDecodesWrongFalsely : Prop := dictDecodesRow.holds Try.pinned (OpenSpec.ofChange dictDecodesWrong)

/-- 'micropartlaw10.DictMutations': WHATEVER THE INPUT: true; the input reads as it did. -/
def dictMutationsSpec : ChangeSpec := { name := "dictMutations", fn := fun _ => fun
  | [d1, d2, d3, d4] => { results := [.lit (.bool true)], args := [d1, d2, d3, d4] }
  | _ => none }
def dictMutationsRow : OpenClaim := { program := "ythomnlfmamagcaa", sum := "55f1a970f0b5f8f62a8b0d36c65505b7ef2ab74bbc5371f92539462793c090f9", func := "micropart/micropartlaw10.DictMutations", spec := "dictMutations", recurses := true, apart := false }
def DictMutationsSaid : Prop := dictMutationsRow.holds Try.pinned (OpenSpec.ofChange dictMutationsSpec)

/-- ITS FALSE NEIGHBOUR: 'it returns false'. Refute it at one input. -/
def dictMutationsWrong : ChangeSpec := { name := "dictMutations", fn := fun _ => fun
  | [d1, d2, d3, d4] => { results := [.lit (.bool false)], args := [d1, d2, d3, d4] }
  | _ => none }
def DictMutationsWrongFalsely : Prop := dictMutationsRow.holds Try.pinned (OpenSpec.ofChange dictMutationsWrong)

/-- 'micropartlaw10.DictRoundTrip': WHATEVER THE INPUT: true; the input reads as it did. -/
def dictRoundTripSpec : ChangeSpec := { name := "dictRoundTrip", fn := fun _ => fun
  | [d] => { results := [.lit (.bool true)], args := [d] }
  | _ => none }
def dictRoundTripRow : OpenClaim := { program := "ythomnlfmamagcaa", sum := "55f1a970f0b5f8f62a8b0d36c65505b7ef2ab74bbc5371f92539462793c090f9", func := "micropart/micropartlaw10.DictRoundTrip", spec := "dictRoundTrip", recurses := true, apart := false }
def DictRoundTripSaid : Prop := dictRoundTripRow.holds Try.pinned (OpenSpec.ofChange dictRoundTripSpec)

/-- ITS FALSE NEIGHBOUR: 'it returns false'. Refute it at one input. -/
def dictRoundTripWrong : ChangeSpec := { name := "dictRoundTrip", fn := fun _ => fun
  | [d] => { results := [.lit (.bool false)], args := [d] }
  | _ => none }
def DictRoundTripWrongFalsely : Prop := dictRoundTripRow.holds Try.pinned (OpenSpec.ofChange dictRoundTripWrong)

/-- 'micropartlaw10.DictIsUnique': WHATEVER THE INPUT: true; the input reads as it did. -/
def dictIsUniqueSpec : ChangeSpec := { name := "dictIsUnique", fn := fun _ => fun
  | [d1, d2, d3] => { results := [.lit (.bool true)], args := [d1, d2, d3] }
  | _ => none }
def dictIsUniqueRow : OpenClaim := { program := "ythomnlfmamagcaa", sum := "55f1a970f0b5f8f62a8b0d36c65505b7ef2ab74bbc5371f92539462793c090f9", func := "micropart/micropartlaw10.DictIsUnique", spec := "dictIsUnique", recurses := true, apart := false }
def DictIsUniqueSaid : Prop := dictIsUniqueRow.holds Try.pinned (OpenSpec.ofChange dictIsUniqueSpec)

/-- ITS FALSE NEIGHBOUR: 'it returns false'. Refute it at one input. -/
def dictIsUniqueWrong : ChangeSpec := { name := "dictIsUnique", fn := fun _ => fun
  | [d1, d2, d3] => { results := [.lit (.bool false)], args := [d1, d2, d3] }
  | _ => none }
def DictIsUniqueWrongFalsely : Prop := dictIsUniqueRow.holds Try.pinned (OpenSpec.ofChange dictIsUniqueWrong)

/- THE SECOND FORM. 'bulk': how many values and letters a reading holds, each counted each time it is reached (what is shared counts as often as it is met; a slice's spare places count too). A statement '..UptoSaid' is the law's where the arguments, and the package variables that the reading takes, are together of bulk at most 1048576: NARROWER than '..Said'. Prove '..Said' where nothing that the law and all that it calls make is longer than what came in: it says more and counts as full. Else prove '..UptoSaid'. A law counts once. -/
mutual
def uptoBulk {H : Type} : DataW H → Nat
  | .lit (.string bytes) => bytes.length + 1
  | .lit _ => 1
  | .nil => 1
  | .ptr d => uptoBulk d + 1
  | .slice elems spare => uptoBulkAll elems + uptoBulkAll spare + 1
  | .agg parts => uptoBulkAll parts + 1
  | .iface _ d => uptoBulk d + 1
  | .map entries => uptoBulkEntries entries + 1
  | .held _ => 1
def uptoBulkAll {H : Type} : List (DataW H) → Nat
  | [] => 0
  | d :: r => uptoBulk d + uptoBulkAll r
def uptoBulkEntries {H : Type} : List (Lit × DataW H) → Nat
  | [] => 0
  | x :: r => uptoBulkEntry x + uptoBulkEntries r
def uptoBulkEntry {H : Type} : Lit × DataW H → Nat
  | (.string bytes, d) => bytes.length + uptoBulk d + 1
  | (_, d) => uptoBulk d + 1
 end
def uptoSmall : (H : Type) → List (DataW H) → Bool := fun _ ds => decide (uptoBulkAll ds ≤ 1048576)
def OpenSpec.upto (s : _root_.Go.ChangeSpec) : _root_.Go.OpenSpec := { _root_.Go.OpenSpec.ofChange s with cond := some uptoSmall }

/-- 'micropartlaw10.DictExamples', WHERE WHAT IT READS IS OF BULK AT MOST 1048576: true; the input reads as it did. -/
def dictExamplesUptoRow : OpenClaim := { program := "ythomnlfmamagcaa", sum := "55f1a970f0b5f8f62a8b0d36c65505b7ef2ab74bbc5371f92539462793c090f9", func := "micropart/micropartlaw10.DictExamples", spec := "dictExamples", recurses := true, apart := false, narrowed := true }
def DictExamplesUptoSaid : Prop := dictExamplesUptoRow.holds Try.pinned (OpenSpec.upto dictExamplesSpec)

/-- 'micropartlaw10.DictBuilds', WHERE WHAT IT READS IS OF BULK AT MOST 1048576: true; the input reads as it did. -/
def dictBuildsUptoRow : OpenClaim := { program := "ythomnlfmamagcaa", sum := "55f1a970f0b5f8f62a8b0d36c65505b7ef2ab74bbc5371f92539462793c090f9", func := "micropart/micropartlaw10.DictBuilds", spec := "dictBuilds", recurses := true, apart := false, narrowed := true }
def DictBuildsUptoSaid : Prop := dictBuildsUptoRow.holds Try.pinned (OpenSpec.upto dictBuildsSpec)

/-- 'micropartlaw10.DictIndexes', WHERE WHAT IT READS IS OF BULK AT MOST 1048576: true; the input reads as it did. -/
def dictIndexesUptoRow : OpenClaim := { program := "ythomnlfmamagcaa", sum := "55f1a970f0b5f8f62a8b0d36c65505b7ef2ab74bbc5371f92539462793c090f9", func := "micropart/micropartlaw10.DictIndexes", spec := "dictIndexes", recurses := true, apart := false, narrowed := true }
def DictIndexesUptoSaid : Prop := dictIndexesUptoRow.holds Try.pinned (OpenSpec.upto dictIndexesSpec)

/-- 'micropartlaw10.DictDecodes', WHERE WHAT IT READS IS OF BULK AT MOST 1048576: true; the input reads as it did. -/
def dictDecodesUptoRow : OpenClaim := { program := "ythomnlfmamagcaa", sum := "55f1a970f0b5f8f62a8b0d36c65505b7ef2ab74bbc5371f92539462793c090f9", func := "micropart/micropartlaw10.DictDecodes", spec := "dictDecodes", recurses := true, apart := false, narrowed := true }
def DictDecodesUptoSaid : Prop := dictDecodesUptoRow.holds Try.pinned (OpenSpec.upto dictDecodesSpec)

/-- 'micropartlaw10.DictMutations', WHERE WHAT IT READS IS OF BULK AT MOST 1048576: true; the input reads as it did. -/
def dictMutationsUptoRow : OpenClaim := { program := "ythomnlfmamagcaa", sum := "55f1a970f0b5f8f62a8b0d36c65505b7ef2ab74bbc5371f92539462793c090f9", func := "micropart/micropartlaw10.DictMutations", spec := "dictMutations", recurses := true, apart := false, narrowed := true }
def DictMutationsUptoSaid : Prop := dictMutationsUptoRow.holds Try.pinned (OpenSpec.upto dictMutationsSpec)

/-- 'micropartlaw10.DictRoundTrip', WHERE WHAT IT READS IS OF BULK AT MOST 1048576: true; the input reads as it did. -/
def dictRoundTripUptoRow : OpenClaim := { program := "ythomnlfmamagcaa", sum := "55f1a970f0b5f8f62a8b0d36c65505b7ef2ab74bbc5371f92539462793c090f9", func := "micropart/micropartlaw10.DictRoundTrip", spec := "dictRoundTrip", recurses := true, apart := false, narrowed := true }
def DictRoundTripUptoSaid : Prop := dictRoundTripUptoRow.holds Try.pinned (OpenSpec.upto dictRoundTripSpec)

/-- 'micropartlaw10.DictIsUnique', WHERE WHAT IT READS IS OF BULK AT MOST 1048576: true; the input reads as it did. -/
def dictIsUniqueUptoRow : OpenClaim := { program := "ythomnlfmamagcaa", sum := "55f1a970f0b5f8f62a8b0d36c65505b7ef2ab74bbc5371f92539462793c090f9", func := "micropart/micropartlaw10.DictIsUnique", spec := "dictIsUnique", recurses := true, apart := false, narrowed := true }
def DictIsUniqueUptoSaid : Prop := dictIsUniqueUptoRow.holds Try.pinned (OpenSpec.upto dictIsUniqueSpec)

end Rows
end Go.Proofs.Ythomnlfmamagcaa
