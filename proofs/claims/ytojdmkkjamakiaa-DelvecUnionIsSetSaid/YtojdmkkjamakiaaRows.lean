/-
  No cell of these rows narrows 'for every input' (looked for: loops, veiled, ifaces, maps, wideKeys, modest, calm, conditions, laid).
  DERIVED. THE GIVEN ROWS OF THIS SEAT. 8 by the template 'for every input the law returns true; each argument reads behind the call as it read before'; 0 by the template 'total and deterministic' (their statements: YtojdmkkjamakiaaTotals.lean).
  GIVEN WITH THE SEED: the statements are not yours to turn. If you find one false, say at which input.
  Laid BY PROGRAM, IN A SANDBOX (cutbox-rows.mjs): the forced cells as the released guide's own fill.sh prints them over the translation 44880220141b1508… (all of the seat's roots in one cut). By AI agents, Wed Nov 11 2026. No macro, syntax, notation, axiom, sorry.
-/
import Derived.Test.YtojdmkkjamakiaaChecked
import GoSem.Claim
import GoSem.ClaimJoined
import GoSem.ClaimMapViews
import Derived.JoinedTies
import Derived.KernelRfl
namespace Go.Proofs.Ytojdmkkjamakiaa
/- THE CELL 'sum', in the pinned program and in every row, IS THE sha256 OF THE DUMP (.gsa) THAT YtojdmkkjamakiaaProg.lean LOADS. Nothing in Lean hashes anything: it is a label: what it is worth is what the hold of that sum in a sandbox is worth. -/
noncomputable def Try.pinned : Pinned := { name := "ytojdmkkjamakiaa", sum := "44880220141b15081edf070eaa67d889b7f556ef0c139839b69eef2f574ea249", checked := Try.checked }
namespace Rows
def none {H : Type} : Left H := { results := [], args := [] }

/-- 'micropartlaw17.DelvecExamples': WHATEVER THE INPUT: true; the input reads as it did. -/
def delvecExamplesSpec : ChangeSpec := { name := "delvecExamples", fn := fun _ => fun
  | [] => { results := [.lit (.bool true)], args := [] }
  | _ => none }
def delvecExamplesRow : OpenClaim := { program := "ytojdmkkjamakiaa", sum := "44880220141b15081edf070eaa67d889b7f556ef0c139839b69eef2f574ea249", func := "micropart/micropartlaw17.DelvecExamples", spec := "delvecExamples", apart := false }
def DelvecExamplesSaid : Prop := delvecExamplesRow.holds Try.pinned (OpenSpec.ofChange delvecExamplesSpec)

/-- ITS FALSE NEIGHBOUR: 'it returns false'. Refute it at one input. -/
def delvecExamplesWrong : ChangeSpec := { name := "delvecExamples", fn := fun _ => fun
  | [] => { results := [.lit (.bool false)], args := [] }
  | _ => none }
def DelvecExamplesWrongFalsely : Prop := delvecExamplesRow.holds Try.pinned (OpenSpec.ofChange delvecExamplesWrong)

/-- 'micropartlaw17.DelvecUnionIsSet': WHATEVER THE INPUT: true; the input reads as it did. -/
def delvecUnionIsSetSpec : ChangeSpec := { name := "delvecUnionIsSet", fn := fun _ => fun
  | [d1, d2] => { results := [.lit (.bool true)], args := [d1, d2] }
  | _ => none }
def delvecUnionIsSetRow : OpenClaim := { program := "ytojdmkkjamakiaa", sum := "44880220141b15081edf070eaa67d889b7f556ef0c139839b69eef2f574ea249", func := "micropart/micropartlaw17.DelvecUnionIsSet", spec := "delvecUnionIsSet", recurses := true, apart := false }
def DelvecUnionIsSetSaid : Prop := delvecUnionIsSetRow.holds Try.pinned (OpenSpec.ofChange delvecUnionIsSetSpec)

/-- ITS FALSE NEIGHBOUR: 'it returns false'. Refute it at one input. -/
def delvecUnionIsSetWrong : ChangeSpec := { name := "delvecUnionIsSet", fn := fun _ => fun
  | [d1, d2] => { results := [.lit (.bool false)], args := [d1, d2] }
  | _ => none }
def DelvecUnionIsSetWrongFalsely : Prop := delvecUnionIsSetRow.holds Try.pinned (OpenSpec.ofChange delvecUnionIsSetWrong)

/-- 'micropartlaw17.DelvecUnions': WHATEVER THE INPUT: true; the input reads as it did. -/
def delvecUnionsSpec : ChangeSpec := { name := "delvecUnions", fn := fun _ => fun
  | [d1, d2, d3, d4, d5, d6] => { results := [.lit (.bool true)], args := [d1, d2, d3, d4, d5, d6] }
  | _ => none }
def delvecUnionsRow : OpenClaim := { program := "ytojdmkkjamakiaa", sum := "44880220141b15081edf070eaa67d889b7f556ef0c139839b69eef2f574ea249", func := "micropart/micropartlaw17.DelvecUnions", spec := "delvecUnions", recurses := true, apart := false }
def DelvecUnionsSaid : Prop := delvecUnionsRow.holds Try.pinned (OpenSpec.ofChange delvecUnionsSpec)

/-- ITS FALSE NEIGHBOUR: 'it returns false'. Refute it at one input. -/
def delvecUnionsWrong : ChangeSpec := { name := "delvecUnions", fn := fun _ => fun
  | [d1, d2, d3, d4, d5, d6] => { results := [.lit (.bool false)], args := [d1, d2, d3, d4, d5, d6] }
  | _ => none }
def DelvecUnionsWrongFalsely : Prop := delvecUnionsRow.holds Try.pinned (OpenSpec.ofChange delvecUnionsWrong)

/-- 'micropartlaw17.DelvecLeaves': WHATEVER THE INPUT: true; the input reads as it did. -/
def delvecLeavesSpec : ChangeSpec := { name := "delvecLeaves", fn := fun _ => fun
  | [d1, d2, d3, d4] => { results := [.lit (.bool true)], args := [d1, d2, d3, d4] }
  | _ => none }
def delvecLeavesRow : OpenClaim := { program := "ytojdmkkjamakiaa", sum := "44880220141b15081edf070eaa67d889b7f556ef0c139839b69eef2f574ea249", func := "micropart/micropartlaw17.DelvecLeaves", spec := "delvecLeaves", recurses := true, apart := false }
def DelvecLeavesSaid : Prop := delvecLeavesRow.holds Try.pinned (OpenSpec.ofChange delvecLeavesSpec)

/-- ITS FALSE NEIGHBOUR: 'it returns false'. Refute it at one input. -/
def delvecLeavesWrong : ChangeSpec := { name := "delvecLeaves", fn := fun _ => fun
  | [d1, d2, d3, d4] => { results := [.lit (.bool false)], args := [d1, d2, d3, d4] }
  | _ => none }
def DelvecLeavesWrongFalsely : Prop := delvecLeavesRow.holds Try.pinned (OpenSpec.ofChange delvecLeavesWrong)

/-- 'micropartlaw17.DelvecEncodes': WHATEVER THE INPUT: true; the input reads as it did. -/
def delvecEncodesSpec : ChangeSpec := { name := "delvecEncodes", fn := fun _ => fun
  | [d1, d2, d3, d4] => { results := [.lit (.bool true)], args := [d1, d2, d3, d4] }
  | _ => none }
def delvecEncodesRow : OpenClaim := { program := "ytojdmkkjamakiaa", sum := "44880220141b15081edf070eaa67d889b7f556ef0c139839b69eef2f574ea249", func := "micropart/micropartlaw17.DelvecEncodes", spec := "delvecEncodes", recurses := true, apart := false }
def DelvecEncodesSaid : Prop := delvecEncodesRow.holds Try.pinned (OpenSpec.ofChange delvecEncodesSpec)

/-- ITS FALSE NEIGHBOUR: 'it returns false'. Refute it at one input. -/
def delvecEncodesWrong : ChangeSpec := { name := "delvecEncodes", fn := fun _ => fun
  | [d1, d2, d3, d4] => { results := [.lit (.bool false)], args := [d1, d2, d3, d4] }
  | _ => none }
def DelvecEncodesWrongFalsely : Prop := delvecEncodesRow.holds Try.pinned (OpenSpec.ofChange delvecEncodesWrong)

/-- 'micropartlaw17.DelvecDecodes': WHATEVER THE INPUT: true; the input reads as it did. -/
def delvecDecodesSpec : ChangeSpec := { name := "delvecDecodes", fn := fun _ => fun
  | [d1, d2, d3] => { results := [.lit (.bool true)], args := [d1, d2, d3] }
  | _ => none }
def delvecDecodesRow : OpenClaim := { program := "ytojdmkkjamakiaa", sum := "44880220141b15081edf070eaa67d889b7f556ef0c139839b69eef2f574ea249", func := "micropart/micropartlaw17.DelvecDecodes", spec := "delvecDecodes", recurses := true, apart := false }
def DelvecDecodesSaid : Prop := delvecDecodesRow.holds Try.pinned (OpenSpec.ofChange delvecDecodesSpec)

/-- ITS FALSE NEIGHBOUR: 'it returns false'. Refute it at one input. -/
def delvecDecodesWrong : ChangeSpec := { name := "delvecDecodes", fn := fun _ => fun
  | [d1, d2, d3] => { results := [.lit (.bool false)], args := [d1, d2, d3] }
  | _ => none }
def DelvecDecodesWrongFalsely : Prop := delvecDecodesRow.holds Try.pinned (OpenSpec.ofChange delvecDecodesWrong)

/-- 'micropartlaw17.DelvecMutations': WHATEVER THE INPUT: true; the input reads as it did. -/
def delvecMutationsSpec : ChangeSpec := { name := "delvecMutations", fn := fun _ => fun
  | [d1, d2, d3, d4, d5] => { results := [.lit (.bool true)], args := [d1, d2, d3, d4, d5] }
  | _ => none }
def delvecMutationsRow : OpenClaim := { program := "ytojdmkkjamakiaa", sum := "44880220141b15081edf070eaa67d889b7f556ef0c139839b69eef2f574ea249", func := "micropart/micropartlaw17.DelvecMutations", spec := "delvecMutations", recurses := true, apart := false }
def DelvecMutationsSaid : Prop := delvecMutationsRow.holds Try.pinned (OpenSpec.ofChange delvecMutationsSpec)

/-- ITS FALSE NEIGHBOUR: 'it returns false'. Refute it at one input. -/
def delvecMutationsWrong : ChangeSpec := { name := "delvecMutations", fn := fun _ => fun
  | [d1, d2, d3, d4, d5] => { results := [.lit (.bool false)], args := [d1, d2, d3, d4, d5] }
  | _ => none }
def DelvecMutationsWrongFalsely : Prop := delvecMutationsRow.holds Try.pinned (OpenSpec.ofChange delvecMutationsWrong)

/-- 'micropartlaw17.DelvecRoundTrip': WHATEVER THE INPUT: true; the input reads as it did. -/
def delvecRoundTripSpec : ChangeSpec := { name := "delvecRoundTrip", fn := fun _ => fun
  | [d1, d2, d3] => { results := [.lit (.bool true)], args := [d1, d2, d3] }
  | _ => none }
def delvecRoundTripRow : OpenClaim := { program := "ytojdmkkjamakiaa", sum := "44880220141b15081edf070eaa67d889b7f556ef0c139839b69eef2f574ea249", func := "micropart/micropartlaw17.DelvecRoundTrip", spec := "delvecRoundTrip", recurses := true, apart := false }
def DelvecRoundTripSaid : Prop := delvecRoundTripRow.holds Try.pinned (OpenSpec.ofChange delvecRoundTripSpec)

/-- ITS FALSE NEIGHBOUR: 'it returns false'. Refute it at one input. -/
def delvecRoundTripWrong : ChangeSpec := { name := "delvecRoundTrip", fn := fun _ => fun
  | [d1, d2, d3] => { results := [.lit (.bool false)], args := [d1, d2, d3] }
  | _ => none }
def DelvecRoundTripWrongFalsely : Prop := delvecRoundTripRow.holds Try.pinned (OpenSpec.ofChange delvecRoundTripWrong)

/- THE SECOND FORM. 'bulk': how many values and letters a reading holds, each counted each time it is reached (what is shared counts as often as it is met; a slice's spare places count too). A statement '..UptoSaid' is the law's where the arguments, and the package variables that the reading takes, are together of bulk at most 1048576: NARROWER than '..Said'. Prove '..Said' where nothing that the law and all that it calls make is longer than what came in: it says more and counts as full. Else prove '..UptoSaid'. A law counts once. -/
mutual
def uptoBulk {H : Type} : DataW H → Nat
  | .lit (.string bytes) => bytes.length + 1
  | .lit _ => 1
  | .nil => 1
  | .ptr d => uptoBulk d + 1
  | .slice elems spare => uptoBulkAll elems + uptoBulkAll spare + 1
  | .agg parts => uptoBulkAll parts + 1
  | .iface _ d => uptoBulk d + 1
  | .map entries => uptoBulkEntries entries + 1
  | .held _ => 1
def uptoBulkAll {H : Type} : List (DataW H) → Nat
  | [] => 0
  | d :: r => uptoBulk d + uptoBulkAll r
def uptoBulkEntries {H : Type} : List (Lit × DataW H) → Nat
  | [] => 0
  | x :: r => uptoBulkEntry x + uptoBulkEntries r
def uptoBulkEntry {H : Type} : Lit × DataW H → Nat
  | (.string bytes, d) => bytes.length + uptoBulk d + 1
  | (_, d) => uptoBulk d + 1
 end
def uptoSmall : (H : Type) → List (DataW H) → Bool := fun _ ds => decide (uptoBulkAll ds ≤ 1048576)
def OpenSpec.upto (s : _root_.Go.ChangeSpec) : _root_.Go.OpenSpec := { _root_.Go.OpenSpec.ofChange s with cond := some uptoSmall }

/-- 'micropartlaw17.DelvecExamples', WHERE WHAT IT READS IS OF BULK AT MOST 1048576: true; the input reads as it did. -/
def delvecExamplesUptoRow : OpenClaim := { program := "ytojdmkkjamakiaa", sum := "44880220141b15081edf070eaa67d889b7f556ef0c139839b69eef2f574ea249", func := "micropart/micropartlaw17.DelvecExamples", spec := "delvecExamples", apart := false, narrowed := true }
def DelvecExamplesUptoSaid : Prop := delvecExamplesUptoRow.holds Try.pinned (OpenSpec.upto delvecExamplesSpec)

/-- 'micropartlaw17.DelvecUnionIsSet', WHERE WHAT IT READS IS OF BULK AT MOST 1048576: true; the input reads as it did. -/
def delvecUnionIsSetUptoRow : OpenClaim := { program := "ytojdmkkjamakiaa", sum := "44880220141b15081edf070eaa67d889b7f556ef0c139839b69eef2f574ea249", func := "micropart/micropartlaw17.DelvecUnionIsSet", spec := "delvecUnionIsSet", recurses := true, apart := false, narrowed := true }
def DelvecUnionIsSetUptoSaid : Prop := delvecUnionIsSetUptoRow.holds Try.pinned (OpenSpec.upto delvecUnionIsSetSpec)

/-- 'micropartlaw17.DelvecUnions', WHERE WHAT IT READS IS OF BULK AT MOST 1048576: true; the input reads as it did. -/
def delvecUnionsUptoRow : OpenClaim := { program := "ytojdmkkjamakiaa", sum := "44880220141b15081edf070eaa67d889b7f556ef0c139839b69eef2f574ea249", func := "micropart/micropartlaw17.DelvecUnions", spec := "delvecUnions", recurses := true, apart := false, narrowed := true }
def DelvecUnionsUptoSaid : Prop := delvecUnionsUptoRow.holds Try.pinned (OpenSpec.upto delvecUnionsSpec)

/-- 'micropartlaw17.DelvecLeaves', WHERE WHAT IT READS IS OF BULK AT MOST 1048576: true; the input reads as it did. -/
def delvecLeavesUptoRow : OpenClaim := { program := "ytojdmkkjamakiaa", sum := "44880220141b15081edf070eaa67d889b7f556ef0c139839b69eef2f574ea249", func := "micropart/micropartlaw17.DelvecLeaves", spec := "delvecLeaves", recurses := true, apart := false, narrowed := true }
def DelvecLeavesUptoSaid : Prop := delvecLeavesUptoRow.holds Try.pinned (OpenSpec.upto delvecLeavesSpec)

/-- 'micropartlaw17.DelvecEncodes', WHERE WHAT IT READS IS OF BULK AT MOST 1048576: true; the input reads as it did. -/
def delvecEncodesUptoRow : OpenClaim := { program := "ytojdmkkjamakiaa", sum := "44880220141b15081edf070eaa67d889b7f556ef0c139839b69eef2f574ea249", func := "micropart/micropartlaw17.DelvecEncodes", spec := "delvecEncodes", recurses := true, apart := false, narrowed := true }
def DelvecEncodesUptoSaid : Prop := delvecEncodesUptoRow.holds Try.pinned (OpenSpec.upto delvecEncodesSpec)

/-- 'micropartlaw17.DelvecDecodes', WHERE WHAT IT READS IS OF BULK AT MOST 1048576: true; the input reads as it did. -/
def delvecDecodesUptoRow : OpenClaim := { program := "ytojdmkkjamakiaa", sum := "44880220141b15081edf070eaa67d889b7f556ef0c139839b69eef2f574ea249", func := "micropart/micropartlaw17.DelvecDecodes", spec := "delvecDecodes", recurses := true, apart := false, narrowed := true }
def DelvecDecodesUptoSaid : Prop := delvecDecodesUptoRow.holds Try.pinned (OpenSpec.upto delvecDecodesSpec)

/-- 'micropartlaw17.DelvecMutations', WHERE WHAT IT READS IS OF BULK AT MOST 1048576: true; the input reads as it did. -/
def delvecMutationsUptoRow : OpenClaim := { program := "ytojdmkkjamakiaa", sum := "44880220141b15081edf070eaa67d889b7f556ef0c139839b69eef2f574ea249", func := "micropart/micropartlaw17.DelvecMutations", spec := "delvecMutations", recurses := true, apart := false, narrowed := true }
def DelvecMutationsUptoSaid : Prop := delvecMutationsUptoRow.holds Try.pinned (OpenSpec.upto delvecMutationsSpec)

/-- 'micropartlaw17.DelvecRoundTrip', WHERE WHAT IT READS IS OF BULK AT MOST 1048576: true; the input reads as it did. -/
def delvecRoundTripUptoRow : OpenClaim := { program := "ytojdmkkjamakiaa", sum := "44880220141b15081edf070eaa67d889b7f556ef0c139839b69eef2f574ea249", func := "micropart/micropartlaw17.DelvecRoundTrip", spec := "delvecRoundTrip", recurses := true, apart := false, narrowed := true }
def DelvecRoundTripUptoSaid : Prop := delvecRoundTripUptoRow.holds Try.pinned (OpenSpec.upto delvecRoundTripSpec)

end Rows
end Go.Proofs.Ytojdmkkjamakiaa
