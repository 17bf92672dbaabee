/-
  No cell of these rows narrows 'for every input' (looked for: loops, veiled, ifaces, maps, wideKeys, modest, calm, conditions, laid).
  DERIVED. THE GIVEN ROWS OF THIS SEAT. 7 by the template 'for every input the law returns true; each argument reads behind the call as it read before'; 0 by the template 'total and deterministic' (their statements: YtlamfjhhjfgemaaTotals.lean).
  GIVEN WITH THE SEED: the statements are not yours to turn. If you find one false, say at which input.
  Laid BY PROGRAM, IN A SANDBOX (cutbox-rows.mjs): the forced cells as the released guide's own fill.sh prints them over the translation 25eccebd43507c98… (all of the seat's roots in one cut). By AI agents, Wed Nov 11 2026. No macro, syntax, notation, axiom, sorry.
-/
import Derived.Test.YtlamfjhhjfgemaaChecked
import GoSem.Claim
import GoSem.ClaimJoined
import GoSem.ClaimMapViews
import Derived.JoinedTies
import Derived.KernelRfl
namespace Go.Proofs.Ytlamfjhhjfgemaa
/- THE CELL 'sum', in the pinned program and in every row, IS THE sha256 OF THE DUMP (.gsa) THAT YtlamfjhhjfgemaaProg.lean LOADS. Nothing in Lean hashes anything: it is a label: what it is worth is what the hold of that sum in a sandbox is worth. -/
noncomputable def Try.pinned : Pinned := { name := "ytlamfjhhjfgemaa", sum := "25eccebd43507c98b77ab5598fef494079dd04c7eadafbef9810184f7e0aae66", checked := Try.checked }
namespace Rows
def none {H : Type} : Left H := { results := [], args := [] }

/-- 'micropartlaw12.ChunkMutations': WHATEVER THE INPUT: true; the input reads as it did. -/
def chunkMutationsSpec : ChangeSpec := { name := "chunkMutations", fn := fun _ => fun
  | [d1, d2, d3, d4, d5, d6, d7] => { results := [.lit (.bool true)], args := [d1, d2, d3, d4, d5, d6, d7] }
  | _ => none }
def chunkMutationsRow : OpenClaim := { program := "ytlamfjhhjfgemaa", sum := "25eccebd43507c98b77ab5598fef494079dd04c7eadafbef9810184f7e0aae66", func := "micropart/micropartlaw12.ChunkMutations", spec := "chunkMutations", apart := false }
def ChunkMutationsSaid : Prop := chunkMutationsRow.holds Try.pinned (OpenSpec.ofChange chunkMutationsSpec)

/-- ITS FALSE NEIGHBOUR: 'it returns false'. Refute it at one input. -/
def chunkMutationsWrong : ChangeSpec := { name := "chunkMutations", fn := fun _ => fun
  | [d1, d2, d3, d4, d5, d6, d7] => { results := [.lit (.bool false)], args := [d1, d2, d3, d4, d5, d6, d7] }
  | _ => none }
def ChunkMutationsWrongFalsely : Prop := chunkMutationsRow.holds Try.pinned (OpenSpec.ofChange chunkMutationsWrong)

/-- 'micropartlaw12.ChunkCodecs': WHATEVER THE INPUT: true; the input reads as it did. -/
def chunkCodecsSpec : ChangeSpec := { name := "chunkCodecs", fn := fun _ => fun
  | [d1, d2, d3, d4] => { results := [.lit (.bool true)], args := [d1, d2, d3, d4] }
  | _ => none }
def chunkCodecsRow : OpenClaim := { program := "ytlamfjhhjfgemaa", sum := "25eccebd43507c98b77ab5598fef494079dd04c7eadafbef9810184f7e0aae66", func := "micropart/micropartlaw12.ChunkCodecs", spec := "chunkCodecs", apart := false }
def ChunkCodecsSaid : Prop := chunkCodecsRow.holds Try.pinned (OpenSpec.ofChange chunkCodecsSpec)

/-- ITS FALSE NEIGHBOUR: 'it returns false'. Refute it at one input. -/
def chunkCodecsWrong : ChangeSpec := { name := "chunkCodecs", fn := fun _ => fun
  | [d1, d2, d3, d4] => { results := [.lit (.bool false)], args := [d1, d2, d3, d4] }
  | _ => none }
def ChunkCodecsWrongFalsely : Prop := chunkCodecsRow.holds Try.pinned (OpenSpec.ofChange chunkCodecsWrong)

/-- 'micropartlaw12.ChunkDetectsChanges': WHATEVER THE INPUT: true; the input reads as it did. -/
def chunkDetectsChangesSpec : ChangeSpec := { name := "chunkDetectsChanges", fn := fun _ => fun
  | [d1, d2, d3, d4, d5, d6] => { results := [.lit (.bool true)], args := [d1, d2, d3, d4, d5, d6] }
  | _ => none }
def chunkDetectsChangesRow : OpenClaim := { program := "ytlamfjhhjfgemaa", sum := "25eccebd43507c98b77ab5598fef494079dd04c7eadafbef9810184f7e0aae66", func := "micropart/micropartlaw12.ChunkDetectsChanges", spec := "chunkDetectsChanges", apart := false }
def ChunkDetectsChangesSaid : Prop := chunkDetectsChangesRow.holds Try.pinned (OpenSpec.ofChange chunkDetectsChangesSpec)

/-- ITS FALSE NEIGHBOUR: 'it returns false'. Refute it at one input. -/
def chunkDetectsChangesWrong : ChangeSpec := { name := "chunkDetectsChanges", fn := fun _ => fun
  | [d1, d2, d3, d4, d5, d6] => { results := [.lit (.bool false)], args := [d1, d2, d3, d4, d5, d6] }
  | _ => none }
def ChunkDetectsChangesWrongFalsely : Prop := chunkDetectsChangesRow.holds Try.pinned (OpenSpec.ofChange chunkDetectsChangesWrong)

/-- 'micropartlaw12.ChunkExamples': WHATEVER THE INPUT: true; the input reads as it did. -/
def chunkExamplesSpec : ChangeSpec := { name := "chunkExamples", fn := fun _ => fun
  | [] => { results := [.lit (.bool true)], args := [] }
  | _ => none }
def chunkExamplesRow : OpenClaim := { program := "ytlamfjhhjfgemaa", sum := "25eccebd43507c98b77ab5598fef494079dd04c7eadafbef9810184f7e0aae66", func := "micropart/micropartlaw12.ChunkExamples", spec := "chunkExamples", inPlace := ["internal/abi.NoEscape"], unfollowed := true, recurses := true, apart := false }
def ChunkExamplesSaid : Prop := chunkExamplesRow.holds Try.pinned (OpenSpec.ofChange chunkExamplesSpec)

/-- ITS FALSE NEIGHBOUR: 'it returns false'. Refute it at one input. -/
def chunkExamplesWrong : ChangeSpec := { name := "chunkExamples", fn := fun _ => fun
  | [] => { results := [.lit (.bool false)], args := [] }
  | _ => none }
def ChunkExamplesWrongFalsely : Prop := chunkExamplesRow.holds Try.pinned (OpenSpec.ofChange chunkExamplesWrong)

/-- 'micropartlaw12.ChunkEncodes': WHATEVER THE INPUT: true; the input reads as it did. -/
def chunkEncodesSpec : ChangeSpec := { name := "chunkEncodes", fn := fun _ => fun
  | [d1, d2, d3, d4, d5] => { results := [.lit (.bool true)], args := [d1, d2, d3, d4, d5] }
  | _ => none }
def chunkEncodesRow : OpenClaim := { program := "ytlamfjhhjfgemaa", sum := "25eccebd43507c98b77ab5598fef494079dd04c7eadafbef9810184f7e0aae66", func := "micropart/micropartlaw12.ChunkEncodes", spec := "chunkEncodes", inPlace := ["internal/abi.NoEscape"], unfollowed := true, recurses := true, apart := false }
def ChunkEncodesSaid : Prop := chunkEncodesRow.holds Try.pinned (OpenSpec.ofChange chunkEncodesSpec)

/-- ITS FALSE NEIGHBOUR: 'it returns false'. Refute it at one input. -/
def chunkEncodesWrong : ChangeSpec := { name := "chunkEncodes", fn := fun _ => fun
  | [d1, d2, d3, d4, d5] => { results := [.lit (.bool false)], args := [d1, d2, d3, d4, d5] }
  | _ => none }
def ChunkEncodesWrongFalsely : Prop := chunkEncodesRow.holds Try.pinned (OpenSpec.ofChange chunkEncodesWrong)

/-- 'micropartlaw12.ChunkIsLeast': WHATEVER THE INPUT: true; the input reads as it did. -/
def chunkIsLeastSpec : ChangeSpec := { name := "chunkIsLeast", fn := fun _ => fun
  | [d1, d2, d3] => { results := [.lit (.bool true)], args := [d1, d2, d3] }
  | _ => none }
def chunkIsLeastRow : OpenClaim := { program := "ytlamfjhhjfgemaa", sum := "25eccebd43507c98b77ab5598fef494079dd04c7eadafbef9810184f7e0aae66", func := "micropart/micropartlaw12.ChunkIsLeast", spec := "chunkIsLeast", inPlace := ["internal/abi.NoEscape"], unfollowed := true, recurses := true, apart := false }
def ChunkIsLeastSaid : Prop := chunkIsLeastRow.holds Try.pinned (OpenSpec.ofChange chunkIsLeastSpec)

/-- ITS FALSE NEIGHBOUR: 'it returns false'. Refute it at one input. -/
def chunkIsLeastWrong : ChangeSpec := { name := "chunkIsLeast", fn := fun _ => fun
  | [d1, d2, d3] => { results := [.lit (.bool false)], args := [d1, d2, d3] }
  | _ => none }
def ChunkIsLeastWrongFalsely : Prop := chunkIsLeastRow.holds Try.pinned (OpenSpec.ofChange chunkIsLeastWrong)

/-- 'micropartlaw12.ChunkRefuses': WHATEVER THE INPUT: true; the input reads as it did. -/
def chunkRefusesSpec : ChangeSpec := { name := "chunkRefuses", fn := fun _ => fun
  | [d1, d2, d3, d4, d5] => { results := [.lit (.bool true)], args := [d1, d2, d3, d4, d5] }
  | _ => none }
def chunkRefusesRow : OpenClaim := { program := "ytlamfjhhjfgemaa", sum := "25eccebd43507c98b77ab5598fef494079dd04c7eadafbef9810184f7e0aae66", func := "micropart/micropartlaw12.ChunkRefuses", spec := "chunkRefuses", inPlace := ["internal/abi.NoEscape"], unfollowed := true, recurses := true, apart := false }
def ChunkRefusesSaid : Prop := chunkRefusesRow.holds Try.pinned (OpenSpec.ofChange chunkRefusesSpec)

/-- ITS FALSE NEIGHBOUR: 'it returns false'. Refute it at one input. -/
def chunkRefusesWrong : ChangeSpec := { name := "chunkRefuses", fn := fun _ => fun
  | [d1, d2, d3, d4, d5] => { results := [.lit (.bool false)], args := [d1, d2, d3, d4, d5] }
  | _ => none }
def ChunkRefusesWrongFalsely : Prop := chunkRefusesRow.holds Try.pinned (OpenSpec.ofChange chunkRefusesWrong)

/- THE SECOND FORM. 'bulk': how many values and letters a reading holds, each counted each time it is reached (what is shared counts as often as it is met; a slice's spare places count too). A statement '..UptoSaid' is the law's where the arguments, and the package variables that the reading takes, are together of bulk at most 1048576: NARROWER than '..Said'. Prove '..Said' where nothing that the law and all that it calls make is longer than what came in: it says more and counts as full. Else prove '..UptoSaid'. A law counts once. -/
mutual
def uptoBulk {H : Type} : DataW H → Nat
  | .lit (.string bytes) => bytes.length + 1
  | .lit _ => 1
  | .nil => 1
  | .ptr d => uptoBulk d + 1
  | .slice elems spare => uptoBulkAll elems + uptoBulkAll spare + 1
  | .agg parts => uptoBulkAll parts + 1
  | .iface _ d => uptoBulk d + 1
  | .map entries => uptoBulkEntries entries + 1
  | .held _ => 1
def uptoBulkAll {H : Type} : List (DataW H) → Nat
  | [] => 0
  | d :: r => uptoBulk d + uptoBulkAll r
def uptoBulkEntries {H : Type} : List (Lit × DataW H) → Nat
  | [] => 0
  | x :: r => uptoBulkEntry x + uptoBulkEntries r
def uptoBulkEntry {H : Type} : Lit × DataW H → Nat
  | (.string bytes, d) => bytes.length + uptoBulk d + 1
  | (_, d) => uptoBulk d + 1
 end
def uptoSmall : (H : Type) → List (DataW H) → Bool := fun _ ds => decide (uptoBulkAll ds ≤ 1048576)
def OpenSpec.upto (s : _root_.Go.ChangeSpec) : _root_.Go.OpenSpec := { _root_.Go.OpenSpec.ofChange s with cond := some uptoSmall }

/-- 'micropartlaw12.ChunkMutations', WHERE WHAT IT READS IS OF BULK AT MOST 1048576: true; the input reads as it did. -/
def chunkMutationsUptoRow : OpenClaim := { program := "ytlamfjhhjfgemaa", sum := "25eccebd43507c98b77ab5598fef494079dd04c7eadafbef9810184f7e0aae66", func := "micropart/micropartlaw12.ChunkMutations", spec := "chunkMutations", apart := false, narrowed := true }
def ChunkMutationsUptoSaid : Prop := chunkMutationsUptoRow.holds Try.pinned (OpenSpec.upto chunkMutationsSpec)

/-- 'micropartlaw12.ChunkCodecs', WHERE WHAT IT READS IS OF BULK AT MOST 1048576: true; the input reads as it did. -/
def chunkCodecsUptoRow : OpenClaim := { program := "ytlamfjhhjfgemaa", sum := "25eccebd43507c98b77ab5598fef494079dd04c7eadafbef9810184f7e0aae66", func := "micropart/micropartlaw12.ChunkCodecs", spec := "chunkCodecs", apart := false, narrowed := true }
def ChunkCodecsUptoSaid : Prop := chunkCodecsUptoRow.holds Try.pinned (OpenSpec.upto chunkCodecsSpec)

/-- 'micropartlaw12.ChunkDetectsChanges', WHERE WHAT IT READS IS OF BULK AT MOST 1048576: true; the input reads as it did. -/
def chunkDetectsChangesUptoRow : OpenClaim := { program := "ytlamfjhhjfgemaa", sum := "25eccebd43507c98b77ab5598fef494079dd04c7eadafbef9810184f7e0aae66", func := "micropart/micropartlaw12.ChunkDetectsChanges", spec := "chunkDetectsChanges", apart := false, narrowed := true }
def ChunkDetectsChangesUptoSaid : Prop := chunkDetectsChangesUptoRow.holds Try.pinned (OpenSpec.upto chunkDetectsChangesSpec)

/-- 'micropartlaw12.ChunkExamples', WHERE WHAT IT READS IS OF BULK AT MOST 1048576: true; the input reads as it did. -/
def chunkExamplesUptoRow : OpenClaim := { program := "ytlamfjhhjfgemaa", sum := "25eccebd43507c98b77ab5598fef494079dd04c7eadafbef9810184f7e0aae66", func := "micropart/micropartlaw12.ChunkExamples", spec := "chunkExamples", inPlace := ["internal/abi.NoEscape"], unfollowed := true, recurses := true, apart := false, narrowed := true }
def ChunkExamplesUptoSaid : Prop := chunkExamplesUptoRow.holds Try.pinned (OpenSpec.upto chunkExamplesSpec)

/-- 'micropartlaw12.ChunkEncodes', WHERE WHAT IT READS IS OF BULK AT MOST 1048576: true; the input reads as it did. -/
def chunkEncodesUptoRow : OpenClaim := { program := "ytlamfjhhjfgemaa", sum := "25eccebd43507c98b77ab5598fef494079dd04c7eadafbef9810184f7e0aae66", func := "micropart/micropartlaw12.ChunkEncodes", spec := "chunkEncodes", inPlace := ["internal/abi.NoEscape"], unfollowed := true, recurses := true, apart := false, narrowed := true }
def ChunkEncodesUptoSaid : Prop := chunkEncodesUptoRow.holds Try.pinned (OpenSpec.upto chunkEncodesSpec)

/-- 'micropartlaw12.ChunkIsLeast', WHERE WHAT IT READS IS OF BULK AT MOST 1048576: true; the input reads as it did. -/
def chunkIsLeastUptoRow : OpenClaim := { program := "ytlamfjhhjfgemaa", sum := "25eccebd43507c98b77ab5598fef494079dd04c7eadafbef9810184f7e0aae66", func := "micropart/micropartlaw12.ChunkIsLeast", spec := "chunkIsLeast", inPlace := ["internal/abi.NoEscape"], unfollowed := true, recurses := true, apart := false, narrowed := true }
def ChunkIsLeastUptoSaid : Prop := chunkIsLeastUptoRow.holds Try.pinned (OpenSpec.upto chunkIsLeastSpec)

/-- 'micropartlaw12.ChunkRefuses', WHERE WHAT IT READS IS OF BULK AT MOST 1048576: true; the input reads as it did. -/
def chunkRefusesUptoRow : OpenClaim := { program := "ytlamfjhhjfgemaa", sum := "25eccebd43507c98b77ab5598fef494079dd04c7eadafbef9810184f7e0aae66", func := "micropart/micropartlaw12.ChunkRefuses", spec := "chunkRefuses", inPlace := ["internal/abi.NoEscape"], unfollowed := true, recurses := true, apart := false, narrowed := true }
def ChunkRefusesUptoSaid : Prop := chunkRefusesUptoRow.holds Try.pinned (OpenSpec.upto chunkRefusesSpec)

end Rows
end Go.Proofs.Ytlamfjhhjfgemaa
