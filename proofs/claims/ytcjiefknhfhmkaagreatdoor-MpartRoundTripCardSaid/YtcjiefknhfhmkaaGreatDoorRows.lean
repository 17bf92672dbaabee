/-
  NARROWER THAN 'FOR EVERY INPUT', by the rows' own cells (each row's printed sentence says how): MpartDetectsChanges: laid · MpartSchemas: laid · MpartColumns: laid · MpartReads: laid · MpartMutations: laid · MpartFooters: laid · MpartExamples: laid · MpartRoundTrip: laid · MpartEncodes: laid · MpartBounds: laid.
  DERIVED. THE GIVEN ROWS OF THIS SEAT. 10 by the template 'for every input the law returns true; each argument reads behind the call as it read before'; 0 by the template 'total and deterministic' (their statements: YtcjiefknhfhmkaaGreatDoorTotals.lean).
  GIVEN WITH THE SEED: the statements are not yours to turn. If you find one false, say at which input.
  Laid BY PROGRAM, IN A SANDBOX (cutbox-rows.mjs): the forced cells as the released guide's own fill.sh prints them over the translation f977f6b1795a6a6c… (all of the seat's roots in one cut). By AI agents, Wed Nov 11 2026. No macro, syntax, notation, axiom, sorry.
-/
import Derived.Test.YtcjiefknhfhmkaaGreatDoorChecked
import GoSem.Claim
import GoSem.ClaimJoined
import GoSem.ClaimMapViews
import Derived.JoinedTies
import Derived.KernelRfl
namespace Go.Proofs.YtcjiefknhfhmkaaGreatDoor
/- THE CELL 'sum', in the pinned program and in every row, IS THE sha256 OF THE DUMP (.gsa) THAT YtcjiefknhfhmkaaGreatDoorProg.lean LOADS. Nothing in Lean hashes anything: it is a label: what it is worth is what the hold of that sum in a sandbox is worth. -/
noncomputable def Tryz.pinned : Pinned := { name := "ytcjiefknhfhmkaagreatdoor", sum := "f977f6b1795a6a6cf13ff31cf51d8ba8e9e83a0bf2ccc537989396c0d6c02aa9", checked := Tryz.checked }
namespace Rows
def none {H : Type} : Left H := { results := [], args := [] }

/- WHAT THE LISTED PACKAGE-LEVEL VARIABLES READ AS WHEN THE CALL BEGINS. Each datum BY PROGRAM (the guide's laid-datum.mjs) off the statement by which the dump's own 'gosem.cut.vars' lays the variable. In a bare row this is a premise. The card (YtcjiefknhfhmkaaGreatDoorCards.lean) ties it to the program's text. -/
def laid_math_bits_deBruijn32tab {H : Type} : DataW H := .agg [.lit (.int .u8 0), .lit (.int .u8 1), .lit (.int .u8 28), .lit (.int .u8 2), .lit (.int .u8 29), .lit (.int .u8 14), .lit (.int .u8 24), .lit (.int .u8 3), .lit (.int .u8 30), .lit (.int .u8 22), .lit (.int .u8 20), .lit (.int .u8 15), .lit (.int .u8 25), .lit (.int .u8 17), .lit (.int .u8 4), .lit (.int .u8 8), .lit (.int .u8 31), .lit (.int .u8 27), .lit (.int .u8 13), .lit (.int .u8 23), .lit (.int .u8 21), .lit (.int .u8 19), .lit (.int .u8 16), .lit (.int .u8 7), .lit (.int .u8 26), .lit (.int .u8 12), .lit (.int .u8 18), .lit (.int .u8 6), .lit (.int .u8 11), .lit (.int .u8 5), .lit (.int .u8 10), .lit (.int .u8 9)]
def laid_math_bits_deBruijn64tab {H : Type} : DataW H := .agg [.lit (.int .u8 0), .lit (.int .u8 1), .lit (.int .u8 56), .lit (.int .u8 2), .lit (.int .u8 57), .lit (.int .u8 49), .lit (.int .u8 28), .lit (.int .u8 3), .lit (.int .u8 61), .lit (.int .u8 58), .lit (.int .u8 42), .lit (.int .u8 50), .lit (.int .u8 38), .lit (.int .u8 29), .lit (.int .u8 17), .lit (.int .u8 4), .lit (.int .u8 62), .lit (.int .u8 47), .lit (.int .u8 59), .lit (.int .u8 36), .lit (.int .u8 45), .lit (.int .u8 43), .lit (.int .u8 51), .lit (.int .u8 22), .lit (.int .u8 53), .lit (.int .u8 39), .lit (.int .u8 33), .lit (.int .u8 30), .lit (.int .u8 24), .lit (.int .u8 18), .lit (.int .u8 12), .lit (.int .u8 5), .lit (.int .u8 63), .lit (.int .u8 55), .lit (.int .u8 48), .lit (.int .u8 27), .lit (.int .u8 60), .lit (.int .u8 41), .lit (.int .u8 37), .lit (.int .u8 16), .lit (.int .u8 46), .lit (.int .u8 35), .lit (.int .u8 44), .lit (.int .u8 21), .lit (.int .u8 52), .lit (.int .u8 32), .lit (.int .u8 23), .lit (.int .u8 11), .lit (.int .u8 54), .lit (.int .u8 26), .lit (.int .u8 40), .lit (.int .u8 15), .lit (.int .u8 34), .lit (.int .u8 20), .lit (.int .u8 31), .lit (.int .u8 10), .lit (.int .u8 25), .lit (.int .u8 14), .lit (.int .u8 19), .lit (.int .u8 9), .lit (.int .u8 13), .lit (.int .u8 8), .lit (.int .u8 7), .lit (.int .u8 6)]
def laid_internal_strconv_uint64pow10 {H : Type} : DataW H := .agg [.lit (.int .u64 1), .lit (.int .u64 10), .lit (.int .u64 100), .lit (.int .u64 1000), .lit (.int .u64 10000), .lit (.int .u64 100000), .lit (.int .u64 1000000), .lit (.int .u64 10000000), .lit (.int .u64 100000000), .lit (.int .u64 1000000000), .lit (.int .u64 10000000000), .lit (.int .u64 100000000000), .lit (.int .u64 1000000000000), .lit (.int .u64 10000000000000), .lit (.int .u64 100000000000000), .lit (.int .u64 1000000000000000), .lit (.int .u64 10000000000000000), .lit (.int .u64 100000000000000000), .lit (.int .u64 1000000000000000000), .lit (.int .u64 10000000000000000000)]

/-- 'micropartlaw16.MpartDetectsChanges': WHATEVER THE INPUT: true; the input reads as it did. -/
def mpartDetectsChangesSpec : ChangeSpec := { name := "mpartDetectsChanges", fn := fun _ => fun
  | [d1, d2, d3, d4] => { results := [.lit (.bool true)], args := [d1, d2, d3, d4] }
  | _ => none }
def mpartDetectsChangesRow : OpenClaim := { program := "ytcjiefknhfhmkaagreatdoor", sum := "f977f6b1795a6a6cf13ff31cf51d8ba8e9e83a0bf2ccc537989396c0d6c02aa9", func := "micropart/micropartlaw16.MpartDetectsChanges", spec := "mpartDetectsChanges", inPlace := ["internal/abi.NoEscape"], unfollowed := true, recurses := true, named := ["internal/strconv.uint64pow10", "math/bits.deBruijn32tab", "math/bits.deBruijn64tab"], apart := false, laid := [("math/bits.deBruijn32tab", laid_math_bits_deBruijn32tab), ("math/bits.deBruijn64tab", laid_math_bits_deBruijn64tab), ("internal/strconv.uint64pow10", laid_internal_strconv_uint64pow10)] }
def MpartDetectsChangesSaid : Prop := mpartDetectsChangesRow.holds Tryz.pinned (OpenSpec.ofChange mpartDetectsChangesSpec)

/-- ITS FALSE NEIGHBOUR: 'it returns false'. Refute it at one input. -/
def mpartDetectsChangesWrong : ChangeSpec := { name := "mpartDetectsChanges", fn := fun _ => fun
  | [d1, d2, d3, d4] => { results := [.lit (.bool false)], args := [d1, d2, d3, d4] }
  | _ => none }
def MpartDetectsChangesWrongFalsely : Prop := mpartDetectsChangesRow.holds Tryz.pinned (OpenSpec.ofChange mpartDetectsChangesWrong)

/-- 'micropartlaw16.MpartSchemas': WHATEVER THE INPUT: true; the input reads as it did. -/
def mpartSchemasSpec : ChangeSpec := { name := "mpartSchemas", fn := fun _ => fun
  | [d1, d2, d3] => { results := [.lit (.bool true)], args := [d1, d2, d3] }
  | _ => none }
def mpartSchemasRow : OpenClaim := { program := "ytcjiefknhfhmkaagreatdoor", sum := "f977f6b1795a6a6cf13ff31cf51d8ba8e9e83a0bf2ccc537989396c0d6c02aa9", func := "micropart/micropartlaw16.MpartSchemas", spec := "mpartSchemas", inPlace := ["internal/abi.NoEscape"], unfollowed := true, recurses := true, named := ["internal/strconv.uint64pow10", "math/bits.deBruijn32tab", "math/bits.deBruijn64tab"], apart := false, laid := [("math/bits.deBruijn32tab", laid_math_bits_deBruijn32tab), ("math/bits.deBruijn64tab", laid_math_bits_deBruijn64tab), ("internal/strconv.uint64pow10", laid_internal_strconv_uint64pow10)] }
def MpartSchemasSaid : Prop := mpartSchemasRow.holds Tryz.pinned (OpenSpec.ofChange mpartSchemasSpec)

/-- ITS FALSE NEIGHBOUR: 'it returns false'. Refute it at one input. -/
def mpartSchemasWrong : ChangeSpec := { name := "mpartSchemas", fn := fun _ => fun
  | [d1, d2, d3] => { results := [.lit (.bool false)], args := [d1, d2, d3] }
  | _ => none }
def MpartSchemasWrongFalsely : Prop := mpartSchemasRow.holds Tryz.pinned (OpenSpec.ofChange mpartSchemasWrong)

/-- 'micropartlaw16.MpartColumns': WHATEVER THE INPUT: true; the input reads as it did. -/
def mpartColumnsSpec : ChangeSpec := { name := "mpartColumns", fn := fun _ => fun
  | [d1, d2, d3, d4] => { results := [.lit (.bool true)], args := [d1, d2, d3, d4] }
  | _ => none }
def mpartColumnsRow : OpenClaim := { program := "ytcjiefknhfhmkaagreatdoor", sum := "f977f6b1795a6a6cf13ff31cf51d8ba8e9e83a0bf2ccc537989396c0d6c02aa9", func := "micropart/micropartlaw16.MpartColumns", spec := "mpartColumns", inPlace := ["internal/abi.NoEscape"], unfollowed := true, recurses := true, named := ["internal/strconv.uint64pow10", "math/bits.deBruijn32tab", "math/bits.deBruijn64tab"], apart := false, laid := [("math/bits.deBruijn32tab", laid_math_bits_deBruijn32tab), ("math/bits.deBruijn64tab", laid_math_bits_deBruijn64tab), ("internal/strconv.uint64pow10", laid_internal_strconv_uint64pow10)] }
def MpartColumnsSaid : Prop := mpartColumnsRow.holds Tryz.pinned (OpenSpec.ofChange mpartColumnsSpec)

/-- ITS FALSE NEIGHBOUR: 'it returns false'. Refute it at one input. -/
def mpartColumnsWrong : ChangeSpec := { name := "mpartColumns", fn := fun _ => fun
  | [d1, d2, d3, d4] => { results := [.lit (.bool false)], args := [d1, d2, d3, d4] }
  | _ => none }
def MpartColumnsWrongFalsely : Prop := mpartColumnsRow.holds Tryz.pinned (OpenSpec.ofChange mpartColumnsWrong)

/-- 'micropartlaw16.MpartReads': WHATEVER THE INPUT: true; the input reads as it did. -/
def mpartReadsSpec : ChangeSpec := { name := "mpartReads", fn := fun _ => fun
  | [d1, d2, d3, d4, d5] => { results := [.lit (.bool true)], args := [d1, d2, d3, d4, d5] }
  | _ => none }
def mpartReadsRow : OpenClaim := { program := "ytcjiefknhfhmkaagreatdoor", sum := "f977f6b1795a6a6cf13ff31cf51d8ba8e9e83a0bf2ccc537989396c0d6c02aa9", func := "micropart/micropartlaw16.MpartReads", spec := "mpartReads", inPlace := ["internal/abi.NoEscape"], unfollowed := true, recurses := true, named := ["internal/strconv.uint64pow10", "math/bits.deBruijn32tab", "math/bits.deBruijn64tab"], apart := false, laid := [("math/bits.deBruijn32tab", laid_math_bits_deBruijn32tab), ("math/bits.deBruijn64tab", laid_math_bits_deBruijn64tab), ("internal/strconv.uint64pow10", laid_internal_strconv_uint64pow10)] }
def MpartReadsSaid : Prop := mpartReadsRow.holds Tryz.pinned (OpenSpec.ofChange mpartReadsSpec)

/-- ITS FALSE NEIGHBOUR: 'it returns false'. Refute it at one input. -/
def mpartReadsWrong : ChangeSpec := { name := "mpartReads", fn := fun _ => fun
  | [d1, d2, d3, d4, d5] => { results := [.lit (.bool false)], args := [d1, d2, d3, d4, d5] }
  | _ => none }
def MpartReadsWrongFalsely : Prop := mpartReadsRow.holds Tryz.pinned (OpenSpec.ofChange mpartReadsWrong)

/-- 'micropartlaw16.MpartMutations': WHATEVER THE INPUT: true; the input reads as it did. -/
def mpartMutationsSpec : ChangeSpec := { name := "mpartMutations", fn := fun _ => fun
  | [d1, d2, d3, d4, d5] => { results := [.lit (.bool true)], args := [d1, d2, d3, d4, d5] }
  | _ => none }
def mpartMutationsRow : OpenClaim := { program := "ytcjiefknhfhmkaagreatdoor", sum := "f977f6b1795a6a6cf13ff31cf51d8ba8e9e83a0bf2ccc537989396c0d6c02aa9", func := "micropart/micropartlaw16.MpartMutations", spec := "mpartMutations", inPlace := ["internal/abi.NoEscape"], unfollowed := true, recurses := true, named := ["internal/strconv.uint64pow10", "math/bits.deBruijn32tab", "math/bits.deBruijn64tab"], apart := false, laid := [("math/bits.deBruijn32tab", laid_math_bits_deBruijn32tab), ("math/bits.deBruijn64tab", laid_math_bits_deBruijn64tab), ("internal/strconv.uint64pow10", laid_internal_strconv_uint64pow10)] }
def MpartMutationsSaid : Prop := mpartMutationsRow.holds Tryz.pinned (OpenSpec.ofChange mpartMutationsSpec)

/-- ITS FALSE NEIGHBOUR: 'it returns false'. Refute it at one input. -/
def mpartMutationsWrong : ChangeSpec := { name := "mpartMutations", fn := fun _ => fun
  | [d1, d2, d3, d4, d5] => { results := [.lit (.bool false)], args := [d1, d2, d3, d4, d5] }
  | _ => none }
def MpartMutationsWrongFalsely : Prop := mpartMutationsRow.holds Tryz.pinned (OpenSpec.ofChange mpartMutationsWrong)

/-- 'micropartlaw16.MpartFooters': WHATEVER THE INPUT: true; the input reads as it did. -/
def mpartFootersSpec : ChangeSpec := { name := "mpartFooters", fn := fun _ => fun
  | [d1, d2, d3, d4] => { results := [.lit (.bool true)], args := [d1, d2, d3, d4] }
  | _ => none }
def mpartFootersRow : OpenClaim := { program := "ytcjiefknhfhmkaagreatdoor", sum := "f977f6b1795a6a6cf13ff31cf51d8ba8e9e83a0bf2ccc537989396c0d6c02aa9", func := "micropart/micropartlaw16.MpartFooters", spec := "mpartFooters", inPlace := ["internal/abi.NoEscape"], unfollowed := true, recurses := true, named := ["internal/strconv.uint64pow10", "math/bits.deBruijn32tab", "math/bits.deBruijn64tab"], apart := false, laid := [("math/bits.deBruijn32tab", laid_math_bits_deBruijn32tab), ("math/bits.deBruijn64tab", laid_math_bits_deBruijn64tab), ("internal/strconv.uint64pow10", laid_internal_strconv_uint64pow10)] }
def MpartFootersSaid : Prop := mpartFootersRow.holds Tryz.pinned (OpenSpec.ofChange mpartFootersSpec)

/-- ITS FALSE NEIGHBOUR: 'it returns false'. Refute it at one input. -/
def mpartFootersWrong : ChangeSpec := { name := "mpartFooters", fn := fun _ => fun
  | [d1, d2, d3, d4] => { results := [.lit (.bool false)], args := [d1, d2, d3, d4] }
  | _ => none }
def MpartFootersWrongFalsely : Prop := mpartFootersRow.holds Tryz.pinned (OpenSpec.ofChange mpartFootersWrong)

/-- 'micropartlaw16.MpartExamples': WHATEVER THE INPUT: true; the input reads as it did. -/
def mpartExamplesSpec : ChangeSpec := { name := "mpartExamples", fn := fun _ => fun
  | [] => { results := [.lit (.bool true)], args := [] }
  | _ => none }
def mpartExamplesRow : OpenClaim := { program := "ytcjiefknhfhmkaagreatdoor", sum := "f977f6b1795a6a6cf13ff31cf51d8ba8e9e83a0bf2ccc537989396c0d6c02aa9", func := "micropart/micropartlaw16.MpartExamples", spec := "mpartExamples", inPlace := ["internal/abi.NoEscape"], unfollowed := true, recurses := true, named := ["internal/strconv.uint64pow10", "math/bits.deBruijn32tab", "math/bits.deBruijn64tab"], apart := false, laid := [("math/bits.deBruijn32tab", laid_math_bits_deBruijn32tab), ("math/bits.deBruijn64tab", laid_math_bits_deBruijn64tab), ("internal/strconv.uint64pow10", laid_internal_strconv_uint64pow10)] }
def MpartExamplesSaid : Prop := mpartExamplesRow.holds Tryz.pinned (OpenSpec.ofChange mpartExamplesSpec)

/-- ITS FALSE NEIGHBOUR: 'it returns false'. Refute it at one input. -/
def mpartExamplesWrong : ChangeSpec := { name := "mpartExamples", fn := fun _ => fun
  | [] => { results := [.lit (.bool false)], args := [] }
  | _ => none }
def MpartExamplesWrongFalsely : Prop := mpartExamplesRow.holds Tryz.pinned (OpenSpec.ofChange mpartExamplesWrong)

/-- 'micropartlaw16.MpartRoundTrip': WHATEVER THE INPUT: true; the input reads as it did. -/
def mpartRoundTripSpec : ChangeSpec := { name := "mpartRoundTrip", fn := fun _ => fun
  | [d1, d2] => { results := [.lit (.bool true)], args := [d1, d2] }
  | _ => none }
def mpartRoundTripRow : OpenClaim := { program := "ytcjiefknhfhmkaagreatdoor", sum := "f977f6b1795a6a6cf13ff31cf51d8ba8e9e83a0bf2ccc537989396c0d6c02aa9", func := "micropart/micropartlaw16.MpartRoundTrip", spec := "mpartRoundTrip", inPlace := ["internal/abi.NoEscape"], unfollowed := true, recurses := true, named := ["internal/strconv.uint64pow10", "math/bits.deBruijn32tab", "math/bits.deBruijn64tab"], apart := false, laid := [("math/bits.deBruijn32tab", laid_math_bits_deBruijn32tab), ("math/bits.deBruijn64tab", laid_math_bits_deBruijn64tab), ("internal/strconv.uint64pow10", laid_internal_strconv_uint64pow10)] }
def MpartRoundTripSaid : Prop := mpartRoundTripRow.holds Tryz.pinned (OpenSpec.ofChange mpartRoundTripSpec)

/-- ITS FALSE NEIGHBOUR: 'it returns false'. Refute it at one input. -/
def mpartRoundTripWrong : ChangeSpec := { name := "mpartRoundTrip", fn := fun _ => fun
  | [d1, d2] => { results := [.lit (.bool false)], args := [d1, d2] }
  | _ => none }
def MpartRoundTripWrongFalsely : Prop := mpartRoundTripRow.holds Tryz.pinned (OpenSpec.ofChange mpartRoundTripWrong)

/-- 'micropartlaw16.MpartEncodes': WHATEVER THE INPUT: true; the input reads as it did. -/
def mpartEncodesSpec : ChangeSpec := { name := "mpartEncodes", fn := fun _ => fun
  | [d1, d2, d3, d4, d5] => { results := [.lit (.bool true)], args := [d1, d2, d3, d4, d5] }
  | _ => none }
def mpartEncodesRow : OpenClaim := { program := "ytcjiefknhfhmkaagreatdoor", sum := "f977f6b1795a6a6cf13ff31cf51d8ba8e9e83a0bf2ccc537989396c0d6c02aa9", func := "micropart/micropartlaw16.MpartEncodes", spec := "mpartEncodes", inPlace := ["internal/abi.NoEscape"], unfollowed := true, recurses := true, named := ["internal/strconv.uint64pow10", "math/bits.deBruijn32tab", "math/bits.deBruijn64tab"], apart := false, laid := [("math/bits.deBruijn32tab", laid_math_bits_deBruijn32tab), ("math/bits.deBruijn64tab", laid_math_bits_deBruijn64tab), ("internal/strconv.uint64pow10", laid_internal_strconv_uint64pow10)] }
def MpartEncodesSaid : Prop := mpartEncodesRow.holds Tryz.pinned (OpenSpec.ofChange mpartEncodesSpec)

/-- ITS FALSE NEIGHBOUR: 'it returns false'. Refute it at one input. -/
def mpartEncodesWrong : ChangeSpec := { name := "mpartEncodes", fn := fun _ => fun
  | [d1, d2, d3, d4, d5] => { results := [.lit (.bool false)], args := [d1, d2, d3, d4, d5] }
  | _ => none }
def MpartEncodesWrongFalsely : Prop := mpartEncodesRow.holds Tryz.pinned (OpenSpec.ofChange mpartEncodesWrong)

/-- 'micropartlaw16.MpartBounds': WHATEVER THE INPUT: true; the input reads as it did. -/
def mpartBoundsSpec : ChangeSpec := { name := "mpartBounds", fn := fun _ => fun
  | [d1, d2, d3, d4] => { results := [.lit (.bool true)], args := [d1, d2, d3, d4] }
  | _ => none }
def mpartBoundsRow : OpenClaim := { program := "ytcjiefknhfhmkaagreatdoor", sum := "f977f6b1795a6a6cf13ff31cf51d8ba8e9e83a0bf2ccc537989396c0d6c02aa9", func := "micropart/micropartlaw16.MpartBounds", spec := "mpartBounds", inPlace := ["internal/abi.NoEscape"], unfollowed := true, recurses := true, named := ["internal/strconv.uint64pow10", "math/bits.deBruijn32tab", "math/bits.deBruijn64tab"], apart := false, laid := [("math/bits.deBruijn32tab", laid_math_bits_deBruijn32tab), ("math/bits.deBruijn64tab", laid_math_bits_deBruijn64tab), ("internal/strconv.uint64pow10", laid_internal_strconv_uint64pow10)] }
def MpartBoundsSaid : Prop := mpartBoundsRow.holds Tryz.pinned (OpenSpec.ofChange mpartBoundsSpec)

/-- ITS FALSE NEIGHBOUR: 'it returns false'. Refute it at one input. -/
def mpartBoundsWrong : ChangeSpec := { name := "mpartBounds", fn := fun _ => fun
  | [d1, d2, d3, d4] => { results := [.lit (.bool false)], args := [d1, d2, d3, d4] }
  | _ => none }
def MpartBoundsWrongFalsely : Prop := mpartBoundsRow.holds Tryz.pinned (OpenSpec.ofChange mpartBoundsWrong)

/- THE SECOND FORM. 'bulk': how many values and letters a reading holds, each counted each time it is reached (what is shared counts as often as it is met; a slice's spare places count too). A statement '..UptoSaid' is the law's where the arguments, and the package variables that the reading takes, are together of bulk at most 1048576: NARROWER than '..Said'. Prove '..Said' where nothing that the law and all that it calls make is longer than what came in: it says more and counts as full. Else prove '..UptoSaid'. A law counts once. -/
mutual
def uptoBulk {H : Type} : DataW H → Nat
  | .lit (.string bytes) => bytes.length + 1
  | .lit _ => 1
  | .nil => 1
  | .ptr d => uptoBulk d + 1
  | .slice elems spare => uptoBulkAll elems + uptoBulkAll spare + 1
  | .agg parts => uptoBulkAll parts + 1
  | .iface _ d => uptoBulk d + 1
  | .map entries => uptoBulkEntries entries + 1
  | .held _ => 1
def uptoBulkAll {H : Type} : List (DataW H) → Nat
  | [] => 0
  | d :: r => uptoBulk d + uptoBulkAll r
def uptoBulkEntries {H : Type} : List (Lit × DataW H) → Nat
  | [] => 0
  | x :: r => uptoBulkEntry x + uptoBulkEntries r
def uptoBulkEntry {H : Type} : Lit × DataW H → Nat
  | (.string bytes, d) => bytes.length + uptoBulk d + 1
  | (_, d) => uptoBulk d + 1
 end
def uptoSmall : (H : Type) → List (DataW H) → Bool := fun _ ds => decide (uptoBulkAll ds ≤ 1048576)
def OpenSpec.upto (s : _root_.Go.ChangeSpec) : _root_.Go.OpenSpec := { _root_.Go.OpenSpec.ofChange s with cond := some uptoSmall }

/-- 'micropartlaw16.MpartDetectsChanges', WHERE WHAT IT READS IS OF BULK AT MOST 1048576: true; the input reads as it did. -/
def mpartDetectsChangesUptoRow : OpenClaim := { program := "ytcjiefknhfhmkaagreatdoor", sum := "f977f6b1795a6a6cf13ff31cf51d8ba8e9e83a0bf2ccc537989396c0d6c02aa9", func := "micropart/micropartlaw16.MpartDetectsChanges", spec := "mpartDetectsChanges", inPlace := ["internal/abi.NoEscape"], unfollowed := true, recurses := true, named := ["internal/strconv.uint64pow10", "math/bits.deBruijn32tab", "math/bits.deBruijn64tab"], apart := false, laid := [("math/bits.deBruijn32tab", laid_math_bits_deBruijn32tab), ("math/bits.deBruijn64tab", laid_math_bits_deBruijn64tab), ("internal/strconv.uint64pow10", laid_internal_strconv_uint64pow10)], narrowed := true }
def MpartDetectsChangesUptoSaid : Prop := mpartDetectsChangesUptoRow.holds Tryz.pinned (OpenSpec.upto mpartDetectsChangesSpec)

/-- 'micropartlaw16.MpartSchemas', WHERE WHAT IT READS IS OF BULK AT MOST 1048576: true; the input reads as it did. -/
def mpartSchemasUptoRow : OpenClaim := { program := "ytcjiefknhfhmkaagreatdoor", sum := "f977f6b1795a6a6cf13ff31cf51d8ba8e9e83a0bf2ccc537989396c0d6c02aa9", func := "micropart/micropartlaw16.MpartSchemas", spec := "mpartSchemas", inPlace := ["internal/abi.NoEscape"], unfollowed := true, recurses := true, named := ["internal/strconv.uint64pow10", "math/bits.deBruijn32tab", "math/bits.deBruijn64tab"], apart := false, laid := [("math/bits.deBruijn32tab", laid_math_bits_deBruijn32tab), ("math/bits.deBruijn64tab", laid_math_bits_deBruijn64tab), ("internal/strconv.uint64pow10", laid_internal_strconv_uint64pow10)], narrowed := true }
def MpartSchemasUptoSaid : Prop := mpartSchemasUptoRow.holds Tryz.pinned (OpenSpec.upto mpartSchemasSpec)

/-- 'micropartlaw16.MpartColumns', WHERE WHAT IT READS IS OF BULK AT MOST 1048576: true; the input reads as it did. -/
def mpartColumnsUptoRow : OpenClaim := { program := "ytcjiefknhfhmkaagreatdoor", sum := "f977f6b1795a6a6cf13ff31cf51d8ba8e9e83a0bf2ccc537989396c0d6c02aa9", func := "micropart/micropartlaw16.MpartColumns", spec := "mpartColumns", inPlace := ["internal/abi.NoEscape"], unfollowed := true, recurses := true, named := ["internal/strconv.uint64pow10", "math/bits.deBruijn32tab", "math/bits.deBruijn64tab"], apart := false, laid := [("math/bits.deBruijn32tab", laid_math_bits_deBruijn32tab), ("math/bits.deBruijn64tab", laid_math_bits_deBruijn64tab), ("internal/strconv.uint64pow10", laid_internal_strconv_uint64pow10)], narrowed := true }
def MpartColumnsUptoSaid : Prop := mpartColumnsUptoRow.holds Tryz.pinned (OpenSpec.upto mpartColumnsSpec)

/-- 'micropartlaw16.MpartReads', WHERE WHAT IT READS IS OF BULK AT MOST 1048576: true; the input reads as it did. -/
def mpartReadsUptoRow : OpenClaim := { program := "ytcjiefknhfhmkaagreatdoor", sum := "f977f6b1795a6a6cf13ff31cf51d8ba8e9e83a0bf2ccc537989396c0d6c02aa9", func := "micropart/micropartlaw16.MpartReads", spec := "mpartReads", inPlace := ["internal/abi.NoEscape"], unfollowed := true, recurses := true, named := ["internal/strconv.uint64pow10", "math/bits.deBruijn32tab", "math/bits.deBruijn64tab"], apart := false, laid := [("math/bits.deBruijn32tab", laid_math_bits_deBruijn32tab), ("math/bits.deBruijn64tab", laid_math_bits_deBruijn64tab), ("internal/strconv.uint64pow10", laid_internal_strconv_uint64pow10)], narrowed := true }
def MpartReadsUptoSaid : Prop := mpartReadsUptoRow.holds Tryz.pinned (OpenSpec.upto mpartReadsSpec)

/-- 'micropartlaw16.MpartMutations', WHERE WHAT IT READS IS OF BULK AT MOST 1048576: true; the input reads as it did. -/
def mpartMutationsUptoRow : OpenClaim := { program := "ytcjiefknhfhmkaagreatdoor", sum := "f977f6b1795a6a6cf13ff31cf51d8ba8e9e83a0bf2ccc537989396c0d6c02aa9", func := "micropart/micropartlaw16.MpartMutations", spec := "mpartMutations", inPlace := ["internal/abi.NoEscape"], unfollowed := true, recurses := true, named := ["internal/strconv.uint64pow10", "math/bits.deBruijn32tab", "math/bits.deBruijn64tab"], apart := false, laid := [("math/bits.deBruijn32tab", laid_math_bits_deBruijn32tab), ("math/bits.deBruijn64tab", laid_math_bits_deBruijn64tab), ("internal/strconv.uint64pow10", laid_internal_strconv_uint64pow10)], narrowed := true }
def MpartMutationsUptoSaid : Prop := mpartMutationsUptoRow.holds Tryz.pinned (OpenSpec.upto mpartMutationsSpec)

/-- 'micropartlaw16.MpartFooters', WHERE WHAT IT READS IS OF BULK AT MOST 1048576: true; the input reads as it did. -/
def mpartFootersUptoRow : OpenClaim := { program := "ytcjiefknhfhmkaagreatdoor", sum := "f977f6b1795a6a6cf13ff31cf51d8ba8e9e83a0bf2ccc537989396c0d6c02aa9", func := "micropart/micropartlaw16.MpartFooters", spec := "mpartFooters", inPlace := ["internal/abi.NoEscape"], unfollowed := true, recurses := true, named := ["internal/strconv.uint64pow10", "math/bits.deBruijn32tab", "math/bits.deBruijn64tab"], apart := false, laid := [("math/bits.deBruijn32tab", laid_math_bits_deBruijn32tab), ("math/bits.deBruijn64tab", laid_math_bits_deBruijn64tab), ("internal/strconv.uint64pow10", laid_internal_strconv_uint64pow10)], narrowed := true }
def MpartFootersUptoSaid : Prop := mpartFootersUptoRow.holds Tryz.pinned (OpenSpec.upto mpartFootersSpec)

/-- 'micropartlaw16.MpartExamples', WHERE WHAT IT READS IS OF BULK AT MOST 1048576: true; the input reads as it did. -/
def mpartExamplesUptoRow : OpenClaim := { program := "ytcjiefknhfhmkaagreatdoor", sum := "f977f6b1795a6a6cf13ff31cf51d8ba8e9e83a0bf2ccc537989396c0d6c02aa9", func := "micropart/micropartlaw16.MpartExamples", spec := "mpartExamples", inPlace := ["internal/abi.NoEscape"], unfollowed := true, recurses := true, named := ["internal/strconv.uint64pow10", "math/bits.deBruijn32tab", "math/bits.deBruijn64tab"], apart := false, laid := [("math/bits.deBruijn32tab", laid_math_bits_deBruijn32tab), ("math/bits.deBruijn64tab", laid_math_bits_deBruijn64tab), ("internal/strconv.uint64pow10", laid_internal_strconv_uint64pow10)], narrowed := true }
def MpartExamplesUptoSaid : Prop := mpartExamplesUptoRow.holds Tryz.pinned (OpenSpec.upto mpartExamplesSpec)

/-- 'micropartlaw16.MpartRoundTrip', WHERE WHAT IT READS IS OF BULK AT MOST 1048576: true; the input reads as it did. -/
def mpartRoundTripUptoRow : OpenClaim := { program := "ytcjiefknhfhmkaagreatdoor", sum := "f977f6b1795a6a6cf13ff31cf51d8ba8e9e83a0bf2ccc537989396c0d6c02aa9", func := "micropart/micropartlaw16.MpartRoundTrip", spec := "mpartRoundTrip", inPlace := ["internal/abi.NoEscape"], unfollowed := true, recurses := true, named := ["internal/strconv.uint64pow10", "math/bits.deBruijn32tab", "math/bits.deBruijn64tab"], apart := false, laid := [("math/bits.deBruijn32tab", laid_math_bits_deBruijn32tab), ("math/bits.deBruijn64tab", laid_math_bits_deBruijn64tab), ("internal/strconv.uint64pow10", laid_internal_strconv_uint64pow10)], narrowed := true }
def MpartRoundTripUptoSaid : Prop := mpartRoundTripUptoRow.holds Tryz.pinned (OpenSpec.upto mpartRoundTripSpec)

/-- 'micropartlaw16.MpartEncodes', WHERE WHAT IT READS IS OF BULK AT MOST 1048576: true; the input reads as it did. -/
def mpartEncodesUptoRow : OpenClaim := { program := "ytcjiefknhfhmkaagreatdoor", sum := "f977f6b1795a6a6cf13ff31cf51d8ba8e9e83a0bf2ccc537989396c0d6c02aa9", func := "micropart/micropartlaw16.MpartEncodes", spec := "mpartEncodes", inPlace := ["internal/abi.NoEscape"], unfollowed := true, recurses := true, named := ["internal/strconv.uint64pow10", "math/bits.deBruijn32tab", "math/bits.deBruijn64tab"], apart := false, laid := [("math/bits.deBruijn32tab", laid_math_bits_deBruijn32tab), ("math/bits.deBruijn64tab", laid_math_bits_deBruijn64tab), ("internal/strconv.uint64pow10", laid_internal_strconv_uint64pow10)], narrowed := true }
def MpartEncodesUptoSaid : Prop := mpartEncodesUptoRow.holds Tryz.pinned (OpenSpec.upto mpartEncodesSpec)

/-- 'micropartlaw16.MpartBounds', WHERE WHAT IT READS IS OF BULK AT MOST 1048576: true; the input reads as it did. -/
def mpartBoundsUptoRow : OpenClaim := { program := "ytcjiefknhfhmkaagreatdoor", sum := "f977f6b1795a6a6cf13ff31cf51d8ba8e9e83a0bf2ccc537989396c0d6c02aa9", func := "micropart/micropartlaw16.MpartBounds", spec := "mpartBounds", inPlace := ["internal/abi.NoEscape"], unfollowed := true, recurses := true, named := ["internal/strconv.uint64pow10", "math/bits.deBruijn32tab", "math/bits.deBruijn64tab"], apart := false, laid := [("math/bits.deBruijn32tab", laid_math_bits_deBruijn32tab), ("math/bits.deBruijn64tab", laid_math_bits_deBruijn64tab), ("internal/strconv.uint64pow10", laid_internal_strconv_uint64pow10)], narrowed := true }
def MpartBoundsUptoSaid : Prop := mpartBoundsUptoRow.holds Tryz.pinned (OpenSpec.upto mpartBoundsSpec)

end Rows
end Go.Proofs.YtcjiefknhfhmkaaGreatDoor
