/-
  No cell of these rows narrows 'for every input' (looked for: loops, veiled, ifaces, maps, wideKeys, modest, calm, conditions, laid).
  DERIVED. THE GIVEN ROWS OF THIS SEAT. 8 by the template 'for every input the law returns true; each argument reads behind the call as it read before'; 0 by the template 'total and deterministic' (their statements: YtinehkfcploeiaaTotals.lean).
  GIVEN WITH THE SEED: the statements are not yours to turn. If you find one false, say at which input.
  Laid BY PROGRAM, IN A SANDBOX (cutbox-rows.mjs): the forced cells as the released guide's own fill.sh prints them over the translation cab81471ca49e78c… (all of the seat's roots in one cut). By AI agents, Wed Nov 11 2026. No macro, syntax, notation, axiom, sorry.
-/
import Derived.Test.YtinehkfcploeiaaChecked
import GoSem.Claim
import GoSem.ClaimJoined
import GoSem.ClaimMapViews
import Derived.JoinedTies
import Derived.KernelRfl
namespace Go.Proofs.Ytinehkfcploeiaa
/- THE CELL 'sum', in the pinned program and in every row, IS THE sha256 OF THE DUMP (.gsa) THAT YtinehkfcploeiaaProg.lean LOADS. Nothing in Lean hashes anything: it is a label: what it is worth is what the hold of that sum in a sandbox is worth. -/
noncomputable def Try.pinned : Pinned := { name := "ytinehkfcploeiaa", sum := "cab81471ca49e78c1c95a02ba12a93607de552b6a8070ac366d62fa324858e51", checked := Try.checked }
namespace Rows
def none {H : Type} : Left H := { results := [], args := [] }

/-- 'micropartlaw21.PredicateExamples': WHATEVER THE INPUT: true; the input reads as it did. -/
def predicateExamplesSpec : ChangeSpec := { name := "predicateExamples", fn := fun _ => fun
  | [] => { results := [.lit (.bool true)], args := [] }
  | _ => none }
def predicateExamplesRow : OpenClaim := { program := "ytinehkfcploeiaa", sum := "cab81471ca49e78c1c95a02ba12a93607de552b6a8070ac366d62fa324858e51", func := "micropart/micropartlaw21.PredicateExamples", spec := "predicateExamples", unfollowed := true, recurses := true, apart := false }
def PredicateExamplesSaid : Prop := predicateExamplesRow.holds Try.pinned (OpenSpec.ofChange predicateExamplesSpec)

/-- ITS FALSE NEIGHBOUR: 'it returns false'. Refute it at one input. -/
def predicateExamplesWrong : ChangeSpec := { name := "predicateExamples", fn := fun _ => fun
  | [] => { results := [.lit (.bool false)], args := [] }
  | _ => none }
def PredicateExamplesWrongFalsely : Prop := predicateExamplesRow.holds Try.pinned (OpenSpec.ofChange predicateExamplesWrong)

/-- 'micropartlaw21.PredicateLimits': WHATEVER THE INPUT: true; the input reads as it did. -/
def predicateLimitsSpec : ChangeSpec := { name := "predicateLimits", fn := fun _ => fun
  | [d1, d2] => { results := [.lit (.bool true)], args := [d1, d2] }
  | _ => none }
def predicateLimitsRow : OpenClaim := { program := "ytinehkfcploeiaa", sum := "cab81471ca49e78c1c95a02ba12a93607de552b6a8070ac366d62fa324858e51", func := "micropart/micropartlaw21.PredicateLimits", spec := "predicateLimits", unfollowed := true, recurses := true, apart := false }
def PredicateLimitsSaid : Prop := predicateLimitsRow.holds Try.pinned (OpenSpec.ofChange predicateLimitsSpec)

/-- ITS FALSE NEIGHBOUR: 'it returns false'. Refute it at one input. -/
def predicateLimitsWrong : ChangeSpec := { name := "predicateLimits", fn := fun _ => fun
  | [d1, d2] => { results := [.lit (.bool false)], args := [d1, d2] }
  | _ => none }
def PredicateLimitsWrongFalsely : Prop := predicateLimitsRow.holds Try.pinned (OpenSpec.ofChange predicateLimitsWrong)

/-- 'micropartlaw21.PredicateEvals': WHATEVER THE INPUT: true; the input reads as it did. -/
def predicateEvalsSpec : ChangeSpec := { name := "predicateEvals", fn := fun _ => fun
  | [d1, d2, d3, d4, d5, d6] => { results := [.lit (.bool true)], args := [d1, d2, d3, d4, d5, d6] }
  | _ => none }
def predicateEvalsRow : OpenClaim := { program := "ytinehkfcploeiaa", sum := "cab81471ca49e78c1c95a02ba12a93607de552b6a8070ac366d62fa324858e51", func := "micropart/micropartlaw21.PredicateEvals", spec := "predicateEvals", unfollowed := true, recurses := true, apart := false }
def PredicateEvalsSaid : Prop := predicateEvalsRow.holds Try.pinned (OpenSpec.ofChange predicateEvalsSpec)

/-- ITS FALSE NEIGHBOUR: 'it returns false'. Refute it at one input. -/
def predicateEvalsWrong : ChangeSpec := { name := "predicateEvals", fn := fun _ => fun
  | [d1, d2, d3, d4, d5, d6] => { results := [.lit (.bool false)], args := [d1, d2, d3, d4, d5, d6] }
  | _ => none }
def PredicateEvalsWrongFalsely : Prop := predicateEvalsRow.holds Try.pinned (OpenSpec.ofChange predicateEvalsWrong)

/-- 'micropartlaw21.PredicateNegation': WHATEVER THE INPUT: true; the input reads as it did. -/
def predicateNegationSpec : ChangeSpec := { name := "predicateNegation", fn := fun _ => fun
  | [d1, d2, d3] => { results := [.lit (.bool true)], args := [d1, d2, d3] }
  | _ => none }
def predicateNegationRow : OpenClaim := { program := "ytinehkfcploeiaa", sum := "cab81471ca49e78c1c95a02ba12a93607de552b6a8070ac366d62fa324858e51", func := "micropart/micropartlaw21.PredicateNegation", spec := "predicateNegation", unfollowed := true, recurses := true, apart := false }
def PredicateNegationSaid : Prop := predicateNegationRow.holds Try.pinned (OpenSpec.ofChange predicateNegationSpec)

/-- ITS FALSE NEIGHBOUR: 'it returns false'. Refute it at one input. -/
def predicateNegationWrong : ChangeSpec := { name := "predicateNegation", fn := fun _ => fun
  | [d1, d2, d3] => { results := [.lit (.bool false)], args := [d1, d2, d3] }
  | _ => none }
def PredicateNegationWrongFalsely : Prop := predicateNegationRow.holds Try.pinned (OpenSpec.ofChange predicateNegationWrong)

/-- 'micropartlaw21.PredicateDeMorgan': WHATEVER THE INPUT: true; the input reads as it did. -/
def predicateDeMorganSpec : ChangeSpec := { name := "predicateDeMorgan", fn := fun _ => fun
  | [d1, d2, d3, d4, d5] => { results := [.lit (.bool true)], args := [d1, d2, d3, d4, d5] }
  | _ => none }
def predicateDeMorganRow : OpenClaim := { program := "ytinehkfcploeiaa", sum := "cab81471ca49e78c1c95a02ba12a93607de552b6a8070ac366d62fa324858e51", func := "micropart/micropartlaw21.PredicateDeMorgan", spec := "predicateDeMorgan", unfollowed := true, recurses := true, apart := false }
def PredicateDeMorganSaid : Prop := predicateDeMorganRow.holds Try.pinned (OpenSpec.ofChange predicateDeMorganSpec)

/-- ITS FALSE NEIGHBOUR: 'it returns false'. Refute it at one input. -/
def predicateDeMorganWrong : ChangeSpec := { name := "predicateDeMorgan", fn := fun _ => fun
  | [d1, d2, d3, d4, d5] => { results := [.lit (.bool false)], args := [d1, d2, d3, d4, d5] }
  | _ => none }
def PredicateDeMorganWrongFalsely : Prop := predicateDeMorganRow.holds Try.pinned (OpenSpec.ofChange predicateDeMorganWrong)

/-- 'micropartlaw21.PredicateOpposites': WHATEVER THE INPUT: true; the input reads as it did. -/
def predicateOppositesSpec : ChangeSpec := { name := "predicateOpposites", fn := fun _ => fun
  | [d1, d2, d3, d4, d5] => { results := [.lit (.bool true)], args := [d1, d2, d3, d4, d5] }
  | _ => none }
def predicateOppositesRow : OpenClaim := { program := "ytinehkfcploeiaa", sum := "cab81471ca49e78c1c95a02ba12a93607de552b6a8070ac366d62fa324858e51", func := "micropart/micropartlaw21.PredicateOpposites", spec := "predicateOpposites", unfollowed := true, recurses := true, apart := false }
def PredicateOppositesSaid : Prop := predicateOppositesRow.holds Try.pinned (OpenSpec.ofChange predicateOppositesSpec)

/-- ITS FALSE NEIGHBOUR: 'it returns false'. Refute it at one input. -/
def predicateOppositesWrong : ChangeSpec := { name := "predicateOpposites", fn := fun _ => fun
  | [d1, d2, d3, d4, d5] => { results := [.lit (.bool false)], args := [d1, d2, d3, d4, d5] }
  | _ => none }
def PredicateOppositesWrongFalsely : Prop := predicateOppositesRow.holds Try.pinned (OpenSpec.ofChange predicateOppositesWrong)

/-- 'micropartlaw21.PredicateInIsOr': WHATEVER THE INPUT: true; the input reads as it did. -/
def predicateInIsOrSpec : ChangeSpec := { name := "predicateInIsOr", fn := fun _ => fun
  | [d1, d2, d3, d4, d5, d6] => { results := [.lit (.bool true)], args := [d1, d2, d3, d4, d5, d6] }
  | _ => none }
def predicateInIsOrRow : OpenClaim := { program := "ytinehkfcploeiaa", sum := "cab81471ca49e78c1c95a02ba12a93607de552b6a8070ac366d62fa324858e51", func := "micropart/micropartlaw21.PredicateInIsOr", spec := "predicateInIsOr", unfollowed := true, recurses := true, apart := false }
def PredicateInIsOrSaid : Prop := predicateInIsOrRow.holds Try.pinned (OpenSpec.ofChange predicateInIsOrSpec)

/-- ITS FALSE NEIGHBOUR: 'it returns false'. Refute it at one input. -/
def predicateInIsOrWrong : ChangeSpec := { name := "predicateInIsOr", fn := fun _ => fun
  | [d1, d2, d3, d4, d5, d6] => { results := [.lit (.bool false)], args := [d1, d2, d3, d4, d5, d6] }
  | _ => none }
def PredicateInIsOrWrongFalsely : Prop := predicateInIsOrRow.holds Try.pinned (OpenSpec.ofChange predicateInIsOrWrong)

/-- 'micropartlaw21.PredicateChecks': WHATEVER THE INPUT: true; the input reads as it did. -/
def predicateChecksSpec : ChangeSpec := { name := "predicateChecks", fn := fun _ => fun
  | [d1, d2, d3, d4, d5, d6, d7, d8] => { results := [.lit (.bool true)], args := [d1, d2, d3, d4, d5, d6, d7, d8] }
  | _ => none }
def predicateChecksRow : OpenClaim := { program := "ytinehkfcploeiaa", sum := "cab81471ca49e78c1c95a02ba12a93607de552b6a8070ac366d62fa324858e51", func := "micropart/micropartlaw21.PredicateChecks", spec := "predicateChecks", unfollowed := true, recurses := true, apart := false }
def PredicateChecksSaid : Prop := predicateChecksRow.holds Try.pinned (OpenSpec.ofChange predicateChecksSpec)

/-- ITS FALSE NEIGHBOUR: 'it returns false'. Refute it at one input. -/
def predicateChecksWrong : ChangeSpec := { name := "predicateChecks", fn := fun _ => fun
  | [d1, d2, d3, d4, d5, d6, d7, d8] => { results := [.lit (.bool false)], args := [d1, d2, d3, d4, d5, d6, d7, d8] }
  | _ => none }
def PredicateChecksWrongFalsely : Prop := predicateChecksRow.holds Try.pinned (OpenSpec.ofChange predicateChecksWrong)

/- THE SECOND FORM. 'bulk': how many values and letters a reading holds, each counted each time it is reached (what is shared counts as often as it is met; a slice's spare places count too). A statement '..UptoSaid' is the law's where the arguments, and the package variables that the reading takes, are together of bulk at most 1048576: NARROWER than '..Said'. Prove '..Said' where nothing that the law and all that it calls make is longer than what came in: it says more and counts as full. Else prove '..UptoSaid'. A law counts once. -/
mutual
def uptoBulk {H : Type} : DataW H → Nat
  | .lit (.string bytes) => bytes.length + 1
  | .lit _ => 1
  | .nil => 1
  | .ptr d => uptoBulk d + 1
  | .slice elems spare => uptoBulkAll elems + uptoBulkAll spare + 1
  | .agg parts => uptoBulkAll parts + 1
  | .iface _ d => uptoBulk d + 1
  | .map entries => uptoBulkEntries entries + 1
  | .held _ => 1
def uptoBulkAll {H : Type} : List (DataW H) → Nat
  | [] => 0
  | d :: r => uptoBulk d + uptoBulkAll r
def uptoBulkEntries {H : Type} : List (Lit × DataW H) → Nat
  | [] => 0
  | x :: r => uptoBulkEntry x + uptoBulkEntries r
def uptoBulkEntry {H : Type} : Lit × DataW H → Nat
  | (.string bytes, d) => bytes.length + uptoBulk d + 1
  | (_, d) => uptoBulk d + 1
 end
def uptoSmall : (H : Type) → List (DataW H) → Bool := fun _ ds => decide (uptoBulkAll ds ≤ 1048576)
def OpenSpec.upto (s : _root_.Go.ChangeSpec) : _root_.Go.OpenSpec := { _root_.Go.OpenSpec.ofChange s with cond := some uptoSmall }

/-- 'micropartlaw21.PredicateExamples', WHERE WHAT IT READS IS OF BULK AT MOST 1048576: true; the input reads as it did. -/
def predicateExamplesUptoRow : OpenClaim := { program := "ytinehkfcploeiaa", sum := "cab81471ca49e78c1c95a02ba12a93607de552b6a8070ac366d62fa324858e51", func := "micropart/micropartlaw21.PredicateExamples", spec := "predicateExamples", unfollowed := true, recurses := true, apart := false, narrowed := true }
def PredicateExamplesUptoSaid : Prop := predicateExamplesUptoRow.holds Try.pinned (OpenSpec.upto predicateExamplesSpec)

/-- 'micropartlaw21.PredicateLimits', WHERE WHAT IT READS IS OF BULK AT MOST 1048576: true; the input reads as it did. -/
def predicateLimitsUptoRow : OpenClaim := { program := "ytinehkfcploeiaa", sum := "cab81471ca49e78c1c95a02ba12a93607de552b6a8070ac366d62fa324858e51", func := "micropart/micropartlaw21.PredicateLimits", spec := "predicateLimits", unfollowed := true, recurses := true, apart := false, narrowed := true }
def PredicateLimitsUptoSaid : Prop := predicateLimitsUptoRow.holds Try.pinned (OpenSpec.upto predicateLimitsSpec)

/-- 'micropartlaw21.PredicateEvals', WHERE WHAT IT READS IS OF BULK AT MOST 1048576: true; the input reads as it did. -/
def predicateEvalsUptoRow : OpenClaim := { program := "ytinehkfcploeiaa", sum := "cab81471ca49e78c1c95a02ba12a93607de552b6a8070ac366d62fa324858e51", func := "micropart/micropartlaw21.PredicateEvals", spec := "predicateEvals", unfollowed := true, recurses := true, apart := false, narrowed := true }
def PredicateEvalsUptoSaid : Prop := predicateEvalsUptoRow.holds Try.pinned (OpenSpec.upto predicateEvalsSpec)

/-- 'micropartlaw21.PredicateNegation', WHERE WHAT IT READS IS OF BULK AT MOST 1048576: true; the input reads as it did. -/
def predicateNegationUptoRow : OpenClaim := { program := "ytinehkfcploeiaa", sum := "cab81471ca49e78c1c95a02ba12a93607de552b6a8070ac366d62fa324858e51", func := "micropart/micropartlaw21.PredicateNegation", spec := "predicateNegation", unfollowed := true, recurses := true, apart := false, narrowed := true }
def PredicateNegationUptoSaid : Prop := predicateNegationUptoRow.holds Try.pinned (OpenSpec.upto predicateNegationSpec)

/-- 'micropartlaw21.PredicateDeMorgan', WHERE WHAT IT READS IS OF BULK AT MOST 1048576: true; the input reads as it did. -/
def predicateDeMorganUptoRow : OpenClaim := { program := "ytinehkfcploeiaa", sum := "cab81471ca49e78c1c95a02ba12a93607de552b6a8070ac366d62fa324858e51", func := "micropart/micropartlaw21.PredicateDeMorgan", spec := "predicateDeMorgan", unfollowed := true, recurses := true, apart := false, narrowed := true }
def PredicateDeMorganUptoSaid : Prop := predicateDeMorganUptoRow.holds Try.pinned (OpenSpec.upto predicateDeMorganSpec)

/-- 'micropartlaw21.PredicateOpposites', WHERE WHAT IT READS IS OF BULK AT MOST 1048576: true; the input reads as it did. -/
def predicateOppositesUptoRow : OpenClaim := { program := "ytinehkfcploeiaa", sum := "cab81471ca49e78c1c95a02ba12a93607de552b6a8070ac366d62fa324858e51", func := "micropart/micropartlaw21.PredicateOpposites", spec := "predicateOpposites", unfollowed := true, recurses := true, apart := false, narrowed := true }
def PredicateOppositesUptoSaid : Prop := predicateOppositesUptoRow.holds Try.pinned (OpenSpec.upto predicateOppositesSpec)

/-- 'micropartlaw21.PredicateInIsOr', WHERE WHAT IT READS IS OF BULK AT MOST 1048576: true; the input reads as it did. -/
def predicateInIsOrUptoRow : OpenClaim := { program := "ytinehkfcploeiaa", sum := "cab81471ca49e78c1c95a02ba12a93607de552b6a8070ac366d62fa324858e51", func := "micropart/micropartlaw21.PredicateInIsOr", spec := "predicateInIsOr", unfollowed := true, recurses := true, apart := false, narrowed := true }
def PredicateInIsOrUptoSaid : Prop := predicateInIsOrUptoRow.holds Try.pinned (OpenSpec.upto predicateInIsOrSpec)

/-- 'micropartlaw21.PredicateChecks', WHERE WHAT IT READS IS OF BULK AT MOST 1048576: true; the input reads as it did. -/
def predicateChecksUptoRow : OpenClaim := { program := "ytinehkfcploeiaa", sum := "cab81471ca49e78c1c95a02ba12a93607de552b6a8070ac366d62fa324858e51", func := "micropart/micropartlaw21.PredicateChecks", spec := "predicateChecks", unfollowed := true, recurses := true, apart := false, narrowed := true }
def PredicateChecksUptoSaid : Prop := predicateChecksUptoRow.holds Try.pinned (OpenSpec.upto predicateChecksSpec)

end Rows
end Go.Proofs.Ytinehkfcploeiaa
