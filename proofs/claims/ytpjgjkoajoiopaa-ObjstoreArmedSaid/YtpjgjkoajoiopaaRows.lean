/-
  No cell of these rows narrows 'for every input' (looked for: loops, veiled, ifaces, maps, wideKeys, modest, calm, conditions, laid).
  DERIVED. THE GIVEN ROWS OF THIS SEAT. 7 by the template 'for every input the law returns true; each argument reads behind the call as it read before'; 0 by the template 'total and deterministic' (their statements: YtpjgjkoajoiopaaTotals.lean).
  GIVEN WITH THE SEED: the statements are not yours to turn. If you find one false, say at which input.
  Laid BY PROGRAM, IN A SANDBOX (cutbox-rows.mjs): the forced cells as the released guide's own fill.sh prints them over the translation ce5839b0642608c3… (all of the seat's roots in one cut). By AI agents, Wed Nov 11 2026. No macro, syntax, notation, axiom, sorry.
-/
import Derived.Test.YtpjgjkoajoiopaaChecked
import GoSem.Claim
import GoSem.ClaimJoined
import GoSem.ClaimMapViews
import Derived.JoinedTies
import Derived.KernelRfl
namespace Go.Proofs.Ytpjgjkoajoiopaa
/- THE CELL 'sum', in the pinned program and in every row, IS THE sha256 OF THE DUMP (.gsa) THAT YtpjgjkoajoiopaaProg.lean LOADS. Nothing in Lean hashes anything: it is a label: what it is worth is what the hold of that sum in a sandbox is worth. -/
noncomputable def Try.pinned : Pinned := { name := "ytpjgjkoajoiopaa", sum := "ce5839b0642608c3541a0385b6076e00278a047b404d652ae4faa735e5338c6f", checked := Try.checked }
namespace Rows
def none {H : Type} : Left H := { results := [], args := [] }

/-- 'micropartlaw18.ObjstoreSpace': WHATEVER THE INPUT: true; the input reads as it did. -/
def objstoreSpaceSpec : ChangeSpec := { name := "objstoreSpace", fn := fun _ => fun
  | [d1, d2] => { results := [.lit (.bool true)], args := [d1, d2] }
  | _ => none }
def objstoreSpaceRow : OpenClaim := { program := "ytpjgjkoajoiopaa", sum := "ce5839b0642608c3541a0385b6076e00278a047b404d652ae4faa735e5338c6f", func := "micropart/micropartlaw18.ObjstoreSpace", spec := "objstoreSpace", inPlace := ["internal/bytealg.abigen_runtime_cmpstring", "slices.overlaps[micropart/api.Object]"], unfollowed := true, recurses := true, apart := false }
def ObjstoreSpaceSaid : Prop := objstoreSpaceRow.holds Try.pinned (OpenSpec.ofChange objstoreSpaceSpec)

/-- ITS FALSE NEIGHBOUR: 'it returns false'. Refute it at one input. -/
def objstoreSpaceWrong : ChangeSpec := { name := "objstoreSpace", fn := fun _ => fun
  | [d1, d2] => { results := [.lit (.bool false)], args := [d1, d2] }
  | _ => none }
def ObjstoreSpaceWrongFalsely : Prop := objstoreSpaceRow.holds Try.pinned (OpenSpec.ofChange objstoreSpaceWrong)

/-- 'micropartlaw18.ObjstoreExamples': WHATEVER THE INPUT: true; the input reads as it did. -/
def objstoreExamplesSpec : ChangeSpec := { name := "objstoreExamples", fn := fun _ => fun
  | [] => { results := [.lit (.bool true)], args := [] }
  | _ => none }
def objstoreExamplesRow : OpenClaim := { program := "ytpjgjkoajoiopaa", sum := "ce5839b0642608c3541a0385b6076e00278a047b404d652ae4faa735e5338c6f", func := "micropart/micropartlaw18.ObjstoreExamples", spec := "objstoreExamples", inPlace := ["internal/bytealg.abigen_runtime_cmpstring", "slices.overlaps[micropart/api.Object]"], unfollowed := true, recurses := true, apart := false }
def ObjstoreExamplesSaid : Prop := objstoreExamplesRow.holds Try.pinned (OpenSpec.ofChange objstoreExamplesSpec)

/-- ITS FALSE NEIGHBOUR: 'it returns false'. Refute it at one input. -/
def objstoreExamplesWrong : ChangeSpec := { name := "objstoreExamples", fn := fun _ => fun
  | [] => { results := [.lit (.bool false)], args := [] }
  | _ => none }
def ObjstoreExamplesWrongFalsely : Prop := objstoreExamplesRow.holds Try.pinned (OpenSpec.ofChange objstoreExamplesWrong)

/-- 'micropartlaw18.ObjstoreTwice': WHATEVER THE INPUT: true; the input reads as it did. -/
def objstoreTwiceSpec : ChangeSpec := { name := "objstoreTwice", fn := fun _ => fun
  | [d1, d2, d3] => { results := [.lit (.bool true)], args := [d1, d2, d3] }
  | _ => none }
def objstoreTwiceRow : OpenClaim := { program := "ytpjgjkoajoiopaa", sum := "ce5839b0642608c3541a0385b6076e00278a047b404d652ae4faa735e5338c6f", func := "micropart/micropartlaw18.ObjstoreTwice", spec := "objstoreTwice", inPlace := ["internal/bytealg.abigen_runtime_cmpstring", "slices.overlaps[micropart/api.Object]"], unfollowed := true, recurses := true, apart := false }
def ObjstoreTwiceSaid : Prop := objstoreTwiceRow.holds Try.pinned (OpenSpec.ofChange objstoreTwiceSpec)

/-- ITS FALSE NEIGHBOUR: 'it returns false'. Refute it at one input. -/
def objstoreTwiceWrong : ChangeSpec := { name := "objstoreTwice", fn := fun _ => fun
  | [d1, d2, d3] => { results := [.lit (.bool false)], args := [d1, d2, d3] }
  | _ => none }
def ObjstoreTwiceWrongFalsely : Prop := objstoreTwiceRow.holds Try.pinned (OpenSpec.ofChange objstoreTwiceWrong)

/-- 'micropartlaw18.ObjstoreCrashKeeps': WHATEVER THE INPUT: true; the input reads as it did. -/
def objstoreCrashKeepsSpec : ChangeSpec := { name := "objstoreCrashKeeps", fn := fun _ => fun
  | [d1, d2] => { results := [.lit (.bool true)], args := [d1, d2] }
  | _ => none }
def objstoreCrashKeepsRow : OpenClaim := { program := "ytpjgjkoajoiopaa", sum := "ce5839b0642608c3541a0385b6076e00278a047b404d652ae4faa735e5338c6f", func := "micropart/micropartlaw18.ObjstoreCrashKeeps", spec := "objstoreCrashKeeps", inPlace := ["internal/bytealg.abigen_runtime_cmpstring", "slices.overlaps[micropart/api.Object]"], unfollowed := true, recurses := true, apart := false }
def ObjstoreCrashKeepsSaid : Prop := objstoreCrashKeepsRow.holds Try.pinned (OpenSpec.ofChange objstoreCrashKeepsSpec)

/-- ITS FALSE NEIGHBOUR: 'it returns false'. Refute it at one input. -/
def objstoreCrashKeepsWrong : ChangeSpec := { name := "objstoreCrashKeeps", fn := fun _ => fun
  | [d1, d2] => { results := [.lit (.bool false)], args := [d1, d2] }
  | _ => none }
def ObjstoreCrashKeepsWrongFalsely : Prop := objstoreCrashKeepsRow.holds Try.pinned (OpenSpec.ofChange objstoreCrashKeepsWrong)

/-- 'micropartlaw18.ObjstoreArmed': WHATEVER THE INPUT: true; the input reads as it did. -/
def objstoreArmedSpec : ChangeSpec := { name := "objstoreArmed", fn := fun _ => fun
  | [d1, d2, d3] => { results := [.lit (.bool true)], args := [d1, d2, d3] }
  | _ => none }
def objstoreArmedRow : OpenClaim := { program := "ytpjgjkoajoiopaa", sum := "ce5839b0642608c3541a0385b6076e00278a047b404d652ae4faa735e5338c6f", func := "micropart/micropartlaw18.ObjstoreArmed", spec := "objstoreArmed", inPlace := ["internal/bytealg.abigen_runtime_cmpstring", "slices.overlaps[micropart/api.Object]"], unfollowed := true, recurses := true, apart := false }
def ObjstoreArmedSaid : Prop := objstoreArmedRow.holds Try.pinned (OpenSpec.ofChange objstoreArmedSpec)

/-- ITS FALSE NEIGHBOUR: 'it returns false'. Refute it at one input. -/
def objstoreArmedWrong : ChangeSpec := { name := "objstoreArmed", fn := fun _ => fun
  | [d1, d2, d3] => { results := [.lit (.bool false)], args := [d1, d2, d3] }
  | _ => none }
def ObjstoreArmedWrongFalsely : Prop := objstoreArmedRow.holds Try.pinned (OpenSpec.ofChange objstoreArmedWrong)

/-- 'micropartlaw18.ObjstoreRaw': WHATEVER THE INPUT: true; the input reads as it did. -/
def objstoreRawSpec : ChangeSpec := { name := "objstoreRaw", fn := fun _ => fun
  | [d1, d2, d3, d4, d5, d6] => { results := [.lit (.bool true)], args := [d1, d2, d3, d4, d5, d6] }
  | _ => none }
def objstoreRawRow : OpenClaim := { program := "ytpjgjkoajoiopaa", sum := "ce5839b0642608c3541a0385b6076e00278a047b404d652ae4faa735e5338c6f", func := "micropart/micropartlaw18.ObjstoreRaw", spec := "objstoreRaw", inPlace := ["internal/bytealg.abigen_runtime_cmpstring", "slices.overlaps[micropart/api.Object]"], unfollowed := true, recurses := true, apart := false }
def ObjstoreRawSaid : Prop := objstoreRawRow.holds Try.pinned (OpenSpec.ofChange objstoreRawSpec)

/-- ITS FALSE NEIGHBOUR: 'it returns false'. Refute it at one input. -/
def objstoreRawWrong : ChangeSpec := { name := "objstoreRaw", fn := fun _ => fun
  | [d1, d2, d3, d4, d5, d6] => { results := [.lit (.bool false)], args := [d1, d2, d3, d4, d5, d6] }
  | _ => none }
def ObjstoreRawWrongFalsely : Prop := objstoreRawRow.holds Try.pinned (OpenSpec.ofChange objstoreRawWrong)

/-- 'micropartlaw18.ObjstoreScripts': WHATEVER THE INPUT: true; the input reads as it did. -/
def objstoreScriptsSpec : ChangeSpec := { name := "objstoreScripts", fn := fun _ => fun
  | [d1, d2] => { results := [.lit (.bool true)], args := [d1, d2] }
  | _ => none }
def objstoreScriptsRow : OpenClaim := { program := "ytpjgjkoajoiopaa", sum := "ce5839b0642608c3541a0385b6076e00278a047b404d652ae4faa735e5338c6f", func := "micropart/micropartlaw18.ObjstoreScripts", spec := "objstoreScripts", inPlace := ["internal/bytealg.abigen_runtime_cmpstring", "slices.overlaps[micropart/api.Object]"], unfollowed := true, recurses := true, apart := false }
def ObjstoreScriptsSaid : Prop := objstoreScriptsRow.holds Try.pinned (OpenSpec.ofChange objstoreScriptsSpec)

/-- ITS FALSE NEIGHBOUR: 'it returns false'. Refute it at one input. -/
def objstoreScriptsWrong : ChangeSpec := { name := "objstoreScripts", fn := fun _ => fun
  | [d1, d2] => { results := [.lit (.bool false)], args := [d1, d2] }
  | _ => none }
def ObjstoreScriptsWrongFalsely : Prop := objstoreScriptsRow.holds Try.pinned (OpenSpec.ofChange objstoreScriptsWrong)

/- THE SECOND FORM. 'bulk': how many values and letters a reading holds, each counted each time it is reached (what is shared counts as often as it is met; a slice's spare places count too). A statement '..UptoSaid' is the law's where the arguments, and the package variables that the reading takes, are together of bulk at most 1048576: NARROWER than '..Said'. Prove '..Said' where nothing that the law and all that it calls make is longer than what came in: it says more and counts as full. Else prove '..UptoSaid'. A law counts once. -/
mutual
def uptoBulk {H : Type} : DataW H → Nat
  | .lit (.string bytes) => bytes.length + 1
  | .lit _ => 1
  | .nil => 1
  | .ptr d => uptoBulk d + 1
  | .slice elems spare => uptoBulkAll elems + uptoBulkAll spare + 1
  | .agg parts => uptoBulkAll parts + 1
  | .iface _ d => uptoBulk d + 1
  | .map entries => uptoBulkEntries entries + 1
  | .held _ => 1
def uptoBulkAll {H : Type} : List (DataW H) → Nat
  | [] => 0
  | d :: r => uptoBulk d + uptoBulkAll r
def uptoBulkEntries {H : Type} : List (Lit × DataW H) → Nat
  | [] => 0
  | x :: r => uptoBulkEntry x + uptoBulkEntries r
def uptoBulkEntry {H : Type} : Lit × DataW H → Nat
  | (.string bytes, d) => bytes.length + uptoBulk d + 1
  | (_, d) => uptoBulk d + 1
 end
def uptoSmall : (H : Type) → List (DataW H) → Bool := fun _ ds => decide (uptoBulkAll ds ≤ 1048576)
def OpenSpec.upto (s : _root_.Go.ChangeSpec) : _root_.Go.OpenSpec := { _root_.Go.OpenSpec.ofChange s with cond := some uptoSmall }

/-- 'micropartlaw18.ObjstoreSpace', WHERE WHAT IT READS IS OF BULK AT MOST 1048576: true; the input reads as it did. -/
def objstoreSpaceUptoRow : OpenClaim := { program := "ytpjgjkoajoiopaa", sum := "ce5839b0642608c3541a0385b6076e00278a047b404d652ae4faa735e5338c6f", func := "micropart/micropartlaw18.ObjstoreSpace", spec := "objstoreSpace", inPlace := ["internal/bytealg.abigen_runtime_cmpstring", "slices.overlaps[micropart/api.Object]"], unfollowed := true, recurses := true, apart := false, narrowed := true }
def ObjstoreSpaceUptoSaid : Prop := objstoreSpaceUptoRow.holds Try.pinned (OpenSpec.upto objstoreSpaceSpec)

/-- 'micropartlaw18.ObjstoreExamples', WHERE WHAT IT READS IS OF BULK AT MOST 1048576: true; the input reads as it did. -/
def objstoreExamplesUptoRow : OpenClaim := { program := "ytpjgjkoajoiopaa", sum := "ce5839b0642608c3541a0385b6076e00278a047b404d652ae4faa735e5338c6f", func := "micropart/micropartlaw18.ObjstoreExamples", spec := "objstoreExamples", inPlace := ["internal/bytealg.abigen_runtime_cmpstring", "slices.overlaps[micropart/api.Object]"], unfollowed := true, recurses := true, apart := false, narrowed := true }
def ObjstoreExamplesUptoSaid : Prop := objstoreExamplesUptoRow.holds Try.pinned (OpenSpec.upto objstoreExamplesSpec)

/-- 'micropartlaw18.ObjstoreTwice', WHERE WHAT IT READS IS OF BULK AT MOST 1048576: true; the input reads as it did. -/
def objstoreTwiceUptoRow : OpenClaim := { program := "ytpjgjkoajoiopaa", sum := "ce5839b0642608c3541a0385b6076e00278a047b404d652ae4faa735e5338c6f", func := "micropart/micropartlaw18.ObjstoreTwice", spec := "objstoreTwice", inPlace := ["internal/bytealg.abigen_runtime_cmpstring", "slices.overlaps[micropart/api.Object]"], unfollowed := true, recurses := true, apart := false, narrowed := true }
def ObjstoreTwiceUptoSaid : Prop := objstoreTwiceUptoRow.holds Try.pinned (OpenSpec.upto objstoreTwiceSpec)

/-- 'micropartlaw18.ObjstoreCrashKeeps', WHERE WHAT IT READS IS OF BULK AT MOST 1048576: true; the input reads as it did. -/
def objstoreCrashKeepsUptoRow : OpenClaim := { program := "ytpjgjkoajoiopaa", sum := "ce5839b0642608c3541a0385b6076e00278a047b404d652ae4faa735e5338c6f", func := "micropart/micropartlaw18.ObjstoreCrashKeeps", spec := "objstoreCrashKeeps", inPlace := ["internal/bytealg.abigen_runtime_cmpstring", "slices.overlaps[micropart/api.Object]"], unfollowed := true, recurses := true, apart := false, narrowed := true }
def ObjstoreCrashKeepsUptoSaid : Prop := objstoreCrashKeepsUptoRow.holds Try.pinned (OpenSpec.upto objstoreCrashKeepsSpec)

/-- 'micropartlaw18.ObjstoreArmed', WHERE WHAT IT READS IS OF BULK AT MOST 1048576: true; the input reads as it did. -/
def objstoreArmedUptoRow : OpenClaim := { program := "ytpjgjkoajoiopaa", sum := "ce5839b0642608c3541a0385b6076e00278a047b404d652ae4faa735e5338c6f", func := "micropart/micropartlaw18.ObjstoreArmed", spec := "objstoreArmed", inPlace := ["internal/bytealg.abigen_runtime_cmpstring", "slices.overlaps[micropart/api.Object]"], unfollowed := true, recurses := true, apart := false, narrowed := true }
def ObjstoreArmedUptoSaid : Prop := objstoreArmedUptoRow.holds Try.pinned (OpenSpec.upto objstoreArmedSpec)

/-- 'micropartlaw18.ObjstoreRaw', WHERE WHAT IT READS IS OF BULK AT MOST 1048576: true; the input reads as it did. -/
def objstoreRawUptoRow : OpenClaim := { program := "ytpjgjkoajoiopaa", sum := "ce5839b0642608c3541a0385b6076e00278a047b404d652ae4faa735e5338c6f", func := "micropart/micropartlaw18.ObjstoreRaw", spec := "objstoreRaw", inPlace := ["internal/bytealg.abigen_runtime_cmpstring", "slices.overlaps[micropart/api.Object]"], unfollowed := true, recurses := true, apart := false, narrowed := true }
def ObjstoreRawUptoSaid : Prop := objstoreRawUptoRow.holds Try.pinned (OpenSpec.upto objstoreRawSpec)

/-- 'micropartlaw18.ObjstoreScripts', WHERE WHAT IT READS IS OF BULK AT MOST 1048576: true; the input reads as it did. -/
def objstoreScriptsUptoRow : OpenClaim := { program := "ytpjgjkoajoiopaa", sum := "ce5839b0642608c3541a0385b6076e00278a047b404d652ae4faa735e5338c6f", func := "micropart/micropartlaw18.ObjstoreScripts", spec := "objstoreScripts", inPlace := ["internal/bytealg.abigen_runtime_cmpstring", "slices.overlaps[micropart/api.Object]"], unfollowed := true, recurses := true, apart := false, narrowed := true }
def ObjstoreScriptsUptoSaid : Prop := objstoreScriptsUptoRow.holds Try.pinned (OpenSpec.upto objstoreScriptsSpec)

end Rows
end Go.Proofs.Ytpjgjkoajoiopaa
