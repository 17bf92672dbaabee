/- MpartExamples: one run in the kernel. -/
import Derived.Test.YtcjiefknhfhmkaaGreatDoorRows
import Derived.Test.YtcjiefknhfhmkaaGreatDoorCrt
namespace Go.Proofs.YtcjiefknhfhmkaaGreatDoor
open Go.Abs
set_option linter.unusedVariables false
set_option linter.unusedSimpArgs false

abbrev c_mpartExamples_ok : Ct := .fn [] none (.d .bool true)
theorem mpartExamples_ran : rTrue (rrun Tryz.prog env 100000 (.call 9 [] ⟨100000000, 0, .nil, []⟩)) = true := by kernel_rfl
theorem mpartExamples_ok : CtOk Tryz.prog 9 c_mpartExamples_ok := CtOk.closed mixed env_ok _ _ mpartExamples_ran

end Go.Proofs.YtcjiefknhfhmkaaGreatDoor
