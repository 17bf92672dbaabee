/- EngineExamples: one run in the kernel. -/
import Derived.Test.YtmlojnecmdnbpaaGreatDoorRows
import Derived.Test.YtmlojnecmdnbpaaGreatDoorCrt
namespace Go.Proofs.YtmlojnecmdnbpaaGreatDoor
open Go.Abs
set_option linter.unusedVariables false
set_option linter.unusedSimpArgs false

abbrev c_engineExamples_ok : Ct := .fn [] none (.d .bool true)
theorem engineExamples_ran : rTrue (rrun Tryz.prog env 100000 (.call 3 [] ⟨100000000, 0, .nil, []⟩)) = true := by kernel_rfl
theorem engineExamples_ok : CtOk Tryz.prog 3 c_engineExamples_ok := CtOk.closed mixed env_ok _ _ engineExamples_ran
abbrev tb2 : Tbl := (3, c_engineExamples_ok) :: tb1
theorem tb2_ok : TblOk Tryz.prog tb2 := TblOk.cons engineExamples_ok tb1_ok

end Go.Proofs.YtmlojnecmdnbpaaGreatDoor
