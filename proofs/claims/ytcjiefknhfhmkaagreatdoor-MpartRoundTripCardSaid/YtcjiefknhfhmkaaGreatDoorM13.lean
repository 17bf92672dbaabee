import Derived.RangeFuncNested
import Derived.RangeFuncBound
import Derived.RangeFuncCalls
import Derived.RangeFuncLeaves
import Derived.WalkKit
import Derived.OwnWalkIn
import Derived.TacticsInMore
import Derived.LoopNIn
import Derived.LoopIn
import Derived.Shelf.Abstract
import Derived.Test.YtcjiefknhfhmkaaGreatDoorM12
namespace Go.Proofs.YtcjiefknhfhmkaaGreatDoor
open Go.Abs
set_option maxRecDepth 100000
set_option maxHeartbeats 4000000
set_option linter.unusedVariables false
set_option linter.unusedSimpArgs false
theorem TS (b o:Nat) (w:World) (hc:w.cell? ⟨b,o+1,none⟩=some (.slice none 0 0)) :
  Calls Tryz.prog 72 #[.pointer (some ⟨b,o,none⟩)] w fun e w'=>e = .returned (.string ⟨#[]⟩)/\w'=w.drew:=by
 have hUS:∀W:World,(Builtin.unsafeString_ #[150,3] 9 #[.pointer none,.int .i64 0]).run Tryz.prog W = .ok (.string .empty) W:=fun W=>Lib.run_unsafeString_none W _ _ _ none
 have c1:w.drew.cell? ⟨b,o+1,none⟩=some (.slice none 0 0):=hc;have hSD:∀W:World,(Builtin.unsafeSliceData_ #[36] 150 #[.slice none 0 0]).run Tryz.prog W = .ok (.pointer none) W:=fun W=>rfl
 go_enter Tryz.func72,Tryz.ntmps72
 go_wp2
 go_region
 all_goals(go_wp2;go_ret;exact⟨rfl,rfl⟩)
theorem LO (b o:Nat) (a:Addr) (n cap:Nat) (s:ByteArray) (w:World) (hc:w.cell? ⟨b,o+1,none⟩=some (.slice (some a) n cap)) (h0:cap≠0)
  (hUS:(Builtin.unsafeString_ #[150,3] 9 #[.pointer (some a),.int .i64 n]).run Tryz.prog w.drew = .ok (.string s) (w.drew.freeze a n)) :
  Calls Tryz.prog 72 #[.pointer (some ⟨b,o,none⟩)] w fun e w'=>e = .returned (.string s)/\w'=w.drew.freeze a n:=by
 have c1:w.drew.cell? ⟨b,o+1,none⟩=some (.slice (some a) n cap):=hc;have hSD:(Builtin.unsafeSliceData_ #[36] 150 #[.slice (some a) n cap]).run Tryz.prog w.drew = .ok (.pointer (some a)) w.drew:=Lib.run_unsafeSliceData_row _ _ _ _ _ _ h0;go_enter Tryz.func72,Tryz.ntmps72
 go_wp2
 go_region
 all_goals(go_wp2;go_ret;exact⟨rfl,rfl⟩)
theorem qQG:RDOk Tryz.prog (qFQ 72 5):=qQF (pt:=150) (it:=3) (ty:=9) kr kr TS LO
noncomputable section
def rknown:RD:=fun g args H=>match rcst 71 (.sF 1 (oB.map (Ty.row (.int .u32)))) g args H with
 |some r=>some r
 |none=>match rcst 86 (.sF 1 (oB.map (Ty.row (.int .u32)))) g args H with
  |some r=>some r
  |none=>qFQ 72 5 g args H
theorem qLD:RDOk Tryz.prog rknown:=RDOk.or (qFR (aH.cst ZN)) (RDOk.or (qFR (aH.cst QD)) qQG)
def qa7 (g:FuncId):Nat:=0
def renv:RE:=⟨rknown,fun f=>false,qa7⟩
theorem qVF:REOk Tryz.prog renv:=⟨qLD⟩
end
abbrev GP:Ct:=.fn [] none (.d .bool true)
theorem qJJ:qFO (rrun Tryz.prog renv 100000 (.call 16 [] ⟨100000000,0,.nil,[]⟩))=true:=kr
theorem qM7:aH Tryz.prog 16 GP:=aH.closed mixed qVF _ _ qJJ
abbrev qXN:Tbl:=(16,GP)::qXM
theorem qAP:aD Tryz.prog qXN:=aD.cons qM7 qRL
end Go.Proofs.YtcjiefknhfhmkaaGreatDoor
