import Derived.Test.YtcjiefknhfhmkaaGreatDoorRows
import Derived.Test.YtcjiefknhfhmkaaGreatDoorCards
import Derived.Test.YtcjiefknhfhmkaaGreatDoorTie
import Derived.LaidMore
import Derived.Stop.Joined
import Derived.SevenTiedAt
import Derived.ProofKit
import Derived.OpenShut
import Derived.ShutString
import Derived.ChangeOld
import Derived.SizedLaws
import Derived.ChangeMaps5
namespace Go.Proofs.YtcjiefknhfhmkaaGreatDoor.mpartRoundTrip
open Go.ChangeShapes Go.WideShapes Go.ChangeAt Go.RowKit
theorem k1 : OpenClaim.wfByText (OpenSpec.ofChange Rows.mpartRoundTripSpec) Rows.mpartRoundTripRow = true := by kernel_rfl
theorem k2 : Tryz.pinned.checked.prog.mainIs = some ((true, "d0d4173868792047d990df2bda76d94c52c335a6fa8b66d2c730091608499023").1, (true, "d0d4173868792047d990df2bda76d94c52c335a6fa8b66d2c730091608499023").2.toList) := by kernel_rfl
theorem k3 : Tryz.prog.funcNamed Rows.mpartRoundTripRow.func = some 10 := by kernel_rfl
theorem k5 : (Tryz.f10.params.toList.all fun u => !Tryz.prog.wantsStandIn u) = true := by kernel_rfl
end Go.Proofs.YtcjiefknhfhmkaaGreatDoor.mpartRoundTrip
