import Derived.Test.YtcjiefknhfhmkaaGreatDoorRows
import Derived.Test.YtcjiefknhfhmkaaGreatDoorCards
import Derived.Test.YtcjiefknhfhmkaaGreatDoorTie
import Derived.LaidMore
import Derived.Stop.Joined
import Derived.SevenTiedAt
import Derived.ProofKit
import Derived.OpenShut
import Derived.ShutString
import Derived.ChangeOld
import Derived.SizedLaws
import Derived.ChangeMaps5
namespace Go.Proofs.YtcjiefknhfhmkaaGreatDoor.mpartRoundTrip
open Go.ChangeShapes Go.WideShapes Go.ChangeAt Go.RowKit
theorem k4 : false = Tryz.pinned.checked.prog.looks [] := by kernel_rfl
theorem k6 : false = Rows.mpartRoundTripRow.goesBy Tryz.pinned.checked.prog := by kernel_rfl
end Go.Proofs.YtcjiefknhfhmkaaGreatDoor.mpartRoundTrip
