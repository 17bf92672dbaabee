import Derived.Test.YtcjiefknhfhmkaaGreatDoorRows
import Derived.Test.YtcjiefknhfhmkaaGreatDoorCards
import Derived.Test.YtcjiefknhfhmkaaGreatDoorTie
import Derived.LaidMore
import Derived.Stop.Joined
import Derived.SevenTiedAt
import Derived.ProofKit
import Derived.OpenShut
import Derived.ShutString
import Derived.ChangeOld
import Derived.SizedLaws
import Derived.ChangeMaps5
namespace Go.Proofs.YtcjiefknhfhmkaaGreatDoor.mpartRoundTrip
open Go.ChangeShapes Go.WideShapes Go.ChangeAt Go.RowKit
theorem jf0 : (Rows.mpartRoundTripRow.inPlace == Tryz.pinned.checked.prog.inPlace 10) = true := by kernel_rfl
theorem jf1 : (Rows.mpartRoundTripRow.unfollowed == Tryz.pinned.checked.prog.unfollowed 10) = true := by kernel_rfl
theorem jf2 : (Rows.mpartRoundTripRow.recurses == Tryz.pinned.checked.prog.recurses 10) = true := by kernel_rfl
theorem jf3 : (Rows.mpartRoundTripRow.named == Tryz.pinned.checked.prog.varsNamed 10) = true := by kernel_rfl
theorem jf : joinedFacts Tryz.pinned.checked.prog 10 Tryz.f10 Rows.mpartRoundTripSpec Rows.mpartRoundTripRow = true := by
  unfold joinedFacts
  simp only [jf0, jf1, jf2, jf3, Bool.and_true]
  kernel_rfl
end Go.Proofs.YtcjiefknhfhmkaaGreatDoor.mpartRoundTrip
