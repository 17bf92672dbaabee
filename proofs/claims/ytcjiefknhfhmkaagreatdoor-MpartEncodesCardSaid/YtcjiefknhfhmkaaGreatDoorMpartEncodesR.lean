import Derived.Test.YtcjiefknhfhmkaaGreatDoorRows
import Derived.Test.YtcjiefknhfhmkaaGreatDoorCards
import Derived.Test.YtcjiefknhfhmkaaGreatDoorTie
import Derived.LaidMore
import Derived.Stop.Joined
import Derived.SevenTiedAt
import Derived.ProofKit
import Derived.OpenShut
import Derived.ShutString
import Derived.ChangeOld
import Derived.SizedLaws
import Derived.ChangeMaps5
namespace Go.Proofs.YtcjiefknhfhmkaaGreatDoor.mpartEncodes
open Go.ChangeShapes Go.WideShapes Go.ChangeAt Go.RowKit
theorem jf0 : (Rows.mpartEncodesRow.inPlace == Tryz.pinned.checked.prog.inPlace 11) = true := by kernel_rfl
theorem jf1 : (Rows.mpartEncodesRow.unfollowed == Tryz.pinned.checked.prog.unfollowed 11) = true := by kernel_rfl
theorem jf2 : (Rows.mpartEncodesRow.recurses == Tryz.pinned.checked.prog.recurses 11) = true := by kernel_rfl
theorem jf3 : (Rows.mpartEncodesRow.named == Tryz.pinned.checked.prog.varsNamed 11) = true := by kernel_rfl
theorem jf : joinedFacts Tryz.pinned.checked.prog 11 Tryz.f11 Rows.mpartEncodesSpec Rows.mpartEncodesRow = true := by
  unfold joinedFacts
  simp only [jf0, jf1, jf2, jf3, Bool.and_true]
  kernel_rfl
end Go.Proofs.YtcjiefknhfhmkaaGreatDoor.mpartEncodes
