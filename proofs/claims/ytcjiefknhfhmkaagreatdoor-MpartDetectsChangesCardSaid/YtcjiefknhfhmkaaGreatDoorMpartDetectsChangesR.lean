import Derived.Test.YtcjiefknhfhmkaaGreatDoorRows
import Derived.Test.YtcjiefknhfhmkaaGreatDoorCards
import Derived.Test.YtcjiefknhfhmkaaGreatDoorTie
import Derived.LaidMore
import Derived.Stop.Joined
import Derived.SevenTiedAt
import Derived.ProofKit
import Derived.OpenShut
import Derived.ShutString
import Derived.ChangeOld
import Derived.SizedLaws
import Derived.ChangeMaps5
namespace Go.Proofs.YtcjiefknhfhmkaaGreatDoor.mpartDetectsChanges
open Go.ChangeShapes Go.WideShapes Go.ChangeAt Go.RowKit
theorem jf0 : (Rows.mpartDetectsChangesRow.inPlace == Tryz.pinned.checked.prog.inPlace 3) = true := by kernel_rfl
theorem jf1 : (Rows.mpartDetectsChangesRow.unfollowed == Tryz.pinned.checked.prog.unfollowed 3) = true := by kernel_rfl
theorem jf2 : (Rows.mpartDetectsChangesRow.recurses == Tryz.pinned.checked.prog.recurses 3) = true := by kernel_rfl
theorem jf3 : (Rows.mpartDetectsChangesRow.named == Tryz.pinned.checked.prog.varsNamed 3) = true := by kernel_rfl
theorem jf : joinedFacts Tryz.pinned.checked.prog 3 Tryz.f3 Rows.mpartDetectsChangesSpec Rows.mpartDetectsChangesRow = true := by
  unfold joinedFacts
  simp only [jf0, jf1, jf2, jf3, Bool.and_true]
  kernel_rfl
end Go.Proofs.YtcjiefknhfhmkaaGreatDoor.mpartDetectsChanges
