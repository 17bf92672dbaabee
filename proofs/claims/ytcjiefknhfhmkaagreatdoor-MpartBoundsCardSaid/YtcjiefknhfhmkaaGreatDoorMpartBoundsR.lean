import Derived.Test.YtcjiefknhfhmkaaGreatDoorRows
import Derived.Test.YtcjiefknhfhmkaaGreatDoorCards
import Derived.Test.YtcjiefknhfhmkaaGreatDoorTie
import Derived.LaidMore
import Derived.Stop.Joined
import Derived.SevenTiedAt
import Derived.ProofKit
import Derived.OpenShut
import Derived.ShutString
import Derived.ChangeOld
import Derived.SizedLaws
import Derived.ChangeMaps5
namespace Go.Proofs.YtcjiefknhfhmkaaGreatDoor.mpartBounds
open Go.ChangeShapes Go.WideShapes Go.ChangeAt Go.RowKit
theorem jf0 : (Rows.mpartBoundsRow.inPlace == Tryz.pinned.checked.prog.inPlace 12) = true := by kernel_rfl
theorem jf1 : (Rows.mpartBoundsRow.unfollowed == Tryz.pinned.checked.prog.unfollowed 12) = true := by kernel_rfl
theorem jf2 : (Rows.mpartBoundsRow.recurses == Tryz.pinned.checked.prog.recurses 12) = true := by kernel_rfl
theorem jf3 : (Rows.mpartBoundsRow.named == Tryz.pinned.checked.prog.varsNamed 12) = true := by kernel_rfl
theorem jf : joinedFacts Tryz.pinned.checked.prog 12 Tryz.f12 Rows.mpartBoundsSpec Rows.mpartBoundsRow = true := by
  unfold joinedFacts
  simp only [jf0, jf1, jf2, jf3, Bool.and_true]
  kernel_rfl
end Go.Proofs.YtcjiefknhfhmkaaGreatDoor.mpartBounds
