import Derived.Test.YtcjiefknhfhmkaaGreatDoorRows
import Derived.Test.YtcjiefknhfhmkaaGreatDoorCards
import Derived.Test.YtcjiefknhfhmkaaGreatDoorTie
import Derived.LaidMore
import Derived.Stop.Joined
import Derived.SevenTiedAt
import Derived.ProofKit
import Derived.OpenShut
import Derived.ShutString
import Derived.ChangeOld
import Derived.SizedLaws
import Derived.ChangeMaps5
namespace Go.Proofs.YtcjiefknhfhmkaaGreatDoor.mpartFooters
open Go.ChangeShapes Go.WideShapes Go.ChangeAt Go.RowKit
theorem jf0 : (Rows.mpartFootersRow.inPlace == Tryz.pinned.checked.prog.inPlace 8) = true := by kernel_rfl
theorem jf1 : (Rows.mpartFootersRow.unfollowed == Tryz.pinned.checked.prog.unfollowed 8) = true := by kernel_rfl
theorem jf2 : (Rows.mpartFootersRow.recurses == Tryz.pinned.checked.prog.recurses 8) = true := by kernel_rfl
theorem jf3 : (Rows.mpartFootersRow.named == Tryz.pinned.checked.prog.varsNamed 8) = true := by kernel_rfl
theorem jf : joinedFacts Tryz.pinned.checked.prog 8 Tryz.f8 Rows.mpartFootersSpec Rows.mpartFootersRow = true := by
  unfold joinedFacts
  simp only [jf0, jf1, jf2, jf3, Bool.and_true]
  kernel_rfl
end Go.Proofs.YtcjiefknhfhmkaaGreatDoor.mpartFooters
