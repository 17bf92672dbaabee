import Derived.Test.YtcjiefknhfhmkaaGreatDoorRows
import Derived.Test.YtcjiefknhfhmkaaGreatDoorCards
import Derived.Test.YtcjiefknhfhmkaaGreatDoorTie
import Derived.LaidMore
import Derived.Stop.Joined
import Derived.SevenTiedAt
import Derived.ProofKit
import Derived.OpenShut
import Derived.ShutString
import Derived.ChangeOld
import Derived.SizedLaws
import Derived.ChangeSame
import Derived.ChangeMaps5
namespace Go.Proofs.YtcjiefknhfhmkaaGreatDoor.mpartReads
open Go.ChangeShapes Go.WideShapes Go.ChangeAt Go.RowKit
theorem jf0 : (Rows.mpartReadsRow.inPlace == Tryz.pinned.checked.prog.inPlace 6) = true := by kernel_rfl
theorem jf1 : (Rows.mpartReadsRow.unfollowed == Tryz.pinned.checked.prog.unfollowed 6) = true := by kernel_rfl
theorem jf2 : (Rows.mpartReadsRow.recurses == Tryz.pinned.checked.prog.recurses 6) = true := by kernel_rfl
theorem jf3 : (Rows.mpartReadsRow.named == Tryz.pinned.checked.prog.varsNamed 6) = true := by kernel_rfl
theorem jf : joinedFacts Tryz.pinned.checked.prog 6 Tryz.f6 Rows.mpartReadsSpec Rows.mpartReadsRow = true := by
  unfold joinedFacts
  simp only [jf0, jf1, jf2, jf3, Bool.and_true]
  kernel_rfl
end Go.Proofs.YtcjiefknhfhmkaaGreatDoor.mpartReads
