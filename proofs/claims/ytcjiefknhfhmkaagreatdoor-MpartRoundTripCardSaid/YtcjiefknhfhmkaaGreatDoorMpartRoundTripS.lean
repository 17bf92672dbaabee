import Derived.Test.YtcjiefknhfhmkaaGreatDoorMpartRoundTripQ
import Derived.Test.YtcjiefknhfhmkaaGreatDoorMpartRoundTripR
import Derived.Test.YtcjiefknhfhmkaaGreatDoorRows
import Derived.Test.YtcjiefknhfhmkaaGreatDoorCards
import Derived.Test.YtcjiefknhfhmkaaGreatDoorTie
import Derived.LaidMore
import Derived.Stop.Joined
import Derived.SevenTiedAt
import Derived.ProofKit
import Derived.OpenShut
import Derived.ShutString
import Derived.ChangeOld
import Derived.SizedLaws
import Derived.ChangeMaps5
namespace Go.Proofs.YtcjiefknhfhmkaaGreatDoor.mpartRoundTrip
open Go.ChangeShapes Go.WideShapes Go.ChangeAt Go.RowKit Go.Abs
theorem over : Rows.mpartRoundTripRow.holds Tryz.pinned (OpenSpec.ofChange Rows.mpartRoundTripSpec) :=
  OpenClaim.holds_of_wide 10 Tryz.f10 rfl rfl rfl rfl rfl rfl rfl ⟨rfl, rfl, rfl, rfl, rfl⟩ rfl rfl rfl rfl rfl (by kernel_rfl) Tryz.func10 jf
    (of_decide_eq_true (by kernel_rfl)) (by unfold Func.isWrapper; first | (rw [if_pos (by decide +kernel)]; kernel_rfl) | (rw [if_neg (by decide +kernel)]; exact ⟨rfl, rfl⟩))
    (fun os started H enc _ => lifted os started H enc)
end Go.Proofs.YtcjiefknhfhmkaaGreatDoor.mpartRoundTrip
