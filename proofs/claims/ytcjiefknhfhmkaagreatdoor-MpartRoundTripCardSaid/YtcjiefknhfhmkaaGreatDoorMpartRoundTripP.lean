import Derived.Test.YtcjiefknhfhmkaaGreatDoorMpartRoundTripS
import Derived.Test.YtcjiefknhfhmkaaGreatDoorMpartRoundTripT
import Derived.Test.YtcjiefknhfhmkaaGreatDoorMpartRoundTripU
import Derived.Test.YtcjiefknhfhmkaaGreatDoorRows
import Derived.Test.YtcjiefknhfhmkaaGreatDoorCards
import Derived.Test.YtcjiefknhfhmkaaGreatDoorTie
import Derived.LaidMore
import Derived.Stop.Joined
import Derived.SevenTiedAt
import Derived.ProofKit
import Derived.OpenShut
import Derived.ShutString
import Derived.ChangeOld
import Derived.SizedLaws
import Derived.ChangeMaps5
namespace Go.Proofs.YtcjiefknhfhmkaaGreatDoor.mpartRoundTrip
open Go.ChangeShapes Go.WideShapes Go.ChangeAt Go.RowKit Go.Abs
theorem proved : Rows.MpartRoundTripCardSaid :=
  Claim7.holds_tied_plain_at .later [] [.data, .data, .data] true (true, "d0d4173868792047d990df2bda76d94c52c335a6fa8b66d2c730091608499023") false
    over (fun _ h => by cases h) k1 (fun _ h => by cases h) mpartRoundTrip_row_tie rfl ⟨rfl, rfl⟩ k2 rfl
    (fun f fn hf hfn => by
      obtain rfl : f = 10 := Option.some.inj ((show Tryz.prog.funcNamed Rows.mpartRoundTripRow.func = some 10 from k3).symm.trans hf) |>.symm
      obtain rfl : fn = Tryz.f10 := (Option.some.inj (Tryz.func10.symm.trans hfn)).symm
      exact ⟨k4, fun j t ht => by
        have hm : t ∈ Tryz.f10.params.toList := by simpa using Array.mem_of_getElem? ht
        have hall : (Tryz.f10.params.toList.all fun u => !Tryz.prog.wantsStandIn u) = true := k5
        exact (show Tryz.prog.wantsStandIn t = false by simpa using List.all_eq_true.1 hall t hm)⟩)
    k6
#print axioms proved
end Go.Proofs.YtcjiefknhfhmkaaGreatDoor.mpartRoundTrip
