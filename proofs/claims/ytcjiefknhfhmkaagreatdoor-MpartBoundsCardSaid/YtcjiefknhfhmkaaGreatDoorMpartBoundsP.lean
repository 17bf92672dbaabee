import Derived.Test.YtcjiefknhfhmkaaGreatDoorMpartBoundsS
import Derived.Test.YtcjiefknhfhmkaaGreatDoorMpartBoundsT
import Derived.Test.YtcjiefknhfhmkaaGreatDoorMpartBoundsU
import Derived.Test.YtcjiefknhfhmkaaGreatDoorRows
import Derived.Test.YtcjiefknhfhmkaaGreatDoorCards
import Derived.Test.YtcjiefknhfhmkaaGreatDoorTie
import Derived.LaidMore
import Derived.Stop.Joined
import Derived.SevenTiedAt
import Derived.ProofKit
import Derived.OpenShut
import Derived.ShutString
import Derived.ChangeOld
import Derived.SizedLaws
import Derived.ChangeMaps5
namespace Go.Proofs.YtcjiefknhfhmkaaGreatDoor.mpartBounds
open Go.ChangeShapes Go.WideShapes Go.ChangeAt Go.RowKit Go.Abs
theorem proved : Rows.MpartBoundsCardSaid :=
  Claim7.holds_tied_plain_at .later [] [.data, .data, .data] true (true, "d0d4173868792047d990df2bda76d94c52c335a6fa8b66d2c730091608499023") false
    over (fun _ h => by cases h) k1 (fun _ h => by cases h) mpartBounds_row_tie rfl ⟨rfl, rfl⟩ k2 rfl
    (fun f fn hf hfn => by
      obtain rfl : f = 12 := Option.some.inj ((show Tryz.prog.funcNamed Rows.mpartBoundsRow.func = some 12 from k3).symm.trans hf) |>.symm
      obtain rfl : fn = Tryz.f12 := (Option.some.inj (Tryz.func12.symm.trans hfn)).symm
      exact ⟨k4, fun j t ht => by
        have hm : t ∈ Tryz.f12.params.toList := by simpa using Array.mem_of_getElem? ht
        have hall : (Tryz.f12.params.toList.all fun u => !Tryz.prog.wantsStandIn u) = true := k5
        exact (show Tryz.prog.wantsStandIn t = false by simpa using List.all_eq_true.1 hall t hm)⟩)
    k6
#print axioms proved
end Go.Proofs.YtcjiefknhfhmkaaGreatDoor.mpartBounds
