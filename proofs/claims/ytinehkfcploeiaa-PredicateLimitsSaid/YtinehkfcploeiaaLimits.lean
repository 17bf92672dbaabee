/- The walk of PredicateLimits. -/
import Derived.Test.YtinehkfcploeiaaBase
namespace Go.Proofs.Ytinehkfcploeiaa
open Go.Abs
set_option linter.unusedVariables false
set_option linter.unusedSimpArgs false


def notNode (a : Int) : PNode := ⟨11, 0, ⟨false, 0, ByteArray.empty⟩, [], a, 0⟩
def limNodes (j n : Nat) : List PNode := ⟨7, 0, ⟨false, 0, ByteArray.empty⟩, List.replicate j default, 0, 0⟩ :: (List.range n).map (fun a : Nat => notNode a)
theorem limNodes_len (j n : Nat) : (limNodes j n).length = n + 1 := by simp [limNodes]
theorem limNodes_snoc (j n : Nat) (a : Int) (h : a = n) : limNodes j n ++ [notNode a] = limNodes j (n + 1) := by
  subst h
  simp [limNodes, List.range_succ]
def limOk (j n : Nat) : Bool := predErr oneSchema (limNodes j (n - 1)) == (if n ≤ 64 ∧ j ≤ 16 then 0 else 7)
theorem lim1 : limOk 15 63 = true := by kernel_rfl
theorem lim2 : limOk 16 63 = true := by kernel_rfl
theorem lim3 : limOk 17 63 = true := by kernel_rfl
theorem lim4 : limOk 15 64 = true := by kernel_rfl
theorem lim5 : limOk 16 64 = true := by kernel_rfl
theorem lim6 : limOk 17 64 = true := by kernel_rfl
theorem lim7 : limOk 15 65 = true := by kernel_rfl
theorem lim8 : limOk 16 65 = true := by kernel_rfl
theorem lim9 : limOk 17 65 = true := by kernel_rfl
theorem limAll {j n : Nat} (hj : 15 ≤ j ∧ j ≤ 17) (hn : 63 ≤ n ∧ n ≤ 65) : predErr oneSchema (limNodes j (n - 1)) = (if n ≤ 64 ∧ j ≤ 16 then 0 else 7) := by
  have : limOk j n = true := by
    obtain rfl | rfl | rfl : j = 15 ∨ j = 16 ∨ j = 17 := by omega
    all_goals (obtain rfl | rfl | rfl : n = 63 ∨ n = 64 ∨ n = 65 := by omega)
    all_goals first | exact lim1 | exact lim2 | exact lim3 | exact lim4 | exact lim5 | exact lim6 | exact lim7 | exact lim8 | exact lim9
  simpa [limOk] using this

set_option maxHeartbeats 4000000 in
theorem limits_ok_walk (n : Int) (m : Int) : PC Try.prog 4 [iv n, iv m] [] (fun yR kR => Tof noTau kR yR (bv true)) := by
  refine PC.of_bodyV Try.func4 rfl (iv n :: iv m :: U9 (U9 (U9 (U9 (U9 ([U, U, U, U, U])))))) (by kernel_rfl) (fun K0 hret => ?_)
  have hn := pick_lt (v := n) (n := 3) (by decide)
  have hm := pick_lt (v := m) (n := 3) (by decide)
  refine PV.seq_k fun K1 hK1 => ?_
  refine PV.regionN ?_
  refine PON.runs 1 (by kernel_rfl) ?_
  refine PON.fin rfl (thenA_normal (hK1 _ ?_))
  refine PV.seq_k fun K2 hK2 => ?_
  refine PV.regionN ?_
  refine PON.runs 1 (by kernel_rfl) ?_
  refine PON.call 13 [iv n, iv 3] (some 9) (pre := []) (post := []) (x := iv (pick n 3)) _ (by kernel_rfl) (pick_ok n 3 (by first | assumption | first | decide | (rw [IntWalk.u64_in] <;> first | omega | (split <;> omega)))) trivial rfl ?_
  refine PON.ops (aBin_add_in Try.prog [] 3 (.const (.int .i64 63)) (.tmp 9) .i64 63 (pick n 3) (by rw [wrap64] <;> omega)) (by kernel_rfl) (by kernel_rfl) ?_
  refine PON.runs 1 (by kernel_rfl) ?_
  refine PON.call 13 [iv m, iv 3] (some 12) (pre := []) (post := []) (x := iv (pick m 3)) _ (by kernel_rfl) (pick_ok m 3 (by first | assumption | first | decide | (rw [IntWalk.u64_in] <;> first | omega | (split <;> omega)))) trivial rfl ?_
  refine PON.ops (aBin_add_in Try.prog [] 3 (.const (.int .i64 15)) (.tmp 12) .i64 15 (pick m 3) (by rw [wrap64] <;> omega)) (by kernel_rfl) (by kernel_rfl) ?_
  refine PON.runs 2 (by kernel_rfl) ?_
  refine PON.fin rfl (thenA_normal (hK2 _ ?_))
  refine PV.seq_k fun K3 hK3 => ?_
  refine PV.regionN ?_
  refine PON.runs 1 (by kernel_rfl) ?_
  refine PON.ops (aMakeSlice_map Try.prog [] 24 23 3 Val.cells (default : Val) 32 (by kernel_rfl) (by kernel_rfl) (by kernel_rfl) (by kernel_rfl) (by kernel_rfl) .i64 (15 + (pick m 3)) (by (have hpk := @pick_lt; grind))) (by kernel_rfl) (by kernel_rfl) ?_
  refine PON.runs 1 (by kernel_rfl) ?_
  refine PON.norm ⟨(iv n :: iv m :: U :: U :: bv false :: iv (63 + (pick n 3)) :: iv (15 + (pick m 3)) :: U :: iv n :: iv (pick n 3) :: iv (63 + (pick n 3)) :: iv m :: iv (pick m 3) :: iv (15 + (pick m 3)) :: iv (15 + (pick m 3)) :: .sO 0 0 ((15 + (pick m 3)).toNat) :: .agg [iv 7, iv 0, bv false, iv 0, sv ByteArray.empty, .sO 0 0 ((15 + (pick m 3)).toNat), iv 0, iv 0] :: U9 (U9 (U9 ([U, U, U, U, U, U, U, U])))), [.live ⟨3, ((List.replicate (15 + (pick m 3)).toNat (default : Val)).map Val.cells), 23⟩]⟩ (by kernel_rfl) ?_
  refine PON.freezeL 0 (by simp_all) ⟨(iv n :: iv m :: U :: U :: bv false :: iv (63 + (pick n 3)) :: iv (15 + (pick m 3)) :: U :: iv n :: iv (pick n 3) :: iv (63 + (pick n 3)) :: iv m :: iv (pick m 3) :: iv (15 + (pick m 3)) :: iv (15 + (pick m 3)) :: .sF 3 ((List.replicate (15 + (pick m 3)).toNat (default : Val)).map Val.cells) :: .agg [iv 7, iv 0, bv false, iv 0, sv ByteArray.empty, .sF 3 ((List.replicate (15 + (pick m 3)).toNat (default : Val)).map Val.cells), iv 0, iv 0] :: U9 (U9 (U9 ([U, U, U, U, U, U, U, U])))), [.dead]⟩ rfl (by simp only [NIs_cons, NIs_nil, NIr_cons, NIr_nil, NI_v, NI_any, NI_pO, NI_sO, NI_pF, NI_sF, NI_agg, NI_tup, NI_fn, NIh_nil, NIh_live, NIh_dead, NIh_free, NIr_map, NIr_append, NIs_icells, NIs_scells, NIs_bcells, NIs_Val, NIs_Col, NIs_Schema, NIs_PNode, NIs_Src, NIr_Val, NIr_Col, NIr_ints, NIr_PNode]; try simp) (.same (.same (.same (.same (.same (.same (.same (.same (.same (.same (.same (.same (.same (.same (.same (.cons .it (.cons (.agg (.same (.same (.same (.same (.same (.cons .it (.same (.same .nil))))))))) (.same (.same (.same (.same (.same (.same (.same (.same (.same (.same (.same (.same (.same (.same (.same (.same (.same (.same (.same (.same (.same (.same (.same (.same (.same (.same (.same (.same (.same (.same (.same (.same (.same (.same (.same .nil)))))))))))))))))))))))))))))))))))))))))))))))))))) rfl ?_
  refine PON.runs 2 (by kernel_rfl) ?_
  refine PON.fin rfl (thenA_normal (hK3 _ ?_))
  refine PV.seq_k fun K4 hK4 => ?_
  refine PV.block ?_
  refine PV.norm ⟨(iv n :: iv m :: U :: U :: bv false :: iv (63 + (pick n 3)) :: iv (15 + (pick m 3)) :: .sO 1 0 1 :: iv n :: iv (pick n 3) :: iv (63 + (pick n 3)) :: iv m :: iv (pick m 3) :: iv (15 + (pick m 3)) :: iv (15 + (pick m 3)) :: .sF 3 ((List.replicate (15 + (pick m 3)).toNat (default : Val)).map Val.cells) :: .agg [iv 7, iv 0, bv false, iv 0, sv ByteArray.empty, .sF 3 ((List.replicate (15 + (pick m 3)).toNat (default : Val)).map Val.cells), iv 0, iv 0] :: .sO 1 0 1 :: U9 (U9 (U9 ([U, U, U, U, U, U, U])))), [.dead, .live ⟨8, [[iv 7, iv 0, bv false, iv 0, sv ByteArray.empty, .sF 3 ((List.replicate (15 + (pick m 3)).toNat (default : Val)).map Val.cells), iv 0, iv 0]], 26⟩]⟩ (by kernel_rfl) ?_
  refine PV.loopR (α := List PNode) (fun xL => let P := xL; (⟨(A4 (bv false :: iv (63 + (pick n 3)) :: iv (15 + (pick m 3)) :: optS 1 P :: A9 (A9 (A9 (A9 (A4 (A4 ([])))))))), [.dead, optH 8 PNode.cells 26 P]⟩ : St)) (fun xL => let P := xL; (1 ≤ P.length ∧ (P.length : Int) ≤ 63 + pick n 3) ∧ (P = limNodes (15 + pick m 3).toNat (P.length - 1))) (fun xL => let P := xL; (63 + pick n 3 - P.length).toNat) [0, 1] ([(⟨7, 0, (⟨false, 0, ByteArray.empty⟩ : Val), List.replicate (15 + (pick m 3)).toNat (default : Val), 0, 0⟩ : PNode)]) ⟨rfl, rfl, (.a4 (.v (.v (.v (.cons (leR_sOopt rfl (by simp) (by simp)) (.a9 (.a9 (.a9 (.a9 (.a4 (.a4 .nil))))))))))), (.cons rfl (.dead _) (.cons rfl (.eq (.tree (by simp only [NIs_cons, NIs_nil, NIr_cons, NIr_nil, NI_v, NI_any, NI_pO, NI_sO, NI_pF, NI_sF, NI_agg, NI_tup, NI_fn, NIh_nil, NIh_live, NIh_dead, NIh_free, NIr_map, NIr_append, NIs_icells, NIs_scells, NIs_bcells, NIs_Val, NIs_Col, NIs_Schema, NIs_PNode, NIs_Src, NIr_Val, NIr_Col, NIr_ints, NIr_PNode]; try simp)) (by first | rfl | simp [optH])) .nil))⟩ ?_ ?_
  · skip
    clear hret hK1 hK2 hK3 hK4 K0 K1 K2 K3 K4
    refine ⟨?_, ?_⟩
    · skip
      show 1 ≤ ([(⟨7, 0, (⟨false, 0, ByteArray.empty⟩ : Val), List.replicate (15 + (pick m 3)).toNat (default : Val), 0, 0⟩ : PNode)]).length ∧ (([(⟨7, 0, (⟨false, 0, ByteArray.empty⟩ : Val), List.replicate (15 + (pick m 3)).toNat (default : Val), 0, 0⟩ : PNode)]).length : Int) ≤ 63 + pick n 3
      simp; omega
    · skip
      show ([(⟨7, 0, (⟨false, 0, ByteArray.empty⟩ : Val), List.replicate (15 + (pick m 3)).toNat (default : Val), 0, 0⟩ : PNode)]) = limNodes (15 + pick m 3).toNat (([(⟨7, 0, (⟨false, 0, ByteArray.empty⟩ : Val), List.replicate (15 + (pick m 3)).toNat (default : Val), 0, 0⟩ : PNode)]).length - 1)
      rfl
  rintro P hJ
  change (1 ≤ P.length ∧ (P.length : Int) ≤ 63 + pick n 3) ∧ (P = limNodes (15 + pick m 3).toNat (P.length - 1)) at hJ
  obtain ⟨hl, hP⟩ := hJ
  show PV _ Try.prog _ ⟨(A4 (bv false :: iv (63 + (pick n 3)) :: iv (15 + (pick m 3)) :: optS 1 P :: A9 (A9 (A9 (A9 (A4 (A4 ([])))))))), [.dead, optH 8 PNode.cells 26 P]⟩ _
  refine PV.seq_k fun K5 hK5 => ?_
  refine PV.seq_k fun K6 hK6 => ?_
  refine PV.regionN ?_
  refine PON.runs 1 (by kernel_rfl) ?_
  refine PON.ops (aLen_opt Try.prog [.dead, optH 8 PNode.cells 26 P] 27 26 (by kernel_rfl) 1 P) (by kernel_rfl) (by kernel_rfl) ?_
  refine PON.runs 2 (by kernel_rfl) ?_
  refine PON.fin rfl (thenA_normal (hK6 _ ?_))
  refine PV.condP ((P.length : Int) < (63 + (pick n 3))) (decide ((P.length : Int) < (63 + (pick n 3)))) (by kernel_rfl) decide_eq_true decide_eq_false (fun h7 => ?_) (fun h7 => ?_)
  · skip
    refine PV.skip (thenA_normal (hK5 _ ?_))
    refine PV.block ?_
    refine PV.regionN ?_
    refine PON.runs 2 (by kernel_rfl) ?_
    refine PON.ops (aLen_opt Try.prog [.dead, optH 8 PNode.cells 26 P] 27 26 (by kernel_rfl) 1 P) (by kernel_rfl) (by kernel_rfl) ?_
    refine PON.ops (aBin_sub_in Try.prog [.dead, optH 8 PNode.cells 26 P] 3 (.tmp 24) (.const (.int .i64 1)) .i64 (P.length : Int) 1 (by rw [wrap64] <;> omega)) (by kernel_rfl) (by kernel_rfl) ?_
    refine PON.runs 2 (by kernel_rfl) ?_
    refine PON.norm ⟨(A4 (bv false :: iv (63 + (pick n 3)) :: iv (15 + (pick m 3)) :: optS 1 P :: A9 (A :: optS 1 P :: iv (P.length : Int) :: iv (63 + (pick n 3)) :: bv (decide ((P.length : Int) < (63 + (pick n 3)))) :: optS 1 P :: optS 1 P :: iv (P.length : Int) :: iv ((P.length : Int) - 1) :: .agg [iv 11, iv 0, bv false, iv 0, sv ByteArray.empty, nl, iv ((P.length : Int) - 1), iv 0] :: .sO 2 0 1 :: A9 (A9 (A4 ([A, A])))))), [.dead, optH 8 PNode.cells 26 P, .live ⟨8, [[iv 11, iv 0, bv false, iv 0, sv ByteArray.empty, nl, iv ((P.length : Int) - 1), iv 0]], 26⟩]⟩ (by kernel_rfl) ?_
    refine PON.weaken ⟨(A4 (bv false :: iv (63 + (pick n 3)) :: iv (15 + (pick m 3)) :: optS 1 P :: A9 (A :: optS 1 P :: iv (P.length : Int) :: iv (63 + (pick n 3)) :: bv (decide ((P.length : Int) < (63 + (pick n 3)))) :: optS 1 P :: optS 1 P :: iv (P.length : Int) :: iv ((P.length : Int) - 1) :: .agg [iv 11, iv 0, bv false, iv 0, sv ByteArray.empty, nl, iv ((P.length : Int) - 1), iv 0] :: .sO 2 0 1 :: A9 (A9 (A4 ([A, A])))))), [.dead, optH 8 PNode.cells 26 P, .live ⟨8, [[iv 11, iv 0, bv false, iv 0, sv ByteArray.empty, .sF 3 [], iv ((P.length : Int) - 1), iv 0]], 26⟩]⟩ ⟨leVs.rfl', (.same (.same (.row (.same (.same (.same (.same (.same (.cons (.nil _) (.same (.same .nil)))))))) .nil)))⟩ ?_
    refine PON.ops (aAppend_opt Try.prog [.dead, optH 8 PNode.cells 26 P, .live ⟨8, [[iv 11, iv 0, bv false, iv 0, sv ByteArray.empty, .sF 3 [], iv ((P.length : Int) - 1), iv 0]], 26⟩] 3 [.dead, .dead, .live ⟨8, [[iv 11, iv 0, bv false, iv 0, sv ByteArray.empty, .sF 3 [], iv ((P.length : Int) - 1), iv 0]], 26⟩, .live ⟨8, ((P ++ [(⟨11, 0, (⟨false, 0, ByteArray.empty⟩ : Val), [], ((P.length : Int) - 1), 0⟩ : PNode)]).map PNode.cells), 26⟩] #[27, 27] 27 27 26 8 88 [iv 0, iv 0, bv false, iv 0, sv ByteArray.empty, nl, iv 0, iv 0] PNode.cells 1 P (.sO 2 0 1) (⟨11, 0, (⟨false, 0, ByteArray.empty⟩ : Val), [], ((P.length : Int) - 1), 0⟩ : PNode) rfl rfl (by kernel_rfl) (by kernel_rfl) (by kernel_rfl) (by kernel_rfl) (by kernel_rfl) rfl rfl (by kernel_rfl) (by kernel_rfl) (by kernel_rfl) (by simp; omega)) (by kernel_rfl) (by kernel_rfl) ?_
    refine PON.runs 1 (by kernel_rfl) ?_
    refine PON.norm ⟨(A4 (bv false :: iv (63 + (pick n 3)) :: iv (15 + (pick m 3)) :: .sO 3 0 (P.length + 1) :: A9 (A :: optS 1 P :: iv (P.length : Int) :: iv (63 + (pick n 3)) :: bv (decide ((P.length : Int) < (63 + (pick n 3)))) :: optS 1 P :: optS 1 P :: iv (P.length : Int) :: iv ((P.length : Int) - 1) :: .agg [iv 11, iv 0, bv false, iv 0, sv ByteArray.empty, nl, iv ((P.length : Int) - 1), iv 0] :: .sO 2 0 1 :: .sO 3 0 (P.length + 1) :: A9 (A9 (A4 ([A])))))), [.dead, .dead, .live ⟨8, [[iv 11, iv 0, bv false, iv 0, sv ByteArray.empty, .sF 3 [], iv ((P.length : Int) - 1), iv 0]], 26⟩, .live ⟨8, ((P ++ [(⟨11, 0, (⟨false, 0, ByteArray.empty⟩ : Val), [], ((P.length : Int) - 1), 0⟩ : PNode)]).map PNode.cells), 26⟩]⟩ (by kernel_rfl) ?_
    refine PON.fin rfl (inBlockA_normal (thenA_normal ?_))
    refine ⟨[0, 3], (P ++ [(⟨11, 0, (⟨false, 0, ByteArray.empty⟩ : Val), [], ((P.length : Int) - 1), 0⟩ : PNode)]), ⟨rfl, rfl, (.a4 (.v (.v (.v (.cons (leR_sOopt rfl (by simp) (by simp)) (.a9 (.a9 (.a9 (.a9 (.a4 (.a4 .nil))))))))))), (.cons rfl (.dead _) (.cons rfl (.eq (.tree (by simp only [NIs_cons, NIs_nil, NIr_cons, NIr_nil, NI_v, NI_any, NI_pO, NI_sO, NI_pF, NI_sF, NI_agg, NI_tup, NI_fn, NIh_nil, NIh_live, NIh_dead, NIh_free, NIr_map, NIr_append, NIs_icells, NIs_scells, NIs_bcells, NIs_Val, NIs_Col, NIs_Schema, NIs_PNode, NIs_Src, NIr_Val, NIr_Col, NIr_ints, NIr_PNode]; try simp)) (by first | rfl | simp [optH])) .nil))⟩, ?_, ?_⟩
    · skip
      clear hret hK1 hK2 hK3 hK4 hK5 hK6 K0 K1 K2 K3 K4 K5 K6
      refine ⟨?_, ?_⟩
      · skip
        show 1 ≤ (P ++ [(⟨11, 0, (⟨false, 0, ByteArray.empty⟩ : Val), [], ((P.length : Int) - 1), 0⟩ : PNode)]).length ∧ ((P ++ [(⟨11, 0, (⟨false, 0, ByteArray.empty⟩ : Val), [], ((P.length : Int) - 1), 0⟩ : PNode)]).length : Int) ≤ 63 + pick n 3
        simp only [List.length_append, List.length_cons, List.length_nil]; omega
      · skip
        show (P ++ [(⟨11, 0, (⟨false, 0, ByteArray.empty⟩ : Val), [], ((P.length : Int) - 1), 0⟩ : PNode)]) = limNodes (15 + pick m 3).toNat ((P ++ [(⟨11, 0, (⟨false, 0, ByteArray.empty⟩ : Val), [], ((P.length : Int) - 1), 0⟩ : PNode)]).length - 1)
        have hb := limNodes_snoc (15 + pick m 3).toNat (P.length - 1) ((P.length : Int) - 1) (by omega)
        rw [← hP] at hb
        rw [List.length_append]
        simp only [List.length_cons, List.length_nil]
        rw [show P.length + (0 + 1) - 1 = P.length - 1 + 1 by omega]
        exact hb
    · skip
      clear hret hK1 hK2 hK3 hK4 hK5 hK6 K0 K1 K2 K3 K4 K5 K6
      show (63 + pick n 3 - (P ++ [(⟨11, 0, (⟨false, 0, ByteArray.empty⟩ : Val), [], ((P.length : Int) - 1), 0⟩ : PNode)]).length).toNat < (63 + pick n 3 - P.length).toNat
      simp only [List.length_append, List.length_cons, List.length_nil]; omega
  have hend : P = limNodes (15 + pick m 3).toNat ((63 + pick n 3).toNat - 1) := by rw [hP]; congr 1; omega
  have hall := limAll (j := (15 + pick m 3).toNat) (n := (63 + pick n 3).toNat) (by omega) (by omega)
  rw [← hend] at hall
  refine PV.exit (thenA_exit (thenA_exit (inBlockA_hit (thenA_normal (hK4 _ ?_)))))
  refine PV.norm ⟨(A4 (bv false :: iv (63 + (pick n 3)) :: iv (15 + (pick m 3)) :: optS 1 P :: A9 (A :: optS 1 P :: iv (P.length : Int) :: iv (63 + (pick n 3)) :: bv (decide ((P.length : Int) < (63 + (pick n 3)))) :: A9 (A9 (A9 ([A, A, A])))))), [.dead, optH 8 PNode.cells 26 P]⟩ (by kernel_rfl) ?_
  refine PV.seqR [0, 1] ⟨(A4 (bv (decide (((predErr oneSchema P) = (predErr oneSchema P)) ∧ ((((63 + (pick n 3)) ≤ 64) ∧ (((decide ((predErr oneSchema P) = 0)) == (decide ((15 + (pick m 3)) ≤ 16))) = true)) ∨ (¬((63 + (pick n 3)) ≤ 64) ∧ (((decide ((predErr oneSchema P) = 0)) == false) = true))))) :: iv (63 + (pick n 3)) :: iv (15 + (pick m 3)) :: optS 1 P :: A9 (A :: optS 1 P :: iv (P.length : Int) :: iv (63 + (pick n 3)) :: bv (decide ((P.length : Int) < (63 + (pick n 3)))) :: A9 (A9 (A9 ([A, A, A])))))), [.dead, optH 8 PNode.cells 26 P]⟩ ?_ ?_
  · skip
    refine PV.regionN ?_
    refine PON.call 14 [] (some 29) (pre := []) (post := []) (x := bv true) _ (by kernel_rfl) (awake_ok) trivial rfl ?_
    refine PON.runs 1 (by kernel_rfl) ?_
    refine PON.call 12 [] (some 31) (pre := []) (post := []) (x := .agg (Schema.cells oneSchema)) _ (by kernel_rfl) (one_ok) trivial rfl ?_
    refine PON.runs 1 (by kernel_rfl) ?_
    refine PON.call 15 [.agg (Schema.cells oneSchema), optS 1 P] (some 33) (pre := [(1, optH 8 PNode.cells 26 P)]) (post := []) (x := iv (predErr oneSchema P)) _ (by kernel_rfl) (PCX.read (args0 := [.agg (Schema.cells oneSchema), .sF 8 (P.map PNode.cells)]) (by simp [Fl_v, Fl_tup, Fl_agg, Val.cells, Col.cells]) (check_ok oneSchema P ) (fun kR hkR => (.cons (RA.tree (by simp only [NIs_cons, NIs_nil, NIr_cons, NIr_nil, NI_v, NI_any, NI_pO, NI_sO, NI_pF, NI_sF, NI_agg, NI_tup, NI_fn, NIh_nil, NIh_live, NIh_dead, NIh_free, NIr_map, NIr_append, NIs_icells, NIs_scells, NIs_bcells, NIs_Val, NIs_Col, NIs_Schema, NIs_PNode, NIs_Src, NIr_Val, NIr_Col, NIr_ints, NIr_PNode]; try simp)) (.cons (RA.optS (hkR (1, optH 8 PNode.cells 26 P) (by simp)) (fun x => NIs_PNode _ _)) .nil)))) (And.intro (by kernel_rfl) trivial) rfl ?_
    refine PON.call 12 [] (some 34) (pre := []) (post := []) (x := .agg (Schema.cells oneSchema)) _ (by kernel_rfl) (one_ok) trivial rfl ?_
    refine PON.runs 1 (by kernel_rfl) ?_
    refine PON.call 16 [.agg (Schema.cells oneSchema), optS 1 P] (some 36) (pre := [(1, optH 8 PNode.cells 26 P)]) (post := []) (x := iv (predErr oneSchema P)) _ (by kernel_rfl) (PCX.read (args0 := [.agg (Schema.cells oneSchema), .sF 8 (P.map PNode.cells)]) (by simp [Fl_v, Fl_tup, Fl_agg, Val.cells, Col.cells]) (rcheck_ok oneSchema P ) (fun kR hkR => (.cons (RA.tree (by simp only [NIs_cons, NIs_nil, NIr_cons, NIr_nil, NI_v, NI_any, NI_pO, NI_sO, NI_pF, NI_sF, NI_agg, NI_tup, NI_fn, NIh_nil, NIh_live, NIh_dead, NIh_free, NIr_map, NIr_append, NIs_icells, NIs_scells, NIs_bcells, NIs_Val, NIs_Col, NIs_Schema, NIs_PNode, NIs_Src, NIr_Val, NIr_Col, NIr_ints, NIr_PNode]; try simp)) (.cons (RA.optS (hkR (1, optH 8 PNode.cells 26 P) (by simp)) (fun x => NIs_PNode _ _)) .nil)))) (And.intro (by kernel_rfl) trivial) rfl ?_
    refine PON.runs 3 (by kernel_rfl) ?_
    refine PON.norm ⟨(A4 (bv false :: iv (63 + (pick n 3)) :: iv (15 + (pick m 3)) :: optS 1 P :: A9 (A :: optS 1 P :: iv (P.length : Int) :: iv (63 + (pick n 3)) :: bv (decide ((P.length : Int) < (63 + (pick n 3)))) :: A4 (A :: A :: A :: bv true :: bv true :: .agg (Schema.cells oneSchema) :: optS 1 P :: iv (predErr oneSchema P) :: .agg (Schema.cells oneSchema) :: optS 1 P :: iv (predErr oneSchema P) :: bv (decide ((predErr oneSchema P) = (predErr oneSchema P))) :: bv (decide ((predErr oneSchema P) = (predErr oneSchema P))) :: bv (decide ((predErr oneSchema P) = (predErr oneSchema P))) :: A9 ([A, A, A]))))), [.dead, optH 8 PNode.cells 26 P]⟩ (by kernel_rfl) ?_
    refine PON.splitP ((predErr oneSchema P) = (predErr oneSchema P)) 39 (decide ((predErr oneSchema P) = (predErr oneSchema P))) (A4 (bv false :: iv (63 + (pick n 3)) :: iv (15 + (pick m 3)) :: optS 1 P :: A9 (A :: optS 1 P :: iv (P.length : Int) :: iv (63 + (pick n 3)) :: bv (decide ((P.length : Int) < (63 + (pick n 3)))) :: A4 (A :: A :: A :: bv true :: bv true :: .agg (Schema.cells oneSchema) :: optS 1 P :: iv (predErr oneSchema P) :: .agg (Schema.cells oneSchema) :: optS 1 P :: iv (predErr oneSchema P) :: bv (decide ((predErr oneSchema P) = (predErr oneSchema P))) :: bv (decide ((predErr oneSchema P) = (predErr oneSchema P))) :: bv true :: A9 ([A, A, A]))))) (A4 (bv false :: iv (63 + (pick n 3)) :: iv (15 + (pick m 3)) :: optS 1 P :: A9 (A :: optS 1 P :: iv (P.length : Int) :: iv (63 + (pick n 3)) :: bv (decide ((P.length : Int) < (63 + (pick n 3)))) :: A4 (A :: A :: A :: bv true :: bv true :: .agg (Schema.cells oneSchema) :: optS 1 P :: iv (predErr oneSchema P) :: .agg (Schema.cells oneSchema) :: optS 1 P :: iv (predErr oneSchema P) :: bv (decide ((predErr oneSchema P) = (predErr oneSchema P))) :: bv (decide ((predErr oneSchema P) = (predErr oneSchema P))) :: bv false :: A9 ([A, A, A]))))) (by kernel_rfl) decide_eq_true decide_eq_false (by kernel_rfl) (by kernel_rfl) (fun h8 => ?_) (fun h8 => ?_)
    · skip
      refine PON.call 12 [] (some 40) (pre := []) (post := []) (x := .agg (Schema.cells oneSchema)) _ (by kernel_rfl) (one_ok) trivial rfl ?_
      refine PON.runs 1 (by kernel_rfl) ?_
      refine PON.call 15 [.agg (Schema.cells oneSchema), optS 1 P] (some 42) (pre := [(1, optH 8 PNode.cells 26 P)]) (post := []) (x := iv (predErr oneSchema P)) _ (by kernel_rfl) (PCX.read (args0 := [.agg (Schema.cells oneSchema), .sF 8 (P.map PNode.cells)]) (by simp [Fl_v, Fl_tup, Fl_agg, Val.cells, Col.cells]) (check_ok oneSchema P ) (fun kR hkR => (.cons (RA.tree (by simp only [NIs_cons, NIs_nil, NIr_cons, NIr_nil, NI_v, NI_any, NI_pO, NI_sO, NI_pF, NI_sF, NI_agg, NI_tup, NI_fn, NIh_nil, NIh_live, NIh_dead, NIh_free, NIr_map, NIr_append, NIs_icells, NIs_scells, NIs_bcells, NIs_Val, NIs_Col, NIs_Schema, NIs_PNode, NIs_Src, NIr_Val, NIr_Col, NIr_ints, NIr_PNode]; try simp)) (.cons (RA.optS (hkR (1, optH 8 PNode.cells 26 P) (by simp)) (fun x => NIs_PNode _ _)) .nil)))) (And.intro (by kernel_rfl) trivial) rfl ?_
      refine PON.runs 4 (by kernel_rfl) ?_
      refine PON.norm ⟨(A4 (bv false :: iv (63 + (pick n 3)) :: iv (15 + (pick m 3)) :: optS 1 P :: A9 (A :: optS 1 P :: iv (P.length : Int) :: iv (63 + (pick n 3)) :: bv (decide ((P.length : Int) < (63 + (pick n 3)))) :: A4 (A :: A :: A :: bv true :: bv true :: .agg (Schema.cells oneSchema) :: optS 1 P :: iv (predErr oneSchema P) :: .agg (Schema.cells oneSchema) :: optS 1 P :: iv (predErr oneSchema P) :: bv (decide ((predErr oneSchema P) = (predErr oneSchema P))) :: bv (decide ((predErr oneSchema P) = (predErr oneSchema P))) :: bv true :: .agg (Schema.cells oneSchema) :: optS 1 P :: iv (predErr oneSchema P) :: bv (decide ((predErr oneSchema P) = 0)) :: iv (63 + (pick n 3)) :: bv (decide ((63 + (pick n 3)) ≤ 64)) :: bv (decide ((63 + (pick n 3)) ≤ 64)) :: A4 ([A]))))), [.dead, optH 8 PNode.cells 26 P]⟩ (by kernel_rfl) ?_
      refine PON.splitP ((63 + (pick n 3)) ≤ 64) 46 (decide ((63 + (pick n 3)) ≤ 64)) (A4 (bv false :: iv (63 + (pick n 3)) :: iv (15 + (pick m 3)) :: optS 1 P :: A9 (A :: optS 1 P :: iv (P.length : Int) :: iv (63 + (pick n 3)) :: bv (decide ((P.length : Int) < (63 + (pick n 3)))) :: A4 (A :: A :: A :: bv true :: bv true :: .agg (Schema.cells oneSchema) :: optS 1 P :: iv (predErr oneSchema P) :: .agg (Schema.cells oneSchema) :: optS 1 P :: iv (predErr oneSchema P) :: bv (decide ((predErr oneSchema P) = (predErr oneSchema P))) :: bv (decide ((predErr oneSchema P) = (predErr oneSchema P))) :: bv true :: .agg (Schema.cells oneSchema) :: optS 1 P :: iv (predErr oneSchema P) :: bv (decide ((predErr oneSchema P) = 0)) :: iv (63 + (pick n 3)) :: bv (decide ((63 + (pick n 3)) ≤ 64)) :: bv true :: A4 ([A]))))) (A4 (bv false :: iv (63 + (pick n 3)) :: iv (15 + (pick m 3)) :: optS 1 P :: A9 (A :: optS 1 P :: iv (P.length : Int) :: iv (63 + (pick n 3)) :: bv (decide ((P.length : Int) < (63 + (pick n 3)))) :: A4 (A :: A :: A :: bv true :: bv true :: .agg (Schema.cells oneSchema) :: optS 1 P :: iv (predErr oneSchema P) :: .agg (Schema.cells oneSchema) :: optS 1 P :: iv (predErr oneSchema P) :: bv (decide ((predErr oneSchema P) = (predErr oneSchema P))) :: bv (decide ((predErr oneSchema P) = (predErr oneSchema P))) :: bv true :: .agg (Schema.cells oneSchema) :: optS 1 P :: iv (predErr oneSchema P) :: bv (decide ((predErr oneSchema P) = 0)) :: iv (63 + (pick n 3)) :: bv (decide ((63 + (pick n 3)) ≤ 64)) :: bv false :: A4 ([A]))))) (by kernel_rfl) decide_eq_true decide_eq_false (by kernel_rfl) (by kernel_rfl) (fun h9 => ?_) (fun h9 => ?_)
      · skip
        refine PON.runs 6 (by kernel_rfl) ?_
        refine PON.norm ⟨(A4 (bv ((decide ((predErr oneSchema P) = 0)) == (decide ((15 + (pick m 3)) ≤ 16))) :: iv (63 + (pick n 3)) :: iv (15 + (pick m 3)) :: optS 1 P :: A9 (A :: optS 1 P :: iv (P.length : Int) :: iv (63 + (pick n 3)) :: bv (decide ((P.length : Int) < (63 + (pick n 3)))) :: A4 ([A, A, A, bv true, bv true, .agg (Schema.cells oneSchema), optS 1 P, iv (predErr oneSchema P), .agg (Schema.cells oneSchema), optS 1 P, iv (predErr oneSchema P), bv (decide ((predErr oneSchema P) = (predErr oneSchema P))), bv (decide ((predErr oneSchema P) = (predErr oneSchema P))), bv true, .agg (Schema.cells oneSchema), optS 1 P, iv (predErr oneSchema P), bv (decide ((predErr oneSchema P) = 0)), iv (63 + (pick n 3)), bv (decide ((63 + (pick n 3)) ≤ 64)), bv true, iv (15 + (pick m 3)), bv (decide ((15 + (pick m 3)) ≤ 16)), bv (decide ((15 + (pick m 3)) ≤ 16)), bv ((decide ((predErr oneSchema P) = 0)) == (decide ((15 + (pick m 3)) ≤ 16))), bv ((decide ((predErr oneSchema P) = 0)) == (decide ((15 + (pick m 3)) ≤ 16)))])))), [.dead, optH 8 PNode.cells 26 P]⟩ (by kernel_rfl) ?_
        refine PON.fin rfl (thenA_normal ?_)
        exact ⟨rfl, rfl, (.a4 (.cons (.eq (.v _) (v_bool (by clear hret hK1 hK2 hK3 hK4 hK5 hK6 K0 K1 K2 K3 K4 K5 K6; (try simp only [strEq_dec]); grind))) (.v (.v (.cons (leR_optS _ rfl) (.a9 (.any (.cons (leR_optS _ rfl) (.v (.v (.v (.a9 (.a9 (.a9 (.any (.any (.any .nil))))))))))))))))), (.cons rfl (.dead _) (.cons rfl (leRo_optH _ (by simp only [NIs_cons, NIs_nil, NIr_cons, NIr_nil, NI_v, NI_any, NI_pO, NI_sO, NI_pF, NI_sF, NI_agg, NI_tup, NI_fn, NIh_nil, NIh_live, NIh_dead, NIh_free, NIr_map, NIr_append, NIs_icells, NIs_scells, NIs_bcells, NIs_Val, NIs_Col, NIs_Schema, NIs_PNode, NIs_Src, NIr_Val, NIr_Col, NIr_ints, NIr_PNode]; try simp)) .nil))⟩
      refine PON.runs 6 (by kernel_rfl) ?_
      refine PON.norm ⟨(A4 (bv ((decide ((predErr oneSchema P) = 0)) == false) :: iv (63 + (pick n 3)) :: iv (15 + (pick m 3)) :: optS 1 P :: A9 (A :: optS 1 P :: iv (P.length : Int) :: iv (63 + (pick n 3)) :: bv (decide ((P.length : Int) < (63 + (pick n 3)))) :: A4 ([A, A, A, bv true, bv true, .agg (Schema.cells oneSchema), optS 1 P, iv (predErr oneSchema P), .agg (Schema.cells oneSchema), optS 1 P, iv (predErr oneSchema P), bv (decide ((predErr oneSchema P) = (predErr oneSchema P))), bv (decide ((predErr oneSchema P) = (predErr oneSchema P))), bv true, .agg (Schema.cells oneSchema), optS 1 P, iv (predErr oneSchema P), bv (decide ((predErr oneSchema P) = 0)), iv (63 + (pick n 3)), bv (decide ((63 + (pick n 3)) ≤ 64)), bv false, U, U, bv false, bv ((decide ((predErr oneSchema P) = 0)) == false), bv ((decide ((predErr oneSchema P) = 0)) == false)])))), [.dead, optH 8 PNode.cells 26 P]⟩ (by kernel_rfl) ?_
      refine PON.fin rfl (thenA_normal ?_)
      exact ⟨rfl, rfl, (.a4 (.cons (.eq (.v _) (v_bool (by clear hret hK1 hK2 hK3 hK4 hK5 hK6 K0 K1 K2 K3 K4 K5 K6; (try simp only [strEq_dec]); grind))) (.v (.v (.cons (leR_optS _ rfl) (.a9 (.any (.cons (leR_optS _ rfl) (.v (.v (.v (.a9 (.a9 (.a9 (.any (.any (.any .nil))))))))))))))))), (.cons rfl (.dead _) (.cons rfl (leRo_optH _ (by simp only [NIs_cons, NIs_nil, NIr_cons, NIr_nil, NI_v, NI_any, NI_pO, NI_sO, NI_pF, NI_sF, NI_agg, NI_tup, NI_fn, NIh_nil, NIh_live, NIh_dead, NIh_free, NIr_map, NIr_append, NIs_icells, NIs_scells, NIs_bcells, NIs_Val, NIs_Col, NIs_Schema, NIs_PNode, NIs_Src, NIr_Val, NIr_Col, NIr_ints, NIr_PNode]; try simp)) .nil))⟩
    refine PON.runs 13 (by kernel_rfl) ?_
    refine PON.norm ⟨(A4 (bv false :: iv (63 + (pick n 3)) :: iv (15 + (pick m 3)) :: optS 1 P :: A9 (A :: optS 1 P :: iv (P.length : Int) :: iv (63 + (pick n 3)) :: bv (decide ((P.length : Int) < (63 + (pick n 3)))) :: A4 (A :: A :: A :: bv true :: bv true :: .agg (Schema.cells oneSchema) :: optS 1 P :: iv (predErr oneSchema P) :: .agg (Schema.cells oneSchema) :: optS 1 P :: iv (predErr oneSchema P) :: bv (decide ((predErr oneSchema P) = (predErr oneSchema P))) :: bv (decide ((predErr oneSchema P) = (predErr oneSchema P))) :: bv false :: U9 ([U, U, bv false]))))), [.dead, optH 8 PNode.cells 26 P]⟩ (by kernel_rfl) ?_
    refine PON.fin rfl (thenA_normal ?_)
    exact ⟨rfl, rfl, (.a4 (.cons (.eq (.v _) (v_bool (by clear hret hK1 hK2 hK3 hK4 hK5 hK6 K0 K1 K2 K3 K4 K5 K6; (try simp only [strEq_dec]); grind))) (.v (.v (.cons (leR_optS _ rfl) (.a9 (.any (.cons (leR_optS _ rfl) (.v (.v (.v (.a9 (.a9 (.a9 (.any (.any (.any .nil))))))))))))))))), (.cons rfl (.dead _) (.cons rfl (leRo_optH _ (by simp only [NIs_cons, NIs_nil, NIr_cons, NIr_nil, NI_v, NI_any, NI_pO, NI_sO, NI_pF, NI_sF, NI_agg, NI_tup, NI_fn, NIh_nil, NIh_live, NIh_dead, NIh_free, NIr_map, NIr_append, NIs_icells, NIs_scells, NIs_bcells, NIs_Val, NIs_Col, NIs_Schema, NIs_PNode, NIs_Src, NIr_Val, NIr_Col, NIr_ints, NIr_PNode]; try simp)) .nil))⟩
  refine PV.ret (hret .ret _ (bv (decide (((predErr oneSchema P) = (predErr oneSchema P)) ∧ ((((63 + (pick n 3)) ≤ 64) ∧ (((decide ((predErr oneSchema P) = 0)) == (decide ((15 + (pick m 3)) ≤ 16))) = true)) ∨ (¬((63 + (pick n 3)) ≤ 64) ∧ (((decide ((predErr oneSchema P) = 0)) == false) = true)))))) (.inr rfl) (by kernel_rfl) ?_)
  clear hret hK1 hK2 hK3 hK4 hK5 hK6 K0 K1 K2 K3 K4 K5 K6
  show Tof noTau [.dead, optH 8 PNode.cells 26 P] (bv (decide (((predErr oneSchema P) = (predErr oneSchema P)) ∧ ((((63 + (pick n 3)) ≤ 64) ∧ (((decide ((predErr oneSchema P) = 0)) == (decide ((15 + (pick m 3)) ≤ 16))) = true)) ∨ (¬((63 + (pick n 3)) ≤ 64) ∧ (((decide ((predErr oneSchema P) = 0)) == false) = true)))))) (bv true)
  -- leaf 1
  refine Tof.bool ?_
  grind
theorem limits_ok (n : Int) (m : Int) : PCX Try.prog 4 [iv n, iv m] [] [] (bv true) :=
  PCX.frame (by simp only [NIs_cons, NIs_nil, NIr_cons, NIr_nil, NI_v, NI_any, NI_pO, NI_sO, NI_pF, NI_sF, NI_agg, NI_tup, NI_fn, NIh_nil, NIh_live, NIh_dead, NIh_free, NIr_map, NIr_append, NIs_icells, NIs_scells, NIs_bcells, NIs_Val, NIs_Col, NIs_Schema, NIs_PNode, NIs_Src, NIr_Val, NIr_Col, NIr_ints, NIr_PNode]; try simp) (limits_ok_walk n m)

end Go.Proofs.Ytinehkfcploeiaa
