/- Contracts of the evaluation of predicates. -/
import Derived.Test.YtinehkfcploeiaaPred
namespace Go.Proofs.Ytinehkfcploeiaa
open Go.Abs
set_option linter.unusedVariables false
set_option linter.unusedSimpArgs false

set_option maxHeartbeats 4000000 in
theorem truth_ok_walk (b : Bool) : PC Try.prog 44 [bv b] [] (fun yR kR => Tof noTau kR yR (iv (vTruth b))) := by
  refine PC.of_bodyV Try.func44 rfl [bv b, U, U, U] (by kernel_rfl) (fun K0 hret => ?_)
  refine PV.seq_k fun K1 hK1 => ?_
  refine PV.regionN ?_
  refine PON.runs 1 (by kernel_rfl) ?_
  refine PON.fin rfl (thenA_normal (hK1 _ ?_))
  refine PV.seq_k fun K2 hK2 => ?_
  refine PV.seq_k fun K3 hK3 => ?_
  refine PV.regionN ?_
  refine PON.runs 1 (by kernel_rfl) ?_
  refine PON.fin rfl (thenA_normal (hK3 _ ?_))
  refine PV.condP (b = true) b (by kernel_rfl) (fun h => h) bool_ff (fun h4 => ?_) (fun h4 => ?_)
  · skip
    refine PV.seq_k fun K5 hK5 => ?_
    refine PV.regionN ?_
    refine PON.runs 1 (by kernel_rfl) ?_
    refine PON.fin rfl (thenA_normal (hK5 _ ?_))
    refine PV.norm ⟨[bv b, U, iv 1, bv b], []⟩ (by kernel_rfl) ?_
    refine PV.ret (thenA_ret (hret .ret _ (iv 1) (.inr rfl) (by kernel_rfl) ?_))
    clear hret hK1 hK2 hK3 hK5 K0 K1 K2 K3 K5
    show Tof noTau [] (iv 1) (iv (vTruth b))
    -- leaf 1
    refine Tof.int ?_
    grind [vTruth]
  refine PV.skip (thenA_normal (hK2 _ ?_))
  refine PV.seq_k fun K6 hK6 => ?_
  refine PV.regionN ?_
  refine PON.runs 1 (by kernel_rfl) ?_
  refine PON.fin rfl (thenA_normal (hK6 _ ?_))
  refine PV.norm ⟨[bv b, U, iv 0, bv b], []⟩ (by kernel_rfl) ?_
  refine PV.ret (hret .ret _ (iv 0) (.inr rfl) (by kernel_rfl) ?_)
  clear hret hK1 hK2 hK3 hK6 K0 K1 K2 K3 K6
  show Tof noTau [] (iv 0) (iv (vTruth b))
  -- leaf 2
  refine Tof.int ?_
  grind [vTruth]
theorem truth_ok (b : Bool) : PCX Try.prog 44 [bv b] [] [] (iv (vTruth b)) :=
  PCX.frame (by simp only [NIs_cons, NIs_nil, NIr_cons, NIr_nil, NI_v, NI_any, NI_pO, NI_sO, NI_pF, NI_sF, NI_agg, NI_tup, NI_fn, NIh_nil, NIh_live, NIh_dead, NIh_free, NIr_map, NIr_append, NIs_icells, NIs_scells, NIs_bcells, NIs_Val, NIs_Col, NIs_Schema, NIs_PNode, NIs_Src, NIr_Val, NIr_Col, NIr_ints, NIr_PNode]; try simp) (truth_ok_walk b)

set_option maxHeartbeats 4000000 in
theorem rtruth_ok_walk (b : Bool) : PC Try.prog 67 [bv b] [] (fun yR kR => Tof noTau kR yR (iv (vTruth b))) := by
  refine PC.of_bodyV Try.func67 rfl [bv b, U, U, U] (by kernel_rfl) (fun K0 hret => ?_)
  refine PV.seq_k fun K1 hK1 => ?_
  refine PV.regionN ?_
  refine PON.runs 1 (by kernel_rfl) ?_
  refine PON.fin rfl (thenA_normal (hK1 _ ?_))
  refine PV.seq_k fun K2 hK2 => ?_
  refine PV.seq_k fun K3 hK3 => ?_
  refine PV.regionN ?_
  refine PON.runs 1 (by kernel_rfl) ?_
  refine PON.fin rfl (thenA_normal (hK3 _ ?_))
  refine PV.condP (b = true) b (by kernel_rfl) (fun h => h) bool_ff (fun h4 => ?_) (fun h4 => ?_)
  · skip
    refine PV.seq_k fun K5 hK5 => ?_
    refine PV.regionN ?_
    refine PON.runs 1 (by kernel_rfl) ?_
    refine PON.fin rfl (thenA_normal (hK5 _ ?_))
    refine PV.norm ⟨[bv b, U, iv 1, bv b], []⟩ (by kernel_rfl) ?_
    refine PV.ret (thenA_ret (hret .ret _ (iv 1) (.inr rfl) (by kernel_rfl) ?_))
    clear hret hK1 hK2 hK3 hK5 K0 K1 K2 K3 K5
    show Tof noTau [] (iv 1) (iv (vTruth b))
    -- leaf 1
    refine Tof.int ?_
    grind [vTruth]
  refine PV.skip (thenA_normal (hK2 _ ?_))
  refine PV.seq_k fun K6 hK6 => ?_
  refine PV.regionN ?_
  refine PON.runs 1 (by kernel_rfl) ?_
  refine PON.fin rfl (thenA_normal (hK6 _ ?_))
  refine PV.norm ⟨[bv b, U, iv 0, bv b], []⟩ (by kernel_rfl) ?_
  refine PV.ret (hret .ret _ (iv 0) (.inr rfl) (by kernel_rfl) ?_)
  clear hret hK1 hK2 hK3 hK6 K0 K1 K2 K3 K6
  show Tof noTau [] (iv 0) (iv (vTruth b))
  -- leaf 2
  refine Tof.int ?_
  grind [vTruth]
theorem rtruth_ok (b : Bool) : PCX Try.prog 67 [bv b] [] [] (iv (vTruth b)) :=
  PCX.frame (by simp only [NIs_cons, NIs_nil, NIr_cons, NIr_nil, NI_v, NI_any, NI_pO, NI_sO, NI_pF, NI_sF, NI_agg, NI_tup, NI_fn, NIh_nil, NIh_live, NIh_dead, NIh_free, NIr_map, NIr_append, NIs_icells, NIs_scells, NIs_bcells, NIs_Val, NIs_Col, NIs_Schema, NIs_PNode, NIs_Src, NIr_Val, NIr_Col, NIr_ints, NIr_PNode]; try simp) (rtruth_ok_walk b)

set_option maxHeartbeats 4000000 in
theorem holds_ok_walk (op : Int) (k : Int) : PC Try.prog 68 [iv op, iv k] [] (fun yR kR => Tof noTau kR yR (bv (vHolds op k))) := by
  refine PC.of_bodyV Try.func68 rfl (iv op :: iv k :: U9 (U9 ([U, U, U, U, U, U, U, U]))) (by kernel_rfl) (fun K0 hret => ?_)
  refine PV.seq_k fun K1 hK1 => ?_
  refine PV.regionN ?_
  refine PON.runs 1 (by kernel_rfl) ?_
  refine PON.fin rfl (thenA_normal (hK1 _ ?_))
  refine PV.seq_k fun K2 hK2 => ?_
  refine PV.seq_k fun K3 hK3 => ?_
  refine PV.regionN ?_
  refine PON.runs 1 (by kernel_rfl) ?_
  refine PON.fin rfl (thenA_normal (hK3 _ ?_))
  refine PV.block ?_
  refine PV.seq_k fun K4 hK4 => ?_
  refine PV.regionN ?_
  refine PON.runs 2 (by kernel_rfl) ?_
  refine PON.fin rfl (thenA_normal (hK4 _ ?_))
  refine PV.condP (op = 1) (decide (op = 1)) (by kernel_rfl) decide_eq_true decide_eq_false (fun h5 => ?_) (fun h5 => ?_)
  · skip
    refine PV.seq_k fun K6 hK6 => ?_
    refine PV.regionN ?_
    refine PON.runs 3 (by kernel_rfl) ?_
    refine PON.fin rfl (thenA_normal (hK6 _ ?_))
    refine PV.norm ⟨(iv op :: iv k :: U :: U :: bv (decide (k = 0)) :: iv op :: bv (decide (op = 1)) :: bv (decide (op = 1)) :: iv k :: bv (decide (k = 0)) :: U9 (U9 ([]))), []⟩ (by kernel_rfl) ?_
    refine PV.ret (inBlockA_ret (thenA_ret (hret .ret _ (bv (decide (k = 0))) (.inr rfl) (by kernel_rfl) ?_)))
    clear hret hK1 hK2 hK3 hK4 hK6 K0 K1 K2 K3 K4 K6
    show Tof noTau [] (bv (decide (k = 0))) (bv (vHolds op k))
    -- leaf 1
    refine Tof.bool ?_
    grind [vHolds]
  refine PV.seq_k fun K7 hK7 => ?_
  refine PV.regionN ?_
  refine PON.runs 2 (by kernel_rfl) ?_
  refine PON.fin rfl (thenA_normal (hK7 _ ?_))
  refine PV.condP (op = 2) (decide (op = 2)) (by kernel_rfl) decide_eq_true decide_eq_false (fun h8 => ?_) (fun h8 => ?_)
  · skip
    refine PV.seq_k fun K9 hK9 => ?_
    refine PV.regionN ?_
    refine PON.runs 3 (by kernel_rfl) ?_
    refine PON.fin rfl (thenA_normal (hK9 _ ?_))
    refine PV.norm ⟨(iv op :: iv k :: U :: U :: bv (!(decide (k = 0))) :: iv op :: bv (decide (op = 1)) :: bv (decide (op = 1)) :: U :: U :: bv (decide (op = 2)) :: bv (decide (op = 2)) :: iv k :: bv (!(decide (k = 0))) :: U9 ([U, U, U, U, U])), []⟩ (by kernel_rfl) ?_
    refine PV.ret (inBlockA_ret (thenA_ret (hret .ret _ (bv (!(decide (k = 0)))) (.inr rfl) (by kernel_rfl) ?_)))
    clear hret hK1 hK2 hK3 hK4 hK7 hK9 K0 K1 K2 K3 K4 K7 K9
    show Tof noTau [] (bv (!(decide (k = 0)))) (bv (vHolds op k))
    -- leaf 2
    refine Tof.bool ?_
    grind [vHolds]
  refine PV.seq_k fun K10 hK10 => ?_
  refine PV.regionN ?_
  refine PON.runs 2 (by kernel_rfl) ?_
  refine PON.fin rfl (thenA_normal (hK10 _ ?_))
  refine PV.condP (op = 3) (decide (op = 3)) (by kernel_rfl) decide_eq_true decide_eq_false (fun h11 => ?_) (fun h11 => ?_)
  · skip
    refine PV.seq_k fun K12 hK12 => ?_
    refine PV.regionN ?_
    refine PON.runs 3 (by kernel_rfl) ?_
    refine PON.fin rfl (thenA_normal (hK12 _ ?_))
    refine PV.norm ⟨(iv op :: iv k :: U :: U :: bv (decide (k < 0)) :: iv op :: bv (decide (op = 1)) :: bv (decide (op = 1)) :: U :: U :: bv (decide (op = 2)) :: bv (decide (op = 2)) :: U :: U :: bv (decide (op = 3)) :: bv (decide (op = 3)) :: iv k :: bv (decide (k < 0)) :: U9 ([U])), []⟩ (by kernel_rfl) ?_
    refine PV.ret (inBlockA_ret (thenA_ret (hret .ret _ (bv (decide (k < 0))) (.inr rfl) (by kernel_rfl) ?_)))
    clear hret hK1 hK2 hK3 hK4 hK7 hK10 hK12 K0 K1 K2 K3 K4 K7 K10 K12
    show Tof noTau [] (bv (decide (k < 0))) (bv (vHolds op k))
    -- leaf 3
    refine Tof.bool ?_
    grind [vHolds]
  refine PV.seq_k fun K13 hK13 => ?_
  refine PV.regionN ?_
  refine PON.runs 2 (by kernel_rfl) ?_
  refine PON.fin rfl (thenA_normal (hK13 _ ?_))
  refine PV.condP (op = 4) (decide (op = 4)) (by kernel_rfl) decide_eq_true decide_eq_false (fun h14 => ?_) (fun h14 => ?_)
  · skip
    refine PV.seq_k fun K15 hK15 => ?_
    refine PV.regionN ?_
    refine PON.runs 3 (by kernel_rfl) ?_
    refine PON.fin rfl (thenA_normal (hK15 _ ?_))
    refine PV.norm ⟨[iv op, iv k, U, U, bv (decide (k ≤ 0)), iv op, bv (decide (op = 1)), bv (decide (op = 1)), U, U, bv (decide (op = 2)), bv (decide (op = 2)), U, U, bv (decide (op = 3)), bv (decide (op = 3)), U, U, bv (decide (op = 4)), bv (decide (op = 4)), iv k, bv (decide (k ≤ 0)), U, U, U, U, U, U], []⟩ (by kernel_rfl) ?_
    refine PV.ret (inBlockA_ret (thenA_ret (hret .ret _ (bv (decide (k ≤ 0))) (.inr rfl) (by kernel_rfl) ?_)))
    clear hret hK1 hK2 hK3 hK4 hK7 hK10 hK13 hK15 K0 K1 K2 K3 K4 K7 K10 K13 K15
    show Tof noTau [] (bv (decide (k ≤ 0))) (bv (vHolds op k))
    -- leaf 4
    refine Tof.bool ?_
    grind [vHolds]
  refine PV.seq_k fun K16 hK16 => ?_
  refine PV.regionN ?_
  refine PON.runs 2 (by kernel_rfl) ?_
  refine PON.fin rfl (thenA_normal (hK16 _ ?_))
  refine PV.condP (op = 5) (decide (op = 5)) (by kernel_rfl) decide_eq_true decide_eq_false (fun h17 => ?_) (fun h17 => ?_)
  · skip
    refine PV.seq_k fun K18 hK18 => ?_
    refine PV.regionN ?_
    refine PON.runs 3 (by kernel_rfl) ?_
    refine PON.fin rfl (thenA_normal (hK18 _ ?_))
    refine PV.norm ⟨[iv op, iv k, U, U, bv (decide (k > 0)), iv op, bv (decide (op = 1)), bv (decide (op = 1)), U, U, bv (decide (op = 2)), bv (decide (op = 2)), U, U, bv (decide (op = 3)), bv (decide (op = 3)), U, U, bv (decide (op = 4)), bv (decide (op = 4)), U, U, bv (decide (op = 5)), bv (decide (op = 5)), iv k, bv (decide (k > 0)), U, U], []⟩ (by kernel_rfl) ?_
    refine PV.ret (inBlockA_ret (thenA_ret (hret .ret _ (bv (decide (k > 0))) (.inr rfl) (by kernel_rfl) ?_)))
    clear hret hK1 hK2 hK3 hK4 hK7 hK10 hK13 hK16 hK18 K0 K1 K2 K3 K4 K7 K10 K13 K16 K18
    show Tof noTau [] (bv (decide (k > 0))) (bv (vHolds op k))
    -- leaf 5
    refine Tof.bool ?_
    grind [vHolds]
  refine PV.skip (inBlockA_normal (thenA_normal (hK2 _ ?_)))
  refine PV.seq_k fun K19 hK19 => ?_
  refine PV.regionN ?_
  refine PON.runs 3 (by kernel_rfl) ?_
  refine PON.fin rfl (thenA_normal (hK19 _ ?_))
  refine PV.norm ⟨[iv op, iv k, U, U, bv (decide (k ≥ 0)), iv op, bv (decide (op = 1)), bv (decide (op = 1)), U, U, bv (decide (op = 2)), bv (decide (op = 2)), U, U, bv (decide (op = 3)), bv (decide (op = 3)), U, U, bv (decide (op = 4)), bv (decide (op = 4)), U, U, bv (decide (op = 5)), bv (decide (op = 5)), U, U, iv k, bv (decide (k ≥ 0))], []⟩ (by kernel_rfl) ?_
  refine PV.ret (hret .ret _ (bv (decide (k ≥ 0))) (.inr rfl) (by kernel_rfl) ?_)
  clear hret hK1 hK2 hK3 hK4 hK7 hK10 hK13 hK16 hK19 K0 K1 K2 K3 K4 K7 K10 K13 K16 K19
  show Tof noTau [] (bv (decide (k ≥ 0))) (bv (vHolds op k))
  -- leaf 6
  refine Tof.bool ?_
  grind [vHolds]
theorem holds_ok (op : Int) (k : Int) : PCX Try.prog 68 [iv op, iv k] [] [] (bv (vHolds op k)) :=
  PCX.frame (by simp only [NIs_cons, NIs_nil, NIr_cons, NIr_nil, NI_v, NI_any, NI_pO, NI_sO, NI_pF, NI_sF, NI_agg, NI_tup, NI_fn, NIh_nil, NIh_live, NIh_dead, NIh_free, NIr_map, NIr_append, NIs_icells, NIs_scells, NIs_bcells, NIs_Val, NIs_Col, NIs_Schema, NIs_PNode, NIs_Src, NIr_Val, NIr_Col, NIr_ints, NIr_PNode]; try simp) (holds_ok_walk op k)

set_option maxHeartbeats 4000000 in
theorem not_ok_walk (a : Int) : PC Try.prog 57 [iv a] [] (fun yR kR => Tof noTau kR yR (iv (vNot a))) := by
  refine PC.of_bodyV Try.func57 rfl [iv a, U, U, U, U, U, U, U] (by kernel_rfl) (fun K0 hret => ?_)
  refine PV.seq_k fun K1 hK1 => ?_
  refine PV.regionN ?_
  refine PON.runs 1 (by kernel_rfl) ?_
  refine PON.fin rfl (thenA_normal (hK1 _ ?_))
  refine PV.seq_k fun K2 hK2 => ?_
  refine PV.seq_k fun K3 hK3 => ?_
  refine PV.regionN ?_
  refine PON.runs 2 (by kernel_rfl) ?_
  refine PON.fin rfl (thenA_normal (hK3 _ ?_))
  refine PV.condP (a = 2) (decide (a = 2)) (by kernel_rfl) decide_eq_true decide_eq_false (fun h4 => ?_) (fun h4 => ?_)
  · skip
    refine PV.seq_k fun K5 hK5 => ?_
    refine PV.regionN ?_
    refine PON.runs 2 (by kernel_rfl) ?_
    refine PON.fin rfl (thenA_normal (hK5 _ ?_))
    refine PV.norm ⟨[iv a, U, iv a, iv a, bv (decide (a = 2)), iv a, U, U], []⟩ (by kernel_rfl) ?_
    refine PV.ret (thenA_ret (hret .ret _ (iv a) (.inr rfl) (by kernel_rfl) ?_))
    clear hret hK1 hK2 hK3 hK5 K0 K1 K2 K3 K5
    show Tof noTau [] (iv a) (iv (vNot a))
    -- leaf 1
    refine Tof.int ?_
    grind [vNot]
  refine PV.skip (thenA_normal (hK2 _ ?_))
  refine PV.seq_k fun K6 hK6 => ?_
  refine PV.regionN ?_
  refine PON.runs 3 (by kernel_rfl) ?_
  refine PON.fin rfl (thenA_normal (hK6 _ ?_))
  refine PV.norm ⟨[iv a, U, iv (IntKind.i64.wrap (1 - a)), iv a, bv (decide (a = 2)), U, iv a, iv (IntKind.i64.wrap (1 - a))], []⟩ (by kernel_rfl) ?_
  refine PV.ret (hret .ret _ (iv (IntKind.i64.wrap (1 - a))) (.inr rfl) (by kernel_rfl) ?_)
  clear hret hK1 hK2 hK3 hK6 K0 K1 K2 K3 K6
  show Tof noTau [] (iv (IntKind.i64.wrap (1 - a))) (iv (vNot a))
  -- leaf 2
  refine Tof.int ?_
  grind [vNot]
theorem not_ok (a : Int) : PCX Try.prog 57 [iv a] [] [] (iv (vNot a)) :=
  PCX.frame (by simp only [NIs_cons, NIs_nil, NIr_cons, NIr_nil, NI_v, NI_any, NI_pO, NI_sO, NI_pF, NI_sF, NI_agg, NI_tup, NI_fn, NIh_nil, NIh_live, NIh_dead, NIh_free, NIr_map, NIr_append, NIs_icells, NIs_scells, NIs_bcells, NIs_Val, NIs_Col, NIs_Schema, NIs_PNode, NIs_Src, NIr_Val, NIr_Col, NIr_ints, NIr_PNode]; try simp) (not_ok_walk a)

set_option maxHeartbeats 4000000 in
theorem and_ok_walk (a : Int) (b : Int) : PC Try.prog 55 [iv a, iv b] [] (fun yR kR => Tof noTau kR yR (iv (vAnd a b))) := by
  refine PC.of_bodyV Try.func55 rfl (iv a :: iv b :: U9 ([U, U, U, U, U, U, U, U])) (by kernel_rfl) (fun K0 hret => ?_)
  refine PV.seq_k fun K1 hK1 => ?_
  refine PV.regionN ?_
  refine PON.runs 1 (by kernel_rfl) ?_
  refine PON.fin rfl (thenA_normal (hK1 _ ?_))
  refine PV.seq_k fun K2 hK2 => ?_
  refine PV.block ?_
  refine PV.norm ⟨(iv a :: iv b :: U :: U :: iv 0 :: U9 ([U, U, U, U, U])), []⟩ (by kernel_rfl) ?_
  refine PV.seqR [] ⟨(iv a :: iv b :: U :: U :: iv 0 :: bv (decide ((a = 0) ∨ (b = 0))) :: A4 ([A, A, U, U, U, U, U, U, U])), []⟩ ?_ ?_
  · skip
    refine PV.regionN ?_
    refine PON.runs 3 (by kernel_rfl) ?_
    refine PON.norm ⟨(iv a :: iv b :: U :: U :: iv 0 :: U :: iv a :: bv (decide (a = 0)) :: bv (decide (a = 0)) :: U9 ([U])), []⟩ (by kernel_rfl) ?_
    refine PON.splitP (a = 0) 8 (decide (a = 0)) (iv a :: iv b :: U :: U :: iv 0 :: U :: iv a :: bv (decide (a = 0)) :: bv true :: U9 ([U])) (iv a :: iv b :: U :: U :: iv 0 :: U :: iv a :: bv (decide (a = 0)) :: bv false :: U9 ([U])) (by kernel_rfl) decide_eq_true decide_eq_false (by kernel_rfl) (by kernel_rfl) (fun h3 => ?_) (fun h3 => ?_)
    · skip
      refine PON.runs 4 (by kernel_rfl) ?_
      refine PON.norm ⟨[iv a, iv b, U, U, iv 0, bv true, iv a, bv (decide (a = 0)), bv true, U, U, bv true, U, U, U, U, U, U, U], []⟩ (by kernel_rfl) ?_
      refine PON.fin rfl (thenA_normal ?_)
      exact ⟨rfl, rfl, (.v (.v (.v (.v (.v (.cons (.eq (.v _) (v_bool (by clear hret hK1 hK2 K0 K1 K2; (try simp only [strEq_dec]); grind))) (.a4 (.any (.any (.v (.v (.v (.v (.v (.v (.v .nil)))))))))))))))), .nil⟩
    refine PON.runs 4 (by kernel_rfl) ?_
    refine PON.norm ⟨[iv a, iv b, U, U, iv 0, bv (decide (b = 0)), iv a, bv (decide (a = 0)), bv false, iv b, bv (decide (b = 0)), bv (decide (b = 0)), U, U, U, U, U, U, U], []⟩ (by kernel_rfl) ?_
    refine PON.fin rfl (thenA_normal ?_)
    exact ⟨rfl, rfl, (.v (.v (.v (.v (.v (.cons (.eq (.v _) (v_bool (by clear hret hK1 hK2 K0 K1 K2; (try simp only [strEq_dec]); grind))) (.a4 (.any (.any (.v (.v (.v (.v (.v (.v (.v .nil)))))))))))))))), .nil⟩
  refine PV.condP ((a = 0) ∨ (b = 0)) (decide ((a = 0) ∨ (b = 0))) (by kernel_rfl) decide_eq_true decide_eq_false (fun h4 => ?_) (fun h4 => ?_)
  · skip
    refine PV.seq_k fun K5 hK5 => ?_
    refine PV.regionN ?_
    refine PON.runs 1 (by kernel_rfl) ?_
    refine PON.fin rfl (thenA_normal (hK5 _ ?_))
    refine PV.norm ⟨(iv a :: iv b :: U :: U :: iv 0 :: bv (decide ((a = 0) ∨ (b = 0))) :: A4 ([A, A, U, U, U, U, U, U, U])), []⟩ (by kernel_rfl) ?_
    refine PV.ret (inBlockA_ret (thenA_ret (hret .ret _ (iv 0) (.inr rfl) (by kernel_rfl) ?_)))
    clear hret hK1 hK2 hK5 K0 K1 K2 K5
    show Tof noTau [] (iv 0) (iv (vAnd a b))
    -- leaf 1
    refine Tof.int ?_
    grind [vAnd]
  refine PV.seqR [] ⟨(iv a :: iv b :: U :: U :: iv 0 :: bv (decide ((a = 0) ∨ (b = 0))) :: A4 (A :: A :: bv (decide ((a = 1) ∧ (b = 1))) :: A4 ([A, A]))), []⟩ ?_ ?_
  · skip
    refine PV.regionN ?_
    refine PON.runs 3 (by kernel_rfl) ?_
    refine PON.norm ⟨(iv a :: iv b :: U :: U :: iv 0 :: bv (decide ((a = 0) ∨ (b = 0))) :: A4 ([A, A, U, iv a, bv (decide (a = 1)), bv (decide (a = 1)), U, U, U])), []⟩ (by kernel_rfl) ?_
    refine PON.splitP (a = 1) 15 (decide (a = 1)) (iv a :: iv b :: U :: U :: iv 0 :: bv (decide ((a = 0) ∨ (b = 0))) :: A4 ([A, A, U, iv a, bv (decide (a = 1)), bv true, U, U, U])) (iv a :: iv b :: U :: U :: iv 0 :: bv (decide ((a = 0) ∨ (b = 0))) :: A4 ([A, A, U, iv a, bv (decide (a = 1)), bv false, U, U, U])) (by kernel_rfl) decide_eq_true decide_eq_false (by kernel_rfl) (by kernel_rfl) (fun h6 => ?_) (fun h6 => ?_)
    · skip
      refine PON.runs 4 (by kernel_rfl) ?_
      refine PON.norm ⟨(iv a :: iv b :: U :: U :: iv 0 :: bv (decide ((a = 0) ∨ (b = 0))) :: A4 ([A, A, bv (decide (b = 1)), iv a, bv (decide (a = 1)), bv true, iv b, bv (decide (b = 1)), bv (decide (b = 1))])), []⟩ (by kernel_rfl) ?_
      refine PON.fin rfl (thenA_normal ?_)
      exact ⟨rfl, rfl, (.v (.v (.v (.v (.v (.v (.a4 (.any (.any (.cons (.eq (.v _) (v_bool (by clear hret hK1 hK2 K0 K1 K2; (try simp only [strEq_dec]); grind))) (.a4 (.any (.any .nil))))))))))))), .nil⟩
    refine PON.runs 4 (by kernel_rfl) ?_
    refine PON.norm ⟨(iv a :: iv b :: U :: U :: iv 0 :: bv (decide ((a = 0) ∨ (b = 0))) :: A4 ([A, A, bv false, iv a, bv (decide (a = 1)), bv false, U, U, bv false])), []⟩ (by kernel_rfl) ?_
    refine PON.fin rfl (thenA_normal ?_)
    exact ⟨rfl, rfl, (.v (.v (.v (.v (.v (.v (.a4 (.any (.any (.cons (.eq (.v _) (v_bool (by clear hret hK1 hK2 K0 K1 K2; (try simp only [strEq_dec]); grind))) (.a4 (.any (.any .nil))))))))))))), .nil⟩
  refine PV.condP ((a = 1) ∧ (b = 1)) (decide ((a = 1) ∧ (b = 1))) (by kernel_rfl) decide_eq_true decide_eq_false (fun h7 => ?_) (fun h7 => ?_)
  · skip
    refine PV.seq_k fun K8 hK8 => ?_
    refine PV.regionN ?_
    refine PON.runs 1 (by kernel_rfl) ?_
    refine PON.fin rfl (thenA_normal (hK8 _ ?_))
    refine PV.norm ⟨(iv a :: iv b :: U :: U :: iv 1 :: bv (decide ((a = 0) ∨ (b = 0))) :: A4 (A :: A :: bv (decide ((a = 1) ∧ (b = 1))) :: A4 ([A, A]))), []⟩ (by kernel_rfl) ?_
    refine PV.ret (inBlockA_ret (thenA_ret (hret .ret _ (iv 1) (.inr rfl) (by kernel_rfl) ?_)))
    clear hret hK1 hK2 hK8 K0 K1 K2 K8
    show Tof noTau [] (iv 1) (iv (vAnd a b))
    -- leaf 2
    refine Tof.int ?_
    grind [vAnd]
  refine PV.skip (inBlockA_normal (thenA_normal (hK2 _ ?_)))
  refine PV.seq_k fun K9 hK9 => ?_
  refine PV.regionN ?_
  refine PON.runs 1 (by kernel_rfl) ?_
  refine PON.fin rfl (thenA_normal (hK9 _ ?_))
  refine PV.norm ⟨(iv a :: iv b :: U :: U :: iv 2 :: bv (decide ((a = 0) ∨ (b = 0))) :: A4 (A :: A :: bv (decide ((a = 1) ∧ (b = 1))) :: A4 ([A, A]))), []⟩ (by kernel_rfl) ?_
  refine PV.ret (hret .ret _ (iv 2) (.inr rfl) (by kernel_rfl) ?_)
  clear hret hK1 hK2 hK9 K0 K1 K2 K9
  show Tof noTau [] (iv 2) (iv (vAnd a b))
  -- leaf 3
  refine Tof.int ?_
  grind [vAnd]
theorem and_ok (a : Int) (b : Int) : PCX Try.prog 55 [iv a, iv b] [] [] (iv (vAnd a b)) :=
  PCX.frame (by simp only [NIs_cons, NIs_nil, NIr_cons, NIr_nil, NI_v, NI_any, NI_pO, NI_sO, NI_pF, NI_sF, NI_agg, NI_tup, NI_fn, NIh_nil, NIh_live, NIh_dead, NIh_free, NIr_map, NIr_append, NIs_icells, NIs_scells, NIs_bcells, NIs_Val, NIs_Col, NIs_Schema, NIs_PNode, NIs_Src, NIr_Val, NIr_Col, NIr_ints, NIr_PNode]; try simp) (and_ok_walk a b)

set_option maxHeartbeats 4000000 in
theorem or_ok_walk (a : Int) (b : Int) : PC Try.prog 56 [iv a, iv b] [] (fun yR kR => Tof noTau kR yR (iv (vNot (vAnd (vNot a) (vNot b))))) := by
  refine PC.of_bodyV Try.func56 rfl (iv a :: iv b :: U9 ([])) (by kernel_rfl) (fun K0 hret => ?_)
  refine PV.seq_k fun K1 hK1 => ?_
  refine PV.regionN ?_
  refine PON.runs 1 (by kernel_rfl) ?_
  refine PON.fin rfl (thenA_normal (hK1 _ ?_))
  refine PV.seq_k fun K2 hK2 => ?_
  refine PV.regionN ?_
  refine PON.runs 1 (by kernel_rfl) ?_
  refine PON.call 57 [iv a] (some 6) (pre := []) (post := []) (x := iv (vNot a)) _ (by kernel_rfl) (not_ok a) trivial rfl ?_
  refine PON.runs 1 (by kernel_rfl) ?_
  refine PON.call 57 [iv b] (some 8) (pre := []) (post := []) (x := iv (vNot b)) _ (by kernel_rfl) (not_ok b) trivial rfl ?_
  refine PON.call 55 [iv (vNot a), iv (vNot b)] (some 9) (pre := []) (post := []) (x := iv (vAnd (vNot a) (vNot b))) _ (by kernel_rfl) (and_ok (vNot a) (vNot b)) trivial rfl ?_
  refine PON.call 57 [iv (vAnd (vNot a) (vNot b))] (some 10) (pre := []) (post := []) (x := iv (vNot (vAnd (vNot a) (vNot b)))) _ (by kernel_rfl) (not_ok (vAnd (vNot a) (vNot b))) trivial rfl ?_
  refine PON.runs 1 (by kernel_rfl) ?_
  refine PON.fin rfl (thenA_normal (hK2 _ ?_))
  refine PV.norm ⟨[iv a, iv b, U, U, iv (vNot (vAnd (vNot a) (vNot b))), iv a, iv (vNot a), iv b, iv (vNot b), iv (vAnd (vNot a) (vNot b)), iv (vNot (vAnd (vNot a) (vNot b)))], []⟩ (by kernel_rfl) ?_
  refine PV.ret (hret .ret _ (iv (vNot (vAnd (vNot a) (vNot b)))) (.inr rfl) (by kernel_rfl) ?_)
  clear hret hK1 hK2 K0 K1 K2
  show Tof noTau [] (iv (vNot (vAnd (vNot a) (vNot b)))) (iv (vNot (vAnd (vNot a) (vNot b))))
  -- leaf 1
  exact Tof.int rfl
theorem or_ok (a : Int) (b : Int) : PCX Try.prog 56 [iv a, iv b] [] [] (iv (vNot (vAnd (vNot a) (vNot b)))) :=
  PCX.frame (by simp only [NIs_cons, NIs_nil, NIr_cons, NIr_nil, NI_v, NI_any, NI_pO, NI_sO, NI_pF, NI_sF, NI_agg, NI_tup, NI_fn, NIh_nil, NIh_live, NIh_dead, NIh_free, NIr_map, NIr_append, NIs_icells, NIs_scells, NIs_bcells, NIs_Val, NIs_Col, NIs_Schema, NIs_PNode, NIs_Src, NIr_Val, NIr_Col, NIr_ints, NIr_PNode]; try simp) (or_ok_walk a b)

set_option maxHeartbeats 4000000 in
theorem combine_ok_walk (op : Int) (a : Int) (b : Int) : PC Try.prog 27 [iv op, iv a, iv b] [] (fun yR kR => Tof noTau kR yR (iv (vCombine op a b))) := by
  refine PC.of_bodyV Try.func27 rfl (iv op :: iv a :: iv b :: U9 (U9 (U9 (U9 (U9 ([U])))))) (by kernel_rfl) (fun K0 hret => ?_)
  refine PV.seq_k fun K1 hK1 => ?_
  refine PV.regionN ?_
  refine PON.runs 1 (by kernel_rfl) ?_
  refine PON.fin rfl (thenA_normal (hK1 _ ?_))
  refine PV.seq_k fun K2 hK2 => ?_
  refine PV.block ?_
  refine PV.norm ⟨(iv op :: iv a :: iv b :: U :: U :: U :: iv 0 :: U9 (U9 (U9 (U9 ([U, U, U, U, U, U]))))), []⟩ (by kernel_rfl) ?_
  refine PV.seqR [] ⟨(iv op :: iv a :: iv b :: U :: U :: U :: iv 0 :: bv (decide ((op = 11) ∧ (a = 2))) :: A4 (A :: A :: U9 (U9 (U9 ([U, U, U, U, U, U, U, U]))))), []⟩ ?_ ?_
  · skip
    refine PV.regionN ?_
    refine PON.runs 3 (by kernel_rfl) ?_
    refine PON.norm ⟨(iv op :: iv a :: iv b :: U :: U :: U :: iv 0 :: U :: iv op :: bv (decide (op = 11)) :: bv (decide (op = 11)) :: U9 (U9 (U9 (U9 ([U, U]))))), []⟩ (by kernel_rfl) ?_
    refine PON.splitP (op = 11) 10 (decide (op = 11)) (iv op :: iv a :: iv b :: U :: U :: U :: iv 0 :: U :: iv op :: bv (decide (op = 11)) :: bv true :: U9 (U9 (U9 (U9 ([U, U]))))) (iv op :: iv a :: iv b :: U :: U :: U :: iv 0 :: U :: iv op :: bv (decide (op = 11)) :: bv false :: U9 (U9 (U9 (U9 ([U, U]))))) (by kernel_rfl) decide_eq_true decide_eq_false (by kernel_rfl) (by kernel_rfl) (fun h3 => ?_) (fun h3 => ?_)
    · skip
      refine PON.runs 4 (by kernel_rfl) ?_
      refine PON.norm ⟨(iv op :: iv a :: iv b :: U :: U :: U :: iv 0 :: bv (decide (a = 2)) :: iv op :: bv (decide (op = 11)) :: bv true :: iv a :: bv (decide (a = 2)) :: bv (decide (a = 2)) :: U9 (U9 (U9 ([U, U, U, U, U, U, U, U])))), []⟩ (by kernel_rfl) ?_
      refine PON.fin rfl (thenA_normal ?_)
      exact ⟨rfl, rfl, (.v (.v (.v (.v (.v (.v (.v (.cons (.eq (.v _) (v_bool (by clear hret hK1 hK2 K0 K1 K2; (try simp only [strEq_dec]); grind))) (.a4 (.any (.any (.v (.v (.v (.v (.v (.v (.v (.v (.v (.v (.v (.v (.v (.v (.v (.v (.v (.v (.v (.v (.v (.v (.v (.v (.v (.v (.v (.v (.v (.v (.v (.v (.v (.v (.v .nil)))))))))))))))))))))))))))))))))))))))))))))), .nil⟩
    refine PON.runs 4 (by kernel_rfl) ?_
    refine PON.norm ⟨(iv op :: iv a :: iv b :: U :: U :: U :: iv 0 :: bv false :: iv op :: bv (decide (op = 11)) :: bv false :: U :: U :: bv false :: U9 (U9 (U9 ([U, U, U, U, U, U, U, U])))), []⟩ (by kernel_rfl) ?_
    refine PON.fin rfl (thenA_normal ?_)
    exact ⟨rfl, rfl, (.v (.v (.v (.v (.v (.v (.v (.cons (.eq (.v _) (v_bool (by clear hret hK1 hK2 K0 K1 K2; (try simp only [strEq_dec]); grind))) (.a4 (.any (.any (.v (.v (.v (.v (.v (.v (.v (.v (.v (.v (.v (.v (.v (.v (.v (.v (.v (.v (.v (.v (.v (.v (.v (.v (.v (.v (.v (.v (.v (.v (.v (.v (.v (.v (.v .nil)))))))))))))))))))))))))))))))))))))))))))))), .nil⟩
  refine PV.condP ((op = 11) ∧ (a = 2)) (decide ((op = 11) ∧ (a = 2))) (by kernel_rfl) decide_eq_true decide_eq_false (fun h4 => ?_) (fun h4 => ?_)
  · skip
    refine PV.seq_k fun K5 hK5 => ?_
    refine PV.regionN ?_
    refine PON.runs 1 (by kernel_rfl) ?_
    refine PON.fin rfl (thenA_normal (hK5 _ ?_))
    refine PV.norm ⟨(iv op :: iv a :: iv b :: U :: U :: U :: iv 2 :: bv (decide ((op = 11) ∧ (a = 2))) :: A4 (A :: A :: U9 (U9 (U9 ([U, U, U, U, U, U, U, U]))))), []⟩ (by kernel_rfl) ?_
    refine PV.ret (inBlockA_ret (thenA_ret (hret .ret _ (iv 2) (.inr rfl) (by kernel_rfl) ?_)))
    clear hret hK1 hK2 hK5 K0 K1 K2 K5
    show Tof noTau [] (iv 2) (iv (vCombine op a b))
    -- leaf 1
    refine Tof.int ?_
    grind [vCombine]
  refine PV.seq_k fun K6 hK6 => ?_
  refine PV.regionN ?_
  refine PON.runs 3 (by kernel_rfl) ?_
  refine PON.fin rfl (thenA_normal (hK6 _ ?_))
  refine PV.condP (op = 11) (decide (op = 11)) (by kernel_rfl) decide_eq_true decide_eq_false (fun h7 => ?_) (fun h7 => ?_)
  · skip
    refine PV.seq_k fun K8 hK8 => ?_
    refine PV.regionN ?_
    refine PON.runs 3 (by kernel_rfl) ?_
    refine PON.fin rfl (thenA_normal (hK8 _ ?_))
    refine PV.norm ⟨(iv op :: iv a :: iv b :: U :: U :: U :: iv (IntKind.i64.wrap (1 - a)) :: bv (decide ((op = 11) ∧ (a = 2))) :: A4 (A :: A :: bv (decide (op = 11)) :: iv op :: bv (decide (op = 11)) :: iv a :: iv (IntKind.i64.wrap (1 - a)) :: U9 (U9 (U9 ([U, U, U]))))), []⟩ (by kernel_rfl) ?_
    refine PV.ret (inBlockA_ret (thenA_ret (hret .ret _ (iv (IntKind.i64.wrap (1 - a))) (.inr rfl) (by kernel_rfl) ?_)))
    clear hret hK1 hK2 hK6 hK8 K0 K1 K2 K6 K8
    show Tof noTau [] (iv (IntKind.i64.wrap (1 - a))) (iv (vCombine op a b))
    -- leaf 2
    refine Tof.int ?_
    grind [vCombine]
  refine PV.norm ⟨(iv op :: iv a :: iv b :: U :: U :: U :: iv 0 :: bv (decide ((op = 11) ∧ (a = 2))) :: A4 (A :: A :: bv (decide (op = 11)) :: iv op :: bv (decide (op = 11)) :: U9 (U9 (U9 ([U, U, U, U, U]))))), []⟩ (by kernel_rfl) ?_
  refine PV.seqR [] ⟨(iv op :: iv a :: iv b :: U :: U :: U :: iv 0 :: bv (decide ((op = 11) ∧ (a = 2))) :: A4 (A :: A :: bv (decide (op = 11)) :: iv op :: bv (decide (op = 11)) :: U :: U :: bv (decide ((op = 9) ∧ ((a = 0) ∨ (b = 0)))) :: A9 (A :: U9 (U9 ([U]))))), []⟩ ?_ ?_
  · skip
    refine PV.regionN ?_
    refine PON.runs 3 (by kernel_rfl) ?_
    refine PON.norm ⟨(iv op :: iv a :: iv b :: U :: U :: U :: iv 0 :: bv (decide ((op = 11) ∧ (a = 2))) :: A4 (A :: A :: bv (decide (op = 11)) :: iv op :: bv (decide (op = 11)) :: U :: U :: U :: iv op :: bv (decide (op = 9)) :: bv (decide (op = 9)) :: U9 (U9 ([U, U, U, U, U, U, U, U])))), []⟩ (by kernel_rfl) ?_
    refine PON.splitP (op = 9) 22 (decide (op = 9)) (iv op :: iv a :: iv b :: U :: U :: U :: iv 0 :: bv (decide ((op = 11) ∧ (a = 2))) :: A4 (A :: A :: bv (decide (op = 11)) :: iv op :: bv (decide (op = 11)) :: U :: U :: U :: iv op :: bv (decide (op = 9)) :: bv true :: U9 (U9 ([U, U, U, U, U, U, U, U])))) (iv op :: iv a :: iv b :: U :: U :: U :: iv 0 :: bv (decide ((op = 11) ∧ (a = 2))) :: A4 (A :: A :: bv (decide (op = 11)) :: iv op :: bv (decide (op = 11)) :: U :: U :: U :: iv op :: bv (decide (op = 9)) :: bv false :: U9 (U9 ([U, U, U, U, U, U, U, U])))) (by kernel_rfl) decide_eq_true decide_eq_false (by kernel_rfl) (by kernel_rfl) (fun h9 => ?_) (fun h9 => ?_)
    · skip
      refine PON.runs 3 (by kernel_rfl) ?_
      refine PON.norm ⟨(iv op :: iv a :: iv b :: U :: U :: U :: iv 0 :: bv (decide ((op = 11) ∧ (a = 2))) :: A4 (A :: A :: bv (decide (op = 11)) :: iv op :: bv (decide (op = 11)) :: U :: U :: U :: iv op :: bv (decide (op = 9)) :: bv true :: iv a :: bv (decide (a = 0)) :: bv (decide (a = 0)) :: U9 (U9 ([U, U, U, U, U])))), []⟩ (by kernel_rfl) ?_
      refine PON.splitP (a = 0) 25 (decide (a = 0)) (iv op :: iv a :: iv b :: U :: U :: U :: iv 0 :: bv (decide ((op = 11) ∧ (a = 2))) :: A4 (A :: A :: bv (decide (op = 11)) :: iv op :: bv (decide (op = 11)) :: U :: U :: U :: iv op :: bv (decide (op = 9)) :: bv true :: iv a :: bv (decide (a = 0)) :: bv true :: U9 (U9 ([U, U, U, U, U])))) (iv op :: iv a :: iv b :: U :: U :: U :: iv 0 :: bv (decide ((op = 11) ∧ (a = 2))) :: A4 (A :: A :: bv (decide (op = 11)) :: iv op :: bv (decide (op = 11)) :: U :: U :: U :: iv op :: bv (decide (op = 9)) :: bv true :: iv a :: bv (decide (a = 0)) :: bv false :: U9 (U9 ([U, U, U, U, U])))) (by kernel_rfl) decide_eq_true decide_eq_false (by kernel_rfl) (by kernel_rfl) (fun h10 => ?_) (fun h10 => ?_)
      · skip
        refine PON.runs 5 (by kernel_rfl) ?_
        refine PON.norm ⟨(iv op :: iv a :: iv b :: U :: U :: U :: iv 0 :: bv (decide ((op = 11) ∧ (a = 2))) :: A4 (A :: A :: bv (decide (op = 11)) :: iv op :: bv (decide (op = 11)) :: U :: U :: bv true :: iv op :: bv (decide (op = 9)) :: bv true :: iv a :: bv (decide (a = 0)) :: bv true :: U :: U :: bv true :: bv true :: U9 (U9 ([U])))), []⟩ (by kernel_rfl) ?_
        refine PON.fin rfl (thenA_normal ?_)
        exact ⟨rfl, rfl, (.v (.v (.v (.v (.v (.v (.v (.v (.a4 (.any (.any (.v (.v (.v (.v (.v (.cons (.eq (.v _) (v_bool (by clear hret hK1 hK2 hK6 K0 K1 K2 K6; (try simp only [strEq_dec]); grind))) (.a9 (.any (.v (.v (.v (.v (.v (.v (.v (.v (.v (.v (.v (.v (.v (.v (.v (.v (.v (.v (.v .nil)))))))))))))))))))))))))))))))))))))), .nil⟩
      refine PON.runs 5 (by kernel_rfl) ?_
      refine PON.norm ⟨(iv op :: iv a :: iv b :: U :: U :: U :: iv 0 :: bv (decide ((op = 11) ∧ (a = 2))) :: A4 (A :: A :: bv (decide (op = 11)) :: iv op :: bv (decide (op = 11)) :: U :: U :: bv (decide (b = 0)) :: iv op :: bv (decide (op = 9)) :: bv true :: iv a :: bv (decide (a = 0)) :: bv false :: iv b :: bv (decide (b = 0)) :: bv (decide (b = 0)) :: bv (decide (b = 0)) :: U9 (U9 ([U])))), []⟩ (by kernel_rfl) ?_
      refine PON.fin rfl (thenA_normal ?_)
      exact ⟨rfl, rfl, (.v (.v (.v (.v (.v (.v (.v (.v (.a4 (.any (.any (.v (.v (.v (.v (.v (.cons (.eq (.v _) (v_bool (by clear hret hK1 hK2 hK6 K0 K1 K2 K6; (try simp only [strEq_dec]); grind))) (.a9 (.any (.v (.v (.v (.v (.v (.v (.v (.v (.v (.v (.v (.v (.v (.v (.v (.v (.v (.v (.v .nil)))))))))))))))))))))))))))))))))))))), .nil⟩
    refine PON.runs 8 (by kernel_rfl) ?_
    refine PON.norm ⟨(iv op :: iv a :: iv b :: U :: U :: U :: iv 0 :: bv (decide ((op = 11) ∧ (a = 2))) :: A4 (A :: A :: bv (decide (op = 11)) :: iv op :: bv (decide (op = 11)) :: U :: U :: bv false :: iv op :: bv (decide (op = 9)) :: bv false :: U :: U :: U :: U :: U :: U :: bv false :: U9 (U9 ([U])))), []⟩ (by kernel_rfl) ?_
    refine PON.fin rfl (thenA_normal ?_)
    exact ⟨rfl, rfl, (.v (.v (.v (.v (.v (.v (.v (.v (.a4 (.any (.any (.v (.v (.v (.v (.v (.cons (.eq (.v _) (v_bool (by clear hret hK1 hK2 hK6 K0 K1 K2 K6; (try simp only [strEq_dec]); grind))) (.a9 (.any (.v (.v (.v (.v (.v (.v (.v (.v (.v (.v (.v (.v (.v (.v (.v (.v (.v (.v (.v .nil)))))))))))))))))))))))))))))))))))))), .nil⟩
  refine PV.condP ((op = 9) ∧ ((a = 0) ∨ (b = 0))) (decide ((op = 9) ∧ ((a = 0) ∨ (b = 0)))) (by kernel_rfl) decide_eq_true decide_eq_false (fun h11 => ?_) (fun h11 => ?_)
  · skip
    refine PV.seq_k fun K12 hK12 => ?_
    refine PV.regionN ?_
    refine PON.runs 1 (by kernel_rfl) ?_
    refine PON.fin rfl (thenA_normal (hK12 _ ?_))
    refine PV.norm ⟨(iv op :: iv a :: iv b :: U :: U :: U :: iv 0 :: bv (decide ((op = 11) ∧ (a = 2))) :: A4 (A :: A :: bv (decide (op = 11)) :: iv op :: bv (decide (op = 11)) :: U :: U :: bv (decide ((op = 9) ∧ ((a = 0) ∨ (b = 0)))) :: A9 (A :: U9 (U9 ([U]))))), []⟩ (by kernel_rfl) ?_
    refine PV.ret (inBlockA_ret (thenA_ret (hret .ret _ (iv 0) (.inr rfl) (by kernel_rfl) ?_)))
    clear hret hK1 hK2 hK6 hK12 K0 K1 K2 K6 K12
    show Tof noTau [] (iv 0) (iv (vCombine op a b))
    -- leaf 3
    refine Tof.int ?_
    grind [vCombine]
  refine PV.seqR [] ⟨(iv op :: iv a :: iv b :: U :: U :: U :: iv 0 :: bv (decide ((op = 11) ∧ (a = 2))) :: A4 (A :: A :: bv (decide (op = 11)) :: iv op :: bv (decide (op = 11)) :: U :: U :: bv (decide ((op = 9) ∧ ((a = 0) ∨ (b = 0)))) :: A9 (A :: bv (decide ((op = 10) ∧ ((a = 1) ∨ (b = 1)))) :: A9 ([A, U, U, U, U, U, U, U, U])))), []⟩ ?_ ?_
  · skip
    refine PV.regionN ?_
    refine PON.runs 3 (by kernel_rfl) ?_
    refine PON.norm ⟨(iv op :: iv a :: iv b :: U :: U :: U :: iv 0 :: bv (decide ((op = 11) ∧ (a = 2))) :: A4 (A :: A :: bv (decide (op = 11)) :: iv op :: bv (decide (op = 11)) :: U :: U :: bv (decide ((op = 9) ∧ ((a = 0) ∨ (b = 0)))) :: A9 (A :: U :: iv op :: bv (decide (op = 10)) :: bv (decide (op = 10)) :: U9 ([U, U, U, U, U, U])))), []⟩ (by kernel_rfl) ?_
    refine PON.splitP (op = 10) 33 (decide (op = 10)) (iv op :: iv a :: iv b :: U :: U :: U :: iv 0 :: bv (decide ((op = 11) ∧ (a = 2))) :: A4 (A :: A :: bv (decide (op = 11)) :: iv op :: bv (decide (op = 11)) :: U :: U :: bv (decide ((op = 9) ∧ ((a = 0) ∨ (b = 0)))) :: A9 (A :: U :: iv op :: bv (decide (op = 10)) :: bv true :: U9 ([U, U, U, U, U, U])))) (iv op :: iv a :: iv b :: U :: U :: U :: iv 0 :: bv (decide ((op = 11) ∧ (a = 2))) :: A4 (A :: A :: bv (decide (op = 11)) :: iv op :: bv (decide (op = 11)) :: U :: U :: bv (decide ((op = 9) ∧ ((a = 0) ∨ (b = 0)))) :: A9 (A :: U :: iv op :: bv (decide (op = 10)) :: bv false :: U9 ([U, U, U, U, U, U])))) (by kernel_rfl) decide_eq_true decide_eq_false (by kernel_rfl) (by kernel_rfl) (fun h13 => ?_) (fun h13 => ?_)
    · skip
      refine PON.runs 3 (by kernel_rfl) ?_
      refine PON.norm ⟨(iv op :: iv a :: iv b :: U :: U :: U :: iv 0 :: bv (decide ((op = 11) ∧ (a = 2))) :: A4 (A :: A :: bv (decide (op = 11)) :: iv op :: bv (decide (op = 11)) :: U :: U :: bv (decide ((op = 9) ∧ ((a = 0) ∨ (b = 0)))) :: A9 (A :: U :: iv op :: bv (decide (op = 10)) :: bv true :: iv a :: bv (decide (a = 1)) :: bv (decide (a = 1)) :: U9 ([U, U, U])))), []⟩ (by kernel_rfl) ?_
      refine PON.splitP (a = 1) 36 (decide (a = 1)) (iv op :: iv a :: iv b :: U :: U :: U :: iv 0 :: bv (decide ((op = 11) ∧ (a = 2))) :: A4 (A :: A :: bv (decide (op = 11)) :: iv op :: bv (decide (op = 11)) :: U :: U :: bv (decide ((op = 9) ∧ ((a = 0) ∨ (b = 0)))) :: A9 (A :: U :: iv op :: bv (decide (op = 10)) :: bv true :: iv a :: bv (decide (a = 1)) :: bv true :: U9 ([U, U, U])))) (iv op :: iv a :: iv b :: U :: U :: U :: iv 0 :: bv (decide ((op = 11) ∧ (a = 2))) :: A4 (A :: A :: bv (decide (op = 11)) :: iv op :: bv (decide (op = 11)) :: U :: U :: bv (decide ((op = 9) ∧ ((a = 0) ∨ (b = 0)))) :: A9 (A :: U :: iv op :: bv (decide (op = 10)) :: bv true :: iv a :: bv (decide (a = 1)) :: bv false :: U9 ([U, U, U])))) (by kernel_rfl) decide_eq_true decide_eq_false (by kernel_rfl) (by kernel_rfl) (fun h14 => ?_) (fun h14 => ?_)
      · skip
        refine PON.runs 5 (by kernel_rfl) ?_
        refine PON.norm ⟨(iv op :: iv a :: iv b :: U :: U :: U :: iv 0 :: bv (decide ((op = 11) ∧ (a = 2))) :: A4 (A :: A :: bv (decide (op = 11)) :: iv op :: bv (decide (op = 11)) :: U :: U :: bv (decide ((op = 9) ∧ ((a = 0) ∨ (b = 0)))) :: A9 ([A, bv true, iv op, bv (decide (op = 10)), bv true, iv a, bv (decide (a = 1)), bv true, U, U, bv true, bv true, U, U, U, U, U, U, U, U]))), []⟩ (by kernel_rfl) ?_
        refine PON.fin rfl (thenA_normal ?_)
        exact ⟨rfl, rfl, (.v (.v (.v (.v (.v (.v (.v (.v (.a4 (.any (.any (.v (.v (.v (.v (.v (.v (.a9 (.any (.cons (.eq (.v _) (v_bool (by clear hret hK1 hK2 hK6 K0 K1 K2 K6; (try simp only [strEq_dec]); grind))) (.a9 (.any (.v (.v (.v (.v (.v (.v (.v (.v .nil)))))))))))))))))))))))))))))), .nil⟩
      refine PON.runs 5 (by kernel_rfl) ?_
      refine PON.norm ⟨(iv op :: iv a :: iv b :: U :: U :: U :: iv 0 :: bv (decide ((op = 11) ∧ (a = 2))) :: A4 (A :: A :: bv (decide (op = 11)) :: iv op :: bv (decide (op = 11)) :: U :: U :: bv (decide ((op = 9) ∧ ((a = 0) ∨ (b = 0)))) :: A9 ([A, bv (decide (b = 1)), iv op, bv (decide (op = 10)), bv true, iv a, bv (decide (a = 1)), bv false, iv b, bv (decide (b = 1)), bv (decide (b = 1)), bv (decide (b = 1)), U, U, U, U, U, U, U, U]))), []⟩ (by kernel_rfl) ?_
      refine PON.fin rfl (thenA_normal ?_)
      exact ⟨rfl, rfl, (.v (.v (.v (.v (.v (.v (.v (.v (.a4 (.any (.any (.v (.v (.v (.v (.v (.v (.a9 (.any (.cons (.eq (.v _) (v_bool (by clear hret hK1 hK2 hK6 K0 K1 K2 K6; (try simp only [strEq_dec]); grind))) (.a9 (.any (.v (.v (.v (.v (.v (.v (.v (.v .nil)))))))))))))))))))))))))))))), .nil⟩
    refine PON.runs 8 (by kernel_rfl) ?_
    refine PON.norm ⟨(iv op :: iv a :: iv b :: U :: U :: U :: iv 0 :: bv (decide ((op = 11) ∧ (a = 2))) :: A4 (A :: A :: bv (decide (op = 11)) :: iv op :: bv (decide (op = 11)) :: U :: U :: bv (decide ((op = 9) ∧ ((a = 0) ∨ (b = 0)))) :: A9 ([A, bv false, iv op, bv (decide (op = 10)), bv false, U, U, U, U, U, U, bv false, U, U, U, U, U, U, U, U]))), []⟩ (by kernel_rfl) ?_
    refine PON.fin rfl (thenA_normal ?_)
    exact ⟨rfl, rfl, (.v (.v (.v (.v (.v (.v (.v (.v (.a4 (.any (.any (.v (.v (.v (.v (.v (.v (.a9 (.any (.cons (.eq (.v _) (v_bool (by clear hret hK1 hK2 hK6 K0 K1 K2 K6; (try simp only [strEq_dec]); grind))) (.a9 (.any (.v (.v (.v (.v (.v (.v (.v (.v .nil)))))))))))))))))))))))))))))), .nil⟩
  refine PV.condP ((op = 10) ∧ ((a = 1) ∨ (b = 1))) (decide ((op = 10) ∧ ((a = 1) ∨ (b = 1)))) (by kernel_rfl) decide_eq_true decide_eq_false (fun h15 => ?_) (fun h15 => ?_)
  · skip
    refine PV.seq_k fun K16 hK16 => ?_
    refine PV.regionN ?_
    refine PON.runs 1 (by kernel_rfl) ?_
    refine PON.fin rfl (thenA_normal (hK16 _ ?_))
    refine PV.norm ⟨(iv op :: iv a :: iv b :: U :: U :: U :: iv 1 :: bv (decide ((op = 11) ∧ (a = 2))) :: A4 (A :: A :: bv (decide (op = 11)) :: iv op :: bv (decide (op = 11)) :: U :: U :: bv (decide ((op = 9) ∧ ((a = 0) ∨ (b = 0)))) :: A9 (A :: bv (decide ((op = 10) ∧ ((a = 1) ∨ (b = 1)))) :: A9 ([A, U, U, U, U, U, U, U, U])))), []⟩ (by kernel_rfl) ?_
    refine PV.ret (inBlockA_ret (thenA_ret (hret .ret _ (iv 1) (.inr rfl) (by kernel_rfl) ?_)))
    clear hret hK1 hK2 hK6 hK16 K0 K1 K2 K6 K16
    show Tof noTau [] (iv 1) (iv (vCombine op a b))
    -- leaf 4
    refine Tof.int ?_
    grind [vCombine]
  refine PV.seqR [] ⟨(iv op :: iv a :: iv b :: U :: U :: U :: iv 0 :: bv (decide ((op = 11) ∧ (a = 2))) :: A4 (A :: A :: bv (decide (op = 11)) :: iv op :: bv (decide (op = 11)) :: U :: U :: bv (decide ((op = 9) ∧ ((a = 0) ∨ (b = 0)))) :: A9 (A :: bv (decide ((op = 10) ∧ ((a = 1) ∨ (b = 1)))) :: A9 (A :: bv (decide ((a = 2) ∨ (b = 2))) :: A4 ([A, A, U]))))), []⟩ ?_ ?_
  · skip
    refine PV.regionN ?_
    refine PON.runs 3 (by kernel_rfl) ?_
    refine PON.norm ⟨(iv op :: iv a :: iv b :: U :: U :: U :: iv 0 :: bv (decide ((op = 11) ∧ (a = 2))) :: A4 (A :: A :: bv (decide (op = 11)) :: iv op :: bv (decide (op = 11)) :: U :: U :: bv (decide ((op = 9) ∧ ((a = 0) ∨ (b = 0)))) :: A9 (A :: bv (decide ((op = 10) ∧ ((a = 1) ∨ (b = 1)))) :: A9 ([A, U, iv a, bv (decide (a = 2)), bv (decide (a = 2)), U, U, U, U])))), []⟩ (by kernel_rfl) ?_
    refine PON.splitP (a = 2) 44 (decide (a = 2)) (iv op :: iv a :: iv b :: U :: U :: U :: iv 0 :: bv (decide ((op = 11) ∧ (a = 2))) :: A4 (A :: A :: bv (decide (op = 11)) :: iv op :: bv (decide (op = 11)) :: U :: U :: bv (decide ((op = 9) ∧ ((a = 0) ∨ (b = 0)))) :: A9 (A :: bv (decide ((op = 10) ∧ ((a = 1) ∨ (b = 1)))) :: A9 ([A, U, iv a, bv (decide (a = 2)), bv true, U, U, U, U])))) (iv op :: iv a :: iv b :: U :: U :: U :: iv 0 :: bv (decide ((op = 11) ∧ (a = 2))) :: A4 (A :: A :: bv (decide (op = 11)) :: iv op :: bv (decide (op = 11)) :: U :: U :: bv (decide ((op = 9) ∧ ((a = 0) ∨ (b = 0)))) :: A9 (A :: bv (decide ((op = 10) ∧ ((a = 1) ∨ (b = 1)))) :: A9 ([A, U, iv a, bv (decide (a = 2)), bv false, U, U, U, U])))) (by kernel_rfl) decide_eq_true decide_eq_false (by kernel_rfl) (by kernel_rfl) (fun h17 => ?_) (fun h17 => ?_)
    · skip
      refine PON.runs 4 (by kernel_rfl) ?_
      refine PON.norm ⟨(iv op :: iv a :: iv b :: U :: U :: U :: iv 0 :: bv (decide ((op = 11) ∧ (a = 2))) :: A4 (A :: A :: bv (decide (op = 11)) :: iv op :: bv (decide (op = 11)) :: U :: U :: bv (decide ((op = 9) ∧ ((a = 0) ∨ (b = 0)))) :: A9 (A :: bv (decide ((op = 10) ∧ ((a = 1) ∨ (b = 1)))) :: A9 ([A, bv true, iv a, bv (decide (a = 2)), bv true, U, U, bv true, U])))), []⟩ (by kernel_rfl) ?_
      refine PON.fin rfl (thenA_normal ?_)
      exact ⟨rfl, rfl, (.v (.v (.v (.v (.v (.v (.v (.v (.a4 (.any (.any (.v (.v (.v (.v (.v (.v (.a9 (.any (.v (.a9 (.any (.cons (.eq (.v _) (v_bool (by clear hret hK1 hK2 hK6 K0 K1 K2 K6; (try simp only [strEq_dec]); grind))) (.a4 (.any (.any (.v .nil))))))))))))))))))))))))))), .nil⟩
    refine PON.runs 4 (by kernel_rfl) ?_
    refine PON.norm ⟨(iv op :: iv a :: iv b :: U :: U :: U :: iv 0 :: bv (decide ((op = 11) ∧ (a = 2))) :: A4 (A :: A :: bv (decide (op = 11)) :: iv op :: bv (decide (op = 11)) :: U :: U :: bv (decide ((op = 9) ∧ ((a = 0) ∨ (b = 0)))) :: A9 (A :: bv (decide ((op = 10) ∧ ((a = 1) ∨ (b = 1)))) :: A9 ([A, bv (decide (b = 2)), iv a, bv (decide (a = 2)), bv false, iv b, bv (decide (b = 2)), bv (decide (b = 2)), U])))), []⟩ (by kernel_rfl) ?_
    refine PON.fin rfl (thenA_normal ?_)
    exact ⟨rfl, rfl, (.v (.v (.v (.v (.v (.v (.v (.v (.a4 (.any (.any (.v (.v (.v (.v (.v (.v (.a9 (.any (.v (.a9 (.any (.cons (.eq (.v _) (v_bool (by clear hret hK1 hK2 hK6 K0 K1 K2 K6; (try simp only [strEq_dec]); grind))) (.a4 (.any (.any (.v .nil))))))))))))))))))))))))))), .nil⟩
  refine PV.condP ((a = 2) ∨ (b = 2)) (decide ((a = 2) ∨ (b = 2))) (by kernel_rfl) decide_eq_true decide_eq_false (fun h18 => ?_) (fun h18 => ?_)
  · skip
    refine PV.seq_k fun K19 hK19 => ?_
    refine PV.regionN ?_
    refine PON.runs 1 (by kernel_rfl) ?_
    refine PON.fin rfl (thenA_normal (hK19 _ ?_))
    refine PV.norm ⟨(iv op :: iv a :: iv b :: U :: U :: U :: iv 2 :: bv (decide ((op = 11) ∧ (a = 2))) :: A4 (A :: A :: bv (decide (op = 11)) :: iv op :: bv (decide (op = 11)) :: U :: U :: bv (decide ((op = 9) ∧ ((a = 0) ∨ (b = 0)))) :: A9 (A :: bv (decide ((op = 10) ∧ ((a = 1) ∨ (b = 1)))) :: A9 (A :: bv (decide ((a = 2) ∨ (b = 2))) :: A4 ([A, A, U]))))), []⟩ (by kernel_rfl) ?_
    refine PV.ret (inBlockA_ret (thenA_ret (hret .ret _ (iv 2) (.inr rfl) (by kernel_rfl) ?_)))
    clear hret hK1 hK2 hK6 hK19 K0 K1 K2 K6 K19
    show Tof noTau [] (iv 2) (iv (vCombine op a b))
    -- leaf 5
    refine Tof.int ?_
    grind [vCombine]
  refine PV.skip (inBlockA_normal (thenA_normal (hK2 _ ?_)))
  refine PV.seq_k fun K20 hK20 => ?_
  refine PV.regionN ?_
  refine PON.runs 2 (by kernel_rfl) ?_
  refine PON.fin rfl (thenA_normal (hK20 _ ?_))
  refine PV.norm ⟨(iv op :: iv a :: iv b :: U :: U :: U :: iv a :: bv (decide ((op = 11) ∧ (a = 2))) :: A4 (A :: A :: bv (decide (op = 11)) :: iv op :: bv (decide (op = 11)) :: U :: U :: bv (decide ((op = 9) ∧ ((a = 0) ∨ (b = 0)))) :: A9 (A :: bv (decide ((op = 10) ∧ ((a = 1) ∨ (b = 1)))) :: A9 (A :: bv (decide ((a = 2) ∨ (b = 2))) :: A4 ([A, A, iv a]))))), []⟩ (by kernel_rfl) ?_
  refine PV.ret (hret .ret _ (iv a) (.inr rfl) (by kernel_rfl) ?_)
  clear hret hK1 hK2 hK6 hK20 K0 K1 K2 K6 K20
  show Tof noTau [] (iv a) (iv (vCombine op a b))
  -- leaf 6
  refine Tof.int ?_
  grind [vCombine]
theorem combine_ok (op : Int) (a : Int) (b : Int) : PCX Try.prog 27 [iv op, iv a, iv b] [] [] (iv (vCombine op a b)) :=
  PCX.frame (by simp only [NIs_cons, NIs_nil, NIr_cons, NIr_nil, NI_v, NI_any, NI_pO, NI_sO, NI_pF, NI_sF, NI_agg, NI_tup, NI_fn, NIh_nil, NIh_live, NIh_dead, NIh_free, NIr_map, NIr_append, NIs_icells, NIs_scells, NIs_bcells, NIs_Val, NIs_Col, NIs_Schema, NIs_PNode, NIs_Src, NIr_Val, NIr_Col, NIr_ints, NIr_PNode]; try simp) (combine_ok_walk op a b)

set_option maxHeartbeats 4000000 in
theorem test_ok_walk (t : Int) (n : PNode) (x : Val) (hl : n.list.length ≤ maxLen) : PC Try.prog 28 [iv t, .agg (PNode.cells n), .agg (Val.cells x)] [] (fun yR kR => Tof noTau kR yR (iv (vTest t n x))) := by
  refine PC.of_bodyV Try.func28 rfl (iv t :: .agg (PNode.cells n) :: .agg (Val.cells x) :: U9 (U9 (U9 (U9 (U9 (U9 (U9 ([U, U, U, U, U])))))))) (by kernel_rfl) (fun K0 hret => ?_)
  unfold maxLen at hl
  refine PV.seq_k fun K1 hK1 => ?_
  refine PV.regionN ?_
  refine PON.runs 4 (by kernel_rfl) ?_
  refine PON.fin rfl (thenA_normal (hK1 _ ?_))
  refine PV.seq_k fun K2 hK2 => ?_
  refine PV.seq_k fun K3 hK3 => ?_
  refine PV.regionN ?_
  refine PON.runs 3 (by kernel_rfl) ?_
  refine PON.fin rfl (thenA_normal (hK3 _ ?_))
  refine PV.condP (n.op = 8) (decide (n.op = 8)) (by kernel_rfl) decide_eq_true decide_eq_false (fun h4 => ?_) (fun h4 => ?_)
  · skip
    refine PV.seq_k fun K5 hK5 => ?_
    refine PV.regionN ?_
    refine PON.runs 2 (by kernel_rfl) ?_
    refine PON.call 44 [bv x.null] (some 16) (pre := []) (post := []) (x := iv (vTruth x.null)) _ (by kernel_rfl) (truth_ok x.null) trivial rfl ?_
    refine PON.runs 1 (by kernel_rfl) ?_
    refine PON.fin rfl (thenA_normal (hK5 _ ?_))
    refine PV.norm ⟨(iv t :: .agg (PNode.cells n) :: .agg (Val.cells x) :: po 0 :: po 1 :: po 2 :: iv (vTruth x.null) :: U :: U :: U :: U :: po 1 :: iv n.op :: bv (decide (n.op = 8)) :: po 2 :: bv x.null :: iv (vTruth x.null) :: U9 (U9 (U9 (U9 (U9 (U9 ([]))))))), [.live ⟨1, [[iv t]], 3⟩, .live ⟨8, [(PNode.cells n)], 26⟩, .live ⟨3, [(Val.cells x)], 23⟩]⟩ (by kernel_rfl) ?_
    refine PV.ret (thenA_ret (hret .ret _ (iv (vTruth x.null)) (.inr rfl) (by kernel_rfl) ?_))
    clear hret hK1 hK2 hK3 hK5 K0 K1 K2 K3 K5
    show Tof noTau [.live ⟨1, [[iv t]], 3⟩, .live ⟨8, [(PNode.cells n)], 26⟩, .live ⟨3, [(Val.cells x)], 23⟩] (iv (vTruth x.null)) (iv (vTest t n x))
    -- leaf 1
    refine Tof.int ?_
    first | grind [vTest] | grind [vTest, anyEq, anyNull]
  refine PV.skip (thenA_normal (hK2 _ ?_))
  refine PV.seq_k fun K6 hK6 => ?_
  refine PV.seq_k fun K7 hK7 => ?_
  refine PV.regionN ?_
  refine PON.runs 2 (by kernel_rfl) ?_
  refine PON.fin rfl (thenA_normal (hK7 _ ?_))
  refine PV.condP (x.null = true) x.null (by kernel_rfl) (fun h => h) bool_ff (fun h8 => ?_) (fun h8 => ?_)
  · skip
    refine PV.seq_k fun K9 hK9 => ?_
    refine PV.regionN ?_
    refine PON.runs 1 (by kernel_rfl) ?_
    refine PON.fin rfl (thenA_normal (hK9 _ ?_))
    refine PV.norm ⟨(iv t :: .agg (PNode.cells n) :: .agg (Val.cells x) :: po 0 :: po 1 :: po 2 :: iv 2 :: U :: U :: U :: U :: po 1 :: iv n.op :: bv (decide (n.op = 8)) :: U :: U :: U :: po 2 :: bv x.null :: U9 (U9 (U9 (U9 (U9 ([U, U, U, U, U, U, U])))))), [.live ⟨1, [[iv t]], 3⟩, .live ⟨8, [(PNode.cells n)], 26⟩, .live ⟨3, [(Val.cells x)], 23⟩]⟩ (by kernel_rfl) ?_
    refine PV.ret (thenA_ret (hret .ret _ (iv 2) (.inr rfl) (by kernel_rfl) ?_))
    clear hret hK1 hK2 hK3 hK6 hK7 hK9 K0 K1 K2 K3 K6 K7 K9
    show Tof noTau [.live ⟨1, [[iv t]], 3⟩, .live ⟨8, [(PNode.cells n)], 26⟩, .live ⟨3, [(Val.cells x)], 23⟩] (iv 2) (iv (vTest t n x))
    -- leaf 2
    refine Tof.int ?_
    first | grind [vTest] | grind [vTest, anyEq, anyNull]
  refine PV.skip (thenA_normal (hK6 _ ?_))
  refine PV.seq_k fun K10 hK10 => ?_
  refine PV.regionN ?_
  refine PON.runs 4 (by kernel_rfl) ?_
  refine PON.call 45 [iv t, .agg (Val.cells x), .agg (Val.cells n.value)] (some 23) (pre := []) (post := []) (x := iv (vCompare t x n.value)) _ (by kernel_rfl) (vCompare_ok t x n.value) trivial rfl ?_
  refine PON.runs 1 (by kernel_rfl) ?_
  refine PON.fin rfl (thenA_normal (hK10 _ ?_))
  refine PV.seq_k fun K11 hK11 => ?_
  refine PV.seq_k fun K12 hK12 => ?_
  refine PV.regionN ?_
  refine PON.runs 2 (by kernel_rfl) ?_
  refine PON.fin rfl (thenA_normal (hK12 _ ?_))
  refine PV.block ?_
  refine PV.seq_k fun K13 hK13 => ?_
  refine PV.regionN ?_
  refine PON.runs 2 (by kernel_rfl) ?_
  refine PON.fin rfl (thenA_normal (hK13 _ ?_))
  refine PV.condP (n.op = 1) (decide (n.op = 1)) (by kernel_rfl) decide_eq_true decide_eq_false (fun h14 => ?_) (fun h14 => ?_)
  · skip
    refine PV.seq_k fun K15 hK15 => ?_
    refine PV.regionN ?_
    refine PON.runs 2 (by kernel_rfl) ?_
    refine PON.call 44 [bv (decide ((vCompare t x n.value) = 0))] (some 30) (pre := []) (post := []) (x := iv (vTruth (decide ((vCompare t x n.value) = 0)))) _ (by kernel_rfl) (truth_ok (decide ((vCompare t x n.value) = 0))) trivial rfl ?_
    refine PON.runs 1 (by kernel_rfl) ?_
    refine PON.fin rfl (thenA_normal (hK15 _ ?_))
    refine PV.norm ⟨(iv t :: .agg (PNode.cells n) :: .agg (Val.cells x) :: po 0 :: po 1 :: po 2 :: iv (vTruth (decide ((vCompare t x n.value) = 0))) :: iv (vCompare t x n.value) :: U :: U :: U :: po 1 :: iv n.op :: bv (decide (n.op = 8)) :: U :: U :: U :: po 2 :: bv x.null :: iv t :: .agg (Val.cells x) :: .pO 1 0 2 :: .agg (Val.cells n.value) :: iv (vCompare t x n.value) :: po 1 :: iv n.op :: bv (decide (n.op = 1)) :: bv (decide (n.op = 1)) :: iv (vCompare t x n.value) :: bv (decide ((vCompare t x n.value) = 0)) :: iv (vTruth (decide ((vCompare t x n.value) = 0))) :: U9 (U9 (U9 (U9 ([U, U, U, U]))))), [.live ⟨1, [[iv t]], 3⟩, .live ⟨8, [(PNode.cells n)], 26⟩, .live ⟨3, [(Val.cells x)], 23⟩]⟩ (by kernel_rfl) ?_
    refine PV.ret (inBlockA_ret (thenA_ret (hret .ret _ (iv (vTruth (decide ((vCompare t x n.value) = 0)))) (.inr rfl) (by kernel_rfl) ?_)))
    clear hret hK1 hK2 hK3 hK6 hK7 hK10 hK11 hK12 hK13 hK15 K0 K1 K2 K3 K6 K7 K10 K11 K12 K13 K15
    show Tof noTau [.live ⟨1, [[iv t]], 3⟩, .live ⟨8, [(PNode.cells n)], 26⟩, .live ⟨3, [(Val.cells x)], 23⟩] (iv (vTruth (decide ((vCompare t x n.value) = 0)))) (iv (vTest t n x))
    -- leaf 3
    refine Tof.int ?_
    first | grind [vTest] | grind [vTest, anyEq, anyNull]
  refine PV.seq_k fun K16 hK16 => ?_
  refine PV.regionN ?_
  refine PON.runs 2 (by kernel_rfl) ?_
  refine PON.fin rfl (thenA_normal (hK16 _ ?_))
  refine PV.condP (n.op = 2) (decide (n.op = 2)) (by kernel_rfl) decide_eq_true decide_eq_false (fun h17 => ?_) (fun h17 => ?_)
  · skip
    refine PV.seq_k fun K18 hK18 => ?_
    refine PV.regionN ?_
    refine PON.runs 2 (by kernel_rfl) ?_
    refine PON.call 44 [bv (!(decide ((vCompare t x n.value) = 0)))] (some 35) (pre := []) (post := []) (x := iv (vTruth (!(decide ((vCompare t x n.value) = 0))))) _ (by kernel_rfl) (truth_ok (!(decide ((vCompare t x n.value) = 0)))) trivial rfl ?_
    refine PON.runs 1 (by kernel_rfl) ?_
    refine PON.fin rfl (thenA_normal (hK18 _ ?_))
    refine PV.norm ⟨(iv t :: .agg (PNode.cells n) :: .agg (Val.cells x) :: po 0 :: po 1 :: po 2 :: iv (vTruth (!(decide ((vCompare t x n.value) = 0)))) :: iv (vCompare t x n.value) :: U :: U :: U :: po 1 :: iv n.op :: bv (decide (n.op = 8)) :: U :: U :: U :: po 2 :: bv x.null :: iv t :: .agg (Val.cells x) :: .pO 1 0 2 :: .agg (Val.cells n.value) :: iv (vCompare t x n.value) :: po 1 :: iv n.op :: bv (decide (n.op = 1)) :: bv (decide (n.op = 1)) :: U :: U :: U :: bv (decide (n.op = 2)) :: bv (decide (n.op = 2)) :: iv (vCompare t x n.value) :: bv (!(decide ((vCompare t x n.value) = 0))) :: iv (vTruth (!(decide ((vCompare t x n.value) = 0)))) :: U9 (U9 (U9 ([U, U, U, U, U, U, U, U])))), [.live ⟨1, [[iv t]], 3⟩, .live ⟨8, [(PNode.cells n)], 26⟩, .live ⟨3, [(Val.cells x)], 23⟩]⟩ (by kernel_rfl) ?_
    refine PV.ret (inBlockA_ret (thenA_ret (hret .ret _ (iv (vTruth (!(decide ((vCompare t x n.value) = 0))))) (.inr rfl) (by kernel_rfl) ?_)))
    clear hret hK1 hK2 hK3 hK6 hK7 hK10 hK11 hK12 hK13 hK16 hK18 K0 K1 K2 K3 K6 K7 K10 K11 K12 K13 K16 K18
    show Tof noTau [.live ⟨1, [[iv t]], 3⟩, .live ⟨8, [(PNode.cells n)], 26⟩, .live ⟨3, [(Val.cells x)], 23⟩] (iv (vTruth (!(decide ((vCompare t x n.value) = 0))))) (iv (vTest t n x))
    -- leaf 4
    refine Tof.int ?_
    first | grind [vTest] | grind [vTest, anyEq, anyNull]
  refine PV.seq_k fun K19 hK19 => ?_
  refine PV.regionN ?_
  refine PON.runs 2 (by kernel_rfl) ?_
  refine PON.fin rfl (thenA_normal (hK19 _ ?_))
  refine PV.condP (n.op = 3) (decide (n.op = 3)) (by kernel_rfl) decide_eq_true decide_eq_false (fun h20 => ?_) (fun h20 => ?_)
  · skip
    refine PV.seq_k fun K21 hK21 => ?_
    refine PV.regionN ?_
    refine PON.runs 2 (by kernel_rfl) ?_
    refine PON.call 44 [bv (decide ((vCompare t x n.value) < 0))] (some 40) (pre := []) (post := []) (x := iv (vTruth (decide ((vCompare t x n.value) < 0)))) _ (by kernel_rfl) (truth_ok (decide ((vCompare t x n.value) < 0))) trivial rfl ?_
    refine PON.runs 1 (by kernel_rfl) ?_
    refine PON.fin rfl (thenA_normal (hK21 _ ?_))
    refine PV.norm ⟨(iv t :: .agg (PNode.cells n) :: .agg (Val.cells x) :: po 0 :: po 1 :: po 2 :: iv (vTruth (decide ((vCompare t x n.value) < 0))) :: iv (vCompare t x n.value) :: U :: U :: U :: po 1 :: iv n.op :: bv (decide (n.op = 8)) :: U :: U :: U :: po 2 :: bv x.null :: iv t :: .agg (Val.cells x) :: .pO 1 0 2 :: .agg (Val.cells n.value) :: iv (vCompare t x n.value) :: po 1 :: iv n.op :: bv (decide (n.op = 1)) :: bv (decide (n.op = 1)) :: U :: U :: U :: bv (decide (n.op = 2)) :: bv (decide (n.op = 2)) :: U :: U :: U :: bv (decide (n.op = 3)) :: bv (decide (n.op = 3)) :: iv (vCompare t x n.value) :: bv (decide ((vCompare t x n.value) < 0)) :: iv (vTruth (decide ((vCompare t x n.value) < 0))) :: U9 (U9 (U9 ([U, U, U])))), [.live ⟨1, [[iv t]], 3⟩, .live ⟨8, [(PNode.cells n)], 26⟩, .live ⟨3, [(Val.cells x)], 23⟩]⟩ (by kernel_rfl) ?_
    refine PV.ret (inBlockA_ret (thenA_ret (hret .ret _ (iv (vTruth (decide ((vCompare t x n.value) < 0)))) (.inr rfl) (by kernel_rfl) ?_)))
    clear hret hK1 hK2 hK3 hK6 hK7 hK10 hK11 hK12 hK13 hK16 hK19 hK21 K0 K1 K2 K3 K6 K7 K10 K11 K12 K13 K16 K19 K21
    show Tof noTau [.live ⟨1, [[iv t]], 3⟩, .live ⟨8, [(PNode.cells n)], 26⟩, .live ⟨3, [(Val.cells x)], 23⟩] (iv (vTruth (decide ((vCompare t x n.value) < 0)))) (iv (vTest t n x))
    -- leaf 5
    refine Tof.int ?_
    first | grind [vTest] | grind [vTest, anyEq, anyNull]
  refine PV.seq_k fun K22 hK22 => ?_
  refine PV.regionN ?_
  refine PON.runs 2 (by kernel_rfl) ?_
  refine PON.fin rfl (thenA_normal (hK22 _ ?_))
  refine PV.condP (n.op = 4) (decide (n.op = 4)) (by kernel_rfl) decide_eq_true decide_eq_false (fun h23 => ?_) (fun h23 => ?_)
  · skip
    refine PV.seq_k fun K24 hK24 => ?_
    refine PV.regionN ?_
    refine PON.runs 2 (by kernel_rfl) ?_
    refine PON.call 44 [bv (decide ((vCompare t x n.value) ≤ 0))] (some 45) (pre := []) (post := []) (x := iv (vTruth (decide ((vCompare t x n.value) ≤ 0)))) _ (by kernel_rfl) (truth_ok (decide ((vCompare t x n.value) ≤ 0))) trivial rfl ?_
    refine PON.runs 1 (by kernel_rfl) ?_
    refine PON.fin rfl (thenA_normal (hK24 _ ?_))
    refine PV.norm ⟨(iv t :: .agg (PNode.cells n) :: .agg (Val.cells x) :: po 0 :: po 1 :: po 2 :: iv (vTruth (decide ((vCompare t x n.value) ≤ 0))) :: iv (vCompare t x n.value) :: U :: U :: U :: po 1 :: iv n.op :: bv (decide (n.op = 8)) :: U :: U :: U :: po 2 :: bv x.null :: iv t :: .agg (Val.cells x) :: .pO 1 0 2 :: .agg (Val.cells n.value) :: iv (vCompare t x n.value) :: po 1 :: iv n.op :: bv (decide (n.op = 1)) :: bv (decide (n.op = 1)) :: U :: U :: U :: bv (decide (n.op = 2)) :: bv (decide (n.op = 2)) :: U :: U :: U :: bv (decide (n.op = 3)) :: bv (decide (n.op = 3)) :: U :: U :: U :: bv (decide (n.op = 4)) :: bv (decide (n.op = 4)) :: iv (vCompare t x n.value) :: bv (decide ((vCompare t x n.value) ≤ 0)) :: iv (vTruth (decide ((vCompare t x n.value) ≤ 0))) :: U9 (U9 ([U, U, U, U, U, U, U]))), [.live ⟨1, [[iv t]], 3⟩, .live ⟨8, [(PNode.cells n)], 26⟩, .live ⟨3, [(Val.cells x)], 23⟩]⟩ (by kernel_rfl) ?_
    refine PV.ret (inBlockA_ret (thenA_ret (hret .ret _ (iv (vTruth (decide ((vCompare t x n.value) ≤ 0)))) (.inr rfl) (by kernel_rfl) ?_)))
    clear hret hK1 hK2 hK3 hK6 hK7 hK10 hK11 hK12 hK13 hK16 hK19 hK22 hK24 K0 K1 K2 K3 K6 K7 K10 K11 K12 K13 K16 K19 K22 K24
    show Tof noTau [.live ⟨1, [[iv t]], 3⟩, .live ⟨8, [(PNode.cells n)], 26⟩, .live ⟨3, [(Val.cells x)], 23⟩] (iv (vTruth (decide ((vCompare t x n.value) ≤ 0)))) (iv (vTest t n x))
    -- leaf 6
    refine Tof.int ?_
    first | grind [vTest] | grind [vTest, anyEq, anyNull]
  refine PV.seq_k fun K25 hK25 => ?_
  refine PV.regionN ?_
  refine PON.runs 2 (by kernel_rfl) ?_
  refine PON.fin rfl (thenA_normal (hK25 _ ?_))
  refine PV.condP (n.op = 5) (decide (n.op = 5)) (by kernel_rfl) decide_eq_true decide_eq_false (fun h26 => ?_) (fun h26 => ?_)
  · skip
    refine PV.seq_k fun K27 hK27 => ?_
    refine PV.regionN ?_
    refine PON.runs 2 (by kernel_rfl) ?_
    refine PON.call 44 [bv (decide ((vCompare t x n.value) > 0))] (some 50) (pre := []) (post := []) (x := iv (vTruth (decide ((vCompare t x n.value) > 0)))) _ (by kernel_rfl) (truth_ok (decide ((vCompare t x n.value) > 0))) trivial rfl ?_
    refine PON.runs 1 (by kernel_rfl) ?_
    refine PON.fin rfl (thenA_normal (hK27 _ ?_))
    refine PV.norm ⟨(iv t :: .agg (PNode.cells n) :: .agg (Val.cells x) :: po 0 :: po 1 :: po 2 :: iv (vTruth (decide ((vCompare t x n.value) > 0))) :: iv (vCompare t x n.value) :: U :: U :: U :: po 1 :: iv n.op :: bv (decide (n.op = 8)) :: U :: U :: U :: po 2 :: bv x.null :: iv t :: .agg (Val.cells x) :: .pO 1 0 2 :: .agg (Val.cells n.value) :: iv (vCompare t x n.value) :: po 1 :: iv n.op :: bv (decide (n.op = 1)) :: bv (decide (n.op = 1)) :: U :: U :: U :: bv (decide (n.op = 2)) :: bv (decide (n.op = 2)) :: U :: U :: U :: bv (decide (n.op = 3)) :: bv (decide (n.op = 3)) :: U :: U :: U :: bv (decide (n.op = 4)) :: bv (decide (n.op = 4)) :: U :: U :: U :: bv (decide (n.op = 5)) :: bv (decide (n.op = 5)) :: iv (vCompare t x n.value) :: bv (decide ((vCompare t x n.value) > 0)) :: iv (vTruth (decide ((vCompare t x n.value) > 0))) :: U9 (U9 ([U, U]))), [.live ⟨1, [[iv t]], 3⟩, .live ⟨8, [(PNode.cells n)], 26⟩, .live ⟨3, [(Val.cells x)], 23⟩]⟩ (by kernel_rfl) ?_
    refine PV.ret (inBlockA_ret (thenA_ret (hret .ret _ (iv (vTruth (decide ((vCompare t x n.value) > 0)))) (.inr rfl) (by kernel_rfl) ?_)))
    clear hret hK1 hK2 hK3 hK6 hK7 hK10 hK11 hK12 hK13 hK16 hK19 hK22 hK25 hK27 K0 K1 K2 K3 K6 K7 K10 K11 K12 K13 K16 K19 K22 K25 K27
    show Tof noTau [.live ⟨1, [[iv t]], 3⟩, .live ⟨8, [(PNode.cells n)], 26⟩, .live ⟨3, [(Val.cells x)], 23⟩] (iv (vTruth (decide ((vCompare t x n.value) > 0)))) (iv (vTest t n x))
    -- leaf 7
    refine Tof.int ?_
    first | grind [vTest] | grind [vTest, anyEq, anyNull]
  refine PV.seq_k fun K28 hK28 => ?_
  refine PV.regionN ?_
  refine PON.runs 2 (by kernel_rfl) ?_
  refine PON.fin rfl (thenA_normal (hK28 _ ?_))
  refine PV.condP (n.op = 6) (decide (n.op = 6)) (by kernel_rfl) decide_eq_true decide_eq_false (fun h29 => ?_) (fun h29 => ?_)
  · skip
    refine PV.seq_k fun K30 hK30 => ?_
    refine PV.regionN ?_
    refine PON.runs 2 (by kernel_rfl) ?_
    refine PON.call 44 [bv (decide ((vCompare t x n.value) ≥ 0))] (some 55) (pre := []) (post := []) (x := iv (vTruth (decide ((vCompare t x n.value) ≥ 0)))) _ (by kernel_rfl) (truth_ok (decide ((vCompare t x n.value) ≥ 0))) trivial rfl ?_
    refine PON.runs 1 (by kernel_rfl) ?_
    refine PON.fin rfl (thenA_normal (hK30 _ ?_))
    refine PV.norm ⟨(iv t :: .agg (PNode.cells n) :: .agg (Val.cells x) :: po 0 :: po 1 :: po 2 :: iv (vTruth (decide ((vCompare t x n.value) ≥ 0))) :: iv (vCompare t x n.value) :: U :: U :: U :: po 1 :: iv n.op :: bv (decide (n.op = 8)) :: U :: U :: U :: po 2 :: bv x.null :: iv t :: .agg (Val.cells x) :: .pO 1 0 2 :: .agg (Val.cells n.value) :: iv (vCompare t x n.value) :: po 1 :: iv n.op :: bv (decide (n.op = 1)) :: bv (decide (n.op = 1)) :: U :: U :: U :: bv (decide (n.op = 2)) :: bv (decide (n.op = 2)) :: U :: U :: U :: bv (decide (n.op = 3)) :: bv (decide (n.op = 3)) :: U :: U :: U :: bv (decide (n.op = 4)) :: bv (decide (n.op = 4)) :: U :: U :: U :: bv (decide (n.op = 5)) :: bv (decide (n.op = 5)) :: U :: U :: U :: bv (decide (n.op = 6)) :: bv (decide (n.op = 6)) :: iv (vCompare t x n.value) :: bv (decide ((vCompare t x n.value) ≥ 0)) :: iv (vTruth (decide ((vCompare t x n.value) ≥ 0))) :: U9 ([U, U, U, U, U, U])), [.live ⟨1, [[iv t]], 3⟩, .live ⟨8, [(PNode.cells n)], 26⟩, .live ⟨3, [(Val.cells x)], 23⟩]⟩ (by kernel_rfl) ?_
    refine PV.ret (inBlockA_ret (thenA_ret (hret .ret _ (iv (vTruth (decide ((vCompare t x n.value) ≥ 0)))) (.inr rfl) (by kernel_rfl) ?_)))
    clear hret hK1 hK2 hK3 hK6 hK7 hK10 hK11 hK12 hK13 hK16 hK19 hK22 hK25 hK28 hK30 K0 K1 K2 K3 K6 K7 K10 K11 K12 K13 K16 K19 K22 K25 K28 K30
    show Tof noTau [.live ⟨1, [[iv t]], 3⟩, .live ⟨8, [(PNode.cells n)], 26⟩, .live ⟨3, [(Val.cells x)], 23⟩] (iv (vTruth (decide ((vCompare t x n.value) ≥ 0)))) (iv (vTest t n x))
    -- leaf 8
    refine Tof.int ?_
    first | grind [vTest] | grind [vTest, anyEq, anyNull]
  refine PV.skip (inBlockA_normal (thenA_normal (hK11 _ ?_)))
  refine PV.seq_k fun K31 hK31 => ?_
  refine PV.regionN ?_
  refine PON.runs 1 (by kernel_rfl) ?_
  refine PON.fin rfl (thenA_normal (hK31 _ ?_))
  refine PV.seq_k fun K32 hK32 => ?_
  refine PV.seq_k fun K33 hK33 => ?_
  refine PV.regionN ?_
  refine PON.runs 2 (by kernel_rfl) ?_
  refine PON.ops (aLen_map Try.prog [.live ⟨1, [[iv t]], 3⟩, .live ⟨8, [(PNode.cells n)], 26⟩, .live ⟨3, [(Val.cells x)], 23⟩] 24 23 (by kernel_rfl) 3 Val.cells n.list) (by kernel_rfl) (by kernel_rfl) ?_
  refine PON.runs 1 (by kernel_rfl) ?_
  refine PON.fin rfl (thenA_normal (hK33 _ ?_))
  refine PV.block ?_
  refine PV.norm ⟨(iv t :: .agg (PNode.cells n) :: .agg (Val.cells x) :: po 0 :: po 1 :: po 2 :: iv 0 :: iv (vCompare t x n.value) :: iv 0 :: U :: U :: po 1 :: iv n.op :: bv (decide (n.op = 8)) :: U :: U :: U :: po 2 :: bv x.null :: iv t :: .agg (Val.cells x) :: .pO 1 0 2 :: .agg (Val.cells n.value) :: iv (vCompare t x n.value) :: po 1 :: iv n.op :: bv (decide (n.op = 1)) :: bv (decide (n.op = 1)) :: U :: U :: U :: bv (decide (n.op = 2)) :: bv (decide (n.op = 2)) :: U :: U :: U :: bv (decide (n.op = 3)) :: bv (decide (n.op = 3)) :: U :: U :: U :: bv (decide (n.op = 4)) :: bv (decide (n.op = 4)) :: U :: U :: U :: bv (decide (n.op = 5)) :: bv (decide (n.op = 5)) :: U :: U :: U :: bv (decide (n.op = 6)) :: bv (decide (n.op = 6)) :: U :: U :: U :: .pO 1 0 5 :: .sF 3 (n.list.map Val.cells) :: iv (n.list.length : Int) :: iv 0 :: U9 ([U, U])), [.live ⟨1, [[iv t]], 3⟩, .live ⟨8, [(PNode.cells n)], 26⟩, .live ⟨3, [(Val.cells x)], 23⟩]⟩ (by kernel_rfl) ?_
  refine PV.loopR (α := Int × Int) (fun xL => let k := xL.1; let o := xL.2; (⟨(A :: A :: A :: po 0 :: po 1 :: po 2 :: iv 0 :: A :: iv o :: A9 (A9 (A9 (A9 (A9 (A :: A :: A :: .sF 3 (n.list.map Val.cells) :: iv (n.list.length : Int) :: iv k :: A9 ([A, A]))))))), [.live ⟨1, [[iv t]], 3⟩, .live ⟨8, [(PNode.cells n)], 26⟩, .live ⟨3, [(Val.cells x)], 23⟩]⟩ : St)) (fun xL => let k := xL.1; let o := xL.2; (0 ≤ k ∧ k ≤ n.list.length) ∧ ((if anyNull n.list = true then (2 : Int) else 0) = (if anyNull (n.list.drop k.toNat) = true then 2 else o))) (fun xL => let k := xL.1; let o := xL.2; ((n.list.length : Int) - k).toNat) [0, 1, 2] ((0 : Int), (0 : Int)) ⟨rfl, rfl, (.any (.any (.any (.cons (.pO _ _ rfl) (.cons (.pO _ _ rfl) (.cons (.pO _ _ rfl) (.v (.any (.v (.a9 (.a9 (.a9 (.a9 (.a9 (.any (.any (.any (.cons (.tree (by simp only [NIs_cons, NIs_nil, NIr_cons, NIr_nil, NI_v, NI_any, NI_pO, NI_sO, NI_pF, NI_sF, NI_agg, NI_tup, NI_fn, NIh_nil, NIh_live, NIh_dead, NIh_free, NIr_map, NIr_append, NIs_icells, NIs_scells, NIs_bcells, NIs_Val, NIs_Col, NIs_Schema, NIs_PNode, NIs_Src, NIr_Val, NIr_Col, NIr_ints, NIr_PNode]; try simp)) (.v (.v (.a9 (.any (.any .nil))))))))))))))))))))))), (.cons rfl (.tree (by simp only [NIs_cons, NIs_nil, NIr_cons, NIr_nil, NI_v, NI_any, NI_pO, NI_sO, NI_pF, NI_sF, NI_agg, NI_tup, NI_fn, NIh_nil, NIh_live, NIh_dead, NIh_free, NIr_map, NIr_append, NIs_icells, NIs_scells, NIs_bcells, NIs_Val, NIs_Col, NIs_Schema, NIs_PNode, NIs_Src, NIr_Val, NIr_Col, NIr_ints, NIr_PNode]; try simp)) (.cons rfl (.tree (by simp only [NIs_cons, NIs_nil, NIr_cons, NIr_nil, NI_v, NI_any, NI_pO, NI_sO, NI_pF, NI_sF, NI_agg, NI_tup, NI_fn, NIh_nil, NIh_live, NIh_dead, NIh_free, NIr_map, NIr_append, NIs_icells, NIs_scells, NIs_bcells, NIs_Val, NIs_Col, NIs_Schema, NIs_PNode, NIs_Src, NIr_Val, NIr_Col, NIr_ints, NIr_PNode]; try simp)) (.cons rfl (.tree (by simp only [NIs_cons, NIs_nil, NIr_cons, NIr_nil, NI_v, NI_any, NI_pO, NI_sO, NI_pF, NI_sF, NI_agg, NI_tup, NI_fn, NIh_nil, NIh_live, NIh_dead, NIh_free, NIr_map, NIr_append, NIs_icells, NIs_scells, NIs_bcells, NIs_Val, NIs_Col, NIs_Schema, NIs_PNode, NIs_Src, NIr_Val, NIr_Col, NIr_ints, NIr_PNode]; try simp)) .nil)))⟩ ?_ ?_
  · skip
    clear hret hK1 hK2 hK3 hK6 hK7 hK10 hK11 hK12 hK13 hK16 hK19 hK22 hK25 hK28 hK31 hK32 hK33 K0 K1 K2 K3 K6 K7 K10 K11 K12 K13 K16 K19 K22 K25 K28 K31 K32 K33
    refine ⟨?_, ?_⟩
    · skip
      show 0 ≤ (0 : Int) ∧ (0 : Int) ≤ n.list.length
      simp
    · skip
      show (if anyNull n.list = true then (2 : Int) else 0) = (if anyNull (n.list.drop (0 : Int).toNat) = true then 2 else (0 : Int))
      simp
  rintro ⟨k, o⟩ hJ
  change (0 ≤ k ∧ k ≤ n.list.length) ∧ ((if anyNull n.list = true then (2 : Int) else 0) = (if anyNull (n.list.drop k.toNat) = true then 2 else o)) at hJ
  obtain ⟨hk, ho⟩ := hJ
  show PV _ Try.prog _ ⟨(A :: A :: A :: po 0 :: po 1 :: po 2 :: iv 0 :: A :: iv o :: A9 (A9 (A9 (A9 (A9 (A :: A :: A :: .sF 3 (n.list.map Val.cells) :: iv (n.list.length : Int) :: iv k :: A9 ([A, A]))))))), [.live ⟨1, [[iv t]], 3⟩, .live ⟨8, [(PNode.cells n)], 26⟩, .live ⟨3, [(Val.cells x)], 23⟩]⟩ _
  refine PV.seq_k fun K34 hK34 => ?_
  refine PV.regionN ?_
  refine PON.runs 1 (by kernel_rfl) ?_
  refine PON.fin rfl (thenA_normal (hK34 _ ?_))
  refine PV.seq_k fun K35 hK35 => ?_
  refine PV.condP (k < (n.list.length : Int)) (decide (k < (n.list.length : Int))) (by kernel_rfl) decide_eq_true decide_eq_false (fun h36 => ?_) (fun h36 => ?_)
  · skip
    refine PV.skip (thenA_normal (hK35 _ ?_))
    refine PV.seq_k fun K37 hK37 => ?_
    refine PV.block ?_
    refine PV.seq_k fun K38 hK38 => ?_
    refine PV.regionN ?_
    refine PON.ops (aIndexAddr_map Try.prog [.live ⟨1, [[iv t]], 3⟩, .live ⟨8, [(PNode.cells n)], 26⟩, .live ⟨3, [(Val.cells x)], 23⟩] 24 23 3 Val.cells (by kernel_rfl) (by kernel_rfl) n.list .i64 k (by omega)) (by kernel_rfl) (by kernel_rfl) ?_
    refine PON.runs 3 (by kernel_rfl) ?_
    refine PON.fin rfl (thenA_normal (hK38 _ ?_))
    refine PV.seq_k fun K39 hK39 => ?_
    refine PV.regionN ?_
    refine PON.runs 2 (by kernel_rfl) ?_
    refine PON.fin rfl (thenA_normal (hK39 _ ?_))
    refine PV.condP (((n.list[k.toNat]!).null) = true) ((n.list[k.toNat]!).null) (by kernel_rfl) (fun h => h) bool_ff (fun h40 => ?_) (fun h40 => ?_)
    · skip
      refine PV.regionN ?_
      refine PON.runs 1 (by kernel_rfl) ?_
      refine PON.norm ⟨(A :: A :: A :: po 0 :: po 1 :: po 2 :: iv 0 :: A :: iv 2 :: A :: po 3 :: A9 (A9 (A9 (A9 (A9 (A :: .sF 3 (n.list.map Val.cells) :: iv (n.list.length : Int) :: iv k :: bv (decide (k < (n.list.length : Int))) :: .pF (Val.cells (n.list[k.toNat]!)) 0 :: .agg (Val.cells (n.list[k.toNat]!)) :: po 3 :: bv ((n.list[k.toNat]!).null) :: A4 ([A, A]))))))), [.live ⟨1, [[iv t]], 3⟩, .live ⟨8, [(PNode.cells n)], 26⟩, .live ⟨3, [(Val.cells x)], 23⟩, .live ⟨3, [(Val.cells (n.list[k.toNat]!))], 23⟩]⟩ (by kernel_rfl) ?_
      refine PON.fin rfl (inBlockA_normal (thenA_normal (hK37 _ ?_)))
      refine PV.regionN ?_
      refine PON.ops (aBin_add_in Try.prog [.live ⟨1, [[iv t]], 3⟩, .live ⟨8, [(PNode.cells n)], 26⟩, .live ⟨3, [(Val.cells x)], 23⟩, .live ⟨3, [(Val.cells (n.list[k.toNat]!))], 23⟩] 3 (.tmp 59) (.const (.int .i64 1)) .i64 k 1 (by rw [wrap64] <;> omega)) (by kernel_rfl) (by kernel_rfl) ?_
      refine PON.runs 1 (by kernel_rfl) ?_
      refine PON.norm ⟨(A :: A :: A :: po 0 :: po 1 :: po 2 :: iv 0 :: A :: iv 2 :: A :: po 3 :: A9 (A9 (A9 (A9 (A9 (A :: .sF 3 (n.list.map Val.cells) :: iv (n.list.length : Int) :: iv (k + 1) :: bv (decide (k < (n.list.length : Int))) :: .pF (Val.cells (n.list[k.toNat]!)) 0 :: .agg (Val.cells (n.list[k.toNat]!)) :: po 3 :: bv ((n.list[k.toNat]!).null) :: iv (k + 1) :: A4 ([A]))))))), [.live ⟨1, [[iv t]], 3⟩, .live ⟨8, [(PNode.cells n)], 26⟩, .live ⟨3, [(Val.cells x)], 23⟩, .live ⟨3, [(Val.cells (n.list[k.toNat]!))], 23⟩]⟩ (by kernel_rfl) ?_
      refine PON.fin rfl (thenA_normal ?_)
      refine ⟨[0, 1, 2], ((k + 1), (2 : Int)), ⟨rfl, rfl, (.any (.any (.any (.cons (.pO _ _ rfl) (.cons (.pO _ _ rfl) (.cons (.pO _ _ rfl) (.v (.any (.v (.a9 (.a9 (.a9 (.a9 (.a9 (.any (.any (.any (.cons (.tree (by simp only [NIs_cons, NIs_nil, NIr_cons, NIr_nil, NI_v, NI_any, NI_pO, NI_sO, NI_pF, NI_sF, NI_agg, NI_tup, NI_fn, NIh_nil, NIh_live, NIh_dead, NIh_free, NIr_map, NIr_append, NIs_icells, NIs_scells, NIs_bcells, NIs_Val, NIs_Col, NIs_Schema, NIs_PNode, NIs_Src, NIr_Val, NIr_Col, NIr_ints, NIr_PNode]; try simp)) (.v (.v (.a9 (.any (.any .nil))))))))))))))))))))))), (.cons rfl (.tree (by simp only [NIs_cons, NIs_nil, NIr_cons, NIr_nil, NI_v, NI_any, NI_pO, NI_sO, NI_pF, NI_sF, NI_agg, NI_tup, NI_fn, NIh_nil, NIh_live, NIh_dead, NIh_free, NIr_map, NIr_append, NIs_icells, NIs_scells, NIs_bcells, NIs_Val, NIs_Col, NIs_Schema, NIs_PNode, NIs_Src, NIr_Val, NIr_Col, NIr_ints, NIr_PNode]; try simp)) (.cons rfl (.tree (by simp only [NIs_cons, NIs_nil, NIr_cons, NIr_nil, NI_v, NI_any, NI_pO, NI_sO, NI_pF, NI_sF, NI_agg, NI_tup, NI_fn, NIh_nil, NIh_live, NIh_dead, NIh_free, NIr_map, NIr_append, NIs_icells, NIs_scells, NIs_bcells, NIs_Val, NIs_Col, NIs_Schema, NIs_PNode, NIs_Src, NIr_Val, NIr_Col, NIr_ints, NIr_PNode]; try simp)) (.cons rfl (.tree (by simp only [NIs_cons, NIs_nil, NIr_cons, NIr_nil, NI_v, NI_any, NI_pO, NI_sO, NI_pF, NI_sF, NI_agg, NI_tup, NI_fn, NIh_nil, NIh_live, NIh_dead, NIh_free, NIr_map, NIr_append, NIs_icells, NIs_scells, NIs_bcells, NIs_Val, NIs_Col, NIs_Schema, NIs_PNode, NIs_Src, NIr_Val, NIr_Col, NIr_ints, NIr_PNode]; try simp)) .nil)))⟩, ?_, ?_⟩
      · skip
        clear hret hK1 hK2 hK3 hK6 hK7 hK10 hK11 hK12 hK13 hK16 hK19 hK22 hK25 hK28 hK31 hK32 hK33 hK34 hK35 hK37 hK38 hK39 K0 K1 K2 K3 K6 K7 K10 K11 K12 K13 K16 K19 K22 K25 K28 K31 K32 K33 K34 K35 K37 K38 K39
        refine ⟨?_, ?_⟩
        · skip
          show 0 ≤ (k + 1) ∧ (k + 1) ≤ n.list.length
          omega
        · skip
          show (if anyNull n.list = true then (2 : Int) else 0) = (if anyNull (n.list.drop (k + 1).toNat) = true then 2 else (2 : Int))
          rw [drop_step _ _ (by omega)] at ho
          simp only [anyNull, List.any_cons, Bool.or_eq_true] at ho ⊢
          grind
      · skip
        clear hret hK1 hK2 hK3 hK6 hK7 hK10 hK11 hK12 hK13 hK16 hK19 hK22 hK25 hK28 hK31 hK32 hK33 hK34 hK35 hK37 hK38 hK39 K0 K1 K2 K3 K6 K7 K10 K11 K12 K13 K16 K19 K22 K25 K28 K31 K32 K33 K34 K35 K37 K38 K39
        show ((n.list.length : Int) - (k + 1)).toNat < ((n.list.length : Int) - k).toNat
        omega
    refine PV.skip (inBlockA_normal (thenA_normal (hK37 _ ?_)))
    refine PV.regionN ?_
    refine PON.ops (aBin_add_in Try.prog [.live ⟨1, [[iv t]], 3⟩, .live ⟨8, [(PNode.cells n)], 26⟩, .live ⟨3, [(Val.cells x)], 23⟩, .live ⟨3, [(Val.cells (n.list[k.toNat]!))], 23⟩] 3 (.tmp 59) (.const (.int .i64 1)) .i64 k 1 (by rw [wrap64] <;> omega)) (by kernel_rfl) (by kernel_rfl) ?_
    refine PON.runs 1 (by kernel_rfl) ?_
    refine PON.norm ⟨(A :: A :: A :: po 0 :: po 1 :: po 2 :: iv 0 :: A :: iv o :: A :: po 3 :: A9 (A9 (A9 (A9 (A9 (A :: .sF 3 (n.list.map Val.cells) :: iv (n.list.length : Int) :: iv (k + 1) :: bv (decide (k < (n.list.length : Int))) :: .pF (Val.cells (n.list[k.toNat]!)) 0 :: .agg (Val.cells (n.list[k.toNat]!)) :: po 3 :: bv ((n.list[k.toNat]!).null) :: iv (k + 1) :: A4 ([A]))))))), [.live ⟨1, [[iv t]], 3⟩, .live ⟨8, [(PNode.cells n)], 26⟩, .live ⟨3, [(Val.cells x)], 23⟩, .live ⟨3, [(Val.cells (n.list[k.toNat]!))], 23⟩]⟩ (by kernel_rfl) ?_
    refine PON.fin rfl (thenA_normal ?_)
    refine ⟨[0, 1, 2], ((k + 1), o), ⟨rfl, rfl, (.any (.any (.any (.cons (.pO _ _ rfl) (.cons (.pO _ _ rfl) (.cons (.pO _ _ rfl) (.v (.any (.v (.a9 (.a9 (.a9 (.a9 (.a9 (.any (.any (.any (.cons (.tree (by simp only [NIs_cons, NIs_nil, NIr_cons, NIr_nil, NI_v, NI_any, NI_pO, NI_sO, NI_pF, NI_sF, NI_agg, NI_tup, NI_fn, NIh_nil, NIh_live, NIh_dead, NIh_free, NIr_map, NIr_append, NIs_icells, NIs_scells, NIs_bcells, NIs_Val, NIs_Col, NIs_Schema, NIs_PNode, NIs_Src, NIr_Val, NIr_Col, NIr_ints, NIr_PNode]; try simp)) (.v (.v (.a9 (.any (.any .nil))))))))))))))))))))))), (.cons rfl (.tree (by simp only [NIs_cons, NIs_nil, NIr_cons, NIr_nil, NI_v, NI_any, NI_pO, NI_sO, NI_pF, NI_sF, NI_agg, NI_tup, NI_fn, NIh_nil, NIh_live, NIh_dead, NIh_free, NIr_map, NIr_append, NIs_icells, NIs_scells, NIs_bcells, NIs_Val, NIs_Col, NIs_Schema, NIs_PNode, NIs_Src, NIr_Val, NIr_Col, NIr_ints, NIr_PNode]; try simp)) (.cons rfl (.tree (by simp only [NIs_cons, NIs_nil, NIr_cons, NIr_nil, NI_v, NI_any, NI_pO, NI_sO, NI_pF, NI_sF, NI_agg, NI_tup, NI_fn, NIh_nil, NIh_live, NIh_dead, NIh_free, NIr_map, NIr_append, NIs_icells, NIs_scells, NIs_bcells, NIs_Val, NIs_Col, NIs_Schema, NIs_PNode, NIs_Src, NIr_Val, NIr_Col, NIr_ints, NIr_PNode]; try simp)) (.cons rfl (.tree (by simp only [NIs_cons, NIs_nil, NIr_cons, NIr_nil, NI_v, NI_any, NI_pO, NI_sO, NI_pF, NI_sF, NI_agg, NI_tup, NI_fn, NIh_nil, NIh_live, NIh_dead, NIh_free, NIr_map, NIr_append, NIs_icells, NIs_scells, NIs_bcells, NIs_Val, NIs_Col, NIs_Schema, NIs_PNode, NIs_Src, NIr_Val, NIr_Col, NIr_ints, NIr_PNode]; try simp)) .nil)))⟩, ?_, ?_⟩
    · skip
      clear hret hK1 hK2 hK3 hK6 hK7 hK10 hK11 hK12 hK13 hK16 hK19 hK22 hK25 hK28 hK31 hK32 hK33 hK34 hK35 hK37 hK38 hK39 K0 K1 K2 K3 K6 K7 K10 K11 K12 K13 K16 K19 K22 K25 K28 K31 K32 K33 K34 K35 K37 K38 K39
      refine ⟨?_, ?_⟩
      · skip
        show 0 ≤ (k + 1) ∧ (k + 1) ≤ n.list.length
        omega
      · skip
        show (if anyNull n.list = true then (2 : Int) else 0) = (if anyNull (n.list.drop (k + 1).toNat) = true then 2 else o)
        rw [drop_step _ _ (by omega)] at ho
        simp only [anyNull, List.any_cons, Bool.or_eq_true] at ho ⊢
        grind
    · skip
      clear hret hK1 hK2 hK3 hK6 hK7 hK10 hK11 hK12 hK13 hK16 hK19 hK22 hK25 hK28 hK31 hK32 hK33 hK34 hK35 hK37 hK38 hK39 K0 K1 K2 K3 K6 K7 K10 K11 K12 K13 K16 K19 K22 K25 K28 K31 K32 K33 K34 K35 K37 K38 K39
      show ((n.list.length : Int) - (k + 1)).toNat < ((n.list.length : Int) - k).toNat
      omega
  rw [drop_end _ _ (by omega)] at ho
  refine PV.exit (thenA_exit (thenA_exit (inBlockA_hit (thenA_normal (hK32 _ ?_)))))
  refine PV.seq_k fun K41 hK41 => ?_
  refine PV.seq_k fun K42 hK42 => ?_
  refine PV.regionN ?_
  refine PON.runs 3 (by kernel_rfl) ?_
  refine PON.norm ⟨(A :: A :: A :: po 0 :: po 1 :: po 2 :: iv 0 :: A :: iv o :: A9 (A9 (A9 (A9 (A9 (A :: A :: A :: .sF 3 (n.list.map Val.cells) :: iv (n.list.length : Int) :: iv k :: bv (decide (k < (n.list.length : Int))) :: A4 ([A, .pO 1 0 5, .sF 3 (n.list.map Val.cells), .fn (.func 47) [] [po 0, po 2], A, A]))))))), [.live ⟨1, [[iv t]], 3⟩, .live ⟨8, [(PNode.cells n)], 26⟩, .live ⟨3, [(Val.cells x)], 23⟩]⟩ (by kernel_rfl) ?_
  refine PON.callR (f := 46) (args := [.sF 3 (n.list.map Val.cells), .fn (.func 47) [] [po 0, po 2]]) (d := some 69) (R := _) (by kernel_rfl) ?_ (fun x h' hx => hx)
  refine PC.of_bodyV Try.func46 rfl [.sF 3 (n.list.map Val.cells), .fn (.func 47) [] [po 0, po 2], U, U, U, U, U, U, U] (by kernel_rfl) (fun K44 hret43 => ?_)
  refine PV.seq_k fun K45 hK45 => ?_
  refine PV.regionN ?_
  refine PON.runs 1 (by kernel_rfl) ?_
  refine PON.fin rfl (thenA_normal (hK45 _ ?_))
  refine PV.seq_k fun K46 hK46 => ?_
  refine PV.regionN ?_
  refine PON.runs 2 (by kernel_rfl) ?_
  refine PON.norm ⟨[.sF 3 (n.list.map Val.cells), .fn (.func 47) [] [po 0, po 2], U, U, bv false, .sF 3 (n.list.map Val.cells), .fn (.func 47) [] [po 0, po 2], U, U], [.live ⟨1, [[iv t]], 3⟩, .live ⟨8, [(PNode.cells n)], 26⟩, .live ⟨3, [(Val.cells x)], 23⟩]⟩ (by kernel_rfl) ?_
  refine PON.callR (f := 64) (args := [.sF 3 (n.list.map Val.cells), .fn (.func 47) [] [po 0, po 2]]) (d := some 7) (R := _) (by kernel_rfl) ?_ (fun x h' hx => hx)
  refine PC.of_bodyV Try.func64 rfl (.sF 3 (n.list.map Val.cells) :: .fn (.func 47) [] [po 0, po 2] :: U9 ([U, U, U, U, U, U, U, U])) (by kernel_rfl) (fun K48 hret47 => ?_)
  refine PV.seq_k fun K49 hK49 => ?_
  refine PV.regionN ?_
  refine PON.runs 1 (by kernel_rfl) ?_
  refine PON.fin rfl (thenA_normal (hK49 _ ?_))
  refine PV.seq_k fun K50 hK50 => ?_
  refine PV.seq_k fun K51 hK51 => ?_
  refine PV.regionN ?_
  refine PON.runs 1 (by kernel_rfl) ?_
  refine PON.ops (aLen_map Try.prog [.live ⟨1, [[iv t]], 3⟩, .live ⟨8, [(PNode.cells n)], 26⟩, .live ⟨3, [(Val.cells x)], 23⟩] 24 23 (by kernel_rfl) 3 Val.cells n.list) (by kernel_rfl) (by kernel_rfl) ?_
  refine PON.runs 1 (by kernel_rfl) ?_
  refine PON.fin rfl (thenA_normal (hK51 _ ?_))
  refine PV.block ?_
  refine PV.norm ⟨(.sF 3 (n.list.map Val.cells) :: .fn (.func 47) [] [po 0, po 2] :: U :: U :: iv 0 :: U :: .sF 3 (n.list.map Val.cells) :: iv (n.list.length : Int) :: iv 0 :: U9 ([U])), [.live ⟨1, [[iv t]], 3⟩, .live ⟨8, [(PNode.cells n)], 26⟩, .live ⟨3, [(Val.cells x)], 23⟩]⟩ (by kernel_rfl) ?_
  refine PV.loopR (α := Int) (fun xL => let m := xL; (⟨(.sF 3 (n.list.map Val.cells) :: .fn (.func 47) [] [po 0, po 2] :: A4 (A :: iv (n.list.length : Int) :: iv m :: A9 ([A]))), [.live ⟨1, [[iv t]], 3⟩, .live ⟨8, [(PNode.cells n)], 26⟩, .live ⟨3, [(Val.cells x)], 23⟩]⟩ : St)) (fun xL => let m := xL; (0 ≤ m ∧ m ≤ n.list.length) ∧ (anyEq t x n.list = anyEq t x (n.list.drop m.toNat))) (fun xL => let m := xL; ((n.list.length : Int) - m).toNat) [0, 1, 2] (0 : Int) ⟨rfl, rfl, (.cons (.tree (by simp only [NIs_cons, NIs_nil, NIr_cons, NIr_nil, NI_v, NI_any, NI_pO, NI_sO, NI_pF, NI_sF, NI_agg, NI_tup, NI_fn, NIh_nil, NIh_live, NIh_dead, NIh_free, NIr_map, NIr_append, NIs_icells, NIs_scells, NIs_bcells, NIs_Val, NIs_Col, NIs_Schema, NIs_PNode, NIs_Src, NIr_Val, NIr_Col, NIr_ints, NIr_PNode]; try simp)) (.cons (.fn .nil (.cons (.pO _ _ rfl) (.cons (.pO _ _ rfl) .nil))) (.a4 (.any (.v (.v (.a9 (.any .nil)))))))), (.cons rfl (.tree (by simp only [NIs_cons, NIs_nil, NIr_cons, NIr_nil, NI_v, NI_any, NI_pO, NI_sO, NI_pF, NI_sF, NI_agg, NI_tup, NI_fn, NIh_nil, NIh_live, NIh_dead, NIh_free, NIr_map, NIr_append, NIs_icells, NIs_scells, NIs_bcells, NIs_Val, NIs_Col, NIs_Schema, NIs_PNode, NIs_Src, NIr_Val, NIr_Col, NIr_ints, NIr_PNode]; try simp)) (.cons rfl (.tree (by simp only [NIs_cons, NIs_nil, NIr_cons, NIr_nil, NI_v, NI_any, NI_pO, NI_sO, NI_pF, NI_sF, NI_agg, NI_tup, NI_fn, NIh_nil, NIh_live, NIh_dead, NIh_free, NIr_map, NIr_append, NIs_icells, NIs_scells, NIs_bcells, NIs_Val, NIs_Col, NIs_Schema, NIs_PNode, NIs_Src, NIr_Val, NIr_Col, NIr_ints, NIr_PNode]; try simp)) (.cons rfl (.tree (by simp only [NIs_cons, NIs_nil, NIr_cons, NIr_nil, NI_v, NI_any, NI_pO, NI_sO, NI_pF, NI_sF, NI_agg, NI_tup, NI_fn, NIh_nil, NIh_live, NIh_dead, NIh_free, NIr_map, NIr_append, NIs_icells, NIs_scells, NIs_bcells, NIs_Val, NIs_Col, NIs_Schema, NIs_PNode, NIs_Src, NIr_Val, NIr_Col, NIr_ints, NIr_PNode]; try simp)) .nil)))⟩ ?_ ?_
  · skip
    clear hret hK1 hK2 hK3 hK6 hK7 hK10 hK11 hK12 hK13 hK16 hK19 hK22 hK25 hK28 hK31 hK32 hK33 hK34 hK35 hK41 hK42 hret43 hK45 hK46 hret47 hK49 hK50 hK51 K0 K1 K2 K3 K6 K7 K10 K11 K12 K13 K16 K19 K22 K25 K28 K31 K32 K33 K34 K35 K41 K42 K44 K45 K46 K48 K49 K50 K51
    refine ⟨?_, ?_⟩
    · skip
      show 0 ≤ (0 : Int) ∧ (0 : Int) ≤ n.list.length
      simp
    · skip
      show anyEq t x n.list = anyEq t x (n.list.drop (0 : Int).toNat)
      simp
  rintro m hJ
  change (0 ≤ m ∧ m ≤ n.list.length) ∧ (anyEq t x n.list = anyEq t x (n.list.drop m.toNat)) at hJ
  obtain ⟨hm, hf⟩ := hJ
  show PV _ Try.prog _ ⟨(.sF 3 (n.list.map Val.cells) :: .fn (.func 47) [] [po 0, po 2] :: A4 (A :: iv (n.list.length : Int) :: iv m :: A9 ([A]))), [.live ⟨1, [[iv t]], 3⟩, .live ⟨8, [(PNode.cells n)], 26⟩, .live ⟨3, [(Val.cells x)], 23⟩]⟩ _
  refine PV.seq_k fun K52 hK52 => ?_
  refine PV.regionN ?_
  refine PON.runs 1 (by kernel_rfl) ?_
  refine PON.fin rfl (thenA_normal (hK52 _ ?_))
  refine PV.seq_k fun K53 hK53 => ?_
  refine PV.condP (m < (n.list.length : Int)) (decide (m < (n.list.length : Int))) (by kernel_rfl) decide_eq_true decide_eq_false (fun h54 => ?_) (fun h54 => ?_)
  · skip
    refine PV.skip (thenA_normal (hK53 _ ?_))
    refine PV.seq_k fun K55 hK55 => ?_
    refine PV.block ?_
    refine PV.seq_k fun K56 hK56 => ?_
    refine PV.regionN ?_
    refine PON.runs 2 (by kernel_rfl) ?_
    refine PON.fin rfl (thenA_normal (hK56 _ ?_))
    refine PV.seq_k fun K57 hK57 => ?_
    refine PV.regionN ?_
    refine PON.runs 3 (by kernel_rfl) ?_
    refine PON.ops (aIndexAddr_map Try.prog [.live ⟨1, [[iv t]], 3⟩, .live ⟨8, [(PNode.cells n)], 26⟩, .live ⟨3, [(Val.cells x)], 23⟩] 24 23 3 Val.cells (by kernel_rfl) (by kernel_rfl) n.list .i64 m (by omega)) (by kernel_rfl) (by kernel_rfl) ?_
    refine PON.runs 1 (by kernel_rfl) ?_
    refine PON.norm ⟨[.sF 3 (n.list.map Val.cells), .fn (.func 47) [] [po 0, po 2], A, A, A, iv m, A, iv (n.list.length : Int), iv m, bv (decide (m < (n.list.length : Int))), iv m, .fn (.func 47) [] [po 0, po 2], .sF 3 (n.list.map Val.cells), iv m, .pF (Val.cells (n.list[m.toNat]!)) 0, .agg (Val.cells (n.list[m.toNat]!)), A, A, A], [.live ⟨1, [[iv t]], 3⟩, .live ⟨8, [(PNode.cells n)], 26⟩, .live ⟨3, [(Val.cells x)], 23⟩]⟩ (by kernel_rfl) ?_
    refine PON.callR (f := 47) (args := [.agg (Val.cells (n.list[m.toNat]!)), po 0, po 2]) (d := some 16) (R := _) (by kernel_rfl) ?_ (fun x h' hx => hx)
    refine PC.of_bodyV Try.func47 rfl (.agg (Val.cells (n.list[m.toNat]!)) :: po 0 :: po 2 :: U9 ([U, U, U])) (by kernel_rfl) (fun K59 hret58 => ?_)
    refine PV.seq_k fun K60 hK60 => ?_
    refine PV.regionN ?_
    refine PON.runs 2 (by kernel_rfl) ?_
    refine PON.fin rfl (thenA_normal (hK60 _ ?_))
    refine PV.norm ⟨(.agg (Val.cells (n.list[m.toNat]!)) :: po 0 :: po 2 :: po 3 :: bv false :: U9 ([U])), [.live ⟨1, [[iv t]], 3⟩, .live ⟨8, [(PNode.cells n)], 26⟩, .live ⟨3, [(Val.cells x)], 23⟩, .live ⟨3, [(Val.cells (n.list[m.toNat]!))], 23⟩]⟩ (by kernel_rfl) ?_
    refine PV.seqR [0, 1, 2, 3] ⟨(.agg (Val.cells (n.list[m.toNat]!)) :: po 0 :: po 2 :: po 3 :: bv (decide (¬(((n.list[m.toNat]!).null) = true) ∧ ((vCompare t x (n.list[m.toNat]!)) = 0))) :: A9 ([A])), [.live ⟨1, [[iv t]], 3⟩, .live ⟨8, [(PNode.cells n)], 26⟩, .live ⟨3, [(Val.cells x)], 23⟩, .live ⟨3, [(Val.cells (n.list[m.toNat]!))], 23⟩]⟩ ?_ ?_
    · skip
      refine PV.regionN ?_
      refine PON.runs 4 (by kernel_rfl) ?_
      refine PON.norm ⟨[.agg (Val.cells (n.list[m.toNat]!)), po 0, po 2, po 3, bv false, po 3, bv ((n.list[m.toNat]!).null), bv (!((n.list[m.toNat]!).null)), bv (!((n.list[m.toNat]!).null)), U, U, U, U, U, U], [.live ⟨1, [[iv t]], 3⟩, .live ⟨8, [(PNode.cells n)], 26⟩, .live ⟨3, [(Val.cells x)], 23⟩, .live ⟨3, [(Val.cells (n.list[m.toNat]!))], 23⟩]⟩ (by kernel_rfl) ?_
      refine PON.splitN (((n.list[m.toNat]!).null) = true) 8 (!((n.list[m.toNat]!).null)) [.agg (Val.cells (n.list[m.toNat]!)), po 0, po 2, po 3, bv false, po 3, bv ((n.list[m.toNat]!).null), bv (!((n.list[m.toNat]!).null)), bv false, U, U, U, U, U, U] [.agg (Val.cells (n.list[m.toNat]!)), po 0, po 2, po 3, bv false, po 3, bv ((n.list[m.toNat]!).null), bv (!((n.list[m.toNat]!).null)), bv true, U, U, U, U, U, U] (by kernel_rfl) (fun h => bnot_t ((fun h => h) h)) (fun h => bnot_f (bool_ff h)) (by kernel_rfl) (by kernel_rfl) (fun h61 => ?_) (fun h61 => ?_)
      · skip
        refine PON.runs 7 (by kernel_rfl) ?_
        refine PON.norm ⟨[.agg (Val.cells (n.list[m.toNat]!)), po 0, po 2, po 3, bv false, po 3, bv ((n.list[m.toNat]!).null), bv (!((n.list[m.toNat]!).null)), bv false, U, U, U, U, U, bv false], [.live ⟨1, [[iv t]], 3⟩, .live ⟨8, [(PNode.cells n)], 26⟩, .live ⟨3, [(Val.cells x)], 23⟩, .live ⟨3, [(Val.cells (n.list[m.toNat]!))], 23⟩]⟩ (by kernel_rfl) ?_
        refine PON.fin rfl (thenA_normal ?_)
        exact ⟨rfl, rfl, (.cons (.tree (by simp only [NIs_cons, NIs_nil, NIr_cons, NIr_nil, NI_v, NI_any, NI_pO, NI_sO, NI_pF, NI_sF, NI_agg, NI_tup, NI_fn, NIh_nil, NIh_live, NIh_dead, NIh_free, NIr_map, NIr_append, NIs_icells, NIs_scells, NIs_bcells, NIs_Val, NIs_Col, NIs_Schema, NIs_PNode, NIs_Src, NIr_Val, NIr_Col, NIr_ints, NIr_PNode]; try simp)) (.cons (.pO _ _ rfl) (.cons (.pO _ _ rfl) (.cons (.pO _ _ rfl) (.cons (.eq (.v _) (v_bool (by clear hret hK1 hK2 hK3 hK6 hK7 hK10 hK11 hK12 hK13 hK16 hK19 hK22 hK25 hK28 hK31 hK32 hK33 hK34 hK35 hK41 hK42 hret43 hK45 hK46 hret47 hK49 hK50 hK51 hK52 hK53 hK55 hK56 hK57 hret58 hK60 K0 K1 K2 K3 K6 K7 K10 K11 K12 K13 K16 K19 K22 K25 K28 K31 K32 K33 K34 K35 K41 K42 K44 K45 K46 K48 K49 K50 K51 K52 K53 K55 K56 K57 K59 K60; (try simp only [strEq_dec]); grind))) (.a9 (.any .nil))))))), (.cons rfl (.tree (by simp only [NIs_cons, NIs_nil, NIr_cons, NIr_nil, NI_v, NI_any, NI_pO, NI_sO, NI_pF, NI_sF, NI_agg, NI_tup, NI_fn, NIh_nil, NIh_live, NIh_dead, NIh_free, NIr_map, NIr_append, NIs_icells, NIs_scells, NIs_bcells, NIs_Val, NIs_Col, NIs_Schema, NIs_PNode, NIs_Src, NIr_Val, NIr_Col, NIr_ints, NIr_PNode]; try simp)) (.cons rfl (.tree (by simp only [NIs_cons, NIs_nil, NIr_cons, NIr_nil, NI_v, NI_any, NI_pO, NI_sO, NI_pF, NI_sF, NI_agg, NI_tup, NI_fn, NIh_nil, NIh_live, NIh_dead, NIh_free, NIr_map, NIr_append, NIs_icells, NIs_scells, NIs_bcells, NIs_Val, NIs_Col, NIs_Schema, NIs_PNode, NIs_Src, NIr_Val, NIr_Col, NIr_ints, NIr_PNode]; try simp)) (.cons rfl (.tree (by simp only [NIs_cons, NIs_nil, NIr_cons, NIr_nil, NI_v, NI_any, NI_pO, NI_sO, NI_pF, NI_sF, NI_agg, NI_tup, NI_fn, NIh_nil, NIh_live, NIh_dead, NIh_free, NIr_map, NIr_append, NIs_icells, NIs_scells, NIs_bcells, NIs_Val, NIs_Col, NIs_Schema, NIs_PNode, NIs_Src, NIr_Val, NIr_Col, NIr_ints, NIr_PNode]; try simp)) (.cons rfl (.tree (by simp only [NIs_cons, NIs_nil, NIr_cons, NIr_nil, NI_v, NI_any, NI_pO, NI_sO, NI_pF, NI_sF, NI_agg, NI_tup, NI_fn, NIh_nil, NIh_live, NIh_dead, NIh_free, NIr_map, NIr_append, NIs_icells, NIs_scells, NIs_bcells, NIs_Val, NIs_Col, NIs_Schema, NIs_PNode, NIs_Src, NIr_Val, NIr_Col, NIr_ints, NIr_PNode]; try simp)) .nil))))⟩
      refine PON.runs 3 (by kernel_rfl) ?_
      refine PON.call 45 [iv t, .agg (Val.cells x), .agg (Val.cells (n.list[m.toNat]!))] (some 12) (pre := []) (post := []) (x := iv (vCompare t x (n.list[m.toNat]!))) _ (by kernel_rfl) (vCompare_ok t x (n.list[m.toNat]!)) trivial rfl ?_
      refine PON.runs 3 (by kernel_rfl) ?_
      refine PON.norm ⟨[.agg (Val.cells (n.list[m.toNat]!)), po 0, po 2, po 3, bv (decide ((vCompare t x (n.list[m.toNat]!)) = 0)), po 3, bv ((n.list[m.toNat]!).null), bv (!((n.list[m.toNat]!).null)), bv true, iv t, .agg (Val.cells x), .agg (Val.cells (n.list[m.toNat]!)), iv (vCompare t x (n.list[m.toNat]!)), bv (decide ((vCompare t x (n.list[m.toNat]!)) = 0)), bv (decide ((vCompare t x (n.list[m.toNat]!)) = 0))], [.live ⟨1, [[iv t]], 3⟩, .live ⟨8, [(PNode.cells n)], 26⟩, .live ⟨3, [(Val.cells x)], 23⟩, .live ⟨3, [(Val.cells (n.list[m.toNat]!))], 23⟩]⟩ (by kernel_rfl) ?_
      refine PON.fin rfl (thenA_normal ?_)
      exact ⟨rfl, rfl, (.cons (.tree (by simp only [NIs_cons, NIs_nil, NIr_cons, NIr_nil, NI_v, NI_any, NI_pO, NI_sO, NI_pF, NI_sF, NI_agg, NI_tup, NI_fn, NIh_nil, NIh_live, NIh_dead, NIh_free, NIr_map, NIr_append, NIs_icells, NIs_scells, NIs_bcells, NIs_Val, NIs_Col, NIs_Schema, NIs_PNode, NIs_Src, NIr_Val, NIr_Col, NIr_ints, NIr_PNode]; try simp)) (.cons (.pO _ _ rfl) (.cons (.pO _ _ rfl) (.cons (.pO _ _ rfl) (.cons (.eq (.v _) (v_bool (by clear hret hK1 hK2 hK3 hK6 hK7 hK10 hK11 hK12 hK13 hK16 hK19 hK22 hK25 hK28 hK31 hK32 hK33 hK34 hK35 hK41 hK42 hret43 hK45 hK46 hret47 hK49 hK50 hK51 hK52 hK53 hK55 hK56 hK57 hret58 hK60 K0 K1 K2 K3 K6 K7 K10 K11 K12 K13 K16 K19 K22 K25 K28 K31 K32 K33 K34 K35 K41 K42 K44 K45 K46 K48 K49 K50 K51 K52 K53 K55 K56 K57 K59 K60; (try simp only [strEq_dec]); grind))) (.a9 (.any .nil))))))), (.cons rfl (.tree (by simp only [NIs_cons, NIs_nil, NIr_cons, NIr_nil, NI_v, NI_any, NI_pO, NI_sO, NI_pF, NI_sF, NI_agg, NI_tup, NI_fn, NIh_nil, NIh_live, NIh_dead, NIh_free, NIr_map, NIr_append, NIs_icells, NIs_scells, NIs_bcells, NIs_Val, NIs_Col, NIs_Schema, NIs_PNode, NIs_Src, NIr_Val, NIr_Col, NIr_ints, NIr_PNode]; try simp)) (.cons rfl (.tree (by simp only [NIs_cons, NIs_nil, NIr_cons, NIr_nil, NI_v, NI_any, NI_pO, NI_sO, NI_pF, NI_sF, NI_agg, NI_tup, NI_fn, NIh_nil, NIh_live, NIh_dead, NIh_free, NIr_map, NIr_append, NIs_icells, NIs_scells, NIs_bcells, NIs_Val, NIs_Col, NIs_Schema, NIs_PNode, NIs_Src, NIr_Val, NIr_Col, NIr_ints, NIr_PNode]; try simp)) (.cons rfl (.tree (by simp only [NIs_cons, NIs_nil, NIr_cons, NIr_nil, NI_v, NI_any, NI_pO, NI_sO, NI_pF, NI_sF, NI_agg, NI_tup, NI_fn, NIh_nil, NIh_live, NIh_dead, NIh_free, NIr_map, NIr_append, NIs_icells, NIs_scells, NIs_bcells, NIs_Val, NIs_Col, NIs_Schema, NIs_PNode, NIs_Src, NIr_Val, NIr_Col, NIr_ints, NIr_PNode]; try simp)) (.cons rfl (.tree (by simp only [NIs_cons, NIs_nil, NIr_cons, NIr_nil, NI_v, NI_any, NI_pO, NI_sO, NI_pF, NI_sF, NI_agg, NI_tup, NI_fn, NIh_nil, NIh_live, NIh_dead, NIh_free, NIr_map, NIr_append, NIs_icells, NIs_scells, NIs_bcells, NIs_Val, NIs_Col, NIs_Schema, NIs_PNode, NIs_Src, NIr_Val, NIr_Col, NIr_ints, NIr_PNode]; try simp)) .nil))))⟩
    refine PV.ret (hret58 .ret _ (bv (decide (¬(((n.list[m.toNat]!).null) = true) ∧ ((vCompare t x (n.list[m.toNat]!)) = 0)))) (.inr rfl) (by kernel_rfl) ?_)
    refine PON.norm ⟨[.sF 3 (n.list.map Val.cells), .fn (.func 47) [] [po 0, po 2], A, A, A, iv m, A, iv (n.list.length : Int), iv m, bv (decide (m < (n.list.length : Int))), iv m, .fn (.func 47) [] [po 0, po 2], .sF 3 (n.list.map Val.cells), iv m, .pF (Val.cells (n.list[m.toNat]!)) 0, .agg (Val.cells (n.list[m.toNat]!)), bv (decide (¬(((n.list[m.toNat]!).null) = true) ∧ ((vCompare t x (n.list[m.toNat]!)) = 0))), A, A], [.live ⟨1, [[iv t]], 3⟩, .live ⟨8, [(PNode.cells n)], 26⟩, .live ⟨3, [(Val.cells x)], 23⟩, .live ⟨3, [(Val.cells (n.list[m.toNat]!))], 23⟩]⟩ (by kernel_rfl) ?_
    refine PON.fin rfl (thenA_normal (hK57 _ ?_))
    refine PV.condP (¬(((n.list[m.toNat]!).null) = true) ∧ ((vCompare t x (n.list[m.toNat]!)) = 0)) (decide (¬(((n.list[m.toNat]!).null) = true) ∧ ((vCompare t x (n.list[m.toNat]!)) = 0))) (by kernel_rfl) decide_eq_true decide_eq_false (fun h62 => ?_) (fun h62 => ?_)
    · skip
      have hy : anyEq t x n.list = true := by
        rw [hf, drop_step _ _ (by omega)]
        simp only [anyEq, List.any_cons, Bool.or_eq_true, Bool.and_eq_true, decide_eq_true_eq]
        grind
      refine PV.seq_k fun K63 hK63 => ?_
      refine PV.regionN ?_
      refine PON.runs 2 (by kernel_rfl) ?_
      refine PON.fin rfl (thenA_normal (hK63 _ ?_))
      refine PV.norm ⟨[.sF 3 (n.list.map Val.cells), .fn (.func 47) [] [po 0, po 2], A, A, iv m, iv m, A, iv (n.list.length : Int), iv m, bv (decide (m < (n.list.length : Int))), iv m, .fn (.func 47) [] [po 0, po 2], .sF 3 (n.list.map Val.cells), iv m, .pF (Val.cells (n.list[m.toNat]!)) 0, .agg (Val.cells (n.list[m.toNat]!)), bv (decide (¬(((n.list[m.toNat]!).null) = true) ∧ ((vCompare t x (n.list[m.toNat]!)) = 0))), iv m, A], [.live ⟨1, [[iv t]], 3⟩, .live ⟨8, [(PNode.cells n)], 26⟩, .live ⟨3, [(Val.cells x)], 23⟩, .live ⟨3, [(Val.cells (n.list[m.toNat]!))], 23⟩]⟩ (by kernel_rfl) ?_
      refine PV.ret (inBlockA_ret (thenA_ret (thenA_ret (inBlockA_ret (thenA_ret (hret47 .ret _ (iv m) (.inr rfl) (by kernel_rfl) ?_))))))
      refine PON.norm ⟨[.sF 3 (n.list.map Val.cells), .fn (.func 47) [] [po 0, po 2], U, U, bv false, .sF 3 (n.list.map Val.cells), .fn (.func 47) [] [po 0, po 2], iv m, U], [.live ⟨1, [[iv t]], 3⟩, .live ⟨8, [(PNode.cells n)], 26⟩, .live ⟨3, [(Val.cells x)], 23⟩, .live ⟨3, [(Val.cells (n.list[m.toNat]!))], 23⟩]⟩ (by kernel_rfl) ?_
      refine PON.runs 2 (by kernel_rfl) ?_
      refine PON.fin rfl (thenA_normal (hK46 _ ?_))
      refine PV.norm ⟨[.sF 3 (n.list.map Val.cells), .fn (.func 47) [] [po 0, po 2], U, U, bv (decide (m ≥ 0)), .sF 3 (n.list.map Val.cells), .fn (.func 47) [] [po 0, po 2], iv m, bv (decide (m ≥ 0))], [.live ⟨1, [[iv t]], 3⟩, .live ⟨8, [(PNode.cells n)], 26⟩, .live ⟨3, [(Val.cells x)], 23⟩, .live ⟨3, [(Val.cells (n.list[m.toNat]!))], 23⟩]⟩ (by kernel_rfl) ?_
      refine PV.ret (hret43 .ret _ (bv (decide (m ≥ 0))) (.inr rfl) (by kernel_rfl) ?_)
      refine PON.norm ⟨(A :: A :: A :: po 0 :: po 1 :: po 2 :: iv 0 :: A :: iv o :: A9 (A9 (A9 (A9 (A9 (A :: A :: A :: .sF 3 (n.list.map Val.cells) :: iv (n.list.length : Int) :: iv k :: bv (decide (k < (n.list.length : Int))) :: A4 ([A, .pO 1 0 5, .sF 3 (n.list.map Val.cells), .fn (.func 47) [] [po 0, po 2], bv (decide (m ≥ 0)), A]))))))), [.live ⟨1, [[iv t]], 3⟩, .live ⟨8, [(PNode.cells n)], 26⟩, .live ⟨3, [(Val.cells x)], 23⟩, .live ⟨3, [(Val.cells (n.list[m.toNat]!))], 23⟩]⟩ (by kernel_rfl) ?_
      refine PON.fin rfl (thenA_normal (hK42 _ ?_))
      refine PV.condP (m ≥ 0) (decide (m ≥ 0)) (by kernel_rfl) decide_eq_true decide_eq_false (fun h64 => ?_) (fun h64 => ?_)
      · skip
        refine PV.regionN ?_
        refine PON.runs 1 (by kernel_rfl) ?_
        refine PON.fin rfl (thenA_normal (hK41 _ ?_))
        refine PV.seq_k fun K65 hK65 => ?_
        refine PV.regionN ?_
        refine PON.runs 2 (by kernel_rfl) ?_
        refine PON.fin rfl (thenA_normal (hK65 _ ?_))
        refine PV.norm ⟨(A :: A :: A :: po 0 :: po 1 :: po 2 :: iv 1 :: A :: iv 1 :: A9 (A9 (A9 (A9 (A9 (A :: A :: A :: .sF 3 (n.list.map Val.cells) :: iv (n.list.length : Int) :: iv k :: bv (decide (k < (n.list.length : Int))) :: A4 ([A, .pO 1 0 5, .sF 3 (n.list.map Val.cells), .fn (.func 47) [] [po 0, po 2], bv (decide (m ≥ 0)), iv 1]))))))), [.live ⟨1, [[iv t]], 3⟩, .live ⟨8, [(PNode.cells n)], 26⟩, .live ⟨3, [(Val.cells x)], 23⟩, .live ⟨3, [(Val.cells (n.list[m.toNat]!))], 23⟩]⟩ (by kernel_rfl) ?_
        refine PV.ret (hret .ret _ (iv 1) (.inr rfl) (by kernel_rfl) ?_)
        clear hret hK1 hK2 hK3 hK6 hK7 hK10 hK11 hK12 hK13 hK16 hK19 hK22 hK25 hK28 hK31 hK32 hK33 hK34 hK35 hK41 hK42 hret43 hK45 hK46 hret47 hK49 hK50 hK51 hK52 hK53 hK55 hK56 hK57 hret58 hK60 hK63 hK65 K0 K1 K2 K3 K6 K7 K10 K11 K12 K13 K16 K19 K22 K25 K28 K31 K32 K33 K34 K35 K41 K42 K44 K45 K46 K48 K49 K50 K51 K52 K53 K55 K56 K57 K59 K60 K63 K65
        show Tof noTau [.live ⟨1, [[iv t]], 3⟩, .live ⟨8, [(PNode.cells n)], 26⟩, .live ⟨3, [(Val.cells x)], 23⟩, .live ⟨3, [(Val.cells (n.list[m.toNat]!))], 23⟩] (iv 1) (iv (vTest t n x))
        -- leaf 9
        refine Tof.int ?_
        first | grind [vTest] | grind [vTest, anyEq, anyNull]
      refine PV.skip (thenA_normal (hK41 _ ?_))
      refine PV.seq_k fun K66 hK66 => ?_
      refine PV.regionN ?_
      refine PON.runs 2 (by kernel_rfl) ?_
      refine PON.fin rfl (thenA_normal (hK66 _ ?_))
      refine PV.norm ⟨(A :: A :: A :: po 0 :: po 1 :: po 2 :: iv o :: A :: iv o :: A9 (A9 (A9 (A9 (A9 (A :: A :: A :: .sF 3 (n.list.map Val.cells) :: iv (n.list.length : Int) :: iv k :: bv (decide (k < (n.list.length : Int))) :: A4 ([A, .pO 1 0 5, .sF 3 (n.list.map Val.cells), .fn (.func 47) [] [po 0, po 2], bv (decide (m ≥ 0)), iv o]))))))), [.live ⟨1, [[iv t]], 3⟩, .live ⟨8, [(PNode.cells n)], 26⟩, .live ⟨3, [(Val.cells x)], 23⟩, .live ⟨3, [(Val.cells (n.list[m.toNat]!))], 23⟩]⟩ (by kernel_rfl) ?_
      refine PV.ret (hret .ret _ (iv o) (.inr rfl) (by kernel_rfl) ?_)
      clear hret hK1 hK2 hK3 hK6 hK7 hK10 hK11 hK12 hK13 hK16 hK19 hK22 hK25 hK28 hK31 hK32 hK33 hK34 hK35 hK41 hK42 hret43 hK45 hK46 hret47 hK49 hK50 hK51 hK52 hK53 hK55 hK56 hK57 hret58 hK60 hK63 hK66 K0 K1 K2 K3 K6 K7 K10 K11 K12 K13 K16 K19 K22 K25 K28 K31 K32 K33 K34 K35 K41 K42 K44 K45 K46 K48 K49 K50 K51 K52 K53 K55 K56 K57 K59 K60 K63 K66
      show Tof noTau [.live ⟨1, [[iv t]], 3⟩, .live ⟨8, [(PNode.cells n)], 26⟩, .live ⟨3, [(Val.cells x)], 23⟩, .live ⟨3, [(Val.cells (n.list[m.toNat]!))], 23⟩] (iv o) (iv (vTest t n x))
      -- leaf 10
      refine Tof.int ?_
      first | grind [vTest] | grind [vTest, anyEq, anyNull]
    refine PV.skip (inBlockA_normal (thenA_normal (hK55 _ ?_)))
    refine PV.regionN ?_
    refine PON.ops (aBin_add_in Try.prog [.live ⟨1, [[iv t]], 3⟩, .live ⟨8, [(PNode.cells n)], 26⟩, .live ⟨3, [(Val.cells x)], 23⟩, .live ⟨3, [(Val.cells (n.list[m.toNat]!))], 23⟩] 3 (.tmp 8) (.const (.int .i64 1)) .i64 m 1 (by rw [wrap64] <;> omega)) (by kernel_rfl) (by kernel_rfl) ?_
    refine PON.runs 1 (by kernel_rfl) ?_
    refine PON.norm ⟨[.sF 3 (n.list.map Val.cells), .fn (.func 47) [] [po 0, po 2], A, A, A, iv m, A, iv (n.list.length : Int), iv (m + 1), bv (decide (m < (n.list.length : Int))), iv m, .fn (.func 47) [] [po 0, po 2], .sF 3 (n.list.map Val.cells), iv m, .pF (Val.cells (n.list[m.toNat]!)) 0, .agg (Val.cells (n.list[m.toNat]!)), bv (decide (¬(((n.list[m.toNat]!).null) = true) ∧ ((vCompare t x (n.list[m.toNat]!)) = 0))), A, iv (m + 1)], [.live ⟨1, [[iv t]], 3⟩, .live ⟨8, [(PNode.cells n)], 26⟩, .live ⟨3, [(Val.cells x)], 23⟩, .live ⟨3, [(Val.cells (n.list[m.toNat]!))], 23⟩]⟩ (by kernel_rfl) ?_
    refine PON.fin rfl (thenA_normal ?_)
    refine ⟨[0, 1, 2], (m + 1), ⟨rfl, rfl, (.cons (.tree (by simp only [NIs_cons, NIs_nil, NIr_cons, NIr_nil, NI_v, NI_any, NI_pO, NI_sO, NI_pF, NI_sF, NI_agg, NI_tup, NI_fn, NIh_nil, NIh_live, NIh_dead, NIh_free, NIr_map, NIr_append, NIs_icells, NIs_scells, NIs_bcells, NIs_Val, NIs_Col, NIs_Schema, NIs_PNode, NIs_Src, NIr_Val, NIr_Col, NIr_ints, NIr_PNode]; try simp)) (.cons (.fn .nil (.cons (.pO _ _ rfl) (.cons (.pO _ _ rfl) .nil))) (.a4 (.any (.v (.v (.a9 (.any .nil)))))))), (.cons rfl (.tree (by simp only [NIs_cons, NIs_nil, NIr_cons, NIr_nil, NI_v, NI_any, NI_pO, NI_sO, NI_pF, NI_sF, NI_agg, NI_tup, NI_fn, NIh_nil, NIh_live, NIh_dead, NIh_free, NIr_map, NIr_append, NIs_icells, NIs_scells, NIs_bcells, NIs_Val, NIs_Col, NIs_Schema, NIs_PNode, NIs_Src, NIr_Val, NIr_Col, NIr_ints, NIr_PNode]; try simp)) (.cons rfl (.tree (by simp only [NIs_cons, NIs_nil, NIr_cons, NIr_nil, NI_v, NI_any, NI_pO, NI_sO, NI_pF, NI_sF, NI_agg, NI_tup, NI_fn, NIh_nil, NIh_live, NIh_dead, NIh_free, NIr_map, NIr_append, NIs_icells, NIs_scells, NIs_bcells, NIs_Val, NIs_Col, NIs_Schema, NIs_PNode, NIs_Src, NIr_Val, NIr_Col, NIr_ints, NIr_PNode]; try simp)) (.cons rfl (.tree (by simp only [NIs_cons, NIs_nil, NIr_cons, NIr_nil, NI_v, NI_any, NI_pO, NI_sO, NI_pF, NI_sF, NI_agg, NI_tup, NI_fn, NIh_nil, NIh_live, NIh_dead, NIh_free, NIr_map, NIr_append, NIs_icells, NIs_scells, NIs_bcells, NIs_Val, NIs_Col, NIs_Schema, NIs_PNode, NIs_Src, NIr_Val, NIr_Col, NIr_ints, NIr_PNode]; try simp)) .nil)))⟩, ?_, ?_⟩
    · skip
      clear hret hK1 hK2 hK3 hK6 hK7 hK10 hK11 hK12 hK13 hK16 hK19 hK22 hK25 hK28 hK31 hK32 hK33 hK34 hK35 hK41 hK42 hret43 hK45 hK46 hret47 hK49 hK50 hK51 hK52 hK53 hK55 hK56 hK57 hret58 hK60 K0 K1 K2 K3 K6 K7 K10 K11 K12 K13 K16 K19 K22 K25 K28 K31 K32 K33 K34 K35 K41 K42 K44 K45 K46 K48 K49 K50 K51 K52 K53 K55 K56 K57 K59 K60
      refine ⟨?_, ?_⟩
      · skip
        show 0 ≤ (m + 1) ∧ (m + 1) ≤ n.list.length
        omega
      · skip
        show anyEq t x n.list = anyEq t x (n.list.drop (m + 1).toNat)
        rw [drop_step _ _ (by omega)] at hf
        simp only [anyEq, List.any_cons] at hf ⊢
        rw [hf]
        grind
    · skip
      clear hret hK1 hK2 hK3 hK6 hK7 hK10 hK11 hK12 hK13 hK16 hK19 hK22 hK25 hK28 hK31 hK32 hK33 hK34 hK35 hK41 hK42 hret43 hK45 hK46 hret47 hK49 hK50 hK51 hK52 hK53 hK55 hK56 hK57 hret58 hK60 K0 K1 K2 K3 K6 K7 K10 K11 K12 K13 K16 K19 K22 K25 K28 K31 K32 K33 K34 K35 K41 K42 K44 K45 K46 K48 K49 K50 K51 K52 K53 K55 K56 K57 K59 K60
      show ((n.list.length : Int) - (m + 1)).toNat < ((n.list.length : Int) - m).toNat
      omega
  rw [drop_end _ _ (by omega)] at hf
  refine PV.exit (thenA_exit (thenA_exit (inBlockA_hit (thenA_normal (hK50 _ ?_)))))
  refine PV.seq_k fun K67 hK67 => ?_
  refine PV.regionN ?_
  refine PON.runs 1 (by kernel_rfl) ?_
  refine PON.fin rfl (thenA_normal (hK67 _ ?_))
  refine PV.norm ⟨(.sF 3 (n.list.map Val.cells) :: .fn (.func 47) [] [po 0, po 2] :: A :: A :: iv (-1) :: A :: A :: iv (n.list.length : Int) :: iv m :: bv (decide (m < (n.list.length : Int))) :: A9 ([])), [.live ⟨1, [[iv t]], 3⟩, .live ⟨8, [(PNode.cells n)], 26⟩, .live ⟨3, [(Val.cells x)], 23⟩]⟩ (by kernel_rfl) ?_
  refine PV.ret (hret47 .ret _ (iv (-1)) (.inr rfl) (by kernel_rfl) ?_)
  refine PON.norm ⟨[.sF 3 (n.list.map Val.cells), .fn (.func 47) [] [po 0, po 2], U, U, bv false, .sF 3 (n.list.map Val.cells), .fn (.func 47) [] [po 0, po 2], iv (-1), U], [.live ⟨1, [[iv t]], 3⟩, .live ⟨8, [(PNode.cells n)], 26⟩, .live ⟨3, [(Val.cells x)], 23⟩]⟩ (by kernel_rfl) ?_
  refine PON.runs 2 (by kernel_rfl) ?_
  refine PON.fin rfl (thenA_normal (hK46 _ ?_))
  refine PV.norm ⟨[.sF 3 (n.list.map Val.cells), .fn (.func 47) [] [po 0, po 2], U, U, bv false, .sF 3 (n.list.map Val.cells), .fn (.func 47) [] [po 0, po 2], iv (-1), bv false], [.live ⟨1, [[iv t]], 3⟩, .live ⟨8, [(PNode.cells n)], 26⟩, .live ⟨3, [(Val.cells x)], 23⟩]⟩ (by kernel_rfl) ?_
  refine PV.ret (hret43 .ret _ (bv false) (.inr rfl) (by kernel_rfl) ?_)
  refine PON.norm ⟨(A :: A :: A :: po 0 :: po 1 :: po 2 :: iv 0 :: A :: iv o :: A9 (A9 (A9 (A9 (A9 (A :: A :: A :: .sF 3 (n.list.map Val.cells) :: iv (n.list.length : Int) :: iv k :: bv (decide (k < (n.list.length : Int))) :: A4 ([A, .pO 1 0 5, .sF 3 (n.list.map Val.cells), .fn (.func 47) [] [po 0, po 2], bv false, A]))))))), [.live ⟨1, [[iv t]], 3⟩, .live ⟨8, [(PNode.cells n)], 26⟩, .live ⟨3, [(Val.cells x)], 23⟩]⟩ (by kernel_rfl) ?_
  refine PON.fin rfl (thenA_normal (hK42 _ ?_))
  refine PV.cond_false (by kernel_rfl) ?_
  refine PV.skip (thenA_normal (hK41 _ ?_))
  refine PV.seq_k fun K68 hK68 => ?_
  refine PV.regionN ?_
  refine PON.runs 2 (by kernel_rfl) ?_
  refine PON.fin rfl (thenA_normal (hK68 _ ?_))
  refine PV.norm ⟨(A :: A :: A :: po 0 :: po 1 :: po 2 :: iv o :: A :: iv o :: A9 (A9 (A9 (A9 (A9 (A :: A :: A :: .sF 3 (n.list.map Val.cells) :: iv (n.list.length : Int) :: iv k :: bv (decide (k < (n.list.length : Int))) :: A4 ([A, .pO 1 0 5, .sF 3 (n.list.map Val.cells), .fn (.func 47) [] [po 0, po 2], bv false, iv o]))))))), [.live ⟨1, [[iv t]], 3⟩, .live ⟨8, [(PNode.cells n)], 26⟩, .live ⟨3, [(Val.cells x)], 23⟩]⟩ (by kernel_rfl) ?_
  refine PV.ret (hret .ret _ (iv o) (.inr rfl) (by kernel_rfl) ?_)
  clear hret hK1 hK2 hK3 hK6 hK7 hK10 hK11 hK12 hK13 hK16 hK19 hK22 hK25 hK28 hK31 hK32 hK33 hK34 hK35 hK41 hK42 hret43 hK45 hK46 hret47 hK49 hK50 hK51 hK52 hK53 hK67 hK68 K0 K1 K2 K3 K6 K7 K10 K11 K12 K13 K16 K19 K22 K25 K28 K31 K32 K33 K34 K35 K41 K42 K44 K45 K46 K48 K49 K50 K51 K52 K53 K67 K68
  show Tof noTau [.live ⟨1, [[iv t]], 3⟩, .live ⟨8, [(PNode.cells n)], 26⟩, .live ⟨3, [(Val.cells x)], 23⟩] (iv o) (iv (vTest t n x))
  -- leaf 11
  refine Tof.int ?_
  first | grind [vTest] | grind [vTest, anyEq, anyNull]
theorem test_ok (t : Int) (n : PNode) (x : Val) (hl : n.list.length ≤ maxLen) : PCX Try.prog 28 [iv t, .agg (PNode.cells n), .agg (Val.cells x)] [] [] (iv (vTest t n x)) :=
  PCX.frame (by simp only [NIs_cons, NIs_nil, NIr_cons, NIr_nil, NI_v, NI_any, NI_pO, NI_sO, NI_pF, NI_sF, NI_agg, NI_tup, NI_fn, NIh_nil, NIh_live, NIh_dead, NIh_free, NIr_map, NIr_append, NIs_icells, NIs_scells, NIs_bcells, NIs_Val, NIs_Col, NIs_Schema, NIs_PNode, NIs_Src, NIr_Val, NIr_Col, NIr_ints, NIr_PNode]; try simp) (test_ok_walk t n x hl)

set_option maxHeartbeats 4000000 in
theorem among_ok_walk (typ : Int) (v : Val) (l : (List Val)) (hl : l.length ≤ maxLen) : PC Try.prog 70 [iv typ, .agg (Val.cells v), .sF 3 (l.map Val.cells)] [] (fun yR kR => Tof noTau kR yR (.tup [bv (anyEq typ v l), bv (anyNull l)])) := by
  refine PC.of_bodyV Try.func70 rfl (iv typ :: .agg (Val.cells v) :: .sF 3 (l.map Val.cells) :: U9 (U9 (U9 (U9 ([]))))) (by kernel_rfl) (fun K0 hret => ?_)
  unfold maxLen at hl
  refine PV.seq_k fun K1 hK1 => ?_
  refine PV.regionN ?_
  refine PON.runs 3 (by kernel_rfl) ?_
  refine PON.fin rfl (thenA_normal (hK1 _ ?_))
  refine PV.seq_k fun K2 hK2 => ?_
  refine PV.regionN ?_
  refine PON.runs 2 (by kernel_rfl) ?_
  refine PON.fin rfl (thenA_normal (hK2 _ ?_))
  refine PV.seq_k fun K3 hK3 => ?_
  refine PV.seq_k fun K4 hK4 => ?_
  refine PV.regionN ?_
  refine PON.runs 1 (by kernel_rfl) ?_
  refine PON.ops (aLen_map Try.prog [.live ⟨3, [(Val.cells v)], 23⟩] 24 23 (by kernel_rfl) 3 Val.cells l) (by kernel_rfl) (by kernel_rfl) ?_
  refine PON.runs 1 (by kernel_rfl) ?_
  refine PON.fin rfl (thenA_normal (hK4 _ ?_))
  refine PV.block ?_
  refine PV.norm ⟨(iv typ :: .agg (Val.cells v) :: .sF 3 (l.map Val.cells) :: U :: po 0 :: U :: bv false :: bv false :: bv false :: bv false :: U :: U :: .sF 3 (l.map Val.cells) :: iv (l.length : Int) :: iv 0 :: U9 (U9 ([U, U, U, U, U, U]))), [.live ⟨3, [(Val.cells v)], 23⟩]⟩ (by kernel_rfl) ?_
  refine PV.loopR (α := Int × Bool × Bool) (fun xL => let k := xL.1; let f := xL.2.1; let u := xL.2.2; (⟨(iv typ :: A :: A :: A :: po 0 :: A :: bv false :: bv false :: bv f :: bv u :: A :: A :: .sF 3 (l.map Val.cells) :: iv (l.length : Int) :: iv k :: A9 (A9 (A4 ([A, A])))), [.live ⟨3, [(Val.cells v)], 23⟩]⟩ : St)) (fun xL => let k := xL.1; let f := xL.2.1; let u := xL.2.2; (0 ≤ k ∧ k ≤ l.length) ∧ (anyEq typ v l = (f || anyEq typ v (l.drop k.toNat))) ∧ (anyNull l = (u || anyNull (l.drop k.toNat)))) (fun xL => let k := xL.1; let f := xL.2.1; let u := xL.2.2; ((l.length : Int) - k).toNat) [0] ((0 : Int), false, false) ⟨rfl, rfl, (.v (.any (.any (.any (.cons (.pO _ _ rfl) (.any (.v (.v (.v (.v (.any (.any (.cons (.tree (by simp only [NIs_cons, NIs_nil, NIr_cons, NIr_nil, NI_v, NI_any, NI_pO, NI_sO, NI_pF, NI_sF, NI_agg, NI_tup, NI_fn, NIh_nil, NIh_live, NIh_dead, NIh_free, NIr_map, NIr_append, NIs_icells, NIs_scells, NIs_bcells, NIs_Val, NIs_Col, NIs_Schema, NIs_PNode, NIs_Src, NIr_Val, NIr_Col, NIr_ints, NIr_PNode]; try simp)) (.v (.v (.a9 (.a9 (.a4 (.any (.any .nil)))))))))))))))))))), (.cons rfl (.tree (by simp only [NIs_cons, NIs_nil, NIr_cons, NIr_nil, NI_v, NI_any, NI_pO, NI_sO, NI_pF, NI_sF, NI_agg, NI_tup, NI_fn, NIh_nil, NIh_live, NIh_dead, NIh_free, NIr_map, NIr_append, NIs_icells, NIs_scells, NIs_bcells, NIs_Val, NIs_Col, NIs_Schema, NIs_PNode, NIs_Src, NIr_Val, NIr_Col, NIr_ints, NIr_PNode]; try simp)) .nil)⟩ ?_ ?_
  · skip
    clear hret hK1 hK2 hK3 hK4 K0 K1 K2 K3 K4
    refine ⟨?_, ?_, ?_⟩
    · skip
      show 0 ≤ (0 : Int) ∧ (0 : Int) ≤ l.length
      simp
    · skip
      show anyEq typ v l = (false || anyEq typ v (l.drop (0 : Int).toNat))
      simp
    · skip
      show anyNull l = (false || anyNull (l.drop (0 : Int).toNat))
      simp
  rintro ⟨k, f, u⟩ hJ
  change (0 ≤ k ∧ k ≤ l.length) ∧ (anyEq typ v l = (f || anyEq typ v (l.drop k.toNat))) ∧ (anyNull l = (u || anyNull (l.drop k.toNat))) at hJ
  obtain ⟨hk, hf, hn⟩ := hJ
  show PV _ Try.prog _ ⟨(iv typ :: A :: A :: A :: po 0 :: A :: bv false :: bv false :: bv f :: bv u :: A :: A :: .sF 3 (l.map Val.cells) :: iv (l.length : Int) :: iv k :: A9 (A9 (A4 ([A, A])))), [.live ⟨3, [(Val.cells v)], 23⟩]⟩ _
  refine PV.seq_k fun K5 hK5 => ?_
  refine PV.regionN ?_
  refine PON.runs 1 (by kernel_rfl) ?_
  refine PON.fin rfl (thenA_normal (hK5 _ ?_))
  refine PV.seq_k fun K6 hK6 => ?_
  refine PV.condP (k < (l.length : Int)) (decide (k < (l.length : Int))) (by kernel_rfl) decide_eq_true decide_eq_false (fun h7 => ?_) (fun h7 => ?_)
  · skip
    refine PV.skip (thenA_normal (hK6 _ ?_))
    refine PV.seq_k fun K8 hK8 => ?_
    refine PV.block ?_
    refine PV.seq_k fun K9 hK9 => ?_
    refine PV.regionN ?_
    refine PON.ops (aIndexAddr_map Try.prog [.live ⟨3, [(Val.cells v)], 23⟩] 24 23 3 Val.cells (by kernel_rfl) (by kernel_rfl) l .i64 k (by omega)) (by kernel_rfl) (by kernel_rfl) ?_
    refine PON.runs 3 (by kernel_rfl) ?_
    refine PON.fin rfl (thenA_normal (hK9 _ ?_))
    refine PV.norm ⟨(iv typ :: A :: A :: A :: po 0 :: A :: bv false :: bv false :: bv f :: bv u :: A :: po 1 :: .sF 3 (l.map Val.cells) :: iv (l.length : Int) :: iv k :: bv (decide (k < (l.length : Int))) :: .pF (Val.cells (l[k.toNat]!)) 0 :: .agg (Val.cells (l[k.toNat]!)) :: A9 (A9 ([A, A, A]))), [.live ⟨3, [(Val.cells v)], 23⟩, .live ⟨3, [(Val.cells (l[k.toNat]!))], 23⟩]⟩ (by kernel_rfl) ?_
    refine PV.seqR [0, 1] ⟨(iv typ :: A :: A :: A :: po 0 :: A :: bv false :: bv false :: bv f :: bv (decide ((u = true) ∨ (((l[k.toNat]!).null) = true))) :: A :: po 1 :: .sF 3 (l.map Val.cells) :: iv (l.length : Int) :: iv k :: bv (decide (k < (l.length : Int))) :: .pF (Val.cells (l[k.toNat]!)) 0 :: .agg (Val.cells (l[k.toNat]!)) :: A9 (A9 ([A, A, A]))), [.live ⟨3, [(Val.cells v)], 23⟩, .live ⟨3, [(Val.cells (l[k.toNat]!))], 23⟩]⟩ ?_ ?_
    · skip
      refine PV.regionN ?_
      refine PON.runs 2 (by kernel_rfl) ?_
      refine PON.norm ⟨(iv typ :: A :: A :: A :: po 0 :: A :: bv false :: bv false :: bv f :: bv u :: A :: po 1 :: .sF 3 (l.map Val.cells) :: iv (l.length : Int) :: iv k :: bv (decide (k < (l.length : Int))) :: .pF (Val.cells (l[k.toNat]!)) 0 :: .agg (Val.cells (l[k.toNat]!)) :: bv u :: bv u :: A9 (A9 ([A]))), [.live ⟨3, [(Val.cells v)], 23⟩, .live ⟨3, [(Val.cells (l[k.toNat]!))], 23⟩]⟩ (by kernel_rfl) ?_
      refine PON.splitP (u = true) 19 u (iv typ :: A :: A :: A :: po 0 :: A :: bv false :: bv false :: bv f :: bv u :: A :: po 1 :: .sF 3 (l.map Val.cells) :: iv (l.length : Int) :: iv k :: bv (decide (k < (l.length : Int))) :: .pF (Val.cells (l[k.toNat]!)) 0 :: .agg (Val.cells (l[k.toNat]!)) :: bv u :: bv true :: A9 (A9 ([A]))) (iv typ :: A :: A :: A :: po 0 :: A :: bv false :: bv false :: bv f :: bv u :: A :: po 1 :: .sF 3 (l.map Val.cells) :: iv (l.length : Int) :: iv k :: bv (decide (k < (l.length : Int))) :: .pF (Val.cells (l[k.toNat]!)) 0 :: .agg (Val.cells (l[k.toNat]!)) :: bv u :: bv false :: A9 (A9 ([A]))) (by kernel_rfl) (fun h => h) bool_ff (by kernel_rfl) (by kernel_rfl) (fun h10 => ?_) (fun h10 => ?_)
      · skip
        refine PON.runs 4 (by kernel_rfl) ?_
        refine PON.norm ⟨(iv typ :: A :: A :: A :: po 0 :: A :: bv false :: bv false :: bv f :: bv true :: A :: po 1 :: .sF 3 (l.map Val.cells) :: iv (l.length : Int) :: iv k :: bv (decide (k < (l.length : Int))) :: .pF (Val.cells (l[k.toNat]!)) 0 :: .agg (Val.cells (l[k.toNat]!)) :: bv u :: bv true :: U :: U :: bv true :: A9 (A4 ([A, A, A]))), [.live ⟨3, [(Val.cells v)], 23⟩, .live ⟨3, [(Val.cells (l[k.toNat]!))], 23⟩]⟩ (by kernel_rfl) ?_
        refine PON.fin rfl (thenA_normal ?_)
        exact ⟨rfl, rfl, (.v (.any (.any (.any (.cons (.pO _ _ rfl) (.any (.v (.v (.v (.cons (.eq (.v _) (v_bool (by clear hret hK1 hK2 hK3 hK4 hK5 hK6 hK8 hK9 K0 K1 K2 K3 K4 K5 K6 K8 K9; (try simp only [strEq_dec]); grind))) (.any (.cons (.pO _ _ rfl) (.cons (.tree (by simp only [NIs_cons, NIs_nil, NIr_cons, NIr_nil, NI_v, NI_any, NI_pO, NI_sO, NI_pF, NI_sF, NI_agg, NI_tup, NI_fn, NIh_nil, NIh_live, NIh_dead, NIh_free, NIr_map, NIr_append, NIs_icells, NIs_scells, NIs_bcells, NIs_Val, NIs_Col, NIs_Schema, NIs_PNode, NIs_Src, NIr_Val, NIr_Col, NIr_ints, NIr_PNode]; try simp)) (.v (.v (.v (.cons (.tree (by simp only [NIs_cons, NIs_nil, NIr_cons, NIr_nil, NI_v, NI_any, NI_pO, NI_sO, NI_pF, NI_sF, NI_agg, NI_tup, NI_fn, NIh_nil, NIh_live, NIh_dead, NIh_free, NIr_map, NIr_append, NIs_icells, NIs_scells, NIs_bcells, NIs_Val, NIs_Col, NIs_Schema, NIs_PNode, NIs_Src, NIr_Val, NIr_Col, NIr_ints, NIr_PNode]; try simp)) (.cons (.tree (by simp only [NIs_cons, NIs_nil, NIr_cons, NIr_nil, NI_v, NI_any, NI_pO, NI_sO, NI_pF, NI_sF, NI_agg, NI_tup, NI_fn, NIh_nil, NIh_live, NIh_dead, NIh_free, NIr_map, NIr_append, NIs_icells, NIs_scells, NIs_bcells, NIs_Val, NIs_Col, NIs_Schema, NIs_PNode, NIs_Src, NIr_Val, NIr_Col, NIr_ints, NIr_PNode]; try simp)) (.a9 (.a9 (.any (.any (.any .nil))))))))))))))))))))))), (.cons rfl (.tree (by simp only [NIs_cons, NIs_nil, NIr_cons, NIr_nil, NI_v, NI_any, NI_pO, NI_sO, NI_pF, NI_sF, NI_agg, NI_tup, NI_fn, NIh_nil, NIh_live, NIh_dead, NIh_free, NIr_map, NIr_append, NIs_icells, NIs_scells, NIs_bcells, NIs_Val, NIs_Col, NIs_Schema, NIs_PNode, NIs_Src, NIr_Val, NIr_Col, NIr_ints, NIr_PNode]; try simp)) (.cons rfl (.tree (by simp only [NIs_cons, NIs_nil, NIr_cons, NIr_nil, NI_v, NI_any, NI_pO, NI_sO, NI_pF, NI_sF, NI_agg, NI_tup, NI_fn, NIh_nil, NIh_live, NIh_dead, NIh_free, NIr_map, NIr_append, NIs_icells, NIs_scells, NIs_bcells, NIs_Val, NIs_Col, NIs_Schema, NIs_PNode, NIs_Src, NIr_Val, NIr_Col, NIr_ints, NIr_PNode]; try simp)) .nil))⟩
      refine PON.runs 4 (by kernel_rfl) ?_
      refine PON.norm ⟨(iv typ :: A :: A :: A :: po 0 :: A :: bv false :: bv false :: bv f :: bv ((l[k.toNat]!).null) :: A :: po 1 :: .sF 3 (l.map Val.cells) :: iv (l.length : Int) :: iv k :: bv (decide (k < (l.length : Int))) :: .pF (Val.cells (l[k.toNat]!)) 0 :: .agg (Val.cells (l[k.toNat]!)) :: bv u :: bv false :: po 1 :: bv ((l[k.toNat]!).null) :: bv ((l[k.toNat]!).null) :: A9 (A4 ([A, A, A]))), [.live ⟨3, [(Val.cells v)], 23⟩, .live ⟨3, [(Val.cells (l[k.toNat]!))], 23⟩]⟩ (by kernel_rfl) ?_
      refine PON.fin rfl (thenA_normal ?_)
      exact ⟨rfl, rfl, (.v (.any (.any (.any (.cons (.pO _ _ rfl) (.any (.v (.v (.v (.cons (.eq (.v _) (v_bool (by clear hret hK1 hK2 hK3 hK4 hK5 hK6 hK8 hK9 K0 K1 K2 K3 K4 K5 K6 K8 K9; (try simp only [strEq_dec]); grind))) (.any (.cons (.pO _ _ rfl) (.cons (.tree (by simp only [NIs_cons, NIs_nil, NIr_cons, NIr_nil, NI_v, NI_any, NI_pO, NI_sO, NI_pF, NI_sF, NI_agg, NI_tup, NI_fn, NIh_nil, NIh_live, NIh_dead, NIh_free, NIr_map, NIr_append, NIs_icells, NIs_scells, NIs_bcells, NIs_Val, NIs_Col, NIs_Schema, NIs_PNode, NIs_Src, NIr_Val, NIr_Col, NIr_ints, NIr_PNode]; try simp)) (.v (.v (.v (.cons (.tree (by simp only [NIs_cons, NIs_nil, NIr_cons, NIr_nil, NI_v, NI_any, NI_pO, NI_sO, NI_pF, NI_sF, NI_agg, NI_tup, NI_fn, NIh_nil, NIh_live, NIh_dead, NIh_free, NIr_map, NIr_append, NIs_icells, NIs_scells, NIs_bcells, NIs_Val, NIs_Col, NIs_Schema, NIs_PNode, NIs_Src, NIr_Val, NIr_Col, NIr_ints, NIr_PNode]; try simp)) (.cons (.tree (by simp only [NIs_cons, NIs_nil, NIr_cons, NIr_nil, NI_v, NI_any, NI_pO, NI_sO, NI_pF, NI_sF, NI_agg, NI_tup, NI_fn, NIh_nil, NIh_live, NIh_dead, NIh_free, NIr_map, NIr_append, NIs_icells, NIs_scells, NIs_bcells, NIs_Val, NIs_Col, NIs_Schema, NIs_PNode, NIs_Src, NIr_Val, NIr_Col, NIr_ints, NIr_PNode]; try simp)) (.a9 (.a9 (.any (.any (.any .nil))))))))))))))))))))))), (.cons rfl (.tree (by simp only [NIs_cons, NIs_nil, NIr_cons, NIr_nil, NI_v, NI_any, NI_pO, NI_sO, NI_pF, NI_sF, NI_agg, NI_tup, NI_fn, NIh_nil, NIh_live, NIh_dead, NIh_free, NIr_map, NIr_append, NIs_icells, NIs_scells, NIs_bcells, NIs_Val, NIs_Col, NIs_Schema, NIs_PNode, NIs_Src, NIr_Val, NIr_Col, NIr_ints, NIr_PNode]; try simp)) (.cons rfl (.tree (by simp only [NIs_cons, NIs_nil, NIr_cons, NIr_nil, NI_v, NI_any, NI_pO, NI_sO, NI_pF, NI_sF, NI_agg, NI_tup, NI_fn, NIh_nil, NIh_live, NIh_dead, NIh_free, NIr_map, NIr_append, NIs_icells, NIs_scells, NIs_bcells, NIs_Val, NIs_Col, NIs_Schema, NIs_PNode, NIs_Src, NIr_Val, NIr_Col, NIr_ints, NIr_PNode]; try simp)) .nil))⟩
    refine PV.regionN ?_
    refine PON.runs 2 (by kernel_rfl) ?_
    refine PON.norm ⟨(iv typ :: A :: A :: A :: po 0 :: A :: bv false :: bv false :: bv f :: bv (decide ((u = true) ∨ (((l[k.toNat]!).null) = true))) :: A :: po 1 :: .sF 3 (l.map Val.cells) :: iv (l.length : Int) :: iv k :: bv (decide (k < (l.length : Int))) :: .pF (Val.cells (l[k.toNat]!)) 0 :: .agg (Val.cells (l[k.toNat]!)) :: A4 (A :: bv f :: bv f :: A9 (A4 ([A])))), [.live ⟨3, [(Val.cells v)], 23⟩, .live ⟨3, [(Val.cells (l[k.toNat]!))], 23⟩]⟩ (by kernel_rfl) ?_
    refine PON.splitP (f = true) 24 f (iv typ :: A :: A :: A :: po 0 :: A :: bv false :: bv false :: bv f :: bv (decide ((u = true) ∨ (((l[k.toNat]!).null) = true))) :: A :: po 1 :: .sF 3 (l.map Val.cells) :: iv (l.length : Int) :: iv k :: bv (decide (k < (l.length : Int))) :: .pF (Val.cells (l[k.toNat]!)) 0 :: .agg (Val.cells (l[k.toNat]!)) :: A4 (A :: bv f :: bv true :: A9 (A4 ([A])))) (iv typ :: A :: A :: A :: po 0 :: A :: bv false :: bv false :: bv f :: bv (decide ((u = true) ∨ (((l[k.toNat]!).null) = true))) :: A :: po 1 :: .sF 3 (l.map Val.cells) :: iv (l.length : Int) :: iv k :: bv (decide (k < (l.length : Int))) :: .pF (Val.cells (l[k.toNat]!)) 0 :: .agg (Val.cells (l[k.toNat]!)) :: A4 (A :: bv f :: bv false :: A9 (A4 ([A])))) (by kernel_rfl) (fun h => h) bool_ff (by kernel_rfl) (by kernel_rfl) (fun h11 => ?_) (fun h11 => ?_)
    · skip
      refine PON.runs 12 (by kernel_rfl) ?_
      refine PON.norm ⟨(iv typ :: A :: A :: A :: po 0 :: A :: bv false :: bv false :: bv true :: bv (decide ((u = true) ∨ (((l[k.toNat]!).null) = true))) :: A :: po 1 :: .sF 3 (l.map Val.cells) :: iv (l.length : Int) :: iv k :: bv (decide (k < (l.length : Int))) :: .pF (Val.cells (l[k.toNat]!)) 0 :: .agg (Val.cells (l[k.toNat]!)) :: A4 (A :: bv f :: bv true :: U9 ([U, bv true, A, A, A]))), [.live ⟨3, [(Val.cells v)], 23⟩, .live ⟨3, [(Val.cells (l[k.toNat]!))], 23⟩]⟩ (by kernel_rfl) ?_
      refine PON.fin rfl (inBlockA_normal (thenA_normal (hK8 _ ?_)))
      refine PV.regionN ?_
      refine PON.ops (aBin_add_in Try.prog [.live ⟨3, [(Val.cells v)], 23⟩, .live ⟨3, [(Val.cells (l[k.toNat]!))], 23⟩] 3 (.tmp 14) (.const (.int .i64 1)) .i64 k 1 (by rw [wrap64] <;> omega)) (by kernel_rfl) (by kernel_rfl) ?_
      refine PON.runs 1 (by kernel_rfl) ?_
      refine PON.norm ⟨(iv typ :: A :: A :: A :: po 0 :: A :: bv false :: bv false :: bv true :: bv (decide ((u = true) ∨ (((l[k.toNat]!).null) = true))) :: A :: po 1 :: .sF 3 (l.map Val.cells) :: iv (l.length : Int) :: iv (k + 1) :: bv (decide (k < (l.length : Int))) :: .pF (Val.cells (l[k.toNat]!)) 0 :: .agg (Val.cells (l[k.toNat]!)) :: A4 (A :: bv f :: bv true :: U9 ([U, bv true, iv (k + 1), A, A]))), [.live ⟨3, [(Val.cells v)], 23⟩, .live ⟨3, [(Val.cells (l[k.toNat]!))], 23⟩]⟩ (by kernel_rfl) ?_
      refine PON.fin rfl (thenA_normal ?_)
      refine ⟨[0], ((k + 1), true, (decide ((u = true) ∨ (((l[k.toNat]!).null) = true)))), ⟨rfl, rfl, (.v (.any (.any (.any (.cons (.pO _ _ rfl) (.any (.v (.v (.v (.v (.any (.any (.cons (.tree (by simp only [NIs_cons, NIs_nil, NIr_cons, NIr_nil, NI_v, NI_any, NI_pO, NI_sO, NI_pF, NI_sF, NI_agg, NI_tup, NI_fn, NIh_nil, NIh_live, NIh_dead, NIh_free, NIr_map, NIr_append, NIs_icells, NIs_scells, NIs_bcells, NIs_Val, NIs_Col, NIs_Schema, NIs_PNode, NIs_Src, NIr_Val, NIr_Col, NIr_ints, NIr_PNode]; try simp)) (.v (.v (.a9 (.a9 (.a4 (.any (.any .nil)))))))))))))))))))), (.cons rfl (.tree (by simp only [NIs_cons, NIs_nil, NIr_cons, NIr_nil, NI_v, NI_any, NI_pO, NI_sO, NI_pF, NI_sF, NI_agg, NI_tup, NI_fn, NIh_nil, NIh_live, NIh_dead, NIh_free, NIr_map, NIr_append, NIs_icells, NIs_scells, NIs_bcells, NIs_Val, NIs_Col, NIs_Schema, NIs_PNode, NIs_Src, NIr_Val, NIr_Col, NIr_ints, NIr_PNode]; try simp)) .nil)⟩, ?_, ?_⟩
      · skip
        clear hret hK1 hK2 hK3 hK4 hK5 hK6 hK8 hK9 K0 K1 K2 K3 K4 K5 K6 K8 K9
        refine ⟨?_, ?_, ?_⟩
        · skip
          show 0 ≤ (k + 1) ∧ (k + 1) ≤ l.length
          omega
        · skip
          show anyEq typ v l = (true || anyEq typ v (l.drop (k + 1).toNat))
          rw [drop_step _ _ (by omega)] at hf
          simp only [anyEq, List.any_cons] at hf ⊢
          rw [hf]
          grind
        · skip
          show anyNull l = ((decide ((u = true) ∨ (((l[k.toNat]!).null) = true))) || anyNull (l.drop (k + 1).toNat))
          rw [drop_step _ _ (by omega)] at hn
          simp only [anyNull, List.any_cons] at hn ⊢
          rw [hn]
          grind
      · skip
        clear hret hK1 hK2 hK3 hK4 hK5 hK6 hK8 hK9 K0 K1 K2 K3 K4 K5 K6 K8 K9
        show ((l.length : Int) - (k + 1)).toNat < ((l.length : Int) - k).toNat
        omega
    refine PON.runs 4 (by kernel_rfl) ?_
    refine PON.norm ⟨(iv typ :: A :: A :: A :: po 0 :: A :: bv false :: bv false :: bv f :: bv (decide ((u = true) ∨ (((l[k.toNat]!).null) = true))) :: A :: po 1 :: .sF 3 (l.map Val.cells) :: iv (l.length : Int) :: iv k :: bv (decide (k < (l.length : Int))) :: .pF (Val.cells (l[k.toNat]!)) 0 :: .agg (Val.cells (l[k.toNat]!)) :: A4 (A :: bv f :: bv false :: po 1 :: bv ((l[k.toNat]!).null) :: bv (!((l[k.toNat]!).null)) :: bv (!((l[k.toNat]!).null)) :: A9 ([A]))), [.live ⟨3, [(Val.cells v)], 23⟩, .live ⟨3, [(Val.cells (l[k.toNat]!))], 23⟩]⟩ (by kernel_rfl) ?_
    refine PON.splitN (((l[k.toNat]!).null) = true) 28 (!((l[k.toNat]!).null)) (iv typ :: A :: A :: A :: po 0 :: A :: bv false :: bv false :: bv f :: bv (decide ((u = true) ∨ (((l[k.toNat]!).null) = true))) :: A :: po 1 :: .sF 3 (l.map Val.cells) :: iv (l.length : Int) :: iv k :: bv (decide (k < (l.length : Int))) :: .pF (Val.cells (l[k.toNat]!)) 0 :: .agg (Val.cells (l[k.toNat]!)) :: A4 (A :: bv f :: bv false :: po 1 :: bv ((l[k.toNat]!).null) :: bv (!((l[k.toNat]!).null)) :: bv false :: A9 ([A]))) (iv typ :: A :: A :: A :: po 0 :: A :: bv false :: bv false :: bv f :: bv (decide ((u = true) ∨ (((l[k.toNat]!).null) = true))) :: A :: po 1 :: .sF 3 (l.map Val.cells) :: iv (l.length : Int) :: iv k :: bv (decide (k < (l.length : Int))) :: .pF (Val.cells (l[k.toNat]!)) 0 :: .agg (Val.cells (l[k.toNat]!)) :: A4 (A :: bv f :: bv false :: po 1 :: bv ((l[k.toNat]!).null) :: bv (!((l[k.toNat]!).null)) :: bv true :: A9 ([A]))) (by kernel_rfl) (fun h => bnot_t ((fun h => h) h)) (fun h => bnot_f (bool_ff h)) (by kernel_rfl) (by kernel_rfl) (fun h12 => ?_) (fun h12 => ?_)
    · skip
      refine PON.runs 8 (by kernel_rfl) ?_
      refine PON.norm ⟨(iv typ :: A :: A :: A :: po 0 :: A :: bv false :: bv false :: bv false :: bv (decide ((u = true) ∨ (((l[k.toNat]!).null) = true))) :: A :: po 1 :: .sF 3 (l.map Val.cells) :: iv (l.length : Int) :: iv k :: bv (decide (k < (l.length : Int))) :: .pF (Val.cells (l[k.toNat]!)) 0 :: .agg (Val.cells (l[k.toNat]!)) :: A4 ([A, bv f, bv false, po 1, bv ((l[k.toNat]!).null), bv (!((l[k.toNat]!).null)), bv false, U, U, U, U, U, bv false, bv false, A, A, A])), [.live ⟨3, [(Val.cells v)], 23⟩, .live ⟨3, [(Val.cells (l[k.toNat]!))], 23⟩]⟩ (by kernel_rfl) ?_
      refine PON.fin rfl (inBlockA_normal (thenA_normal (hK8 _ ?_)))
      refine PV.regionN ?_
      refine PON.ops (aBin_add_in Try.prog [.live ⟨3, [(Val.cells v)], 23⟩, .live ⟨3, [(Val.cells (l[k.toNat]!))], 23⟩] 3 (.tmp 14) (.const (.int .i64 1)) .i64 k 1 (by rw [wrap64] <;> omega)) (by kernel_rfl) (by kernel_rfl) ?_
      refine PON.runs 1 (by kernel_rfl) ?_
      refine PON.norm ⟨(iv typ :: A :: A :: A :: po 0 :: A :: bv false :: bv false :: bv false :: bv (decide ((u = true) ∨ (((l[k.toNat]!).null) = true))) :: A :: po 1 :: .sF 3 (l.map Val.cells) :: iv (l.length : Int) :: iv (k + 1) :: bv (decide (k < (l.length : Int))) :: .pF (Val.cells (l[k.toNat]!)) 0 :: .agg (Val.cells (l[k.toNat]!)) :: A4 ([A, bv f, bv false, po 1, bv ((l[k.toNat]!).null), bv (!((l[k.toNat]!).null)), bv false, U, U, U, U, U, bv false, bv false, iv (k + 1), A, A])), [.live ⟨3, [(Val.cells v)], 23⟩, .live ⟨3, [(Val.cells (l[k.toNat]!))], 23⟩]⟩ (by kernel_rfl) ?_
      refine PON.fin rfl (thenA_normal ?_)
      refine ⟨[0], ((k + 1), false, (decide ((u = true) ∨ (((l[k.toNat]!).null) = true)))), ⟨rfl, rfl, (.v (.any (.any (.any (.cons (.pO _ _ rfl) (.any (.v (.v (.v (.v (.any (.any (.cons (.tree (by simp only [NIs_cons, NIs_nil, NIr_cons, NIr_nil, NI_v, NI_any, NI_pO, NI_sO, NI_pF, NI_sF, NI_agg, NI_tup, NI_fn, NIh_nil, NIh_live, NIh_dead, NIh_free, NIr_map, NIr_append, NIs_icells, NIs_scells, NIs_bcells, NIs_Val, NIs_Col, NIs_Schema, NIs_PNode, NIs_Src, NIr_Val, NIr_Col, NIr_ints, NIr_PNode]; try simp)) (.v (.v (.a9 (.a9 (.a4 (.any (.any .nil)))))))))))))))))))), (.cons rfl (.tree (by simp only [NIs_cons, NIs_nil, NIr_cons, NIr_nil, NI_v, NI_any, NI_pO, NI_sO, NI_pF, NI_sF, NI_agg, NI_tup, NI_fn, NIh_nil, NIh_live, NIh_dead, NIh_free, NIr_map, NIr_append, NIs_icells, NIs_scells, NIs_bcells, NIs_Val, NIs_Col, NIs_Schema, NIs_PNode, NIs_Src, NIr_Val, NIr_Col, NIr_ints, NIr_PNode]; try simp)) .nil)⟩, ?_, ?_⟩
      · skip
        clear hret hK1 hK2 hK3 hK4 hK5 hK6 hK8 hK9 K0 K1 K2 K3 K4 K5 K6 K8 K9
        refine ⟨?_, ?_, ?_⟩
        · skip
          show 0 ≤ (k + 1) ∧ (k + 1) ≤ l.length
          omega
        · skip
          show anyEq typ v l = (false || anyEq typ v (l.drop (k + 1).toNat))
          rw [drop_step _ _ (by omega)] at hf
          simp only [anyEq, List.any_cons] at hf ⊢
          rw [hf]
          grind
        · skip
          show anyNull l = ((decide ((u = true) ∨ (((l[k.toNat]!).null) = true))) || anyNull (l.drop (k + 1).toNat))
          rw [drop_step _ _ (by omega)] at hn
          simp only [anyNull, List.any_cons] at hn ⊢
          rw [hn]
          grind
      · skip
        clear hret hK1 hK2 hK3 hK4 hK5 hK6 hK8 hK9 K0 K1 K2 K3 K4 K5 K6 K8 K9
        show ((l.length : Int) - (k + 1)).toNat < ((l.length : Int) - k).toNat
        omega
    refine PON.runs 3 (by kernel_rfl) ?_
    refine PON.call 69 [iv typ, .agg (Val.cells v), .agg (Val.cells (l[k.toNat]!))] (some 32) (pre := []) (post := []) (x := iv (vCompare typ v (l[k.toNat]!))) _ (by kernel_rfl) (rCompare_ok typ v (l[k.toNat]!)) trivial rfl ?_
    refine PON.runs 4 (by kernel_rfl) ?_
    refine PON.norm ⟨(iv typ :: A :: A :: A :: po 0 :: A :: bv false :: bv false :: bv (decide ((vCompare typ v (l[k.toNat]!)) = 0)) :: bv (decide ((u = true) ∨ (((l[k.toNat]!).null) = true))) :: A :: po 1 :: .sF 3 (l.map Val.cells) :: iv (l.length : Int) :: iv k :: bv (decide (k < (l.length : Int))) :: .pF (Val.cells (l[k.toNat]!)) 0 :: .agg (Val.cells (l[k.toNat]!)) :: A4 ([A, bv f, bv false, po 1, bv ((l[k.toNat]!).null), bv (!((l[k.toNat]!).null)), bv true, iv typ, .agg (Val.cells v), .agg (Val.cells (l[k.toNat]!)), iv (vCompare typ v (l[k.toNat]!)), bv (decide ((vCompare typ v (l[k.toNat]!)) = 0)), bv (decide ((vCompare typ v (l[k.toNat]!)) = 0)), bv (decide ((vCompare typ v (l[k.toNat]!)) = 0)), A, A, A])), [.live ⟨3, [(Val.cells v)], 23⟩, .live ⟨3, [(Val.cells (l[k.toNat]!))], 23⟩]⟩ (by kernel_rfl) ?_
    refine PON.fin rfl (inBlockA_normal (thenA_normal (hK8 _ ?_)))
    refine PV.regionN ?_
    refine PON.ops (aBin_add_in Try.prog [.live ⟨3, [(Val.cells v)], 23⟩, .live ⟨3, [(Val.cells (l[k.toNat]!))], 23⟩] 3 (.tmp 14) (.const (.int .i64 1)) .i64 k 1 (by rw [wrap64] <;> omega)) (by kernel_rfl) (by kernel_rfl) ?_
    refine PON.runs 1 (by kernel_rfl) ?_
    refine PON.norm ⟨(iv typ :: A :: A :: A :: po 0 :: A :: bv false :: bv false :: bv (decide ((vCompare typ v (l[k.toNat]!)) = 0)) :: bv (decide ((u = true) ∨ (((l[k.toNat]!).null) = true))) :: A :: po 1 :: .sF 3 (l.map Val.cells) :: iv (l.length : Int) :: iv (k + 1) :: bv (decide (k < (l.length : Int))) :: .pF (Val.cells (l[k.toNat]!)) 0 :: .agg (Val.cells (l[k.toNat]!)) :: A4 ([A, bv f, bv false, po 1, bv ((l[k.toNat]!).null), bv (!((l[k.toNat]!).null)), bv true, iv typ, .agg (Val.cells v), .agg (Val.cells (l[k.toNat]!)), iv (vCompare typ v (l[k.toNat]!)), bv (decide ((vCompare typ v (l[k.toNat]!)) = 0)), bv (decide ((vCompare typ v (l[k.toNat]!)) = 0)), bv (decide ((vCompare typ v (l[k.toNat]!)) = 0)), iv (k + 1), A, A])), [.live ⟨3, [(Val.cells v)], 23⟩, .live ⟨3, [(Val.cells (l[k.toNat]!))], 23⟩]⟩ (by kernel_rfl) ?_
    refine PON.fin rfl (thenA_normal ?_)
    refine ⟨[0], ((k + 1), (decide ((vCompare typ v (l[k.toNat]!)) = 0)), (decide ((u = true) ∨ (((l[k.toNat]!).null) = true)))), ⟨rfl, rfl, (.v (.any (.any (.any (.cons (.pO _ _ rfl) (.any (.v (.v (.v (.v (.any (.any (.cons (.tree (by simp only [NIs_cons, NIs_nil, NIr_cons, NIr_nil, NI_v, NI_any, NI_pO, NI_sO, NI_pF, NI_sF, NI_agg, NI_tup, NI_fn, NIh_nil, NIh_live, NIh_dead, NIh_free, NIr_map, NIr_append, NIs_icells, NIs_scells, NIs_bcells, NIs_Val, NIs_Col, NIs_Schema, NIs_PNode, NIs_Src, NIr_Val, NIr_Col, NIr_ints, NIr_PNode]; try simp)) (.v (.v (.a9 (.a9 (.a4 (.any (.any .nil)))))))))))))))))))), (.cons rfl (.tree (by simp only [NIs_cons, NIs_nil, NIr_cons, NIr_nil, NI_v, NI_any, NI_pO, NI_sO, NI_pF, NI_sF, NI_agg, NI_tup, NI_fn, NIh_nil, NIh_live, NIh_dead, NIh_free, NIr_map, NIr_append, NIs_icells, NIs_scells, NIs_bcells, NIs_Val, NIs_Col, NIs_Schema, NIs_PNode, NIs_Src, NIr_Val, NIr_Col, NIr_ints, NIr_PNode]; try simp)) .nil)⟩, ?_, ?_⟩
    · skip
      clear hret hK1 hK2 hK3 hK4 hK5 hK6 hK8 hK9 K0 K1 K2 K3 K4 K5 K6 K8 K9
      refine ⟨?_, ?_, ?_⟩
      · skip
        show 0 ≤ (k + 1) ∧ (k + 1) ≤ l.length
        omega
      · skip
        show anyEq typ v l = ((decide ((vCompare typ v (l[k.toNat]!)) = 0)) || anyEq typ v (l.drop (k + 1).toNat))
        rw [drop_step _ _ (by omega)] at hf
        simp only [anyEq, List.any_cons] at hf ⊢
        rw [hf]
        grind
      · skip
        show anyNull l = ((decide ((u = true) ∨ (((l[k.toNat]!).null) = true))) || anyNull (l.drop (k + 1).toNat))
        rw [drop_step _ _ (by omega)] at hn
        simp only [anyNull, List.any_cons] at hn ⊢
        rw [hn]
        grind
    · skip
      clear hret hK1 hK2 hK3 hK4 hK5 hK6 hK8 hK9 K0 K1 K2 K3 K4 K5 K6 K8 K9
      show ((l.length : Int) - (k + 1)).toNat < ((l.length : Int) - k).toNat
      omega
  refine PV.exit (thenA_exit (thenA_exit (inBlockA_hit (thenA_normal (hK3 _ ?_)))))
  refine PV.seq_k fun K13 hK13 => ?_
  refine PV.regionN ?_
  refine PON.runs 4 (by kernel_rfl) ?_
  refine PON.fin rfl (thenA_normal (hK13 _ ?_))
  refine PV.norm ⟨(iv typ :: A :: A :: A :: po 0 :: A :: bv f :: bv u :: bv f :: bv u :: A :: A :: .sF 3 (l.map Val.cells) :: iv (l.length : Int) :: iv k :: bv (decide (k < (l.length : Int))) :: A9 (A9 ([A, A, A, bv f, bv u]))), [.live ⟨3, [(Val.cells v)], 23⟩]⟩ (by kernel_rfl) ?_
  refine PV.ret (hret .ret _ (.tup [bv f, bv u]) (.inr rfl) (by kernel_rfl) ?_)
  clear hret hK1 hK2 hK3 hK4 hK5 hK6 hK13 K0 K1 K2 K3 K4 K5 K6 K13
  show Tof noTau [.live ⟨3, [(Val.cells v)], 23⟩] (.tup [bv f, bv u]) (.tup [bv (anyEq typ v l), bv (anyNull l)])
  -- leaf 1
  rw [drop_end _ _ (by omega)] at hf hn
  exact Tof.tup (.cons (Tof.bool (by rw [hf]; show f = (f || false); simp)) (.cons (Tof.bool (by rw [hn]; show u = (u || false); simp)) .nil))
theorem among_ok (typ : Int) (v : Val) (l : (List Val)) (hl : l.length ≤ maxLen) : PCX Try.prog 70 [iv typ, .agg (Val.cells v), .sF 3 (l.map Val.cells)] [] [] (.tup [bv (anyEq typ v l), bv (anyNull l)]) :=
  PCX.frame (by simp only [NIs_cons, NIs_nil, NIr_cons, NIr_nil, NI_v, NI_any, NI_pO, NI_sO, NI_pF, NI_sF, NI_agg, NI_tup, NI_fn, NIh_nil, NIh_live, NIh_dead, NIh_free, NIr_map, NIr_append, NIs_icells, NIs_scells, NIs_bcells, NIs_Val, NIs_Col, NIs_Schema, NIs_PNode, NIs_Src, NIr_Val, NIr_Col, NIr_ints, NIr_PNode]; try simp) (among_ok_walk typ v l hl)

set_option maxHeartbeats 4000000 in
theorem leafTruth_ok_walk (s : Schema) (n : PNode) (v : Val) (hl : n.list.length ≤ maxLen) (hc : 0 ≤ n.column ∧ n.column < s.columns.length) (ho : 1 ≤ n.op ∧ n.op ≤ 8) : PC Try.prog 58 [.agg (Schema.cells s), .agg (PNode.cells n), .agg (Val.cells v)] [] (fun yR kR => Tof noTau kR yR (iv (vTest s.columns[n.column.toNat]!.type n v))) := by
  refine PC.of_bodyV Try.func58 rfl (.agg (Schema.cells s) :: .agg (PNode.cells n) :: .agg (Val.cells v) :: U9 (U9 (U9 (U9 (U9 ([U, U, U, U, U, U, U])))))) (by kernel_rfl) (fun K0 hret => ?_)
  refine PV.seq_k fun K1 hK1 => ?_
  refine PV.regionN ?_
  refine PON.runs 4 (by kernel_rfl) ?_
  refine PON.fin rfl (thenA_normal (hK1 _ ?_))
  refine PV.seq_k fun K2 hK2 => ?_
  refine PV.regionN ?_
  refine PON.runs 4 (by kernel_rfl) ?_
  refine PON.ops (aIndexAddr_map Try.prog [.live ⟨2, [(Schema.cells s)], 33⟩, .live ⟨8, [(PNode.cells n)], 26⟩, .live ⟨3, [(Val.cells v)], 23⟩] 31 47 4 Col.cells (by kernel_rfl) (by kernel_rfl) s.columns .i64 n.column (by omega)) (by kernel_rfl) (by kernel_rfl) ?_
  refine PON.runs 3 (by kernel_rfl) ?_
  refine PON.fin rfl (thenA_normal (hK2 _ ?_))
  refine PV.seq_k fun K3 hK3 => ?_
  refine PV.block ?_
  refine PV.seq_k fun K4 hK4 => ?_
  refine PV.regionN ?_
  refine PON.runs 4 (by kernel_rfl) ?_
  refine PON.fin rfl (thenA_normal (hK4 _ ?_))
  refine PV.condP (n.op = 8) (decide (n.op = 8)) (by kernel_rfl) decide_eq_true decide_eq_false (fun h5 => ?_) (fun h5 => ?_)
  · skip
    refine PV.seq_k fun K6 hK6 => ?_
    refine PV.regionN ?_
    refine PON.runs 2 (by kernel_rfl) ?_
    refine PON.call 67 [bv v.null] (some 23) (pre := []) (post := []) (x := iv (vTruth v.null)) _ (by kernel_rfl) (rtruth_ok v.null) trivial rfl ?_
    refine PON.runs 1 (by kernel_rfl) ?_
    refine PON.fin rfl (thenA_normal (hK6 _ ?_))
    refine PV.norm ⟨(.agg (Schema.cells s) :: .agg (PNode.cells n) :: .agg (Val.cells v) :: po 0 :: po 1 :: po 2 :: iv (vTruth v.null) :: iv ((s.columns[n.column.toNat]!).type) :: U :: U :: po 0 :: .sF 4 (s.columns.map Col.cells) :: .pO 1 0 1 :: iv n.column :: .pF (Col.cells (s.columns[n.column.toNat]!)) 0 :: .pF (Col.cells (s.columns[n.column.toNat]!)) 1 :: iv ((s.columns[n.column.toNat]!).type) :: bv (decide (n.op = 8)) :: po 1 :: iv n.op :: bv (decide (n.op = 8)) :: po 2 :: bv v.null :: iv (vTruth v.null) :: U9 (U9 (U9 ([U, U, U, U])))), [.live ⟨2, [(Schema.cells s)], 33⟩, .live ⟨8, [(PNode.cells n)], 26⟩, .live ⟨3, [(Val.cells v)], 23⟩]⟩ (by kernel_rfl) ?_
    refine PV.ret (inBlockA_ret (thenA_ret (hret .ret _ (iv (vTruth v.null)) (.inr rfl) (by kernel_rfl) ?_)))
    clear hret hK1 hK2 hK3 hK4 hK6 K0 K1 K2 K3 K4 K6
    show Tof noTau [.live ⟨2, [(Schema.cells s)], 33⟩, .live ⟨8, [(PNode.cells n)], 26⟩, .live ⟨3, [(Val.cells v)], 23⟩] (iv (vTruth v.null)) (iv (vTest s.columns[n.column.toNat]!.type n v))
    -- leaf 1
    refine Tof.int ?_
    first | grind [vTest, isCmp, vHolds] | grind [vTest, isCmp, vHolds, vTruth]
  refine PV.seq_k fun K7 hK7 => ?_
  refine PV.regionN ?_
  refine PON.runs 3 (by kernel_rfl) ?_
  refine PON.fin rfl (thenA_normal (hK7 _ ?_))
  refine PV.condP (v.null = true) v.null (by kernel_rfl) (fun h => h) bool_ff (fun h8 => ?_) (fun h8 => ?_)
  · skip
    refine PV.seq_k fun K9 hK9 => ?_
    refine PV.regionN ?_
    refine PON.runs 1 (by kernel_rfl) ?_
    refine PON.fin rfl (thenA_normal (hK9 _ ?_))
    refine PV.norm ⟨(.agg (Schema.cells s) :: .agg (PNode.cells n) :: .agg (Val.cells v) :: po 0 :: po 1 :: po 2 :: iv 2 :: iv ((s.columns[n.column.toNat]!).type) :: U :: U :: po 0 :: .sF 4 (s.columns.map Col.cells) :: .pO 1 0 1 :: iv n.column :: .pF (Col.cells (s.columns[n.column.toNat]!)) 0 :: .pF (Col.cells (s.columns[n.column.toNat]!)) 1 :: iv ((s.columns[n.column.toNat]!).type) :: bv (decide (n.op = 8)) :: po 1 :: iv n.op :: bv (decide (n.op = 8)) :: U :: U :: U :: bv v.null :: po 2 :: bv v.null :: U9 (U9 (U9 ([U])))), [.live ⟨2, [(Schema.cells s)], 33⟩, .live ⟨8, [(PNode.cells n)], 26⟩, .live ⟨3, [(Val.cells v)], 23⟩]⟩ (by kernel_rfl) ?_
    refine PV.ret (inBlockA_ret (thenA_ret (hret .ret _ (iv 2) (.inr rfl) (by kernel_rfl) ?_)))
    clear hret hK1 hK2 hK3 hK4 hK7 hK9 K0 K1 K2 K3 K4 K7 K9
    show Tof noTau [.live ⟨2, [(Schema.cells s)], 33⟩, .live ⟨8, [(PNode.cells n)], 26⟩, .live ⟨3, [(Val.cells v)], 23⟩] (iv 2) (iv (vTest s.columns[n.column.toNat]!.type n v))
    -- leaf 2
    refine Tof.int ?_
    first | grind [vTest, isCmp, vHolds] | grind [vTest, isCmp, vHolds, vTruth]
  refine PV.seq_k fun K10 hK10 => ?_
  refine PV.regionN ?_
  refine PON.runs 2 (by kernel_rfl) ?_
  refine PON.call 52 [iv n.op] (some 30) (pre := []) (post := []) (x := bv (isCmp n.op)) _ (by kernel_rfl) (comparison_ok n.op) trivial rfl ?_
  refine PON.runs 1 (by kernel_rfl) ?_
  refine PON.fin rfl (thenA_normal (hK10 _ ?_))
  refine PV.condP ((isCmp n.op) = true) (isCmp n.op) (by kernel_rfl) (fun h => h) bool_ff (fun h11 => ?_) (fun h11 => ?_)
  · skip
    refine PV.norm ⟨(.agg (Schema.cells s) :: .agg (PNode.cells n) :: .agg (Val.cells v) :: po 0 :: po 1 :: po 2 :: iv 0 :: iv ((s.columns[n.column.toNat]!).type) :: U :: U :: po 0 :: .sF 4 (s.columns.map Col.cells) :: .pO 1 0 1 :: iv n.column :: .pF (Col.cells (s.columns[n.column.toNat]!)) 0 :: .pF (Col.cells (s.columns[n.column.toNat]!)) 1 :: iv ((s.columns[n.column.toNat]!).type) :: bv (decide (n.op = 8)) :: po 1 :: iv n.op :: bv (decide (n.op = 8)) :: U :: U :: U :: bv v.null :: po 2 :: bv v.null :: bv (isCmp n.op) :: po 1 :: iv n.op :: bv (isCmp n.op) :: U9 (U9 ([U, U, U, U, U, U]))), [.live ⟨2, [(Schema.cells s)], 33⟩, .live ⟨8, [(PNode.cells n)], 26⟩, .live ⟨3, [(Val.cells v)], 23⟩]⟩ (by kernel_rfl) ?_
    refine PV.seqR [0, 1, 2] ⟨(.agg (Schema.cells s) :: .agg (PNode.cells n) :: .agg (Val.cells v) :: po 0 :: po 1 :: po 2 :: iv (vTruth (vHolds n.op (vCompare ((s.columns[n.column.toNat]!).type) v n.value))) :: iv ((s.columns[n.column.toNat]!).type) :: U :: U :: po 0 :: .sF 4 (s.columns.map Col.cells) :: .pO 1 0 1 :: iv n.column :: .pF (Col.cells (s.columns[n.column.toNat]!)) 0 :: .pF (Col.cells (s.columns[n.column.toNat]!)) 1 :: iv ((s.columns[n.column.toNat]!).type) :: bv (decide (n.op = 8)) :: po 1 :: iv n.op :: bv (decide (n.op = 8)) :: U :: U :: U :: bv v.null :: po 2 :: bv v.null :: bv (isCmp n.op) :: po 1 :: iv n.op :: bv (isCmp n.op) :: A9 (U9 ([U, U, U, U, U, U]))), [.live ⟨2, [(Schema.cells s)], 33⟩, .live ⟨8, [(PNode.cells n)], 26⟩, .live ⟨3, [(Val.cells v)], 23⟩]⟩ ?_ ?_
    · skip
      refine PV.drawnG mixed (by kernel_rfl) ?_
      refine DRG.runs 6 (by kernel_rfl) ?_
      refine DRG.call 69 [iv ((s.columns[n.column.toNat]!).type), .agg (Val.cells v), .agg (Val.cells n.value)] (some 37) (pre := []) (post := []) (x := iv (vCompare ((s.columns[n.column.toNat]!).type) v n.value)) _ (by kernel_rfl) (rCompare_ok ((s.columns[n.column.toNat]!).type) v n.value) trivial rfl ?_
      refine DRG.call 68 [iv n.op, iv (vCompare ((s.columns[n.column.toNat]!).type) v n.value)] (some 38) (pre := []) (post := []) (x := bv (vHolds n.op (vCompare ((s.columns[n.column.toNat]!).type) v n.value))) _ (by kernel_rfl) (holds_ok n.op (vCompare ((s.columns[n.column.toNat]!).type) v n.value)) trivial rfl ?_
      refine DRG.call 67 [bv (vHolds n.op (vCompare ((s.columns[n.column.toNat]!).type) v n.value))] (some 39) (pre := []) (post := []) (x := iv (vTruth (vHolds n.op (vCompare ((s.columns[n.column.toNat]!).type) v n.value)))) _ (by kernel_rfl) (rtruth_ok (vHolds n.op (vCompare ((s.columns[n.column.toNat]!).type) v n.value))) trivial rfl ?_
      refine DRG.runs 1 (by kernel_rfl) ?_
      refine DRG.norm ⟨(.agg (Schema.cells s) :: .agg (PNode.cells n) :: .agg (Val.cells v) :: po 0 :: po 1 :: po 2 :: iv (vTruth (vHolds n.op (vCompare ((s.columns[n.column.toNat]!).type) v n.value))) :: iv ((s.columns[n.column.toNat]!).type) :: U :: U :: po 0 :: .sF 4 (s.columns.map Col.cells) :: .pO 1 0 1 :: iv n.column :: .pF (Col.cells (s.columns[n.column.toNat]!)) 0 :: .pF (Col.cells (s.columns[n.column.toNat]!)) 1 :: iv ((s.columns[n.column.toNat]!).type) :: bv (decide (n.op = 8)) :: po 1 :: iv n.op :: bv (decide (n.op = 8)) :: U :: U :: U :: bv v.null :: po 2 :: bv v.null :: bv (isCmp n.op) :: po 1 :: iv n.op :: bv (isCmp n.op) :: po 1 :: iv n.op :: iv ((s.columns[n.column.toNat]!).type) :: .agg (Val.cells v) :: .pO 1 0 2 :: .agg (Val.cells n.value) :: iv (vCompare ((s.columns[n.column.toNat]!).type) v n.value) :: bv (vHolds n.op (vCompare ((s.columns[n.column.toNat]!).type) v n.value)) :: iv (vTruth (vHolds n.op (vCompare ((s.columns[n.column.toNat]!).type) v n.value))) :: U9 ([U, U, U, U, U, U])), [.live ⟨2, [(Schema.cells s)], 33⟩, .live ⟨8, [(PNode.cells n)], 26⟩, .live ⟨3, [(Val.cells v)], 23⟩, .free, .free, .free, .free, .free, .free, .free, .free, .free, .free]⟩ (by kernel_rfl) ?_
      refine DRG.fin rfl (And.intro (by kernel_rfl) ?_)
      refine id (thenA_normal ?_)
      exact ⟨rfl, rfl, (.cons (.tree (by simp only [NIs_cons, NIs_nil, NIr_cons, NIr_nil, NI_v, NI_any, NI_pO, NI_sO, NI_pF, NI_sF, NI_agg, NI_tup, NI_fn, NIh_nil, NIh_live, NIh_dead, NIh_free, NIr_map, NIr_append, NIs_icells, NIs_scells, NIs_bcells, NIs_Val, NIs_Col, NIs_Schema, NIs_PNode, NIs_Src, NIr_Val, NIr_Col, NIr_ints, NIr_PNode]; try simp)) (.cons (.tree (by simp only [NIs_cons, NIs_nil, NIr_cons, NIr_nil, NI_v, NI_any, NI_pO, NI_sO, NI_pF, NI_sF, NI_agg, NI_tup, NI_fn, NIh_nil, NIh_live, NIh_dead, NIh_free, NIr_map, NIr_append, NIs_icells, NIs_scells, NIs_bcells, NIs_Val, NIs_Col, NIs_Schema, NIs_PNode, NIs_Src, NIr_Val, NIr_Col, NIr_ints, NIr_PNode]; try simp)) (.cons (.tree (by simp only [NIs_cons, NIs_nil, NIr_cons, NIr_nil, NI_v, NI_any, NI_pO, NI_sO, NI_pF, NI_sF, NI_agg, NI_tup, NI_fn, NIh_nil, NIh_live, NIh_dead, NIh_free, NIr_map, NIr_append, NIs_icells, NIs_scells, NIs_bcells, NIs_Val, NIs_Col, NIs_Schema, NIs_PNode, NIs_Src, NIr_Val, NIr_Col, NIr_ints, NIr_PNode]; try simp)) (.cons (.pO _ _ rfl) (.cons (.pO _ _ rfl) (.cons (.pO _ _ rfl) (.v (.v (.v (.v (.cons (.pO _ _ rfl) (.cons (.tree (by simp only [NIs_cons, NIs_nil, NIr_cons, NIr_nil, NI_v, NI_any, NI_pO, NI_sO, NI_pF, NI_sF, NI_agg, NI_tup, NI_fn, NIh_nil, NIh_live, NIh_dead, NIh_free, NIr_map, NIr_append, NIs_icells, NIs_scells, NIs_bcells, NIs_Val, NIs_Col, NIs_Schema, NIs_PNode, NIs_Src, NIr_Val, NIr_Col, NIr_ints, NIr_PNode]; try simp)) (.cons (.pO _ _ rfl) (.v (.cons (.tree (by simp only [NIs_cons, NIs_nil, NIr_cons, NIr_nil, NI_v, NI_any, NI_pO, NI_sO, NI_pF, NI_sF, NI_agg, NI_tup, NI_fn, NIh_nil, NIh_live, NIh_dead, NIh_free, NIr_map, NIr_append, NIs_icells, NIs_scells, NIs_bcells, NIs_Val, NIs_Col, NIs_Schema, NIs_PNode, NIs_Src, NIr_Val, NIr_Col, NIr_ints, NIr_PNode]; try simp)) (.cons (.tree (by simp only [NIs_cons, NIs_nil, NIr_cons, NIr_nil, NI_v, NI_any, NI_pO, NI_sO, NI_pF, NI_sF, NI_agg, NI_tup, NI_fn, NIh_nil, NIh_live, NIh_dead, NIh_free, NIr_map, NIr_append, NIs_icells, NIs_scells, NIs_bcells, NIs_Val, NIs_Col, NIs_Schema, NIs_PNode, NIs_Src, NIr_Val, NIr_Col, NIr_ints, NIr_PNode]; try simp)) (.v (.v (.cons (.pO _ _ rfl) (.v (.v (.v (.v (.v (.v (.cons (.pO _ _ rfl) (.v (.v (.cons (.pO _ _ rfl) (.v (.v (.a9 (.v (.v (.v (.v (.v (.v (.v (.v (.v (.v (.v (.v (.v (.v (.v .nil))))))))))))))))))))))))))))))))))))))))))))))), (.cons rfl (.tree (by simp only [NIs_cons, NIs_nil, NIr_cons, NIr_nil, NI_v, NI_any, NI_pO, NI_sO, NI_pF, NI_sF, NI_agg, NI_tup, NI_fn, NIh_nil, NIh_live, NIh_dead, NIh_free, NIr_map, NIr_append, NIs_icells, NIs_scells, NIs_bcells, NIs_Val, NIs_Col, NIs_Schema, NIs_PNode, NIs_Src, NIr_Val, NIr_Col, NIr_ints, NIr_PNode]; try simp)) (.cons rfl (.tree (by simp only [NIs_cons, NIs_nil, NIr_cons, NIr_nil, NI_v, NI_any, NI_pO, NI_sO, NI_pF, NI_sF, NI_agg, NI_tup, NI_fn, NIh_nil, NIh_live, NIh_dead, NIh_free, NIr_map, NIr_append, NIs_icells, NIs_scells, NIs_bcells, NIs_Val, NIs_Col, NIs_Schema, NIs_PNode, NIs_Src, NIr_Val, NIr_Col, NIr_ints, NIr_PNode]; try simp)) (.cons rfl (.tree (by simp only [NIs_cons, NIs_nil, NIr_cons, NIr_nil, NI_v, NI_any, NI_pO, NI_sO, NI_pF, NI_sF, NI_agg, NI_tup, NI_fn, NIh_nil, NIh_live, NIh_dead, NIh_free, NIr_map, NIr_append, NIs_icells, NIs_scells, NIs_bcells, NIs_Val, NIs_Col, NIs_Schema, NIs_PNode, NIs_Src, NIr_Val, NIr_Col, NIr_ints, NIr_PNode]; try simp)) .nil)))⟩
    refine PV.ret (inBlockA_ret (thenA_ret (hret .ret _ (iv (vTruth (vHolds n.op (vCompare ((s.columns[n.column.toNat]!).type) v n.value)))) (.inr rfl) (by kernel_rfl) ?_)))
    clear hret hK1 hK2 hK3 hK4 hK7 hK10 K0 K1 K2 K3 K4 K7 K10
    show Tof noTau [.live ⟨2, [(Schema.cells s)], 33⟩, .live ⟨8, [(PNode.cells n)], 26⟩, .live ⟨3, [(Val.cells v)], 23⟩] (iv (vTruth (vHolds n.op (vCompare ((s.columns[n.column.toNat]!).type) v n.value)))) (iv (vTest s.columns[n.column.toNat]!.type n v))
    -- leaf 3
    refine Tof.int ?_
    first | grind [vTest, isCmp, vHolds] | grind [vTest, isCmp, vHolds, vTruth]
  refine PV.skip (inBlockA_normal (thenA_normal (hK3 _ ?_)))
  refine PV.seq_k fun K12 hK12 => ?_
  refine PV.regionN ?_
  refine PON.runs 4 (by kernel_rfl) ?_
  refine PON.call 70 [iv ((s.columns[n.column.toNat]!).type), .agg (Val.cells v), .sF 3 (n.list.map Val.cells)] (some 45) (pre := []) (post := []) (x := .tup [bv (anyEq ((s.columns[n.column.toNat]!).type) v n.list), bv (anyNull n.list)]) _ (by kernel_rfl) (among_ok ((s.columns[n.column.toNat]!).type) v n.list (by assumption)) trivial rfl ?_
  refine PON.runs 5 (by kernel_rfl) ?_
  refine PON.fin rfl (thenA_normal (hK12 _ ?_))
  refine PV.seq_k fun K13 hK13 => ?_
  refine PV.norm ⟨(.agg (Schema.cells s) :: .agg (PNode.cells n) :: .agg (Val.cells v) :: po 0 :: po 1 :: po 2 :: iv 0 :: iv ((s.columns[n.column.toNat]!).type) :: bv (anyEq ((s.columns[n.column.toNat]!).type) v n.list) :: bv (anyNull n.list) :: po 0 :: .sF 4 (s.columns.map Col.cells) :: .pO 1 0 1 :: iv n.column :: .pF (Col.cells (s.columns[n.column.toNat]!)) 0 :: .pF (Col.cells (s.columns[n.column.toNat]!)) 1 :: iv ((s.columns[n.column.toNat]!).type) :: bv (decide (n.op = 8)) :: po 1 :: iv n.op :: bv (decide (n.op = 8)) :: U :: U :: U :: bv v.null :: po 2 :: bv v.null :: bv (isCmp n.op) :: po 1 :: iv n.op :: bv (isCmp n.op) :: U9 ([.tup [bv (anyEq ((s.columns[n.column.toNat]!).type) v n.list), bv (anyNull n.list)], iv ((s.columns[n.column.toNat]!).type), .agg (Val.cells v), .pO 1 0 5, .sF 3 (n.list.map Val.cells), .tup [bv (anyEq ((s.columns[n.column.toNat]!).type) v n.list), bv (anyNull n.list)], bv (anyEq ((s.columns[n.column.toNat]!).type) v n.list), bv (anyNull n.list), U, U, U, U, U, U, U])), [.live ⟨2, [(Schema.cells s)], 33⟩, .live ⟨8, [(PNode.cells n)], 26⟩, .live ⟨3, [(Val.cells v)], 23⟩]⟩ (by kernel_rfl) ?_
  refine PV.seqR [0, 1, 2] ⟨(.agg (Schema.cells s) :: .agg (PNode.cells n) :: .agg (Val.cells v) :: po 0 :: po 1 :: po 2 :: iv 0 :: iv ((s.columns[n.column.toNat]!).type) :: bv (anyEq ((s.columns[n.column.toNat]!).type) v n.list) :: bv (anyNull n.list) :: po 0 :: .sF 4 (s.columns.map Col.cells) :: .pO 1 0 1 :: iv n.column :: .pF (Col.cells (s.columns[n.column.toNat]!)) 0 :: .pF (Col.cells (s.columns[n.column.toNat]!)) 1 :: iv ((s.columns[n.column.toNat]!).type) :: bv (decide (n.op = 8)) :: po 1 :: iv n.op :: bv (decide (n.op = 8)) :: U :: U :: U :: bv v.null :: po 2 :: bv v.null :: bv (isCmp n.op) :: po 1 :: iv n.op :: bv (isCmp n.op) :: U9 (.tup [bv (anyEq ((s.columns[n.column.toNat]!).type) v n.list), bv (anyNull n.list)] :: iv ((s.columns[n.column.toNat]!).type) :: .agg (Val.cells v) :: .pO 1 0 5 :: .sF 3 (n.list.map Val.cells) :: .tup [bv (anyEq ((s.columns[n.column.toNat]!).type) v n.list), bv (anyNull n.list)] :: bv (anyEq ((s.columns[n.column.toNat]!).type) v n.list) :: bv (anyNull n.list) :: A4 ([bv (decide (¬((anyEq ((s.columns[n.column.toNat]!).type) v n.list) = true) ∧ ((anyNull n.list) = true))), U, U]))), [.live ⟨2, [(Schema.cells s)], 33⟩, .live ⟨8, [(PNode.cells n)], 26⟩, .live ⟨3, [(Val.cells v)], 23⟩]⟩ ?_ ?_
  · skip
    refine PV.regionN ?_
    refine PON.runs 3 (by kernel_rfl) ?_
    refine PON.norm ⟨(.agg (Schema.cells s) :: .agg (PNode.cells n) :: .agg (Val.cells v) :: po 0 :: po 1 :: po 2 :: iv 0 :: iv ((s.columns[n.column.toNat]!).type) :: bv (anyEq ((s.columns[n.column.toNat]!).type) v n.list) :: bv (anyNull n.list) :: po 0 :: .sF 4 (s.columns.map Col.cells) :: .pO 1 0 1 :: iv n.column :: .pF (Col.cells (s.columns[n.column.toNat]!)) 0 :: .pF (Col.cells (s.columns[n.column.toNat]!)) 1 :: iv ((s.columns[n.column.toNat]!).type) :: bv (decide (n.op = 8)) :: po 1 :: iv n.op :: bv (decide (n.op = 8)) :: U :: U :: U :: bv v.null :: po 2 :: bv v.null :: bv (isCmp n.op) :: po 1 :: iv n.op :: bv (isCmp n.op) :: U9 ([.tup [bv (anyEq ((s.columns[n.column.toNat]!).type) v n.list), bv (anyNull n.list)], iv ((s.columns[n.column.toNat]!).type), .agg (Val.cells v), .pO 1 0 5, .sF 3 (n.list.map Val.cells), .tup [bv (anyEq ((s.columns[n.column.toNat]!).type) v n.list), bv (anyNull n.list)], bv (anyEq ((s.columns[n.column.toNat]!).type) v n.list), bv (anyNull n.list), bv (anyEq ((s.columns[n.column.toNat]!).type) v n.list), bv (!(anyEq ((s.columns[n.column.toNat]!).type) v n.list)), bv (!(anyEq ((s.columns[n.column.toNat]!).type) v n.list)), U, U, U, U])), [.live ⟨2, [(Schema.cells s)], 33⟩, .live ⟨8, [(PNode.cells n)], 26⟩, .live ⟨3, [(Val.cells v)], 23⟩]⟩ (by kernel_rfl) ?_
    refine PON.splitN ((anyEq ((s.columns[n.column.toNat]!).type) v n.list) = true) 50 (!(anyEq ((s.columns[n.column.toNat]!).type) v n.list)) (.agg (Schema.cells s) :: .agg (PNode.cells n) :: .agg (Val.cells v) :: po 0 :: po 1 :: po 2 :: iv 0 :: iv ((s.columns[n.column.toNat]!).type) :: bv (anyEq ((s.columns[n.column.toNat]!).type) v n.list) :: bv (anyNull n.list) :: po 0 :: .sF 4 (s.columns.map Col.cells) :: .pO 1 0 1 :: iv n.column :: .pF (Col.cells (s.columns[n.column.toNat]!)) 0 :: .pF (Col.cells (s.columns[n.column.toNat]!)) 1 :: iv ((s.columns[n.column.toNat]!).type) :: bv (decide (n.op = 8)) :: po 1 :: iv n.op :: bv (decide (n.op = 8)) :: U :: U :: U :: bv v.null :: po 2 :: bv v.null :: bv (isCmp n.op) :: po 1 :: iv n.op :: bv (isCmp n.op) :: U9 ([.tup [bv (anyEq ((s.columns[n.column.toNat]!).type) v n.list), bv (anyNull n.list)], iv ((s.columns[n.column.toNat]!).type), .agg (Val.cells v), .pO 1 0 5, .sF 3 (n.list.map Val.cells), .tup [bv (anyEq ((s.columns[n.column.toNat]!).type) v n.list), bv (anyNull n.list)], bv (anyEq ((s.columns[n.column.toNat]!).type) v n.list), bv (anyNull n.list), bv (anyEq ((s.columns[n.column.toNat]!).type) v n.list), bv (!(anyEq ((s.columns[n.column.toNat]!).type) v n.list)), bv false, U, U, U, U])) (.agg (Schema.cells s) :: .agg (PNode.cells n) :: .agg (Val.cells v) :: po 0 :: po 1 :: po 2 :: iv 0 :: iv ((s.columns[n.column.toNat]!).type) :: bv (anyEq ((s.columns[n.column.toNat]!).type) v n.list) :: bv (anyNull n.list) :: po 0 :: .sF 4 (s.columns.map Col.cells) :: .pO 1 0 1 :: iv n.column :: .pF (Col.cells (s.columns[n.column.toNat]!)) 0 :: .pF (Col.cells (s.columns[n.column.toNat]!)) 1 :: iv ((s.columns[n.column.toNat]!).type) :: bv (decide (n.op = 8)) :: po 1 :: iv n.op :: bv (decide (n.op = 8)) :: U :: U :: U :: bv v.null :: po 2 :: bv v.null :: bv (isCmp n.op) :: po 1 :: iv n.op :: bv (isCmp n.op) :: U9 ([.tup [bv (anyEq ((s.columns[n.column.toNat]!).type) v n.list), bv (anyNull n.list)], iv ((s.columns[n.column.toNat]!).type), .agg (Val.cells v), .pO 1 0 5, .sF 3 (n.list.map Val.cells), .tup [bv (anyEq ((s.columns[n.column.toNat]!).type) v n.list), bv (anyNull n.list)], bv (anyEq ((s.columns[n.column.toNat]!).type) v n.list), bv (anyNull n.list), bv (anyEq ((s.columns[n.column.toNat]!).type) v n.list), bv (!(anyEq ((s.columns[n.column.toNat]!).type) v n.list)), bv true, U, U, U, U])) (by kernel_rfl) (fun h => bnot_t ((fun h => h) h)) (fun h => bnot_f (bool_ff h)) (by kernel_rfl) (by kernel_rfl) (fun h14 => ?_) (fun h14 => ?_)
    · skip
      refine PON.runs 2 (by kernel_rfl) ?_
      refine PON.norm ⟨(.agg (Schema.cells s) :: .agg (PNode.cells n) :: .agg (Val.cells v) :: po 0 :: po 1 :: po 2 :: iv 0 :: iv ((s.columns[n.column.toNat]!).type) :: bv (anyEq ((s.columns[n.column.toNat]!).type) v n.list) :: bv (anyNull n.list) :: po 0 :: .sF 4 (s.columns.map Col.cells) :: .pO 1 0 1 :: iv n.column :: .pF (Col.cells (s.columns[n.column.toNat]!)) 0 :: .pF (Col.cells (s.columns[n.column.toNat]!)) 1 :: iv ((s.columns[n.column.toNat]!).type) :: bv (decide (n.op = 8)) :: po 1 :: iv n.op :: bv (decide (n.op = 8)) :: U :: U :: U :: bv v.null :: po 2 :: bv v.null :: bv (isCmp n.op) :: po 1 :: iv n.op :: bv (isCmp n.op) :: U9 ([.tup [bv (anyEq ((s.columns[n.column.toNat]!).type) v n.list), bv (anyNull n.list)], iv ((s.columns[n.column.toNat]!).type), .agg (Val.cells v), .pO 1 0 5, .sF 3 (n.list.map Val.cells), .tup [bv (anyEq ((s.columns[n.column.toNat]!).type) v n.list), bv (anyNull n.list)], bv (anyEq ((s.columns[n.column.toNat]!).type) v n.list), bv (anyNull n.list), bv (anyEq ((s.columns[n.column.toNat]!).type) v n.list), bv (!(anyEq ((s.columns[n.column.toNat]!).type) v n.list)), bv false, U, bv false, U, U])), [.live ⟨2, [(Schema.cells s)], 33⟩, .live ⟨8, [(PNode.cells n)], 26⟩, .live ⟨3, [(Val.cells v)], 23⟩]⟩ (by kernel_rfl) ?_
      refine PON.fin rfl (thenA_normal ?_)
      exact ⟨rfl, rfl, (.cons (.tree (by simp only [NIs_cons, NIs_nil, NIr_cons, NIr_nil, NI_v, NI_any, NI_pO, NI_sO, NI_pF, NI_sF, NI_agg, NI_tup, NI_fn, NIh_nil, NIh_live, NIh_dead, NIh_free, NIr_map, NIr_append, NIs_icells, NIs_scells, NIs_bcells, NIs_Val, NIs_Col, NIs_Schema, NIs_PNode, NIs_Src, NIr_Val, NIr_Col, NIr_ints, NIr_PNode]; try simp)) (.cons (.tree (by simp only [NIs_cons, NIs_nil, NIr_cons, NIr_nil, NI_v, NI_any, NI_pO, NI_sO, NI_pF, NI_sF, NI_agg, NI_tup, NI_fn, NIh_nil, NIh_live, NIh_dead, NIh_free, NIr_map, NIr_append, NIs_icells, NIs_scells, NIs_bcells, NIs_Val, NIs_Col, NIs_Schema, NIs_PNode, NIs_Src, NIr_Val, NIr_Col, NIr_ints, NIr_PNode]; try simp)) (.cons (.tree (by simp only [NIs_cons, NIs_nil, NIr_cons, NIr_nil, NI_v, NI_any, NI_pO, NI_sO, NI_pF, NI_sF, NI_agg, NI_tup, NI_fn, NIh_nil, NIh_live, NIh_dead, NIh_free, NIr_map, NIr_append, NIs_icells, NIs_scells, NIs_bcells, NIs_Val, NIs_Col, NIs_Schema, NIs_PNode, NIs_Src, NIr_Val, NIr_Col, NIr_ints, NIr_PNode]; try simp)) (.cons (.pO _ _ rfl) (.cons (.pO _ _ rfl) (.cons (.pO _ _ rfl) (.v (.v (.v (.v (.cons (.pO _ _ rfl) (.cons (.tree (by simp only [NIs_cons, NIs_nil, NIr_cons, NIr_nil, NI_v, NI_any, NI_pO, NI_sO, NI_pF, NI_sF, NI_agg, NI_tup, NI_fn, NIh_nil, NIh_live, NIh_dead, NIh_free, NIr_map, NIr_append, NIs_icells, NIs_scells, NIs_bcells, NIs_Val, NIs_Col, NIs_Schema, NIs_PNode, NIs_Src, NIr_Val, NIr_Col, NIr_ints, NIr_PNode]; try simp)) (.cons (.pO _ _ rfl) (.v (.cons (.tree (by simp only [NIs_cons, NIs_nil, NIr_cons, NIr_nil, NI_v, NI_any, NI_pO, NI_sO, NI_pF, NI_sF, NI_agg, NI_tup, NI_fn, NIh_nil, NIh_live, NIh_dead, NIh_free, NIr_map, NIr_append, NIs_icells, NIs_scells, NIs_bcells, NIs_Val, NIs_Col, NIs_Schema, NIs_PNode, NIs_Src, NIr_Val, NIr_Col, NIr_ints, NIr_PNode]; try simp)) (.cons (.tree (by simp only [NIs_cons, NIs_nil, NIr_cons, NIr_nil, NI_v, NI_any, NI_pO, NI_sO, NI_pF, NI_sF, NI_agg, NI_tup, NI_fn, NIh_nil, NIh_live, NIh_dead, NIh_free, NIr_map, NIr_append, NIs_icells, NIs_scells, NIs_bcells, NIs_Val, NIs_Col, NIs_Schema, NIs_PNode, NIs_Src, NIr_Val, NIr_Col, NIr_ints, NIr_PNode]; try simp)) (.v (.v (.cons (.pO _ _ rfl) (.v (.v (.v (.v (.v (.v (.cons (.pO _ _ rfl) (.v (.v (.cons (.pO _ _ rfl) (.v (.v (.v (.v (.v (.v (.v (.v (.v (.v (.v (.cons (.tree (by simp only [NIs_cons, NIs_nil, NIr_cons, NIr_nil, NI_v, NI_any, NI_pO, NI_sO, NI_pF, NI_sF, NI_agg, NI_tup, NI_fn, NIh_nil, NIh_live, NIh_dead, NIh_free, NIr_map, NIr_append, NIs_icells, NIs_scells, NIs_bcells, NIs_Val, NIs_Col, NIs_Schema, NIs_PNode, NIs_Src, NIr_Val, NIr_Col, NIr_ints, NIr_PNode]; try simp)) (.v (.cons (.tree (by simp only [NIs_cons, NIs_nil, NIr_cons, NIr_nil, NI_v, NI_any, NI_pO, NI_sO, NI_pF, NI_sF, NI_agg, NI_tup, NI_fn, NIh_nil, NIh_live, NIh_dead, NIh_free, NIr_map, NIr_append, NIs_icells, NIs_scells, NIs_bcells, NIs_Val, NIs_Col, NIs_Schema, NIs_PNode, NIs_Src, NIr_Val, NIr_Col, NIr_ints, NIr_PNode]; try simp)) (.cons (.pO _ _ rfl) (.cons (.tree (by simp only [NIs_cons, NIs_nil, NIr_cons, NIr_nil, NI_v, NI_any, NI_pO, NI_sO, NI_pF, NI_sF, NI_agg, NI_tup, NI_fn, NIh_nil, NIh_live, NIh_dead, NIh_free, NIr_map, NIr_append, NIs_icells, NIs_scells, NIs_bcells, NIs_Val, NIs_Col, NIs_Schema, NIs_PNode, NIs_Src, NIr_Val, NIr_Col, NIr_ints, NIr_PNode]; try simp)) (.cons (.tree (by simp only [NIs_cons, NIs_nil, NIr_cons, NIr_nil, NI_v, NI_any, NI_pO, NI_sO, NI_pF, NI_sF, NI_agg, NI_tup, NI_fn, NIh_nil, NIh_live, NIh_dead, NIh_free, NIr_map, NIr_append, NIs_icells, NIs_scells, NIs_bcells, NIs_Val, NIs_Col, NIs_Schema, NIs_PNode, NIs_Src, NIr_Val, NIr_Col, NIr_ints, NIr_PNode]; try simp)) (.v (.v (.a4 (.cons (.eq (.v _) (v_bool (by clear hret hK1 hK2 hK3 hK4 hK7 hK10 hK12 hK13 K0 K1 K2 K3 K4 K7 K10 K12 K13; (try simp only [strEq_dec]); grind))) (.v (.v .nil)))))))))))))))))))))))))))))))))))))))))))))))))))), (.cons rfl (.tree (by simp only [NIs_cons, NIs_nil, NIr_cons, NIr_nil, NI_v, NI_any, NI_pO, NI_sO, NI_pF, NI_sF, NI_agg, NI_tup, NI_fn, NIh_nil, NIh_live, NIh_dead, NIh_free, NIr_map, NIr_append, NIs_icells, NIs_scells, NIs_bcells, NIs_Val, NIs_Col, NIs_Schema, NIs_PNode, NIs_Src, NIr_Val, NIr_Col, NIr_ints, NIr_PNode]; try simp)) (.cons rfl (.tree (by simp only [NIs_cons, NIs_nil, NIr_cons, NIr_nil, NI_v, NI_any, NI_pO, NI_sO, NI_pF, NI_sF, NI_agg, NI_tup, NI_fn, NIh_nil, NIh_live, NIh_dead, NIh_free, NIr_map, NIr_append, NIs_icells, NIs_scells, NIs_bcells, NIs_Val, NIs_Col, NIs_Schema, NIs_PNode, NIs_Src, NIr_Val, NIr_Col, NIr_ints, NIr_PNode]; try simp)) (.cons rfl (.tree (by simp only [NIs_cons, NIs_nil, NIr_cons, NIr_nil, NI_v, NI_any, NI_pO, NI_sO, NI_pF, NI_sF, NI_agg, NI_tup, NI_fn, NIh_nil, NIh_live, NIh_dead, NIh_free, NIr_map, NIr_append, NIs_icells, NIs_scells, NIs_bcells, NIs_Val, NIs_Col, NIs_Schema, NIs_PNode, NIs_Src, NIr_Val, NIr_Col, NIr_ints, NIr_PNode]; try simp)) .nil)))⟩
    refine PON.runs 2 (by kernel_rfl) ?_
    refine PON.norm ⟨(.agg (Schema.cells s) :: .agg (PNode.cells n) :: .agg (Val.cells v) :: po 0 :: po 1 :: po 2 :: iv 0 :: iv ((s.columns[n.column.toNat]!).type) :: bv (anyEq ((s.columns[n.column.toNat]!).type) v n.list) :: bv (anyNull n.list) :: po 0 :: .sF 4 (s.columns.map Col.cells) :: .pO 1 0 1 :: iv n.column :: .pF (Col.cells (s.columns[n.column.toNat]!)) 0 :: .pF (Col.cells (s.columns[n.column.toNat]!)) 1 :: iv ((s.columns[n.column.toNat]!).type) :: bv (decide (n.op = 8)) :: po 1 :: iv n.op :: bv (decide (n.op = 8)) :: U :: U :: U :: bv v.null :: po 2 :: bv v.null :: bv (isCmp n.op) :: po 1 :: iv n.op :: bv (isCmp n.op) :: U9 ([.tup [bv (anyEq ((s.columns[n.column.toNat]!).type) v n.list), bv (anyNull n.list)], iv ((s.columns[n.column.toNat]!).type), .agg (Val.cells v), .pO 1 0 5, .sF 3 (n.list.map Val.cells), .tup [bv (anyEq ((s.columns[n.column.toNat]!).type) v n.list), bv (anyNull n.list)], bv (anyEq ((s.columns[n.column.toNat]!).type) v n.list), bv (anyNull n.list), bv (anyEq ((s.columns[n.column.toNat]!).type) v n.list), bv (!(anyEq ((s.columns[n.column.toNat]!).type) v n.list)), bv true, bv (anyNull n.list), bv (anyNull n.list), U, U])), [.live ⟨2, [(Schema.cells s)], 33⟩, .live ⟨8, [(PNode.cells n)], 26⟩, .live ⟨3, [(Val.cells v)], 23⟩]⟩ (by kernel_rfl) ?_
    refine PON.fin rfl (thenA_normal ?_)
    exact ⟨rfl, rfl, (.cons (.tree (by simp only [NIs_cons, NIs_nil, NIr_cons, NIr_nil, NI_v, NI_any, NI_pO, NI_sO, NI_pF, NI_sF, NI_agg, NI_tup, NI_fn, NIh_nil, NIh_live, NIh_dead, NIh_free, NIr_map, NIr_append, NIs_icells, NIs_scells, NIs_bcells, NIs_Val, NIs_Col, NIs_Schema, NIs_PNode, NIs_Src, NIr_Val, NIr_Col, NIr_ints, NIr_PNode]; try simp)) (.cons (.tree (by simp only [NIs_cons, NIs_nil, NIr_cons, NIr_nil, NI_v, NI_any, NI_pO, NI_sO, NI_pF, NI_sF, NI_agg, NI_tup, NI_fn, NIh_nil, NIh_live, NIh_dead, NIh_free, NIr_map, NIr_append, NIs_icells, NIs_scells, NIs_bcells, NIs_Val, NIs_Col, NIs_Schema, NIs_PNode, NIs_Src, NIr_Val, NIr_Col, NIr_ints, NIr_PNode]; try simp)) (.cons (.tree (by simp only [NIs_cons, NIs_nil, NIr_cons, NIr_nil, NI_v, NI_any, NI_pO, NI_sO, NI_pF, NI_sF, NI_agg, NI_tup, NI_fn, NIh_nil, NIh_live, NIh_dead, NIh_free, NIr_map, NIr_append, NIs_icells, NIs_scells, NIs_bcells, NIs_Val, NIs_Col, NIs_Schema, NIs_PNode, NIs_Src, NIr_Val, NIr_Col, NIr_ints, NIr_PNode]; try simp)) (.cons (.pO _ _ rfl) (.cons (.pO _ _ rfl) (.cons (.pO _ _ rfl) (.v (.v (.v (.v (.cons (.pO _ _ rfl) (.cons (.tree (by simp only [NIs_cons, NIs_nil, NIr_cons, NIr_nil, NI_v, NI_any, NI_pO, NI_sO, NI_pF, NI_sF, NI_agg, NI_tup, NI_fn, NIh_nil, NIh_live, NIh_dead, NIh_free, NIr_map, NIr_append, NIs_icells, NIs_scells, NIs_bcells, NIs_Val, NIs_Col, NIs_Schema, NIs_PNode, NIs_Src, NIr_Val, NIr_Col, NIr_ints, NIr_PNode]; try simp)) (.cons (.pO _ _ rfl) (.v (.cons (.tree (by simp only [NIs_cons, NIs_nil, NIr_cons, NIr_nil, NI_v, NI_any, NI_pO, NI_sO, NI_pF, NI_sF, NI_agg, NI_tup, NI_fn, NIh_nil, NIh_live, NIh_dead, NIh_free, NIr_map, NIr_append, NIs_icells, NIs_scells, NIs_bcells, NIs_Val, NIs_Col, NIs_Schema, NIs_PNode, NIs_Src, NIr_Val, NIr_Col, NIr_ints, NIr_PNode]; try simp)) (.cons (.tree (by simp only [NIs_cons, NIs_nil, NIr_cons, NIr_nil, NI_v, NI_any, NI_pO, NI_sO, NI_pF, NI_sF, NI_agg, NI_tup, NI_fn, NIh_nil, NIh_live, NIh_dead, NIh_free, NIr_map, NIr_append, NIs_icells, NIs_scells, NIs_bcells, NIs_Val, NIs_Col, NIs_Schema, NIs_PNode, NIs_Src, NIr_Val, NIr_Col, NIr_ints, NIr_PNode]; try simp)) (.v (.v (.cons (.pO _ _ rfl) (.v (.v (.v (.v (.v (.v (.cons (.pO _ _ rfl) (.v (.v (.cons (.pO _ _ rfl) (.v (.v (.v (.v (.v (.v (.v (.v (.v (.v (.v (.cons (.tree (by simp only [NIs_cons, NIs_nil, NIr_cons, NIr_nil, NI_v, NI_any, NI_pO, NI_sO, NI_pF, NI_sF, NI_agg, NI_tup, NI_fn, NIh_nil, NIh_live, NIh_dead, NIh_free, NIr_map, NIr_append, NIs_icells, NIs_scells, NIs_bcells, NIs_Val, NIs_Col, NIs_Schema, NIs_PNode, NIs_Src, NIr_Val, NIr_Col, NIr_ints, NIr_PNode]; try simp)) (.v (.cons (.tree (by simp only [NIs_cons, NIs_nil, NIr_cons, NIr_nil, NI_v, NI_any, NI_pO, NI_sO, NI_pF, NI_sF, NI_agg, NI_tup, NI_fn, NIh_nil, NIh_live, NIh_dead, NIh_free, NIr_map, NIr_append, NIs_icells, NIs_scells, NIs_bcells, NIs_Val, NIs_Col, NIs_Schema, NIs_PNode, NIs_Src, NIr_Val, NIr_Col, NIr_ints, NIr_PNode]; try simp)) (.cons (.pO _ _ rfl) (.cons (.tree (by simp only [NIs_cons, NIs_nil, NIr_cons, NIr_nil, NI_v, NI_any, NI_pO, NI_sO, NI_pF, NI_sF, NI_agg, NI_tup, NI_fn, NIh_nil, NIh_live, NIh_dead, NIh_free, NIr_map, NIr_append, NIs_icells, NIs_scells, NIs_bcells, NIs_Val, NIs_Col, NIs_Schema, NIs_PNode, NIs_Src, NIr_Val, NIr_Col, NIr_ints, NIr_PNode]; try simp)) (.cons (.tree (by simp only [NIs_cons, NIs_nil, NIr_cons, NIr_nil, NI_v, NI_any, NI_pO, NI_sO, NI_pF, NI_sF, NI_agg, NI_tup, NI_fn, NIh_nil, NIh_live, NIh_dead, NIh_free, NIr_map, NIr_append, NIs_icells, NIs_scells, NIs_bcells, NIs_Val, NIs_Col, NIs_Schema, NIs_PNode, NIs_Src, NIr_Val, NIr_Col, NIr_ints, NIr_PNode]; try simp)) (.v (.v (.a4 (.cons (.eq (.v _) (v_bool (by clear hret hK1 hK2 hK3 hK4 hK7 hK10 hK12 hK13 K0 K1 K2 K3 K4 K7 K10 K12 K13; (try simp only [strEq_dec]); grind))) (.v (.v .nil)))))))))))))))))))))))))))))))))))))))))))))))))))), (.cons rfl (.tree (by simp only [NIs_cons, NIs_nil, NIr_cons, NIr_nil, NI_v, NI_any, NI_pO, NI_sO, NI_pF, NI_sF, NI_agg, NI_tup, NI_fn, NIh_nil, NIh_live, NIh_dead, NIh_free, NIr_map, NIr_append, NIs_icells, NIs_scells, NIs_bcells, NIs_Val, NIs_Col, NIs_Schema, NIs_PNode, NIs_Src, NIr_Val, NIr_Col, NIr_ints, NIr_PNode]; try simp)) (.cons rfl (.tree (by simp only [NIs_cons, NIs_nil, NIr_cons, NIr_nil, NI_v, NI_any, NI_pO, NI_sO, NI_pF, NI_sF, NI_agg, NI_tup, NI_fn, NIh_nil, NIh_live, NIh_dead, NIh_free, NIr_map, NIr_append, NIs_icells, NIs_scells, NIs_bcells, NIs_Val, NIs_Col, NIs_Schema, NIs_PNode, NIs_Src, NIr_Val, NIr_Col, NIr_ints, NIr_PNode]; try simp)) (.cons rfl (.tree (by simp only [NIs_cons, NIs_nil, NIr_cons, NIr_nil, NI_v, NI_any, NI_pO, NI_sO, NI_pF, NI_sF, NI_agg, NI_tup, NI_fn, NIh_nil, NIh_live, NIh_dead, NIh_free, NIr_map, NIr_append, NIs_icells, NIs_scells, NIs_bcells, NIs_Val, NIs_Col, NIs_Schema, NIs_PNode, NIs_Src, NIr_Val, NIr_Col, NIr_ints, NIr_PNode]; try simp)) .nil)))⟩
  refine PV.condP (¬((anyEq ((s.columns[n.column.toNat]!).type) v n.list) = true) ∧ ((anyNull n.list) = true)) (decide (¬((anyEq ((s.columns[n.column.toNat]!).type) v n.list) = true) ∧ ((anyNull n.list) = true))) (by kernel_rfl) decide_eq_true decide_eq_false (fun h15 => ?_) (fun h15 => ?_)
  · skip
    refine PV.seq_k fun K16 hK16 => ?_
    refine PV.regionN ?_
    refine PON.runs 1 (by kernel_rfl) ?_
    refine PON.fin rfl (thenA_normal (hK16 _ ?_))
    refine PV.norm ⟨(.agg (Schema.cells s) :: .agg (PNode.cells n) :: .agg (Val.cells v) :: po 0 :: po 1 :: po 2 :: iv 2 :: iv ((s.columns[n.column.toNat]!).type) :: bv (anyEq ((s.columns[n.column.toNat]!).type) v n.list) :: bv (anyNull n.list) :: po 0 :: .sF 4 (s.columns.map Col.cells) :: .pO 1 0 1 :: iv n.column :: .pF (Col.cells (s.columns[n.column.toNat]!)) 0 :: .pF (Col.cells (s.columns[n.column.toNat]!)) 1 :: iv ((s.columns[n.column.toNat]!).type) :: bv (decide (n.op = 8)) :: po 1 :: iv n.op :: bv (decide (n.op = 8)) :: U :: U :: U :: bv v.null :: po 2 :: bv v.null :: bv (isCmp n.op) :: po 1 :: iv n.op :: bv (isCmp n.op) :: U9 (.tup [bv (anyEq ((s.columns[n.column.toNat]!).type) v n.list), bv (anyNull n.list)] :: iv ((s.columns[n.column.toNat]!).type) :: .agg (Val.cells v) :: .pO 1 0 5 :: .sF 3 (n.list.map Val.cells) :: .tup [bv (anyEq ((s.columns[n.column.toNat]!).type) v n.list), bv (anyNull n.list)] :: bv (anyEq ((s.columns[n.column.toNat]!).type) v n.list) :: bv (anyNull n.list) :: A4 ([bv (decide (¬((anyEq ((s.columns[n.column.toNat]!).type) v n.list) = true) ∧ ((anyNull n.list) = true))), U, U]))), [.live ⟨2, [(Schema.cells s)], 33⟩, .live ⟨8, [(PNode.cells n)], 26⟩, .live ⟨3, [(Val.cells v)], 23⟩]⟩ (by kernel_rfl) ?_
    refine PV.ret (thenA_ret (hret .ret _ (iv 2) (.inr rfl) (by kernel_rfl) ?_))
    clear hret hK1 hK2 hK3 hK4 hK7 hK10 hK12 hK13 hK16 K0 K1 K2 K3 K4 K7 K10 K12 K13 K16
    show Tof noTau [.live ⟨2, [(Schema.cells s)], 33⟩, .live ⟨8, [(PNode.cells n)], 26⟩, .live ⟨3, [(Val.cells v)], 23⟩] (iv 2) (iv (vTest s.columns[n.column.toNat]!.type n v))
    -- leaf 4
    refine Tof.int ?_
    first | grind [vTest, isCmp, vHolds] | grind [vTest, isCmp, vHolds, vTruth]
  refine PV.skip (thenA_normal (hK13 _ ?_))
  refine PV.seq_k fun K17 hK17 => ?_
  refine PV.regionN ?_
  refine PON.runs 1 (by kernel_rfl) ?_
  refine PON.call 67 [bv (anyEq ((s.columns[n.column.toNat]!).type) v n.list)] (some 54) (pre := []) (post := []) (x := iv (vTruth (anyEq ((s.columns[n.column.toNat]!).type) v n.list))) _ (by kernel_rfl) (rtruth_ok (anyEq ((s.columns[n.column.toNat]!).type) v n.list)) trivial rfl ?_
  refine PON.runs 1 (by kernel_rfl) ?_
  refine PON.fin rfl (thenA_normal (hK17 _ ?_))
  refine PV.norm ⟨(.agg (Schema.cells s) :: .agg (PNode.cells n) :: .agg (Val.cells v) :: po 0 :: po 1 :: po 2 :: iv (vTruth (anyEq ((s.columns[n.column.toNat]!).type) v n.list)) :: iv ((s.columns[n.column.toNat]!).type) :: bv (anyEq ((s.columns[n.column.toNat]!).type) v n.list) :: bv (anyNull n.list) :: po 0 :: .sF 4 (s.columns.map Col.cells) :: .pO 1 0 1 :: iv n.column :: .pF (Col.cells (s.columns[n.column.toNat]!)) 0 :: .pF (Col.cells (s.columns[n.column.toNat]!)) 1 :: iv ((s.columns[n.column.toNat]!).type) :: bv (decide (n.op = 8)) :: po 1 :: iv n.op :: bv (decide (n.op = 8)) :: U :: U :: U :: bv v.null :: po 2 :: bv v.null :: bv (isCmp n.op) :: po 1 :: iv n.op :: bv (isCmp n.op) :: U9 (.tup [bv (anyEq ((s.columns[n.column.toNat]!).type) v n.list), bv (anyNull n.list)] :: iv ((s.columns[n.column.toNat]!).type) :: .agg (Val.cells v) :: .pO 1 0 5 :: .sF 3 (n.list.map Val.cells) :: .tup [bv (anyEq ((s.columns[n.column.toNat]!).type) v n.list), bv (anyNull n.list)] :: bv (anyEq ((s.columns[n.column.toNat]!).type) v n.list) :: bv (anyNull n.list) :: A4 ([bv (decide (¬((anyEq ((s.columns[n.column.toNat]!).type) v n.list) = true) ∧ ((anyNull n.list) = true))), bv (anyEq ((s.columns[n.column.toNat]!).type) v n.list), iv (vTruth (anyEq ((s.columns[n.column.toNat]!).type) v n.list))]))), [.live ⟨2, [(Schema.cells s)], 33⟩, .live ⟨8, [(PNode.cells n)], 26⟩, .live ⟨3, [(Val.cells v)], 23⟩]⟩ (by kernel_rfl) ?_
  refine PV.ret (hret .ret _ (iv (vTruth (anyEq ((s.columns[n.column.toNat]!).type) v n.list))) (.inr rfl) (by kernel_rfl) ?_)
  clear hret hK1 hK2 hK3 hK4 hK7 hK10 hK12 hK13 hK17 K0 K1 K2 K3 K4 K7 K10 K12 K13 K17
  show Tof noTau [.live ⟨2, [(Schema.cells s)], 33⟩, .live ⟨8, [(PNode.cells n)], 26⟩, .live ⟨3, [(Val.cells v)], 23⟩] (iv (vTruth (anyEq ((s.columns[n.column.toNat]!).type) v n.list))) (iv (vTest s.columns[n.column.toNat]!.type n v))
  -- leaf 5
  refine Tof.int ?_
  first | grind [vTest, isCmp, vHolds] | grind [vTest, isCmp, vHolds, vTruth]
theorem leafTruth_ok (s : Schema) (n : PNode) (v : Val) (hl : n.list.length ≤ maxLen) (hc : 0 ≤ n.column ∧ n.column < s.columns.length) (ho : 1 ≤ n.op ∧ n.op ≤ 8) : PCX Try.prog 58 [.agg (Schema.cells s), .agg (PNode.cells n), .agg (Val.cells v)] [] [] (iv (vTest s.columns[n.column.toNat]!.type n v)) :=
  PCX.frame (by simp only [NIs_cons, NIs_nil, NIr_cons, NIr_nil, NI_v, NI_any, NI_pO, NI_sO, NI_pF, NI_sF, NI_agg, NI_tup, NI_fn, NIh_nil, NIh_live, NIh_dead, NIh_free, NIr_map, NIr_append, NIs_icells, NIs_scells, NIs_bcells, NIs_Val, NIs_Col, NIs_Schema, NIs_PNode, NIs_Src, NIr_Val, NIr_Col, NIr_ints, NIr_PNode]; try simp) (leafTruth_ok_walk s n v hl hc ho)

end Go.Proofs.Ytinehkfcploeiaa
