/- Contracts of the checks of predicates. -/
import Derived.Test.YtinehkfcploeiaaSchema
namespace Go.Proofs.Ytinehkfcploeiaa
open Go.Abs
set_option linter.unusedVariables false
set_option linter.unusedSimpArgs false


def nullableCol (c : Col) : Col := ⟨c.name, c.type, c.scale, true⟩
def nodeErr (s : Schema) (i : Int) (n : PNode) : Int :=
  if n.op < 1 ∨ n.op > 11 then 1 else if n.op ≥ 9 then (if n.a < 0 ∨ n.a ≥ i ∨ (n.op ≠ 11 ∧ (n.b < 0 ∨ n.b ≥ i)) then 4 else 0)
  else if n.column < 0 ∨ n.column ≥ s.columns.length then 4 else if n.op = 8 then 0
  else if n.op ≠ 7 then (if n.value.null = true then 12 else vCheck s.columns[n.column.toNat]! n.value)
  else if n.list.length = 0 then 1 else if n.list.length > 16 then 7 else errFrom (fun _ v => vCheck (nullableCol s.columns[n.column.toNat]!) v) 0 n.list
def predErr (s : Schema) (p : List PNode) : Int := if schemaErr s ≠ 0 then schemaErr s else if 64 < p.length then 7 else errFrom (nodeErr s) 0 p
def vTruth (b : Bool) : Int := if b = true then 1 else 0
def vHolds (op k : Int) : Bool := if op = 1 then decide (k = 0) else if op = 2 then decide (¬ k = 0) else if op = 3 then decide (k < 0) else if op = 4 then decide (k ≤ 0) else if op = 5 then decide (k > 0) else decide (k ≥ 0)
def vNot (a : Int) : Int := if a = 2 then 2 else IntKind.i64.wrap (1 - a)
def vAnd (a b : Int) : Int := if a = 0 ∨ b = 0 then 0 else if a = 1 ∧ b = 1 then 1 else 2
def isCmp (op : Int) : Bool := decide (1 ≤ op) && decide (op ≤ 6)
def isLeaf (op : Int) : Bool := decide (1 ≤ op) && decide (op ≤ 8)
def anyNull (l : List Val) : Bool := l.any (fun v => v.null)
def anyEq (t : Int) (x : Val) (l : List Val) : Bool := l.any (fun v => !v.null && decide (vCompare t x v = 0))
/-- the truth value of a leaf -/
def vTest (t : Int) (n : PNode) (x : Val) : Int :=
  if n.op = 8 then vTruth x.null else if x.null = true then 2
  else if n.op = 1 then vTruth (decide (vCompare t x n.value = 0)) else if n.op = 2 then vTruth (decide (¬ vCompare t x n.value = 0))
  else if n.op = 3 then vTruth (decide (vCompare t x n.value < 0)) else if n.op = 4 then vTruth (decide (vCompare t x n.value ≤ 0))
  else if n.op = 5 then vTruth (decide (vCompare t x n.value > 0)) else if n.op = 6 then vTruth (decide (vCompare t x n.value ≥ 0))
  else if anyEq t x n.list = true then 1 else if anyNull n.list = true then 2 else 0
/-- operators -/
def vCombine (op a b : Int) : Int :=
  if op = 11 ∧ a = 2 then 2 else if op = 11 then IntKind.i64.wrap (1 - a) else if op = 9 ∧ (a = 0 ∨ b = 0) then 0 else if op = 10 ∧ (a = 1 ∨ b = 1) then 1 else if a = 2 ∨ b = 2 then 2 else a

set_option maxHeartbeats 4000000 in
theorem leaf_ok_walk (op : Int) : PC Try.prog 41 [iv op] [] (fun yR kR => Tof noTau kR yR (bv (isLeaf op))) := by
  refine PC.of_bodyV Try.func41 rfl [iv op, U, U, U, U, U, U, U, U] (by kernel_rfl) (fun K0 hret => ?_)
  refine PV.seq_k fun K1 hK1 => ?_
  refine PV.regionN ?_
  refine PON.runs 1 (by kernel_rfl) ?_
  refine PON.fin rfl (thenA_normal (hK1 _ ?_))
  refine PV.norm ⟨[iv op, U, bv false, U, U, U, U, U, U], []⟩ (by kernel_rfl) ?_
  refine PV.seqR [] ⟨(iv op :: U :: bv (decide ((op ≥ 1) ∧ (op ≤ 8))) :: A4 ([A, A])), []⟩ ?_ ?_
  · skip
    refine PV.regionN ?_
    refine PON.runs 3 (by kernel_rfl) ?_
    refine PON.norm ⟨[iv op, U, bv false, iv op, bv (decide (op ≥ 1)), bv (decide (op ≥ 1)), U, U, U], []⟩ (by kernel_rfl) ?_
    refine PON.splitP (op ≥ 1) 5 (decide (op ≥ 1)) [iv op, U, bv false, iv op, bv (decide (op ≥ 1)), bv true, U, U, U] [iv op, U, bv false, iv op, bv (decide (op ≥ 1)), bv false, U, U, U] (by kernel_rfl) decide_eq_true decide_eq_false (by kernel_rfl) (by kernel_rfl) (fun h2 => ?_) (fun h2 => ?_)
    · skip
      refine PON.runs 4 (by kernel_rfl) ?_
      refine PON.norm ⟨[iv op, U, bv (decide (op ≤ 8)), iv op, bv (decide (op ≥ 1)), bv true, iv op, bv (decide (op ≤ 8)), bv (decide (op ≤ 8))], []⟩ (by kernel_rfl) ?_
      refine PON.fin rfl (thenA_normal ?_)
      exact ⟨rfl, rfl, (.v (.v (.cons (.eq (.v _) (v_bool (by clear hret hK1 K0 K1; (try simp only [strEq_dec]); grind))) (.a4 (.any (.any .nil)))))), .nil⟩
    refine PON.runs 4 (by kernel_rfl) ?_
    refine PON.norm ⟨[iv op, U, bv false, iv op, bv (decide (op ≥ 1)), bv false, U, U, bv false], []⟩ (by kernel_rfl) ?_
    refine PON.fin rfl (thenA_normal ?_)
    exact ⟨rfl, rfl, (.v (.v (.cons (.eq (.v _) (v_bool (by clear hret hK1 K0 K1; (try simp only [strEq_dec]); grind))) (.a4 (.any (.any .nil)))))), .nil⟩
  refine PV.ret (hret .ret _ (bv (decide ((op ≥ 1) ∧ (op ≤ 8)))) (.inr rfl) (by kernel_rfl) ?_)
  clear hret hK1 K0 K1
  show Tof noTau [] (bv (decide ((op ≥ 1) ∧ (op ≤ 8)))) (bv (isLeaf op))
  -- leaf 1
  refine Tof.bool ?_
  grind [isLeaf]
theorem leaf_ok (op : Int) : PCX Try.prog 41 [iv op] [] [] (bv (isLeaf op)) :=
  PCX.frame (by simp only [NIs_cons, NIs_nil, NIr_cons, NIr_nil, NI_v, NI_any, NI_pO, NI_sO, NI_pF, NI_sF, NI_agg, NI_tup, NI_fn, NIh_nil, NIh_live, NIh_dead, NIh_free, NIr_map, NIr_append, NIs_icells, NIs_scells, NIs_bcells, NIs_Val, NIs_Col, NIs_Schema, NIs_PNode, NIs_Src, NIr_Val, NIr_Col, NIr_ints, NIr_PNode]; try simp) (leaf_ok_walk op)

set_option maxHeartbeats 4000000 in
theorem comparison_ok_walk (op : Int) : PC Try.prog 52 [iv op] [] (fun yR kR => Tof noTau kR yR (bv (isCmp op))) := by
  refine PC.of_bodyV Try.func52 rfl [iv op, U, U, U, U, U, U, U, U] (by kernel_rfl) (fun K0 hret => ?_)
  refine PV.seq_k fun K1 hK1 => ?_
  refine PV.regionN ?_
  refine PON.runs 1 (by kernel_rfl) ?_
  refine PON.fin rfl (thenA_normal (hK1 _ ?_))
  refine PV.norm ⟨[iv op, U, bv false, U, U, U, U, U, U], []⟩ (by kernel_rfl) ?_
  refine PV.seqR [] ⟨(iv op :: U :: bv (decide ((op ≥ 1) ∧ (op ≤ 6))) :: A4 ([A, A])), []⟩ ?_ ?_
  · skip
    refine PV.regionN ?_
    refine PON.runs 3 (by kernel_rfl) ?_
    refine PON.norm ⟨[iv op, U, bv false, iv op, bv (decide (op ≥ 1)), bv (decide (op ≥ 1)), U, U, U], []⟩ (by kernel_rfl) ?_
    refine PON.splitP (op ≥ 1) 5 (decide (op ≥ 1)) [iv op, U, bv false, iv op, bv (decide (op ≥ 1)), bv true, U, U, U] [iv op, U, bv false, iv op, bv (decide (op ≥ 1)), bv false, U, U, U] (by kernel_rfl) decide_eq_true decide_eq_false (by kernel_rfl) (by kernel_rfl) (fun h2 => ?_) (fun h2 => ?_)
    · skip
      refine PON.runs 4 (by kernel_rfl) ?_
      refine PON.norm ⟨[iv op, U, bv (decide (op ≤ 6)), iv op, bv (decide (op ≥ 1)), bv true, iv op, bv (decide (op ≤ 6)), bv (decide (op ≤ 6))], []⟩ (by kernel_rfl) ?_
      refine PON.fin rfl (thenA_normal ?_)
      exact ⟨rfl, rfl, (.v (.v (.cons (.eq (.v _) (v_bool (by clear hret hK1 K0 K1; (try simp only [strEq_dec]); grind))) (.a4 (.any (.any .nil)))))), .nil⟩
    refine PON.runs 4 (by kernel_rfl) ?_
    refine PON.norm ⟨[iv op, U, bv false, iv op, bv (decide (op ≥ 1)), bv false, U, U, bv false], []⟩ (by kernel_rfl) ?_
    refine PON.fin rfl (thenA_normal ?_)
    exact ⟨rfl, rfl, (.v (.v (.cons (.eq (.v _) (v_bool (by clear hret hK1 K0 K1; (try simp only [strEq_dec]); grind))) (.a4 (.any (.any .nil)))))), .nil⟩
  refine PV.ret (hret .ret _ (bv (decide ((op ≥ 1) ∧ (op ≤ 6)))) (.inr rfl) (by kernel_rfl) ?_)
  clear hret hK1 K0 K1
  show Tof noTau [] (bv (decide ((op ≥ 1) ∧ (op ≤ 6)))) (bv (isCmp op))
  -- leaf 1
  refine Tof.bool ?_
  grind [isCmp]
theorem comparison_ok (op : Int) : PCX Try.prog 52 [iv op] [] [] (bv (isCmp op)) :=
  PCX.frame (by simp only [NIs_cons, NIs_nil, NIr_cons, NIr_nil, NI_v, NI_any, NI_pO, NI_sO, NI_pF, NI_sF, NI_agg, NI_tup, NI_fn, NIh_nil, NIh_live, NIh_dead, NIh_free, NIr_map, NIr_append, NIs_icells, NIs_scells, NIs_bcells, NIs_Val, NIs_Col, NIs_Schema, NIs_PNode, NIs_Src, NIr_Val, NIr_Col, NIr_ints, NIr_PNode]; try simp) (comparison_ok_walk op)

set_option maxHeartbeats 4000000 in
theorem nullable_ok_walk (c : Col) : PC Try.prog 54 [.agg (Col.cells c)] [] (fun yR kR => Tof noTau kR yR (.agg (Col.cells (nullableCol c)))) := by
  refine PC.of_bodyV Try.func54 rfl [.agg (Col.cells c), U, U, U, U] (by kernel_rfl) (fun K0 hret => ?_)
  refine PV.seq_k fun K1 hK1 => ?_
  refine PV.regionN ?_
  refine PON.runs 2 (by kernel_rfl) ?_
  refine PON.fin rfl (thenA_normal (hK1 _ ?_))
  refine PV.seq_k fun K2 hK2 => ?_
  refine PV.regionN ?_
  refine PON.runs 2 (by kernel_rfl) ?_
  refine PON.fin rfl (thenA_normal (hK2 _ ?_))
  refine PV.seq_k fun K3 hK3 => ?_
  refine PV.regionN ?_
  refine PON.runs 2 (by kernel_rfl) ?_
  refine PON.fin rfl (thenA_normal (hK3 _ ?_))
  refine PV.norm ⟨[.agg (Col.cells c), po 0, po 1, .pO 0 0 3, .agg [sv c.name, iv c.type, iv c.scale, bv true]], [.live ⟨4, [[sv c.name, iv c.type, iv c.scale, bv true]], 47⟩, .live ⟨4, [[sv c.name, iv c.type, iv c.scale, bv true]], 47⟩]⟩ (by kernel_rfl) ?_
  refine PV.ret (hret .ret _ (.agg [sv c.name, iv c.type, iv c.scale, bv true]) (.inr rfl) (by kernel_rfl) ?_)
  clear hret hK1 hK2 hK3 K0 K1 K2 K3
  show Tof noTau [.live ⟨4, [[sv c.name, iv c.type, iv c.scale, bv true]], 47⟩, .live ⟨4, [[sv c.name, iv c.type, iv c.scale, bv true]], 47⟩] (.agg [sv c.name, iv c.type, iv c.scale, bv true]) (.agg (Col.cells (nullableCol c)))
  -- leaf 1
  exact Tof.eq (by simp only [NIs_cons, NIs_nil, NIr_cons, NIr_nil, NI_v, NI_any, NI_pO, NI_sO, NI_pF, NI_sF, NI_agg, NI_tup, NI_fn, NIh_nil, NIh_live, NIh_dead, NIh_free, NIr_map, NIr_append, NIs_icells, NIs_scells, NIs_bcells, NIs_Val, NIs_Col, NIs_Schema, NIs_PNode, NIs_Src, NIr_Val, NIr_Col, NIr_ints, NIr_PNode]; try simp) rfl
theorem nullable_ok (c : Col) : PCX Try.prog 54 [.agg (Col.cells c)] [] [] (.agg (Col.cells (nullableCol c))) :=
  PCX.frame (by simp only [NIs_cons, NIs_nil, NIr_cons, NIr_nil, NI_v, NI_any, NI_pO, NI_sO, NI_pF, NI_sF, NI_agg, NI_tup, NI_fn, NIh_nil, NIh_live, NIh_dead, NIh_free, NIr_map, NIr_append, NIs_icells, NIs_scells, NIs_bcells, NIs_Val, NIs_Col, NIs_Schema, NIs_PNode, NIs_Src, NIr_Val, NIr_Col, NIr_ints, NIr_PNode]; try simp) (nullable_ok_walk c)

set_option maxHeartbeats 4000000 in
theorem node_ok_walk (s : Schema) (i : Int) (n : PNode) : PC Try.prog 30 [.agg (Schema.cells s), iv i, .agg (PNode.cells n)] [] (fun yR kR => Tof noTau kR yR (iv (nodeErr s i n))) := by
  refine PC.of_bodyV Try.func30 rfl (.agg (Schema.cells s) :: iv i :: .agg (PNode.cells n) :: U9 (U9 (U9 (U9 (U9 (U9 (U9 (U9 (U9 (U9 (U9 ([U, U, U, U, U, U, U, U])))))))))))) (by kernel_rfl) (fun K0 hret => ?_)
  refine PV.seq_k fun K1 hK1 => ?_
  refine PV.regionN ?_
  refine PON.runs 3 (by kernel_rfl) ?_
  refine PON.fin rfl (thenA_normal (hK1 _ ?_))
  refine PV.seq_k fun K2 hK2 => ?_
  refine PV.norm ⟨(.agg (Schema.cells s) :: iv i :: .agg (PNode.cells n) :: po 0 :: U :: po 1 :: iv 0 :: U9 (U9 (U9 (U9 (U9 (U9 (U9 (U9 (U9 (U9 (U9 ([U, U, U, U])))))))))))), [.live ⟨2, [(Schema.cells s)], 33⟩, .live ⟨8, [(PNode.cells n)], 26⟩]⟩ (by kernel_rfl) ?_
  refine PV.seqR [0, 1] ⟨(.agg (Schema.cells s) :: iv i :: .agg (PNode.cells n) :: po 0 :: U :: po 1 :: iv 0 :: U :: U :: U :: U :: A4 (A :: A :: A :: bv (decide ((n.op < 1) ∨ (n.op > 11))) :: U9 (U9 (U9 (U9 (U9 (U9 (U9 (U9 (U9 (U9 ([U])))))))))))), [.live ⟨2, [(Schema.cells s)], 33⟩, .live ⟨8, [(PNode.cells n)], 26⟩]⟩ ?_ ?_
  · skip
    refine PV.regionN ?_
    refine PON.runs 4 (by kernel_rfl) ?_
    refine PON.norm ⟨(.agg (Schema.cells s) :: iv i :: .agg (PNode.cells n) :: po 0 :: U :: po 1 :: iv 0 :: U :: U :: U :: U :: po 1 :: iv n.op :: bv (decide (n.op < 1)) :: bv (decide (n.op < 1)) :: U9 (U9 (U9 (U9 (U9 (U9 (U9 (U9 (U9 (U9 ([U, U, U, U, U]))))))))))), [.live ⟨2, [(Schema.cells s)], 33⟩, .live ⟨8, [(PNode.cells n)], 26⟩]⟩ (by kernel_rfl) ?_
    refine PON.splitP (n.op < 1) 14 (decide (n.op < 1)) (.agg (Schema.cells s) :: iv i :: .agg (PNode.cells n) :: po 0 :: U :: po 1 :: iv 0 :: U :: U :: U :: U :: po 1 :: iv n.op :: bv (decide (n.op < 1)) :: bv true :: U9 (U9 (U9 (U9 (U9 (U9 (U9 (U9 (U9 (U9 ([U, U, U, U, U]))))))))))) (.agg (Schema.cells s) :: iv i :: .agg (PNode.cells n) :: po 0 :: U :: po 1 :: iv 0 :: U :: U :: U :: U :: po 1 :: iv n.op :: bv (decide (n.op < 1)) :: bv false :: U9 (U9 (U9 (U9 (U9 (U9 (U9 (U9 (U9 (U9 ([U, U, U, U, U]))))))))))) (by kernel_rfl) decide_eq_true decide_eq_false (by kernel_rfl) (by kernel_rfl) (fun h3 => ?_) (fun h3 => ?_)
    · skip
      refine PON.runs 4 (by kernel_rfl) ?_
      refine PON.norm ⟨(.agg (Schema.cells s) :: iv i :: .agg (PNode.cells n) :: po 0 :: U :: po 1 :: iv 0 :: U :: U :: U :: U :: po 1 :: iv n.op :: bv (decide (n.op < 1)) :: bv true :: U :: U :: U :: bv true :: U9 (U9 (U9 (U9 (U9 (U9 (U9 (U9 (U9 (U9 ([U]))))))))))), [.live ⟨2, [(Schema.cells s)], 33⟩, .live ⟨8, [(PNode.cells n)], 26⟩]⟩ (by kernel_rfl) ?_
      refine PON.fin rfl (thenA_normal ?_)
      exact ⟨rfl, rfl, (.cons (.tree (by simp only [NIs_cons, NIs_nil, NIr_cons, NIr_nil, NI_v, NI_any, NI_pO, NI_sO, NI_pF, NI_sF, NI_agg, NI_tup, NI_fn, NIh_nil, NIh_live, NIh_dead, NIh_free, NIr_map, NIr_append, NIs_icells, NIs_scells, NIs_bcells, NIs_Val, NIs_Col, NIs_Schema, NIs_PNode, NIs_Src, NIr_Val, NIr_Col, NIr_ints, NIr_PNode]; try simp)) (.v (.cons (.tree (by simp only [NIs_cons, NIs_nil, NIr_cons, NIr_nil, NI_v, NI_any, NI_pO, NI_sO, NI_pF, NI_sF, NI_agg, NI_tup, NI_fn, NIh_nil, NIh_live, NIh_dead, NIh_free, NIr_map, NIr_append, NIs_icells, NIs_scells, NIs_bcells, NIs_Val, NIs_Col, NIs_Schema, NIs_PNode, NIs_Src, NIr_Val, NIr_Col, NIr_ints, NIr_PNode]; try simp)) (.cons (.pO _ _ rfl) (.v (.cons (.pO _ _ rfl) (.v (.v (.v (.v (.v (.a4 (.any (.any (.any (.cons (.eq (.v _) (v_bool (by clear hret hK1 hK2 K0 K1 K2; (try simp only [strEq_dec]); grind))) (.v (.v (.v (.v (.v (.v (.v (.v (.v (.v (.v (.v (.v (.v (.v (.v (.v (.v (.v (.v (.v (.v (.v (.v (.v (.v (.v (.v (.v (.v (.v (.v (.v (.v (.v (.v (.v (.v (.v (.v (.v (.v (.v (.v (.v (.v (.v (.v (.v (.v (.v (.v (.v (.v (.v (.v (.v (.v (.v (.v (.v (.v (.v (.v (.v (.v (.v (.v (.v (.v (.v (.v (.v (.v (.v (.v (.v (.v (.v (.v (.v (.v (.v (.v (.v (.v (.v (.v (.v (.v (.v .nil))))))))))))))))))))))))))))))))))))))))))))))))))))))))))))))))))))))))))))))))))))))))))))))))))))))))))), (.cons rfl (.tree (by simp only [NIs_cons, NIs_nil, NIr_cons, NIr_nil, NI_v, NI_any, NI_pO, NI_sO, NI_pF, NI_sF, NI_agg, NI_tup, NI_fn, NIh_nil, NIh_live, NIh_dead, NIh_free, NIr_map, NIr_append, NIs_icells, NIs_scells, NIs_bcells, NIs_Val, NIs_Col, NIs_Schema, NIs_PNode, NIs_Src, NIr_Val, NIr_Col, NIr_ints, NIr_PNode]; try simp)) (.cons rfl (.tree (by simp only [NIs_cons, NIs_nil, NIr_cons, NIr_nil, NI_v, NI_any, NI_pO, NI_sO, NI_pF, NI_sF, NI_agg, NI_tup, NI_fn, NIh_nil, NIh_live, NIh_dead, NIh_free, NIr_map, NIr_append, NIs_icells, NIs_scells, NIs_bcells, NIs_Val, NIs_Col, NIs_Schema, NIs_PNode, NIs_Src, NIr_Val, NIr_Col, NIr_ints, NIr_PNode]; try simp)) .nil))⟩
    refine PON.runs 4 (by kernel_rfl) ?_
    refine PON.norm ⟨(.agg (Schema.cells s) :: iv i :: .agg (PNode.cells n) :: po 0 :: U :: po 1 :: iv 0 :: U :: U :: U :: U :: po 1 :: iv n.op :: bv (decide (n.op < 1)) :: bv false :: po 1 :: iv n.op :: bv (decide (n.op > 11)) :: bv (decide (n.op > 11)) :: U9 (U9 (U9 (U9 (U9 (U9 (U9 (U9 (U9 (U9 ([U]))))))))))), [.live ⟨2, [(Schema.cells s)], 33⟩, .live ⟨8, [(PNode.cells n)], 26⟩]⟩ (by kernel_rfl) ?_
    refine PON.fin rfl (thenA_normal ?_)
    exact ⟨rfl, rfl, (.cons (.tree (by simp only [NIs_cons, NIs_nil, NIr_cons, NIr_nil, NI_v, NI_any, NI_pO, NI_sO, NI_pF, NI_sF, NI_agg, NI_tup, NI_fn, NIh_nil, NIh_live, NIh_dead, NIh_free, NIr_map, NIr_append, NIs_icells, NIs_scells, NIs_bcells, NIs_Val, NIs_Col, NIs_Schema, NIs_PNode, NIs_Src, NIr_Val, NIr_Col, NIr_ints, NIr_PNode]; try simp)) (.v (.cons (.tree (by simp only [NIs_cons, NIs_nil, NIr_cons, NIr_nil, NI_v, NI_any, NI_pO, NI_sO, NI_pF, NI_sF, NI_agg, NI_tup, NI_fn, NIh_nil, NIh_live, NIh_dead, NIh_free, NIr_map, NIr_append, NIs_icells, NIs_scells, NIs_bcells, NIs_Val, NIs_Col, NIs_Schema, NIs_PNode, NIs_Src, NIr_Val, NIr_Col, NIr_ints, NIr_PNode]; try simp)) (.cons (.pO _ _ rfl) (.v (.cons (.pO _ _ rfl) (.v (.v (.v (.v (.v (.a4 (.any (.any (.any (.cons (.eq (.v _) (v_bool (by clear hret hK1 hK2 K0 K1 K2; (try simp only [strEq_dec]); grind))) (.v (.v (.v (.v (.v (.v (.v (.v (.v (.v (.v (.v (.v (.v (.v (.v (.v (.v (.v (.v (.v (.v (.v (.v (.v (.v (.v (.v (.v (.v (.v (.v (.v (.v (.v (.v (.v (.v (.v (.v (.v (.v (.v (.v (.v (.v (.v (.v (.v (.v (.v (.v (.v (.v (.v (.v (.v (.v (.v (.v (.v (.v (.v (.v (.v (.v (.v (.v (.v (.v (.v (.v (.v (.v (.v (.v (.v (.v (.v (.v (.v (.v (.v (.v (.v (.v (.v (.v (.v (.v (.v .nil))))))))))))))))))))))))))))))))))))))))))))))))))))))))))))))))))))))))))))))))))))))))))))))))))))))))))), (.cons rfl (.tree (by simp only [NIs_cons, NIs_nil, NIr_cons, NIr_nil, NI_v, NI_any, NI_pO, NI_sO, NI_pF, NI_sF, NI_agg, NI_tup, NI_fn, NIh_nil, NIh_live, NIh_dead, NIh_free, NIr_map, NIr_append, NIs_icells, NIs_scells, NIs_bcells, NIs_Val, NIs_Col, NIs_Schema, NIs_PNode, NIs_Src, NIr_Val, NIr_Col, NIr_ints, NIr_PNode]; try simp)) (.cons rfl (.tree (by simp only [NIs_cons, NIs_nil, NIr_cons, NIr_nil, NI_v, NI_any, NI_pO, NI_sO, NI_pF, NI_sF, NI_agg, NI_tup, NI_fn, NIh_nil, NIh_live, NIh_dead, NIh_free, NIr_map, NIr_append, NIs_icells, NIs_scells, NIs_bcells, NIs_Val, NIs_Col, NIs_Schema, NIs_PNode, NIs_Src, NIr_Val, NIr_Col, NIr_ints, NIr_PNode]; try simp)) .nil))⟩
  refine PV.condP ((n.op < 1) ∨ (n.op > 11)) (decide ((n.op < 1) ∨ (n.op > 11))) (by kernel_rfl) decide_eq_true decide_eq_false (fun h4 => ?_) (fun h4 => ?_)
  · skip
    refine PV.seq_k fun K5 hK5 => ?_
    refine PV.regionN ?_
    refine PON.runs 1 (by kernel_rfl) ?_
    refine PON.fin rfl (thenA_normal (hK5 _ ?_))
    refine PV.norm ⟨(.agg (Schema.cells s) :: iv i :: .agg (PNode.cells n) :: po 0 :: U :: po 1 :: iv 1 :: U :: U :: U :: U :: A4 (A :: A :: A :: bv (decide ((n.op < 1) ∨ (n.op > 11))) :: U9 (U9 (U9 (U9 (U9 (U9 (U9 (U9 (U9 (U9 ([U])))))))))))), [.live ⟨2, [(Schema.cells s)], 33⟩, .live ⟨8, [(PNode.cells n)], 26⟩]⟩ (by kernel_rfl) ?_
    refine PV.ret (thenA_ret (hret .ret _ (iv 1) (.inr rfl) (by kernel_rfl) ?_))
    clear hret hK1 hK2 hK5 K0 K1 K2 K5
    show Tof noTau [.live ⟨2, [(Schema.cells s)], 33⟩, .live ⟨8, [(PNode.cells n)], 26⟩] (iv 1) (iv (nodeErr s i n))
    -- leaf 1
    refine Tof.int ?_
    first | grind [nodeErr, isLeaf, isCmp] | (have e : errFrom (fun _ v => vCheck (nullableCol s.columns[n.column.toNat]!) v) 0 n.list = vCheck (nullableCol s.columns[n.column.toNat]!) n.list[k.toNat]! := (by rw [he, drop_step _ _ (by omega), errFrom]; grind [nullableCol]); grind [nodeErr, nullableCol, isLeaf, isCmp]) | (rw [drop_end _ _ (by omega)] at he; grind [nodeErr, errFrom, isLeaf, isCmp])
  refine PV.skip (thenA_normal (hK2 _ ?_))
  refine PV.seq_k fun K6 hK6 => ?_
  refine PV.seq_k fun K7 hK7 => ?_
  refine PV.regionN ?_
  refine PON.runs 3 (by kernel_rfl) ?_
  refine PON.fin rfl (thenA_normal (hK7 _ ?_))
  refine PV.condP (n.op ≥ 9) (decide (n.op ≥ 9)) (by kernel_rfl) decide_eq_true decide_eq_false (fun h8 => ?_) (fun h8 => ?_)
  · skip
    refine PV.seq_k fun K9 hK9 => ?_
    refine PV.norm ⟨(.agg (Schema.cells s) :: iv i :: .agg (PNode.cells n) :: po 0 :: U :: po 1 :: iv 0 :: U :: U :: U :: U :: A4 (A :: A :: A :: bv (decide ((n.op < 1) ∨ (n.op > 11))) :: po 1 :: iv n.op :: bv (decide (n.op ≥ 9)) :: U9 (U9 (U9 (U9 (U9 (U9 (U9 (U9 (U9 ([U, U, U, U, U, U, U]))))))))))), [.live ⟨2, [(Schema.cells s)], 33⟩, .live ⟨8, [(PNode.cells n)], 26⟩]⟩ (by kernel_rfl) ?_
    refine PV.seqR [0, 1] ⟨(.agg (Schema.cells s) :: iv i :: .agg (PNode.cells n) :: po 0 :: U :: po 1 :: iv 0 :: U :: U :: U :: U :: A4 (A :: A :: A :: bv (decide ((n.op < 1) ∨ (n.op > 11))) :: po 1 :: iv n.op :: bv (decide (n.op ≥ 9)) :: A9 (A9 (A4 (A :: A :: bv (decide ((n.a < 0) ∨ ((n.a ≥ i) ∨ (¬(n.op = 11) ∧ ((n.b < 0) ∨ (n.b ≥ i)))))) :: U9 (U9 (U9 (U9 (U9 (U9 (U9 ([])))))))))))), [.live ⟨2, [(Schema.cells s)], 33⟩, .live ⟨8, [(PNode.cells n)], 26⟩]⟩ ?_ ?_
    · skip
      refine PV.regionN ?_
      refine PON.runs 4 (by kernel_rfl) ?_
      refine PON.norm ⟨(.agg (Schema.cells s) :: iv i :: .agg (PNode.cells n) :: po 0 :: U :: po 1 :: iv 0 :: U :: U :: U :: U :: A4 (A :: A :: A :: bv (decide ((n.op < 1) ∨ (n.op > 11))) :: po 1 :: iv n.op :: bv (decide (n.op ≥ 9)) :: .pO 1 0 6 :: iv n.a :: bv (decide (n.a < 0)) :: bv (decide (n.a < 0)) :: U9 (U9 (U9 (U9 (U9 (U9 (U9 (U9 (U9 ([U, U, U]))))))))))), [.live ⟨2, [(Schema.cells s)], 33⟩, .live ⟨8, [(PNode.cells n)], 26⟩]⟩ (by kernel_rfl) ?_
      refine PON.splitP (n.a < 0) 25 (decide (n.a < 0)) (.agg (Schema.cells s) :: iv i :: .agg (PNode.cells n) :: po 0 :: U :: po 1 :: iv 0 :: U :: U :: U :: U :: A4 (A :: A :: A :: bv (decide ((n.op < 1) ∨ (n.op > 11))) :: po 1 :: iv n.op :: bv (decide (n.op ≥ 9)) :: .pO 1 0 6 :: iv n.a :: bv (decide (n.a < 0)) :: bv true :: U9 (U9 (U9 (U9 (U9 (U9 (U9 (U9 (U9 ([U, U, U]))))))))))) (.agg (Schema.cells s) :: iv i :: .agg (PNode.cells n) :: po 0 :: U :: po 1 :: iv 0 :: U :: U :: U :: U :: A4 (A :: A :: A :: bv (decide ((n.op < 1) ∨ (n.op > 11))) :: po 1 :: iv n.op :: bv (decide (n.op ≥ 9)) :: .pO 1 0 6 :: iv n.a :: bv (decide (n.a < 0)) :: bv false :: U9 (U9 (U9 (U9 (U9 (U9 (U9 (U9 (U9 ([U, U, U]))))))))))) (by kernel_rfl) decide_eq_true decide_eq_false (by kernel_rfl) (by kernel_rfl) (fun h10 => ?_) (fun h10 => ?_)
      · skip
        refine PON.runs 21 (by kernel_rfl) ?_
        refine PON.norm ⟨(.agg (Schema.cells s) :: iv i :: .agg (PNode.cells n) :: po 0 :: U :: po 1 :: iv 0 :: U :: U :: U :: U :: A4 (A :: A :: A :: bv (decide ((n.op < 1) ∨ (n.op > 11))) :: po 1 :: iv n.op :: bv (decide (n.op ≥ 9)) :: .pO 1 0 6 :: iv n.a :: bv (decide (n.a < 0)) :: bv true :: U :: U :: U :: U :: bv true :: bv true :: U9 (U :: U :: U :: U :: U :: bv true :: U9 (U9 (U9 (U9 (U9 (U9 (U9 ([])))))))))), [.live ⟨2, [(Schema.cells s)], 33⟩, .live ⟨8, [(PNode.cells n)], 26⟩]⟩ (by kernel_rfl) ?_
        refine PON.fin rfl (thenA_normal ?_)
        exact ⟨rfl, rfl, (.cons (.tree (by simp only [NIs_cons, NIs_nil, NIr_cons, NIr_nil, NI_v, NI_any, NI_pO, NI_sO, NI_pF, NI_sF, NI_agg, NI_tup, NI_fn, NIh_nil, NIh_live, NIh_dead, NIh_free, NIr_map, NIr_append, NIs_icells, NIs_scells, NIs_bcells, NIs_Val, NIs_Col, NIs_Schema, NIs_PNode, NIs_Src, NIr_Val, NIr_Col, NIr_ints, NIr_PNode]; try simp)) (.v (.cons (.tree (by simp only [NIs_cons, NIs_nil, NIr_cons, NIr_nil, NI_v, NI_any, NI_pO, NI_sO, NI_pF, NI_sF, NI_agg, NI_tup, NI_fn, NIh_nil, NIh_live, NIh_dead, NIh_free, NIr_map, NIr_append, NIs_icells, NIs_scells, NIs_bcells, NIs_Val, NIs_Col, NIs_Schema, NIs_PNode, NIs_Src, NIr_Val, NIr_Col, NIr_ints, NIr_PNode]; try simp)) (.cons (.pO _ _ rfl) (.v (.cons (.pO _ _ rfl) (.v (.v (.v (.v (.v (.a4 (.any (.any (.any (.v (.cons (.pO _ _ rfl) (.v (.v (.a9 (.a9 (.a4 (.any (.any (.cons (.eq (.v _) (v_bool (by clear hret hK1 hK2 hK6 hK7 hK9 K0 K1 K2 K6 K7 K9; (try simp only [strEq_dec]); grind))) (.v (.v (.v (.v (.v (.v (.v (.v (.v (.v (.v (.v (.v (.v (.v (.v (.v (.v (.v (.v (.v (.v (.v (.v (.v (.v (.v (.v (.v (.v (.v (.v (.v (.v (.v (.v (.v (.v (.v (.v (.v (.v (.v (.v (.v (.v (.v (.v (.v (.v (.v (.v (.v (.v (.v (.v (.v (.v (.v (.v (.v (.v (.v .nil)))))))))))))))))))))))))))))))))))))))))))))))))))))))))))))))))))))))))))))))))))))))), (.cons rfl (.tree (by simp only [NIs_cons, NIs_nil, NIr_cons, NIr_nil, NI_v, NI_any, NI_pO, NI_sO, NI_pF, NI_sF, NI_agg, NI_tup, NI_fn, NIh_nil, NIh_live, NIh_dead, NIh_free, NIr_map, NIr_append, NIs_icells, NIs_scells, NIs_bcells, NIs_Val, NIs_Col, NIs_Schema, NIs_PNode, NIs_Src, NIr_Val, NIr_Col, NIr_ints, NIr_PNode]; try simp)) (.cons rfl (.tree (by simp only [NIs_cons, NIs_nil, NIr_cons, NIr_nil, NI_v, NI_any, NI_pO, NI_sO, NI_pF, NI_sF, NI_agg, NI_tup, NI_fn, NIh_nil, NIh_live, NIh_dead, NIh_free, NIr_map, NIr_append, NIs_icells, NIs_scells, NIs_bcells, NIs_Val, NIs_Col, NIs_Schema, NIs_PNode, NIs_Src, NIr_Val, NIr_Col, NIr_ints, NIr_PNode]; try simp)) .nil))⟩
      refine PON.runs 6 (by kernel_rfl) ?_
      refine PON.norm ⟨(.agg (Schema.cells s) :: iv i :: .agg (PNode.cells n) :: po 0 :: U :: po 1 :: iv 0 :: U :: U :: U :: U :: A4 (A :: A :: A :: bv (decide ((n.op < 1) ∨ (n.op > 11))) :: po 1 :: iv n.op :: bv (decide (n.op ≥ 9)) :: .pO 1 0 6 :: iv n.a :: bv (decide (n.a < 0)) :: bv false :: .pO 1 0 6 :: iv n.a :: iv i :: bv (decide (n.a ≥ i)) :: bv (decide (n.a ≥ i)) :: bv (decide (n.a ≥ i)) :: U9 (U9 (U9 (U9 (U9 (U9 (U9 (U9 ([U, U, U, U, U, U])))))))))), [.live ⟨2, [(Schema.cells s)], 33⟩, .live ⟨8, [(PNode.cells n)], 26⟩]⟩ (by kernel_rfl) ?_
      refine PON.splitP (n.a ≥ i) 31 (decide (n.a ≥ i)) (.agg (Schema.cells s) :: iv i :: .agg (PNode.cells n) :: po 0 :: U :: po 1 :: iv 0 :: U :: U :: U :: U :: A4 (A :: A :: A :: bv (decide ((n.op < 1) ∨ (n.op > 11))) :: po 1 :: iv n.op :: bv (decide (n.op ≥ 9)) :: .pO 1 0 6 :: iv n.a :: bv (decide (n.a < 0)) :: bv false :: .pO 1 0 6 :: iv n.a :: iv i :: bv (decide (n.a ≥ i)) :: bv (decide (n.a ≥ i)) :: bv true :: U9 (U9 (U9 (U9 (U9 (U9 (U9 (U9 ([U, U, U, U, U, U])))))))))) (.agg (Schema.cells s) :: iv i :: .agg (PNode.cells n) :: po 0 :: U :: po 1 :: iv 0 :: U :: U :: U :: U :: A4 (A :: A :: A :: bv (decide ((n.op < 1) ∨ (n.op > 11))) :: po 1 :: iv n.op :: bv (decide (n.op ≥ 9)) :: .pO 1 0 6 :: iv n.a :: bv (decide (n.a < 0)) :: bv false :: .pO 1 0 6 :: iv n.a :: iv i :: bv (decide (n.a ≥ i)) :: bv (decide (n.a ≥ i)) :: bv false :: U9 (U9 (U9 (U9 (U9 (U9 (U9 (U9 ([U, U, U, U, U, U])))))))))) (by kernel_rfl) decide_eq_true decide_eq_false (by kernel_rfl) (by kernel_rfl) (fun h11 => ?_) (fun h11 => ?_)
      · skip
        refine PON.runs 15 (by kernel_rfl) ?_
        refine PON.norm ⟨(.agg (Schema.cells s) :: iv i :: .agg (PNode.cells n) :: po 0 :: U :: po 1 :: iv 0 :: U :: U :: U :: U :: A4 (A :: A :: A :: bv (decide ((n.op < 1) ∨ (n.op > 11))) :: po 1 :: iv n.op :: bv (decide (n.op ≥ 9)) :: .pO 1 0 6 :: iv n.a :: bv (decide (n.a < 0)) :: bv false :: .pO 1 0 6 :: iv n.a :: iv i :: bv (decide (n.a ≥ i)) :: bv (decide (n.a ≥ i)) :: bv true :: U9 (U :: U :: U :: U :: U :: bv true :: U9 (U9 (U9 (U9 (U9 (U9 (U9 ([])))))))))), [.live ⟨2, [(Schema.cells s)], 33⟩, .live ⟨8, [(PNode.cells n)], 26⟩]⟩ (by kernel_rfl) ?_
        refine PON.fin rfl (thenA_normal ?_)
        exact ⟨rfl, rfl, (.cons (.tree (by simp only [NIs_cons, NIs_nil, NIr_cons, NIr_nil, NI_v, NI_any, NI_pO, NI_sO, NI_pF, NI_sF, NI_agg, NI_tup, NI_fn, NIh_nil, NIh_live, NIh_dead, NIh_free, NIr_map, NIr_append, NIs_icells, NIs_scells, NIs_bcells, NIs_Val, NIs_Col, NIs_Schema, NIs_PNode, NIs_Src, NIr_Val, NIr_Col, NIr_ints, NIr_PNode]; try simp)) (.v (.cons (.tree (by simp only [NIs_cons, NIs_nil, NIr_cons, NIr_nil, NI_v, NI_any, NI_pO, NI_sO, NI_pF, NI_sF, NI_agg, NI_tup, NI_fn, NIh_nil, NIh_live, NIh_dead, NIh_free, NIr_map, NIr_append, NIs_icells, NIs_scells, NIs_bcells, NIs_Val, NIs_Col, NIs_Schema, NIs_PNode, NIs_Src, NIr_Val, NIr_Col, NIr_ints, NIr_PNode]; try simp)) (.cons (.pO _ _ rfl) (.v (.cons (.pO _ _ rfl) (.v (.v (.v (.v (.v (.a4 (.any (.any (.any (.v (.cons (.pO _ _ rfl) (.v (.v (.a9 (.a9 (.a4 (.any (.any (.cons (.eq (.v _) (v_bool (by clear hret hK1 hK2 hK6 hK7 hK9 K0 K1 K2 K6 K7 K9; (try simp only [strEq_dec]); grind))) (.v (.v (.v (.v (.v (.v (.v (.v (.v (.v (.v (.v (.v (.v (.v (.v (.v (.v (.v (.v (.v (.v (.v (.v (.v (.v (.v (.v (.v (.v (.v (.v (.v (.v (.v (.v (.v (.v (.v (.v (.v (.v (.v (.v (.v (.v (.v (.v (.v (.v (.v (.v (.v (.v (.v (.v (.v (.v (.v (.v (.v (.v (.v .nil)))))))))))))))))))))))))))))))))))))))))))))))))))))))))))))))))))))))))))))))))))))))), (.cons rfl (.tree (by simp only [NIs_cons, NIs_nil, NIr_cons, NIr_nil, NI_v, NI_any, NI_pO, NI_sO, NI_pF, NI_sF, NI_agg, NI_tup, NI_fn, NIh_nil, NIh_live, NIh_dead, NIh_free, NIr_map, NIr_append, NIs_icells, NIs_scells, NIs_bcells, NIs_Val, NIs_Col, NIs_Schema, NIs_PNode, NIs_Src, NIr_Val, NIr_Col, NIr_ints, NIr_PNode]; try simp)) (.cons rfl (.tree (by simp only [NIs_cons, NIs_nil, NIr_cons, NIr_nil, NI_v, NI_any, NI_pO, NI_sO, NI_pF, NI_sF, NI_agg, NI_tup, NI_fn, NIh_nil, NIh_live, NIh_dead, NIh_free, NIr_map, NIr_append, NIs_icells, NIs_scells, NIs_bcells, NIs_Val, NIs_Col, NIs_Schema, NIs_PNode, NIs_Src, NIr_Val, NIr_Col, NIr_ints, NIr_PNode]; try simp)) .nil))⟩
      refine PON.runs 4 (by kernel_rfl) ?_
      refine PON.norm ⟨(.agg (Schema.cells s) :: iv i :: .agg (PNode.cells n) :: po 0 :: U :: po 1 :: iv 0 :: U :: U :: U :: U :: A4 (A :: A :: A :: bv (decide ((n.op < 1) ∨ (n.op > 11))) :: po 1 :: iv n.op :: bv (decide (n.op ≥ 9)) :: .pO 1 0 6 :: iv n.a :: bv (decide (n.a < 0)) :: bv false :: .pO 1 0 6 :: iv n.a :: iv i :: bv (decide (n.a ≥ i)) :: bv (decide (n.a ≥ i)) :: bv false :: po 1 :: iv n.op :: bv (!(decide (n.op = 11))) :: bv (!(decide (n.op = 11))) :: U9 (U9 (U9 (U9 (U9 (U9 (U9 (U9 ([U, U])))))))))), [.live ⟨2, [(Schema.cells s)], 33⟩, .live ⟨8, [(PNode.cells n)], 26⟩]⟩ (by kernel_rfl) ?_
      refine PON.splitN (n.op = 11) 35 (!(decide (n.op = 11))) (.agg (Schema.cells s) :: iv i :: .agg (PNode.cells n) :: po 0 :: U :: po 1 :: iv 0 :: U :: U :: U :: U :: A4 (A :: A :: A :: bv (decide ((n.op < 1) ∨ (n.op > 11))) :: po 1 :: iv n.op :: bv (decide (n.op ≥ 9)) :: .pO 1 0 6 :: iv n.a :: bv (decide (n.a < 0)) :: bv false :: .pO 1 0 6 :: iv n.a :: iv i :: bv (decide (n.a ≥ i)) :: bv (decide (n.a ≥ i)) :: bv false :: po 1 :: iv n.op :: bv (!(decide (n.op = 11))) :: bv false :: U9 (U9 (U9 (U9 (U9 (U9 (U9 (U9 ([U, U])))))))))) (.agg (Schema.cells s) :: iv i :: .agg (PNode.cells n) :: po 0 :: U :: po 1 :: iv 0 :: U :: U :: U :: U :: A4 (A :: A :: A :: bv (decide ((n.op < 1) ∨ (n.op > 11))) :: po 1 :: iv n.op :: bv (decide (n.op ≥ 9)) :: .pO 1 0 6 :: iv n.a :: bv (decide (n.a < 0)) :: bv false :: .pO 1 0 6 :: iv n.a :: iv i :: bv (decide (n.a ≥ i)) :: bv (decide (n.a ≥ i)) :: bv false :: po 1 :: iv n.op :: bv (!(decide (n.op = 11))) :: bv true :: U9 (U9 (U9 (U9 (U9 (U9 (U9 (U9 ([U, U])))))))))) (by kernel_rfl) (fun h => bnot_t (decide_eq_true h)) (fun h => bnot_f (decide_eq_false h)) (by kernel_rfl) (by kernel_rfl) (fun h12 => ?_) (fun h12 => ?_)
      · skip
        refine PON.runs 11 (by kernel_rfl) ?_
        refine PON.norm ⟨(.agg (Schema.cells s) :: iv i :: .agg (PNode.cells n) :: po 0 :: U :: po 1 :: iv 0 :: U :: U :: U :: U :: A4 (A :: A :: A :: bv (decide ((n.op < 1) ∨ (n.op > 11))) :: po 1 :: iv n.op :: bv (decide (n.op ≥ 9)) :: .pO 1 0 6 :: iv n.a :: bv (decide (n.a < 0)) :: bv false :: .pO 1 0 6 :: iv n.a :: iv i :: bv (decide (n.a ≥ i)) :: bv (decide (n.a ≥ i)) :: bv false :: po 1 :: iv n.op :: bv (!(decide (n.op = 11))) :: bv false :: U9 (bv false :: bv false :: U9 (U9 (U9 (U9 (U9 (U9 (U9 ([])))))))))), [.live ⟨2, [(Schema.cells s)], 33⟩, .live ⟨8, [(PNode.cells n)], 26⟩]⟩ (by kernel_rfl) ?_
        refine PON.fin rfl (thenA_normal ?_)
        exact ⟨rfl, rfl, (.cons (.tree (by simp only [NIs_cons, NIs_nil, NIr_cons, NIr_nil, NI_v, NI_any, NI_pO, NI_sO, NI_pF, NI_sF, NI_agg, NI_tup, NI_fn, NIh_nil, NIh_live, NIh_dead, NIh_free, NIr_map, NIr_append, NIs_icells, NIs_scells, NIs_bcells, NIs_Val, NIs_Col, NIs_Schema, NIs_PNode, NIs_Src, NIr_Val, NIr_Col, NIr_ints, NIr_PNode]; try simp)) (.v (.cons (.tree (by simp only [NIs_cons, NIs_nil, NIr_cons, NIr_nil, NI_v, NI_any, NI_pO, NI_sO, NI_pF, NI_sF, NI_agg, NI_tup, NI_fn, NIh_nil, NIh_live, NIh_dead, NIh_free, NIr_map, NIr_append, NIs_icells, NIs_scells, NIs_bcells, NIs_Val, NIs_Col, NIs_Schema, NIs_PNode, NIs_Src, NIr_Val, NIr_Col, NIr_ints, NIr_PNode]; try simp)) (.cons (.pO _ _ rfl) (.v (.cons (.pO _ _ rfl) (.v (.v (.v (.v (.v (.a4 (.any (.any (.any (.v (.cons (.pO _ _ rfl) (.v (.v (.a9 (.a9 (.a4 (.any (.any (.cons (.eq (.v _) (v_bool (by clear hret hK1 hK2 hK6 hK7 hK9 K0 K1 K2 K6 K7 K9; (try simp only [strEq_dec]); grind))) (.v (.v (.v (.v (.v (.v (.v (.v (.v (.v (.v (.v (.v (.v (.v (.v (.v (.v (.v (.v (.v (.v (.v (.v (.v (.v (.v (.v (.v (.v (.v (.v (.v (.v (.v (.v (.v (.v (.v (.v (.v (.v (.v (.v (.v (.v (.v (.v (.v (.v (.v (.v (.v (.v (.v (.v (.v (.v (.v (.v (.v (.v (.v .nil)))))))))))))))))))))))))))))))))))))))))))))))))))))))))))))))))))))))))))))))))))))))), (.cons rfl (.tree (by simp only [NIs_cons, NIs_nil, NIr_cons, NIr_nil, NI_v, NI_any, NI_pO, NI_sO, NI_pF, NI_sF, NI_agg, NI_tup, NI_fn, NIh_nil, NIh_live, NIh_dead, NIh_free, NIr_map, NIr_append, NIs_icells, NIs_scells, NIs_bcells, NIs_Val, NIs_Col, NIs_Schema, NIs_PNode, NIs_Src, NIr_Val, NIr_Col, NIr_ints, NIr_PNode]; try simp)) (.cons rfl (.tree (by simp only [NIs_cons, NIs_nil, NIr_cons, NIr_nil, NI_v, NI_any, NI_pO, NI_sO, NI_pF, NI_sF, NI_agg, NI_tup, NI_fn, NIh_nil, NIh_live, NIh_dead, NIh_free, NIr_map, NIr_append, NIs_icells, NIs_scells, NIs_bcells, NIs_Val, NIs_Col, NIs_Schema, NIs_PNode, NIs_Src, NIr_Val, NIr_Col, NIr_ints, NIr_PNode]; try simp)) .nil))⟩
      refine PON.runs 4 (by kernel_rfl) ?_
      refine PON.norm ⟨(.agg (Schema.cells s) :: iv i :: .agg (PNode.cells n) :: po 0 :: U :: po 1 :: iv 0 :: U :: U :: U :: U :: A4 (A :: A :: A :: bv (decide ((n.op < 1) ∨ (n.op > 11))) :: po 1 :: iv n.op :: bv (decide (n.op ≥ 9)) :: .pO 1 0 6 :: iv n.a :: bv (decide (n.a < 0)) :: bv false :: .pO 1 0 6 :: iv n.a :: iv i :: bv (decide (n.a ≥ i)) :: bv (decide (n.a ≥ i)) :: bv false :: po 1 :: iv n.op :: bv (!(decide (n.op = 11))) :: bv true :: .pO 1 0 7 :: iv n.b :: bv (decide (n.b < 0)) :: bv (decide (n.b < 0)) :: U9 (U9 (U9 (U9 (U9 (U9 (U9 ([U, U, U, U, U, U, U]))))))))), [.live ⟨2, [(Schema.cells s)], 33⟩, .live ⟨8, [(PNode.cells n)], 26⟩]⟩ (by kernel_rfl) ?_
      refine PON.splitP (n.b < 0) 39 (decide (n.b < 0)) (.agg (Schema.cells s) :: iv i :: .agg (PNode.cells n) :: po 0 :: U :: po 1 :: iv 0 :: U :: U :: U :: U :: A4 (A :: A :: A :: bv (decide ((n.op < 1) ∨ (n.op > 11))) :: po 1 :: iv n.op :: bv (decide (n.op ≥ 9)) :: .pO 1 0 6 :: iv n.a :: bv (decide (n.a < 0)) :: bv false :: .pO 1 0 6 :: iv n.a :: iv i :: bv (decide (n.a ≥ i)) :: bv (decide (n.a ≥ i)) :: bv false :: po 1 :: iv n.op :: bv (!(decide (n.op = 11))) :: bv true :: .pO 1 0 7 :: iv n.b :: bv (decide (n.b < 0)) :: bv true :: U9 (U9 (U9 (U9 (U9 (U9 (U9 ([U, U, U, U, U, U, U]))))))))) (.agg (Schema.cells s) :: iv i :: .agg (PNode.cells n) :: po 0 :: U :: po 1 :: iv 0 :: U :: U :: U :: U :: A4 (A :: A :: A :: bv (decide ((n.op < 1) ∨ (n.op > 11))) :: po 1 :: iv n.op :: bv (decide (n.op ≥ 9)) :: .pO 1 0 6 :: iv n.a :: bv (decide (n.a < 0)) :: bv false :: .pO 1 0 6 :: iv n.a :: iv i :: bv (decide (n.a ≥ i)) :: bv (decide (n.a ≥ i)) :: bv false :: po 1 :: iv n.op :: bv (!(decide (n.op = 11))) :: bv true :: .pO 1 0 7 :: iv n.b :: bv (decide (n.b < 0)) :: bv false :: U9 (U9 (U9 (U9 (U9 (U9 (U9 ([U, U, U, U, U, U, U]))))))))) (by kernel_rfl) decide_eq_true decide_eq_false (by kernel_rfl) (by kernel_rfl) (fun h13 => ?_) (fun h13 => ?_)
      · skip
        refine PON.runs 7 (by kernel_rfl) ?_
        refine PON.norm ⟨(.agg (Schema.cells s) :: iv i :: .agg (PNode.cells n) :: po 0 :: U :: po 1 :: iv 0 :: U :: U :: U :: U :: A4 (A :: A :: A :: bv (decide ((n.op < 1) ∨ (n.op > 11))) :: po 1 :: iv n.op :: bv (decide (n.op ≥ 9)) :: .pO 1 0 6 :: iv n.a :: bv (decide (n.a < 0)) :: bv false :: .pO 1 0 6 :: iv n.a :: iv i :: bv (decide (n.a ≥ i)) :: bv (decide (n.a ≥ i)) :: bv false :: po 1 :: iv n.op :: bv (!(decide (n.op = 11))) :: bv true :: .pO 1 0 7 :: iv n.b :: bv (decide (n.b < 0)) :: bv true :: U :: U :: U :: U :: bv true :: bv true :: bv true :: U9 (U9 (U9 (U9 (U9 (U9 (U9 ([]))))))))), [.live ⟨2, [(Schema.cells s)], 33⟩, .live ⟨8, [(PNode.cells n)], 26⟩]⟩ (by kernel_rfl) ?_
        refine PON.fin rfl (thenA_normal ?_)
        exact ⟨rfl, rfl, (.cons (.tree (by simp only [NIs_cons, NIs_nil, NIr_cons, NIr_nil, NI_v, NI_any, NI_pO, NI_sO, NI_pF, NI_sF, NI_agg, NI_tup, NI_fn, NIh_nil, NIh_live, NIh_dead, NIh_free, NIr_map, NIr_append, NIs_icells, NIs_scells, NIs_bcells, NIs_Val, NIs_Col, NIs_Schema, NIs_PNode, NIs_Src, NIr_Val, NIr_Col, NIr_ints, NIr_PNode]; try simp)) (.v (.cons (.tree (by simp only [NIs_cons, NIs_nil, NIr_cons, NIr_nil, NI_v, NI_any, NI_pO, NI_sO, NI_pF, NI_sF, NI_agg, NI_tup, NI_fn, NIh_nil, NIh_live, NIh_dead, NIh_free, NIr_map, NIr_append, NIs_icells, NIs_scells, NIs_bcells, NIs_Val, NIs_Col, NIs_Schema, NIs_PNode, NIs_Src, NIr_Val, NIr_Col, NIr_ints, NIr_PNode]; try simp)) (.cons (.pO _ _ rfl) (.v (.cons (.pO _ _ rfl) (.v (.v (.v (.v (.v (.a4 (.any (.any (.any (.v (.cons (.pO _ _ rfl) (.v (.v (.a9 (.a9 (.a4 (.any (.any (.cons (.eq (.v _) (v_bool (by clear hret hK1 hK2 hK6 hK7 hK9 K0 K1 K2 K6 K7 K9; (try simp only [strEq_dec]); grind))) (.v (.v (.v (.v (.v (.v (.v (.v (.v (.v (.v (.v (.v (.v (.v (.v (.v (.v (.v (.v (.v (.v (.v (.v (.v (.v (.v (.v (.v (.v (.v (.v (.v (.v (.v (.v (.v (.v (.v (.v (.v (.v (.v (.v (.v (.v (.v (.v (.v (.v (.v (.v (.v (.v (.v (.v (.v (.v (.v (.v (.v (.v (.v .nil)))))))))))))))))))))))))))))))))))))))))))))))))))))))))))))))))))))))))))))))))))))))), (.cons rfl (.tree (by simp only [NIs_cons, NIs_nil, NIr_cons, NIr_nil, NI_v, NI_any, NI_pO, NI_sO, NI_pF, NI_sF, NI_agg, NI_tup, NI_fn, NIh_nil, NIh_live, NIh_dead, NIh_free, NIr_map, NIr_append, NIs_icells, NIs_scells, NIs_bcells, NIs_Val, NIs_Col, NIs_Schema, NIs_PNode, NIs_Src, NIr_Val, NIr_Col, NIr_ints, NIr_PNode]; try simp)) (.cons rfl (.tree (by simp only [NIs_cons, NIs_nil, NIr_cons, NIr_nil, NI_v, NI_any, NI_pO, NI_sO, NI_pF, NI_sF, NI_agg, NI_tup, NI_fn, NIh_nil, NIh_live, NIh_dead, NIh_free, NIr_map, NIr_append, NIs_icells, NIs_scells, NIs_bcells, NIs_Val, NIs_Col, NIs_Schema, NIs_PNode, NIs_Src, NIr_Val, NIr_Col, NIr_ints, NIr_PNode]; try simp)) .nil))⟩
      refine PON.runs 7 (by kernel_rfl) ?_
      refine PON.norm ⟨(.agg (Schema.cells s) :: iv i :: .agg (PNode.cells n) :: po 0 :: U :: po 1 :: iv 0 :: U :: U :: U :: U :: A4 (A :: A :: A :: bv (decide ((n.op < 1) ∨ (n.op > 11))) :: po 1 :: iv n.op :: bv (decide (n.op ≥ 9)) :: .pO 1 0 6 :: iv n.a :: bv (decide (n.a < 0)) :: bv false :: .pO 1 0 6 :: iv n.a :: iv i :: bv (decide (n.a ≥ i)) :: bv (decide (n.a ≥ i)) :: bv false :: po 1 :: iv n.op :: bv (!(decide (n.op = 11))) :: bv true :: .pO 1 0 7 :: iv n.b :: bv (decide (n.b < 0)) :: bv false :: .pO 1 0 7 :: iv n.b :: iv i :: bv (decide (n.b ≥ i)) :: bv (decide (n.b ≥ i)) :: bv (decide (n.b ≥ i)) :: bv (decide (n.b ≥ i)) :: U9 (U9 (U9 (U9 (U9 (U9 (U9 ([]))))))))), [.live ⟨2, [(Schema.cells s)], 33⟩, .live ⟨8, [(PNode.cells n)], 26⟩]⟩ (by kernel_rfl) ?_
      refine PON.fin rfl (thenA_normal ?_)
      exact ⟨rfl, rfl, (.cons (.tree (by simp only [NIs_cons, NIs_nil, NIr_cons, NIr_nil, NI_v, NI_any, NI_pO, NI_sO, NI_pF, NI_sF, NI_agg, NI_tup, NI_fn, NIh_nil, NIh_live, NIh_dead, NIh_free, NIr_map, NIr_append, NIs_icells, NIs_scells, NIs_bcells, NIs_Val, NIs_Col, NIs_Schema, NIs_PNode, NIs_Src, NIr_Val, NIr_Col, NIr_ints, NIr_PNode]; try simp)) (.v (.cons (.tree (by simp only [NIs_cons, NIs_nil, NIr_cons, NIr_nil, NI_v, NI_any, NI_pO, NI_sO, NI_pF, NI_sF, NI_agg, NI_tup, NI_fn, NIh_nil, NIh_live, NIh_dead, NIh_free, NIr_map, NIr_append, NIs_icells, NIs_scells, NIs_bcells, NIs_Val, NIs_Col, NIs_Schema, NIs_PNode, NIs_Src, NIr_Val, NIr_Col, NIr_ints, NIr_PNode]; try simp)) (.cons (.pO _ _ rfl) (.v (.cons (.pO _ _ rfl) (.v (.v (.v (.v (.v (.a4 (.any (.any (.any (.v (.cons (.pO _ _ rfl) (.v (.v (.a9 (.a9 (.a4 (.any (.any (.cons (.eq (.v _) (v_bool (by clear hret hK1 hK2 hK6 hK7 hK9 K0 K1 K2 K6 K7 K9; (try simp only [strEq_dec]); grind))) (.v (.v (.v (.v (.v (.v (.v (.v (.v (.v (.v (.v (.v (.v (.v (.v (.v (.v (.v (.v (.v (.v (.v (.v (.v (.v (.v (.v (.v (.v (.v (.v (.v (.v (.v (.v (.v (.v (.v (.v (.v (.v (.v (.v (.v (.v (.v (.v (.v (.v (.v (.v (.v (.v (.v (.v (.v (.v (.v (.v (.v (.v (.v .nil)))))))))))))))))))))))))))))))))))))))))))))))))))))))))))))))))))))))))))))))))))))))), (.cons rfl (.tree (by simp only [NIs_cons, NIs_nil, NIr_cons, NIr_nil, NI_v, NI_any, NI_pO, NI_sO, NI_pF, NI_sF, NI_agg, NI_tup, NI_fn, NIh_nil, NIh_live, NIh_dead, NIh_free, NIr_map, NIr_append, NIs_icells, NIs_scells, NIs_bcells, NIs_Val, NIs_Col, NIs_Schema, NIs_PNode, NIs_Src, NIr_Val, NIr_Col, NIr_ints, NIr_PNode]; try simp)) (.cons rfl (.tree (by simp only [NIs_cons, NIs_nil, NIr_cons, NIr_nil, NI_v, NI_any, NI_pO, NI_sO, NI_pF, NI_sF, NI_agg, NI_tup, NI_fn, NIh_nil, NIh_live, NIh_dead, NIh_free, NIr_map, NIr_append, NIs_icells, NIs_scells, NIs_bcells, NIs_Val, NIs_Col, NIs_Schema, NIs_PNode, NIs_Src, NIr_Val, NIr_Col, NIr_ints, NIr_PNode]; try simp)) .nil))⟩
    refine PV.condP ((n.a < 0) ∨ ((n.a ≥ i) ∨ (¬(n.op = 11) ∧ ((n.b < 0) ∨ (n.b ≥ i))))) (decide ((n.a < 0) ∨ ((n.a ≥ i) ∨ (¬(n.op = 11) ∧ ((n.b < 0) ∨ (n.b ≥ i)))))) (by kernel_rfl) decide_eq_true decide_eq_false (fun h14 => ?_) (fun h14 => ?_)
    · skip
      refine PV.seq_k fun K15 hK15 => ?_
      refine PV.regionN ?_
      refine PON.runs 1 (by kernel_rfl) ?_
      refine PON.fin rfl (thenA_normal (hK15 _ ?_))
      refine PV.norm ⟨(.agg (Schema.cells s) :: iv i :: .agg (PNode.cells n) :: po 0 :: U :: po 1 :: iv 4 :: U :: U :: U :: U :: A4 (A :: A :: A :: bv (decide ((n.op < 1) ∨ (n.op > 11))) :: po 1 :: iv n.op :: bv (decide (n.op ≥ 9)) :: A9 (A9 (A4 (A :: A :: bv (decide ((n.a < 0) ∨ ((n.a ≥ i) ∨ (¬(n.op = 11) ∧ ((n.b < 0) ∨ (n.b ≥ i)))))) :: U9 (U9 (U9 (U9 (U9 (U9 (U9 ([])))))))))))), [.live ⟨2, [(Schema.cells s)], 33⟩, .live ⟨8, [(PNode.cells n)], 26⟩]⟩ (by kernel_rfl) ?_
      refine PV.ret (thenA_ret (thenA_ret (hret .ret _ (iv 4) (.inr rfl) (by kernel_rfl) ?_)))
      clear hret hK1 hK2 hK6 hK7 hK9 hK15 K0 K1 K2 K6 K7 K9 K15
      show Tof noTau [.live ⟨2, [(Schema.cells s)], 33⟩, .live ⟨8, [(PNode.cells n)], 26⟩] (iv 4) (iv (nodeErr s i n))
      -- leaf 2
      refine Tof.int ?_
      first | grind [nodeErr, isLeaf, isCmp] | (have e : errFrom (fun _ v => vCheck (nullableCol s.columns[n.column.toNat]!) v) 0 n.list = vCheck (nullableCol s.columns[n.column.toNat]!) n.list[k.toNat]! := (by rw [he, drop_step _ _ (by omega), errFrom]; grind [nullableCol]); grind [nodeErr, nullableCol, isLeaf, isCmp]) | (rw [drop_end _ _ (by omega)] at he; grind [nodeErr, errFrom, isLeaf, isCmp])
    refine PV.skip (thenA_normal (hK9 _ ?_))
    refine PV.seq_k fun K16 hK16 => ?_
    refine PV.regionN ?_
    refine PON.runs 1 (by kernel_rfl) ?_
    refine PON.fin rfl (thenA_normal (hK16 _ ?_))
    refine PV.norm ⟨(.agg (Schema.cells s) :: iv i :: .agg (PNode.cells n) :: po 0 :: U :: po 1 :: iv 0 :: U :: U :: U :: U :: A4 (A :: A :: A :: bv (decide ((n.op < 1) ∨ (n.op > 11))) :: po 1 :: iv n.op :: bv (decide (n.op ≥ 9)) :: A9 (A9 (A4 (A :: A :: bv (decide ((n.a < 0) ∨ ((n.a ≥ i) ∨ (¬(n.op = 11) ∧ ((n.b < 0) ∨ (n.b ≥ i)))))) :: U9 (U9 (U9 (U9 (U9 (U9 (U9 ([])))))))))))), [.live ⟨2, [(Schema.cells s)], 33⟩, .live ⟨8, [(PNode.cells n)], 26⟩]⟩ (by kernel_rfl) ?_
    refine PV.ret (thenA_ret (hret .ret _ (iv 0) (.inr rfl) (by kernel_rfl) ?_))
    clear hret hK1 hK2 hK6 hK7 hK9 hK16 K0 K1 K2 K6 K7 K9 K16
    show Tof noTau [.live ⟨2, [(Schema.cells s)], 33⟩, .live ⟨8, [(PNode.cells n)], 26⟩] (iv 0) (iv (nodeErr s i n))
    -- leaf 3
    refine Tof.int ?_
    first | grind [nodeErr, isLeaf, isCmp] | (have e : errFrom (fun _ v => vCheck (nullableCol s.columns[n.column.toNat]!) v) 0 n.list = vCheck (nullableCol s.columns[n.column.toNat]!) n.list[k.toNat]! := (by rw [he, drop_step _ _ (by omega), errFrom]; grind [nullableCol]); grind [nodeErr, nullableCol, isLeaf, isCmp]) | (rw [drop_end _ _ (by omega)] at he; grind [nodeErr, errFrom, isLeaf, isCmp])
  refine PV.skip (thenA_normal (hK6 _ ?_))
  refine PV.seq_k fun K17 hK17 => ?_
  refine PV.norm ⟨(.agg (Schema.cells s) :: iv i :: .agg (PNode.cells n) :: po 0 :: U :: po 1 :: iv 0 :: U :: U :: U :: U :: A4 (A :: A :: A :: bv (decide ((n.op < 1) ∨ (n.op > 11))) :: po 1 :: iv n.op :: bv (decide (n.op ≥ 9)) :: U9 (U9 (U9 (U9 (U9 (U9 (U9 (U9 (U9 ([U, U, U, U, U, U, U]))))))))))), [.live ⟨2, [(Schema.cells s)], 33⟩, .live ⟨8, [(PNode.cells n)], 26⟩]⟩ (by kernel_rfl) ?_
  refine PV.seqR [0, 1] ⟨(.agg (Schema.cells s) :: iv i :: .agg (PNode.cells n) :: po 0 :: U :: po 1 :: iv 0 :: U :: U :: U :: U :: A4 (A :: A :: A :: bv (decide ((n.op < 1) ∨ (n.op > 11))) :: po 1 :: iv n.op :: bv (decide (n.op ≥ 9)) :: U9 (U9 (U :: U :: U :: U :: U :: U :: U :: A9 (A :: bv (decide ((n.column < 0) ∨ (n.column ≥ (s.columns.length : Int)))) :: U9 (U9 (U9 (U9 (U9 ([U, U, U, U, U, U, U])))))))))), [.live ⟨2, [(Schema.cells s)], 33⟩, .live ⟨8, [(PNode.cells n)], 26⟩]⟩ ?_ ?_
  · skip
    refine PV.regionN ?_
    refine PON.runs 4 (by kernel_rfl) ?_
    refine PON.norm ⟨(.agg (Schema.cells s) :: iv i :: .agg (PNode.cells n) :: po 0 :: U :: po 1 :: iv 0 :: U :: U :: U :: U :: A4 (A :: A :: A :: bv (decide ((n.op < 1) ∨ (n.op > 11))) :: po 1 :: iv n.op :: bv (decide (n.op ≥ 9)) :: U9 (U9 (U :: U :: U :: U :: U :: U :: U :: .pO 1 0 1 :: iv n.column :: bv (decide (n.column < 0)) :: bv (decide (n.column < 0)) :: U9 (U9 (U9 (U9 (U9 (U9 ([U, U, U, U, U])))))))))), [.live ⟨2, [(Schema.cells s)], 33⟩, .live ⟨8, [(PNode.cells n)], 26⟩]⟩ (by kernel_rfl) ?_
    refine PON.splitP (n.column < 0) 50 (decide (n.column < 0)) (.agg (Schema.cells s) :: iv i :: .agg (PNode.cells n) :: po 0 :: U :: po 1 :: iv 0 :: U :: U :: U :: U :: A4 (A :: A :: A :: bv (decide ((n.op < 1) ∨ (n.op > 11))) :: po 1 :: iv n.op :: bv (decide (n.op ≥ 9)) :: U9 (U9 (U :: U :: U :: U :: U :: U :: U :: .pO 1 0 1 :: iv n.column :: bv (decide (n.column < 0)) :: bv true :: U9 (U9 (U9 (U9 (U9 (U9 ([U, U, U, U, U])))))))))) (.agg (Schema.cells s) :: iv i :: .agg (PNode.cells n) :: po 0 :: U :: po 1 :: iv 0 :: U :: U :: U :: U :: A4 (A :: A :: A :: bv (decide ((n.op < 1) ∨ (n.op > 11))) :: po 1 :: iv n.op :: bv (decide (n.op ≥ 9)) :: U9 (U9 (U :: U :: U :: U :: U :: U :: U :: .pO 1 0 1 :: iv n.column :: bv (decide (n.column < 0)) :: bv false :: U9 (U9 (U9 (U9 (U9 (U9 ([U, U, U, U, U])))))))))) (by kernel_rfl) decide_eq_true decide_eq_false (by kernel_rfl) (by kernel_rfl) (fun h18 => ?_) (fun h18 => ?_)
    · skip
      refine PON.runs 7 (by kernel_rfl) ?_
      refine PON.norm ⟨(.agg (Schema.cells s) :: iv i :: .agg (PNode.cells n) :: po 0 :: U :: po 1 :: iv 0 :: U :: U :: U :: U :: A4 (A :: A :: A :: bv (decide ((n.op < 1) ∨ (n.op > 11))) :: po 1 :: iv n.op :: bv (decide (n.op ≥ 9)) :: U9 (U9 (U :: U :: U :: U :: U :: U :: U :: .pO 1 0 1 :: iv n.column :: bv (decide (n.column < 0)) :: bv true :: U :: U :: U :: U :: U :: U :: bv true :: U9 (U9 (U9 (U9 (U9 ([U, U, U, U, U, U, U]))))))))), [.live ⟨2, [(Schema.cells s)], 33⟩, .live ⟨8, [(PNode.cells n)], 26⟩]⟩ (by kernel_rfl) ?_
      refine PON.fin rfl (thenA_normal ?_)
      exact ⟨rfl, rfl, (.cons (.tree (by simp only [NIs_cons, NIs_nil, NIr_cons, NIr_nil, NI_v, NI_any, NI_pO, NI_sO, NI_pF, NI_sF, NI_agg, NI_tup, NI_fn, NIh_nil, NIh_live, NIh_dead, NIh_free, NIr_map, NIr_append, NIs_icells, NIs_scells, NIs_bcells, NIs_Val, NIs_Col, NIs_Schema, NIs_PNode, NIs_Src, NIr_Val, NIr_Col, NIr_ints, NIr_PNode]; try simp)) (.v (.cons (.tree (by simp only [NIs_cons, NIs_nil, NIr_cons, NIr_nil, NI_v, NI_any, NI_pO, NI_sO, NI_pF, NI_sF, NI_agg, NI_tup, NI_fn, NIh_nil, NIh_live, NIh_dead, NIh_free, NIr_map, NIr_append, NIs_icells, NIs_scells, NIs_bcells, NIs_Val, NIs_Col, NIs_Schema, NIs_PNode, NIs_Src, NIr_Val, NIr_Col, NIr_ints, NIr_PNode]; try simp)) (.cons (.pO _ _ rfl) (.v (.cons (.pO _ _ rfl) (.v (.v (.v (.v (.v (.a4 (.any (.any (.any (.v (.cons (.pO _ _ rfl) (.v (.v (.v (.v (.v (.v (.v (.v (.v (.v (.v (.v (.v (.v (.v (.v (.v (.v (.v (.v (.v (.v (.v (.v (.v (.v (.v (.a9 (.any (.cons (.eq (.v _) (v_bool (by clear hret hK1 hK2 hK6 hK7 hK17 K0 K1 K2 K6 K7 K17; (try simp only [strEq_dec]); grind))) (.v (.v (.v (.v (.v (.v (.v (.v (.v (.v (.v (.v (.v (.v (.v (.v (.v (.v (.v (.v (.v (.v (.v (.v (.v (.v (.v (.v (.v (.v (.v (.v (.v (.v (.v (.v (.v (.v (.v (.v (.v (.v (.v (.v (.v (.v (.v (.v (.v (.v (.v (.v .nil))))))))))))))))))))))))))))))))))))))))))))))))))))))))))))))))))))))))))))))))))))))))))))))))))), (.cons rfl (.tree (by simp only [NIs_cons, NIs_nil, NIr_cons, NIr_nil, NI_v, NI_any, NI_pO, NI_sO, NI_pF, NI_sF, NI_agg, NI_tup, NI_fn, NIh_nil, NIh_live, NIh_dead, NIh_free, NIr_map, NIr_append, NIs_icells, NIs_scells, NIs_bcells, NIs_Val, NIs_Col, NIs_Schema, NIs_PNode, NIs_Src, NIr_Val, NIr_Col, NIr_ints, NIr_PNode]; try simp)) (.cons rfl (.tree (by simp only [NIs_cons, NIs_nil, NIr_cons, NIr_nil, NI_v, NI_any, NI_pO, NI_sO, NI_pF, NI_sF, NI_agg, NI_tup, NI_fn, NIh_nil, NIh_live, NIh_dead, NIh_free, NIr_map, NIr_append, NIs_icells, NIs_scells, NIs_bcells, NIs_Val, NIs_Col, NIs_Schema, NIs_PNode, NIs_Src, NIr_Val, NIr_Col, NIr_ints, NIr_PNode]; try simp)) .nil))⟩
    refine PON.runs 4 (by kernel_rfl) ?_
    refine PON.ops (aLen_map Try.prog [.live ⟨2, [(Schema.cells s)], 33⟩, .live ⟨8, [(PNode.cells n)], 26⟩] 31 47 (by kernel_rfl) 4 Col.cells s.columns) (by kernel_rfl) (by kernel_rfl) ?_
    refine PON.runs 2 (by kernel_rfl) ?_
    refine PON.norm ⟨(.agg (Schema.cells s) :: iv i :: .agg (PNode.cells n) :: po 0 :: U :: po 1 :: iv 0 :: U :: U :: U :: U :: A4 (A :: A :: A :: bv (decide ((n.op < 1) ∨ (n.op > 11))) :: po 1 :: iv n.op :: bv (decide (n.op ≥ 9)) :: U9 (U9 (U :: U :: U :: U :: U :: U :: U :: .pO 1 0 1 :: iv n.column :: bv (decide (n.column < 0)) :: bv false :: .pO 1 0 1 :: iv n.column :: po 0 :: .sF 4 (s.columns.map Col.cells) :: iv (s.columns.length : Int) :: bv (decide (n.column ≥ (s.columns.length : Int))) :: bv (decide (n.column ≥ (s.columns.length : Int))) :: U9 (U9 (U9 (U9 (U9 ([U, U, U, U, U, U, U]))))))))), [.live ⟨2, [(Schema.cells s)], 33⟩, .live ⟨8, [(PNode.cells n)], 26⟩]⟩ (by kernel_rfl) ?_
    refine PON.fin rfl (thenA_normal ?_)
    exact ⟨rfl, rfl, (.cons (.tree (by simp only [NIs_cons, NIs_nil, NIr_cons, NIr_nil, NI_v, NI_any, NI_pO, NI_sO, NI_pF, NI_sF, NI_agg, NI_tup, NI_fn, NIh_nil, NIh_live, NIh_dead, NIh_free, NIr_map, NIr_append, NIs_icells, NIs_scells, NIs_bcells, NIs_Val, NIs_Col, NIs_Schema, NIs_PNode, NIs_Src, NIr_Val, NIr_Col, NIr_ints, NIr_PNode]; try simp)) (.v (.cons (.tree (by simp only [NIs_cons, NIs_nil, NIr_cons, NIr_nil, NI_v, NI_any, NI_pO, NI_sO, NI_pF, NI_sF, NI_agg, NI_tup, NI_fn, NIh_nil, NIh_live, NIh_dead, NIh_free, NIr_map, NIr_append, NIs_icells, NIs_scells, NIs_bcells, NIs_Val, NIs_Col, NIs_Schema, NIs_PNode, NIs_Src, NIr_Val, NIr_Col, NIr_ints, NIr_PNode]; try simp)) (.cons (.pO _ _ rfl) (.v (.cons (.pO _ _ rfl) (.v (.v (.v (.v (.v (.a4 (.any (.any (.any (.v (.cons (.pO _ _ rfl) (.v (.v (.v (.v (.v (.v (.v (.v (.v (.v (.v (.v (.v (.v (.v (.v (.v (.v (.v (.v (.v (.v (.v (.v (.v (.v (.v (.a9 (.any (.cons (.eq (.v _) (v_bool (by clear hret hK1 hK2 hK6 hK7 hK17 K0 K1 K2 K6 K7 K17; (try simp only [strEq_dec]); grind))) (.v (.v (.v (.v (.v (.v (.v (.v (.v (.v (.v (.v (.v (.v (.v (.v (.v (.v (.v (.v (.v (.v (.v (.v (.v (.v (.v (.v (.v (.v (.v (.v (.v (.v (.v (.v (.v (.v (.v (.v (.v (.v (.v (.v (.v (.v (.v (.v (.v (.v (.v (.v .nil))))))))))))))))))))))))))))))))))))))))))))))))))))))))))))))))))))))))))))))))))))))))))))))))))), (.cons rfl (.tree (by simp only [NIs_cons, NIs_nil, NIr_cons, NIr_nil, NI_v, NI_any, NI_pO, NI_sO, NI_pF, NI_sF, NI_agg, NI_tup, NI_fn, NIh_nil, NIh_live, NIh_dead, NIh_free, NIr_map, NIr_append, NIs_icells, NIs_scells, NIs_bcells, NIs_Val, NIs_Col, NIs_Schema, NIs_PNode, NIs_Src, NIr_Val, NIr_Col, NIr_ints, NIr_PNode]; try simp)) (.cons rfl (.tree (by simp only [NIs_cons, NIs_nil, NIr_cons, NIr_nil, NI_v, NI_any, NI_pO, NI_sO, NI_pF, NI_sF, NI_agg, NI_tup, NI_fn, NIh_nil, NIh_live, NIh_dead, NIh_free, NIr_map, NIr_append, NIs_icells, NIs_scells, NIs_bcells, NIs_Val, NIs_Col, NIs_Schema, NIs_PNode, NIs_Src, NIr_Val, NIr_Col, NIr_ints, NIr_PNode]; try simp)) .nil))⟩
  refine PV.condP ((n.column < 0) ∨ (n.column ≥ (s.columns.length : Int))) (decide ((n.column < 0) ∨ (n.column ≥ (s.columns.length : Int)))) (by kernel_rfl) decide_eq_true decide_eq_false (fun h19 => ?_) (fun h19 => ?_)
  · skip
    refine PV.seq_k fun K20 hK20 => ?_
    refine PV.regionN ?_
    refine PON.runs 1 (by kernel_rfl) ?_
    refine PON.fin rfl (thenA_normal (hK20 _ ?_))
    refine PV.norm ⟨(.agg (Schema.cells s) :: iv i :: .agg (PNode.cells n) :: po 0 :: U :: po 1 :: iv 4 :: U :: U :: U :: U :: A4 (A :: A :: A :: bv (decide ((n.op < 1) ∨ (n.op > 11))) :: po 1 :: iv n.op :: bv (decide (n.op ≥ 9)) :: U9 (U9 (U :: U :: U :: U :: U :: U :: U :: A9 (A :: bv (decide ((n.column < 0) ∨ (n.column ≥ (s.columns.length : Int)))) :: U9 (U9 (U9 (U9 (U9 ([U, U, U, U, U, U, U])))))))))), [.live ⟨2, [(Schema.cells s)], 33⟩, .live ⟨8, [(PNode.cells n)], 26⟩]⟩ (by kernel_rfl) ?_
    refine PV.ret (thenA_ret (hret .ret _ (iv 4) (.inr rfl) (by kernel_rfl) ?_))
    clear hret hK1 hK2 hK6 hK7 hK17 hK20 K0 K1 K2 K6 K7 K17 K20
    show Tof noTau [.live ⟨2, [(Schema.cells s)], 33⟩, .live ⟨8, [(PNode.cells n)], 26⟩] (iv 4) (iv (nodeErr s i n))
    -- leaf 4
    refine Tof.int ?_
    first | grind [nodeErr, isLeaf, isCmp] | (have e : errFrom (fun _ v => vCheck (nullableCol s.columns[n.column.toNat]!) v) 0 n.list = vCheck (nullableCol s.columns[n.column.toNat]!) n.list[k.toNat]! := (by rw [he, drop_step _ _ (by omega), errFrom]; grind [nullableCol]); grind [nodeErr, nullableCol, isLeaf, isCmp]) | (rw [drop_end _ _ (by omega)] at he; grind [nodeErr, errFrom, isLeaf, isCmp])
  refine PV.skip (thenA_normal (hK17 _ ?_))
  refine PV.seq_k fun K21 hK21 => ?_
  refine PV.regionN ?_
  refine PON.runs 4 (by kernel_rfl) ?_
  refine PON.ops (aIndexAddr_map Try.prog [.live ⟨2, [(Schema.cells s)], 33⟩, .live ⟨8, [(PNode.cells n)], 26⟩] 31 47 4 Col.cells (by kernel_rfl) (by kernel_rfl) s.columns .i64 n.column (by first | omega | grind [isLeaf, isCmp])) (by kernel_rfl) (by kernel_rfl) ?_
  refine PON.runs 3 (by kernel_rfl) ?_
  refine PON.fin rfl (thenA_normal (hK21 _ ?_))
  refine PV.seq_k fun K22 hK22 => ?_
  refine PV.block ?_
  refine PV.seq_k fun K23 hK23 => ?_
  refine PV.regionN ?_
  refine PON.runs 4 (by kernel_rfl) ?_
  refine PON.fin rfl (thenA_normal (hK23 _ ?_))
  refine PV.condP (n.op = 8) (decide (n.op = 8)) (by kernel_rfl) decide_eq_true decide_eq_false (fun h24 => ?_) (fun h24 => ?_)
  · skip
    refine PV.seq_k fun K25 hK25 => ?_
    refine PV.regionN ?_
    refine PON.runs 1 (by kernel_rfl) ?_
    refine PON.fin rfl (thenA_normal (hK25 _ ?_))
    refine PV.norm ⟨(.agg (Schema.cells s) :: iv i :: .agg (PNode.cells n) :: po 0 :: U :: po 1 :: iv 0 :: po 2 :: U :: U :: U :: A4 (A :: A :: A :: bv (decide ((n.op < 1) ∨ (n.op > 11))) :: po 1 :: iv n.op :: bv (decide (n.op ≥ 9)) :: U9 (U9 (U :: U :: U :: U :: U :: U :: U :: A9 (A :: bv (decide ((n.column < 0) ∨ (n.column ≥ (s.columns.length : Int)))) :: po 0 :: .sF 4 (s.columns.map Col.cells) :: .pO 1 0 1 :: iv n.column :: .pF (Col.cells (s.columns[n.column.toNat]!)) 0 :: .agg (Col.cells (s.columns[n.column.toNat]!)) :: bv (decide (n.op = 8)) :: po 1 :: iv n.op :: bv (decide (n.op = 8)) :: U9 (U9 (U9 (U9 ([U, U, U, U, U, U]))))))))), [.live ⟨2, [(Schema.cells s)], 33⟩, .live ⟨8, [(PNode.cells n)], 26⟩, .live ⟨4, [(Col.cells (s.columns[n.column.toNat]!))], 47⟩]⟩ (by kernel_rfl) ?_
    refine PV.ret (inBlockA_ret (thenA_ret (hret .ret _ (iv 0) (.inr rfl) (by kernel_rfl) ?_)))
    clear hret hK1 hK2 hK6 hK7 hK17 hK21 hK22 hK23 hK25 K0 K1 K2 K6 K7 K17 K21 K22 K23 K25
    show Tof noTau [.live ⟨2, [(Schema.cells s)], 33⟩, .live ⟨8, [(PNode.cells n)], 26⟩, .live ⟨4, [(Col.cells (s.columns[n.column.toNat]!))], 47⟩] (iv 0) (iv (nodeErr s i n))
    -- leaf 5
    refine Tof.int ?_
    first | grind [nodeErr, isLeaf, isCmp] | (have e : errFrom (fun _ v => vCheck (nullableCol s.columns[n.column.toNat]!) v) 0 n.list = vCheck (nullableCol s.columns[n.column.toNat]!) n.list[k.toNat]! := (by rw [he, drop_step _ _ (by omega), errFrom]; grind [nullableCol]); grind [nodeErr, nullableCol, isLeaf, isCmp]) | (rw [drop_end _ _ (by omega)] at he; grind [nodeErr, errFrom, isLeaf, isCmp])
  refine PV.norm ⟨(.agg (Schema.cells s) :: iv i :: .agg (PNode.cells n) :: po 0 :: U :: po 1 :: iv 0 :: po 2 :: U :: U :: U :: A4 (A :: A :: A :: bv (decide ((n.op < 1) ∨ (n.op > 11))) :: po 1 :: iv n.op :: bv (decide (n.op ≥ 9)) :: U9 (U9 (U :: U :: U :: U :: U :: U :: U :: A9 (A :: bv (decide ((n.column < 0) ∨ (n.column ≥ (s.columns.length : Int)))) :: po 0 :: .sF 4 (s.columns.map Col.cells) :: .pO 1 0 1 :: iv n.column :: .pF (Col.cells (s.columns[n.column.toNat]!)) 0 :: .agg (Col.cells (s.columns[n.column.toNat]!)) :: bv (decide (n.op = 8)) :: po 1 :: iv n.op :: bv (decide (n.op = 8)) :: U9 (U9 (U9 (U9 ([U, U, U, U, U, U]))))))))), [.live ⟨2, [(Schema.cells s)], 33⟩, .live ⟨8, [(PNode.cells n)], 26⟩, .live ⟨4, [(Col.cells (s.columns[n.column.toNat]!))], 47⟩]⟩ (by kernel_rfl) ?_
  refine PV.seqR [0, 1, 2] ⟨(.agg (Schema.cells s) :: iv i :: .agg (PNode.cells n) :: po 0 :: U :: po 1 :: iv 0 :: po 2 :: U :: U :: U :: A4 (A :: A :: A :: bv (decide ((n.op < 1) ∨ (n.op > 11))) :: po 1 :: iv n.op :: bv (decide (n.op ≥ 9)) :: U9 (U9 (U :: U :: U :: U :: U :: U :: U :: A9 (A :: bv (decide ((n.column < 0) ∨ (n.column ≥ (s.columns.length : Int)))) :: po 0 :: .sF 4 (s.columns.map Col.cells) :: .pO 1 0 1 :: iv n.column :: .pF (Col.cells (s.columns[n.column.toNat]!)) 0 :: .agg (Col.cells (s.columns[n.column.toNat]!)) :: bv (decide (n.op = 8)) :: po 1 :: iv n.op :: bv (decide (n.op = 8)) :: bv (decide (¬(n.op = 7) ∧ (n.value.null = true))) :: A4 (A4 (U9 (U9 (U9 ([U, U, U, U, U, U])))))))))), [.live ⟨2, [(Schema.cells s)], 33⟩, .live ⟨8, [(PNode.cells n)], 26⟩, .live ⟨4, [(Col.cells (s.columns[n.column.toNat]!))], 47⟩]⟩ ?_ ?_
  · skip
    refine PV.regionN ?_
    refine PON.runs 4 (by kernel_rfl) ?_
    refine PON.norm ⟨(.agg (Schema.cells s) :: iv i :: .agg (PNode.cells n) :: po 0 :: U :: po 1 :: iv 0 :: po 2 :: U :: U :: U :: A4 (A :: A :: A :: bv (decide ((n.op < 1) ∨ (n.op > 11))) :: po 1 :: iv n.op :: bv (decide (n.op ≥ 9)) :: U9 (U9 (U :: U :: U :: U :: U :: U :: U :: A9 (A :: bv (decide ((n.column < 0) ∨ (n.column ≥ (s.columns.length : Int)))) :: po 0 :: .sF 4 (s.columns.map Col.cells) :: .pO 1 0 1 :: iv n.column :: .pF (Col.cells (s.columns[n.column.toNat]!)) 0 :: .agg (Col.cells (s.columns[n.column.toNat]!)) :: bv (decide (n.op = 8)) :: po 1 :: iv n.op :: bv (decide (n.op = 8)) :: U :: po 1 :: iv n.op :: bv (!(decide (n.op = 7))) :: bv (!(decide (n.op = 7))) :: U9 (U9 (U9 (U9 ([U]))))))))), [.live ⟨2, [(Schema.cells s)], 33⟩, .live ⟨8, [(PNode.cells n)], 26⟩, .live ⟨4, [(Col.cells (s.columns[n.column.toNat]!))], 47⟩]⟩ (by kernel_rfl) ?_
    refine PON.splitN (n.op = 7) 72 (!(decide (n.op = 7))) (.agg (Schema.cells s) :: iv i :: .agg (PNode.cells n) :: po 0 :: U :: po 1 :: iv 0 :: po 2 :: U :: U :: U :: A4 (A :: A :: A :: bv (decide ((n.op < 1) ∨ (n.op > 11))) :: po 1 :: iv n.op :: bv (decide (n.op ≥ 9)) :: U9 (U9 (U :: U :: U :: U :: U :: U :: U :: A9 (A :: bv (decide ((n.column < 0) ∨ (n.column ≥ (s.columns.length : Int)))) :: po 0 :: .sF 4 (s.columns.map Col.cells) :: .pO 1 0 1 :: iv n.column :: .pF (Col.cells (s.columns[n.column.toNat]!)) 0 :: .agg (Col.cells (s.columns[n.column.toNat]!)) :: bv (decide (n.op = 8)) :: po 1 :: iv n.op :: bv (decide (n.op = 8)) :: U :: po 1 :: iv n.op :: bv (!(decide (n.op = 7))) :: bv false :: U9 (U9 (U9 (U9 ([U]))))))))) (.agg (Schema.cells s) :: iv i :: .agg (PNode.cells n) :: po 0 :: U :: po 1 :: iv 0 :: po 2 :: U :: U :: U :: A4 (A :: A :: A :: bv (decide ((n.op < 1) ∨ (n.op > 11))) :: po 1 :: iv n.op :: bv (decide (n.op ≥ 9)) :: U9 (U9 (U :: U :: U :: U :: U :: U :: U :: A9 (A :: bv (decide ((n.column < 0) ∨ (n.column ≥ (s.columns.length : Int)))) :: po 0 :: .sF 4 (s.columns.map Col.cells) :: .pO 1 0 1 :: iv n.column :: .pF (Col.cells (s.columns[n.column.toNat]!)) 0 :: .agg (Col.cells (s.columns[n.column.toNat]!)) :: bv (decide (n.op = 8)) :: po 1 :: iv n.op :: bv (decide (n.op = 8)) :: U :: po 1 :: iv n.op :: bv (!(decide (n.op = 7))) :: bv true :: U9 (U9 (U9 (U9 ([U]))))))))) (by kernel_rfl) (fun h => bnot_t (decide_eq_true h)) (fun h => bnot_f (decide_eq_false h)) (by kernel_rfl) (by kernel_rfl) (fun h26 => ?_) (fun h26 => ?_)
    · skip
      refine PON.runs 5 (by kernel_rfl) ?_
      refine PON.norm ⟨(.agg (Schema.cells s) :: iv i :: .agg (PNode.cells n) :: po 0 :: U :: po 1 :: iv 0 :: po 2 :: U :: U :: U :: A4 (A :: A :: A :: bv (decide ((n.op < 1) ∨ (n.op > 11))) :: po 1 :: iv n.op :: bv (decide (n.op ≥ 9)) :: U9 (U9 (U :: U :: U :: U :: U :: U :: U :: A9 (A :: bv (decide ((n.column < 0) ∨ (n.column ≥ (s.columns.length : Int)))) :: po 0 :: .sF 4 (s.columns.map Col.cells) :: .pO 1 0 1 :: iv n.column :: .pF (Col.cells (s.columns[n.column.toNat]!)) 0 :: .agg (Col.cells (s.columns[n.column.toNat]!)) :: bv (decide (n.op = 8)) :: po 1 :: iv n.op :: bv (decide (n.op = 8)) :: bv false :: po 1 :: iv n.op :: bv (!(decide (n.op = 7))) :: bv false :: U :: U :: U :: bv false :: U9 (U9 (U9 ([U, U, U, U, U, U])))))))), [.live ⟨2, [(Schema.cells s)], 33⟩, .live ⟨8, [(PNode.cells n)], 26⟩, .live ⟨4, [(Col.cells (s.columns[n.column.toNat]!))], 47⟩]⟩ (by kernel_rfl) ?_
      refine PON.fin rfl (thenA_normal ?_)
      exact ⟨rfl, rfl, (.cons (.tree (by simp only [NIs_cons, NIs_nil, NIr_cons, NIr_nil, NI_v, NI_any, NI_pO, NI_sO, NI_pF, NI_sF, NI_agg, NI_tup, NI_fn, NIh_nil, NIh_live, NIh_dead, NIh_free, NIr_map, NIr_append, NIs_icells, NIs_scells, NIs_bcells, NIs_Val, NIs_Col, NIs_Schema, NIs_PNode, NIs_Src, NIr_Val, NIr_Col, NIr_ints, NIr_PNode]; try simp)) (.v (.cons (.tree (by simp only [NIs_cons, NIs_nil, NIr_cons, NIr_nil, NI_v, NI_any, NI_pO, NI_sO, NI_pF, NI_sF, NI_agg, NI_tup, NI_fn, NIh_nil, NIh_live, NIh_dead, NIh_free, NIr_map, NIr_append, NIs_icells, NIs_scells, NIs_bcells, NIs_Val, NIs_Col, NIs_Schema, NIs_PNode, NIs_Src, NIr_Val, NIr_Col, NIr_ints, NIr_PNode]; try simp)) (.cons (.pO _ _ rfl) (.v (.cons (.pO _ _ rfl) (.v (.cons (.pO _ _ rfl) (.v (.v (.v (.a4 (.any (.any (.any (.v (.cons (.pO _ _ rfl) (.v (.v (.v (.v (.v (.v (.v (.v (.v (.v (.v (.v (.v (.v (.v (.v (.v (.v (.v (.v (.v (.v (.v (.v (.v (.v (.v (.a9 (.any (.v (.cons (.pO _ _ rfl) (.cons (.tree (by simp only [NIs_cons, NIs_nil, NIr_cons, NIr_nil, NI_v, NI_any, NI_pO, NI_sO, NI_pF, NI_sF, NI_agg, NI_tup, NI_fn, NIh_nil, NIh_live, NIh_dead, NIh_free, NIr_map, NIr_append, NIs_icells, NIs_scells, NIs_bcells, NIs_Val, NIs_Col, NIs_Schema, NIs_PNode, NIs_Src, NIr_Val, NIr_Col, NIr_ints, NIr_PNode]; try simp)) (.cons (.pO _ _ rfl) (.v (.cons (.tree (by simp only [NIs_cons, NIs_nil, NIr_cons, NIr_nil, NI_v, NI_any, NI_pO, NI_sO, NI_pF, NI_sF, NI_agg, NI_tup, NI_fn, NIh_nil, NIh_live, NIh_dead, NIh_free, NIr_map, NIr_append, NIs_icells, NIs_scells, NIs_bcells, NIs_Val, NIs_Col, NIs_Schema, NIs_PNode, NIs_Src, NIr_Val, NIr_Col, NIr_ints, NIr_PNode]; try simp)) (.cons (.tree (by simp only [NIs_cons, NIs_nil, NIr_cons, NIr_nil, NI_v, NI_any, NI_pO, NI_sO, NI_pF, NI_sF, NI_agg, NI_tup, NI_fn, NIh_nil, NIh_live, NIh_dead, NIh_free, NIr_map, NIr_append, NIs_icells, NIs_scells, NIs_bcells, NIs_Val, NIs_Col, NIs_Schema, NIs_PNode, NIs_Src, NIr_Val, NIr_Col, NIr_ints, NIr_PNode]; try simp)) (.v (.cons (.pO _ _ rfl) (.v (.v (.cons (.eq (.v _) (v_bool (by clear hret hK1 hK2 hK6 hK7 hK17 hK21 hK22 hK23 K0 K1 K2 K6 K7 K17 K21 K22 K23; (try simp only [strEq_dec]); grind))) (.a4 (.a4 (.v (.v (.v (.v (.v (.v (.v (.v (.v (.v (.v (.v (.v (.v (.v (.v (.v (.v (.v (.v (.v (.v (.v (.v (.v (.v (.v (.v (.v (.v (.v (.v (.v .nil))))))))))))))))))))))))))))))))))))))))))))))))))))))))))))))))))))))))))))))))))))))))))))), (.cons rfl (.tree (by simp only [NIs_cons, NIs_nil, NIr_cons, NIr_nil, NI_v, NI_any, NI_pO, NI_sO, NI_pF, NI_sF, NI_agg, NI_tup, NI_fn, NIh_nil, NIh_live, NIh_dead, NIh_free, NIr_map, NIr_append, NIs_icells, NIs_scells, NIs_bcells, NIs_Val, NIs_Col, NIs_Schema, NIs_PNode, NIs_Src, NIr_Val, NIr_Col, NIr_ints, NIr_PNode]; try simp)) (.cons rfl (.tree (by simp only [NIs_cons, NIs_nil, NIr_cons, NIr_nil, NI_v, NI_any, NI_pO, NI_sO, NI_pF, NI_sF, NI_agg, NI_tup, NI_fn, NIh_nil, NIh_live, NIh_dead, NIh_free, NIr_map, NIr_append, NIs_icells, NIs_scells, NIs_bcells, NIs_Val, NIs_Col, NIs_Schema, NIs_PNode, NIs_Src, NIr_Val, NIr_Col, NIr_ints, NIr_PNode]; try simp)) (.cons rfl (.tree (by simp only [NIs_cons, NIs_nil, NIr_cons, NIr_nil, NI_v, NI_any, NI_pO, NI_sO, NI_pF, NI_sF, NI_agg, NI_tup, NI_fn, NIh_nil, NIh_live, NIh_dead, NIh_free, NIr_map, NIr_append, NIs_icells, NIs_scells, NIs_bcells, NIs_Val, NIs_Col, NIs_Schema, NIs_PNode, NIs_Src, NIr_Val, NIr_Col, NIr_ints, NIr_PNode]; try simp)) .nil)))⟩
    refine PON.runs 5 (by kernel_rfl) ?_
    refine PON.norm ⟨(.agg (Schema.cells s) :: iv i :: .agg (PNode.cells n) :: po 0 :: U :: po 1 :: iv 0 :: po 2 :: U :: U :: U :: A4 (A :: A :: A :: bv (decide ((n.op < 1) ∨ (n.op > 11))) :: po 1 :: iv n.op :: bv (decide (n.op ≥ 9)) :: U9 (U9 (U :: U :: U :: U :: U :: U :: U :: A9 (A :: bv (decide ((n.column < 0) ∨ (n.column ≥ (s.columns.length : Int)))) :: po 0 :: .sF 4 (s.columns.map Col.cells) :: .pO 1 0 1 :: iv n.column :: .pF (Col.cells (s.columns[n.column.toNat]!)) 0 :: .agg (Col.cells (s.columns[n.column.toNat]!)) :: bv (decide (n.op = 8)) :: po 1 :: iv n.op :: bv (decide (n.op = 8)) :: bv n.value.null :: po 1 :: iv n.op :: bv (!(decide (n.op = 7))) :: bv true :: .pO 1 0 2 :: .pO 1 0 2 :: bv n.value.null :: bv n.value.null :: U9 (U9 (U9 ([U, U, U, U, U, U])))))))), [.live ⟨2, [(Schema.cells s)], 33⟩, .live ⟨8, [(PNode.cells n)], 26⟩, .live ⟨4, [(Col.cells (s.columns[n.column.toNat]!))], 47⟩]⟩ (by kernel_rfl) ?_
    refine PON.fin rfl (thenA_normal ?_)
    exact ⟨rfl, rfl, (.cons (.tree (by simp only [NIs_cons, NIs_nil, NIr_cons, NIr_nil, NI_v, NI_any, NI_pO, NI_sO, NI_pF, NI_sF, NI_agg, NI_tup, NI_fn, NIh_nil, NIh_live, NIh_dead, NIh_free, NIr_map, NIr_append, NIs_icells, NIs_scells, NIs_bcells, NIs_Val, NIs_Col, NIs_Schema, NIs_PNode, NIs_Src, NIr_Val, NIr_Col, NIr_ints, NIr_PNode]; try simp)) (.v (.cons (.tree (by simp only [NIs_cons, NIs_nil, NIr_cons, NIr_nil, NI_v, NI_any, NI_pO, NI_sO, NI_pF, NI_sF, NI_agg, NI_tup, NI_fn, NIh_nil, NIh_live, NIh_dead, NIh_free, NIr_map, NIr_append, NIs_icells, NIs_scells, NIs_bcells, NIs_Val, NIs_Col, NIs_Schema, NIs_PNode, NIs_Src, NIr_Val, NIr_Col, NIr_ints, NIr_PNode]; try simp)) (.cons (.pO _ _ rfl) (.v (.cons (.pO _ _ rfl) (.v (.cons (.pO _ _ rfl) (.v (.v (.v (.a4 (.any (.any (.any (.v (.cons (.pO _ _ rfl) (.v (.v (.v (.v (.v (.v (.v (.v (.v (.v (.v (.v (.v (.v (.v (.v (.v (.v (.v (.v (.v (.v (.v (.v (.v (.v (.v (.a9 (.any (.v (.cons (.pO _ _ rfl) (.cons (.tree (by simp only [NIs_cons, NIs_nil, NIr_cons, NIr_nil, NI_v, NI_any, NI_pO, NI_sO, NI_pF, NI_sF, NI_agg, NI_tup, NI_fn, NIh_nil, NIh_live, NIh_dead, NIh_free, NIr_map, NIr_append, NIs_icells, NIs_scells, NIs_bcells, NIs_Val, NIs_Col, NIs_Schema, NIs_PNode, NIs_Src, NIr_Val, NIr_Col, NIr_ints, NIr_PNode]; try simp)) (.cons (.pO _ _ rfl) (.v (.cons (.tree (by simp only [NIs_cons, NIs_nil, NIr_cons, NIr_nil, NI_v, NI_any, NI_pO, NI_sO, NI_pF, NI_sF, NI_agg, NI_tup, NI_fn, NIh_nil, NIh_live, NIh_dead, NIh_free, NIr_map, NIr_append, NIs_icells, NIs_scells, NIs_bcells, NIs_Val, NIs_Col, NIs_Schema, NIs_PNode, NIs_Src, NIr_Val, NIr_Col, NIr_ints, NIr_PNode]; try simp)) (.cons (.tree (by simp only [NIs_cons, NIs_nil, NIr_cons, NIr_nil, NI_v, NI_any, NI_pO, NI_sO, NI_pF, NI_sF, NI_agg, NI_tup, NI_fn, NIh_nil, NIh_live, NIh_dead, NIh_free, NIr_map, NIr_append, NIs_icells, NIs_scells, NIs_bcells, NIs_Val, NIs_Col, NIs_Schema, NIs_PNode, NIs_Src, NIr_Val, NIr_Col, NIr_ints, NIr_PNode]; try simp)) (.v (.cons (.pO _ _ rfl) (.v (.v (.cons (.eq (.v _) (v_bool (by clear hret hK1 hK2 hK6 hK7 hK17 hK21 hK22 hK23 K0 K1 K2 K6 K7 K17 K21 K22 K23; (try simp only [strEq_dec]); grind))) (.a4 (.a4 (.v (.v (.v (.v (.v (.v (.v (.v (.v (.v (.v (.v (.v (.v (.v (.v (.v (.v (.v (.v (.v (.v (.v (.v (.v (.v (.v (.v (.v (.v (.v (.v (.v .nil))))))))))))))))))))))))))))))))))))))))))))))))))))))))))))))))))))))))))))))))))))))))))))), (.cons rfl (.tree (by simp only [NIs_cons, NIs_nil, NIr_cons, NIr_nil, NI_v, NI_any, NI_pO, NI_sO, NI_pF, NI_sF, NI_agg, NI_tup, NI_fn, NIh_nil, NIh_live, NIh_dead, NIh_free, NIr_map, NIr_append, NIs_icells, NIs_scells, NIs_bcells, NIs_Val, NIs_Col, NIs_Schema, NIs_PNode, NIs_Src, NIr_Val, NIr_Col, NIr_ints, NIr_PNode]; try simp)) (.cons rfl (.tree (by simp only [NIs_cons, NIs_nil, NIr_cons, NIr_nil, NI_v, NI_any, NI_pO, NI_sO, NI_pF, NI_sF, NI_agg, NI_tup, NI_fn, NIh_nil, NIh_live, NIh_dead, NIh_free, NIr_map, NIr_append, NIs_icells, NIs_scells, NIs_bcells, NIs_Val, NIs_Col, NIs_Schema, NIs_PNode, NIs_Src, NIr_Val, NIr_Col, NIr_ints, NIr_PNode]; try simp)) (.cons rfl (.tree (by simp only [NIs_cons, NIs_nil, NIr_cons, NIr_nil, NI_v, NI_any, NI_pO, NI_sO, NI_pF, NI_sF, NI_agg, NI_tup, NI_fn, NIh_nil, NIh_live, NIh_dead, NIh_free, NIr_map, NIr_append, NIs_icells, NIs_scells, NIs_bcells, NIs_Val, NIs_Col, NIs_Schema, NIs_PNode, NIs_Src, NIr_Val, NIr_Col, NIr_ints, NIr_PNode]; try simp)) .nil)))⟩
  refine PV.condP (¬(n.op = 7) ∧ (n.value.null = true)) (decide (¬(n.op = 7) ∧ (n.value.null = true))) (by kernel_rfl) decide_eq_true decide_eq_false (fun h27 => ?_) (fun h27 => ?_)
  · skip
    refine PV.seq_k fun K28 hK28 => ?_
    refine PV.regionN ?_
    refine PON.runs 1 (by kernel_rfl) ?_
    refine PON.fin rfl (thenA_normal (hK28 _ ?_))
    refine PV.norm ⟨(.agg (Schema.cells s) :: iv i :: .agg (PNode.cells n) :: po 0 :: U :: po 1 :: iv 12 :: po 2 :: U :: U :: U :: A4 (A :: A :: A :: bv (decide ((n.op < 1) ∨ (n.op > 11))) :: po 1 :: iv n.op :: bv (decide (n.op ≥ 9)) :: U9 (U9 (U :: U :: U :: U :: U :: U :: U :: A9 (A :: bv (decide ((n.column < 0) ∨ (n.column ≥ (s.columns.length : Int)))) :: po 0 :: .sF 4 (s.columns.map Col.cells) :: .pO 1 0 1 :: iv n.column :: .pF (Col.cells (s.columns[n.column.toNat]!)) 0 :: .agg (Col.cells (s.columns[n.column.toNat]!)) :: bv (decide (n.op = 8)) :: po 1 :: iv n.op :: bv (decide (n.op = 8)) :: bv (decide (¬(n.op = 7) ∧ (n.value.null = true))) :: A4 (A4 (U9 (U9 (U9 ([U, U, U, U, U, U])))))))))), [.live ⟨2, [(Schema.cells s)], 33⟩, .live ⟨8, [(PNode.cells n)], 26⟩, .live ⟨4, [(Col.cells (s.columns[n.column.toNat]!))], 47⟩]⟩ (by kernel_rfl) ?_
    refine PV.ret (inBlockA_ret (thenA_ret (hret .ret _ (iv 12) (.inr rfl) (by kernel_rfl) ?_)))
    clear hret hK1 hK2 hK6 hK7 hK17 hK21 hK22 hK23 hK28 K0 K1 K2 K6 K7 K17 K21 K22 K23 K28
    show Tof noTau [.live ⟨2, [(Schema.cells s)], 33⟩, .live ⟨8, [(PNode.cells n)], 26⟩, .live ⟨4, [(Col.cells (s.columns[n.column.toNat]!))], 47⟩] (iv 12) (iv (nodeErr s i n))
    -- leaf 6
    refine Tof.int ?_
    first | grind [nodeErr, isLeaf, isCmp] | (have e : errFrom (fun _ v => vCheck (nullableCol s.columns[n.column.toNat]!) v) 0 n.list = vCheck (nullableCol s.columns[n.column.toNat]!) n.list[k.toNat]! := (by rw [he, drop_step _ _ (by omega), errFrom]; grind [nullableCol]); grind [nodeErr, nullableCol, isLeaf, isCmp]) | (rw [drop_end _ _ (by omega)] at he; grind [nodeErr, errFrom, isLeaf, isCmp])
  refine PV.seq_k fun K29 hK29 => ?_
  refine PV.regionN ?_
  refine PON.runs 4 (by kernel_rfl) ?_
  refine PON.fin rfl (thenA_normal (hK29 _ ?_))
  refine PV.condN (n.op = 7) (!(decide (n.op = 7))) (by kernel_rfl) (fun h => bnot_t (decide_eq_true h)) (fun h => bnot_f (decide_eq_false h)) (fun h30 => ?_) (fun h30 => ?_)
  · skip
    refine PV.seq_k fun K31 hK31 => ?_
    refine PV.regionN ?_
    refine PON.runs 3 (by kernel_rfl) ?_
    refine PON.call 26 [.agg (Col.cells (s.columns[n.column.toNat]!)), .agg (Val.cells n.value)] (some 84) (pre := []) (post := []) (x := iv (vCheck (s.columns[n.column.toNat]!) n.value)) _ (by kernel_rfl) (vCheck_ok (s.columns[n.column.toNat]!) n.value) trivial rfl ?_
    refine PON.runs 1 (by kernel_rfl) ?_
    refine PON.fin rfl (thenA_normal (hK31 _ ?_))
    refine PV.norm ⟨(.agg (Schema.cells s) :: iv i :: .agg (PNode.cells n) :: po 0 :: U :: po 1 :: iv (vCheck (s.columns[n.column.toNat]!) n.value) :: po 2 :: U :: U :: U :: A4 (A :: A :: A :: bv (decide ((n.op < 1) ∨ (n.op > 11))) :: po 1 :: iv n.op :: bv (decide (n.op ≥ 9)) :: U9 (U9 (U :: U :: U :: U :: U :: U :: U :: A9 (A :: bv (decide ((n.column < 0) ∨ (n.column ≥ (s.columns.length : Int)))) :: po 0 :: .sF 4 (s.columns.map Col.cells) :: .pO 1 0 1 :: iv n.column :: .pF (Col.cells (s.columns[n.column.toNat]!)) 0 :: .agg (Col.cells (s.columns[n.column.toNat]!)) :: bv (decide (n.op = 8)) :: po 1 :: iv n.op :: bv (decide (n.op = 8)) :: bv (decide (¬(n.op = 7) ∧ (n.value.null = true))) :: A4 (A4 (bv (!(decide (n.op = 7))) :: po 1 :: iv n.op :: bv (!(decide (n.op = 7))) :: .agg (Col.cells (s.columns[n.column.toNat]!)) :: .pO 1 0 2 :: .agg (Val.cells n.value) :: iv (vCheck (s.columns[n.column.toNat]!) n.value) :: U9 (U9 ([U, U, U, U, U, U, U]))))))))), [.live ⟨2, [(Schema.cells s)], 33⟩, .live ⟨8, [(PNode.cells n)], 26⟩, .live ⟨4, [(Col.cells (s.columns[n.column.toNat]!))], 47⟩]⟩ (by kernel_rfl) ?_
    refine PV.ret (inBlockA_ret (thenA_ret (hret .ret _ (iv (vCheck (s.columns[n.column.toNat]!) n.value)) (.inr rfl) (by kernel_rfl) ?_)))
    clear hret hK1 hK2 hK6 hK7 hK17 hK21 hK22 hK23 hK29 hK31 K0 K1 K2 K6 K7 K17 K21 K22 K23 K29 K31
    show Tof noTau [.live ⟨2, [(Schema.cells s)], 33⟩, .live ⟨8, [(PNode.cells n)], 26⟩, .live ⟨4, [(Col.cells (s.columns[n.column.toNat]!))], 47⟩] (iv (vCheck (s.columns[n.column.toNat]!) n.value)) (iv (nodeErr s i n))
    -- leaf 7
    refine Tof.int ?_
    first | grind [nodeErr, isLeaf, isCmp] | (have e : errFrom (fun _ v => vCheck (nullableCol s.columns[n.column.toNat]!) v) 0 n.list = vCheck (nullableCol s.columns[n.column.toNat]!) n.list[k.toNat]! := (by rw [he, drop_step _ _ (by omega), errFrom]; grind [nullableCol]); grind [nodeErr, nullableCol, isLeaf, isCmp]) | (rw [drop_end _ _ (by omega)] at he; grind [nodeErr, errFrom, isLeaf, isCmp])
  refine PV.seq_k fun K32 hK32 => ?_
  refine PV.regionN ?_
  refine PON.runs 2 (by kernel_rfl) ?_
  refine PON.ops (aLen_map Try.prog [.live ⟨2, [(Schema.cells s)], 33⟩, .live ⟨8, [(PNode.cells n)], 26⟩, .live ⟨4, [(Col.cells (s.columns[n.column.toNat]!))], 47⟩] 24 23 (by kernel_rfl) 3 Val.cells n.list) (by kernel_rfl) (by kernel_rfl) ?_
  refine PON.runs 2 (by kernel_rfl) ?_
  refine PON.fin rfl (thenA_normal (hK32 _ ?_))
  refine PV.condP ((n.list.length : Int) = 0) (decide ((n.list.length : Int) = 0)) (by kernel_rfl) decide_eq_true decide_eq_false (fun h33 => ?_) (fun h33 => ?_)
  · skip
    refine PV.seq_k fun K34 hK34 => ?_
    refine PV.regionN ?_
    refine PON.runs 1 (by kernel_rfl) ?_
    refine PON.fin rfl (thenA_normal (hK34 _ ?_))
    refine PV.norm ⟨(.agg (Schema.cells s) :: iv i :: .agg (PNode.cells n) :: po 0 :: U :: po 1 :: iv 1 :: po 2 :: U :: U :: U :: A4 (A :: A :: A :: bv (decide ((n.op < 1) ∨ (n.op > 11))) :: po 1 :: iv n.op :: bv (decide (n.op ≥ 9)) :: U9 (U9 (U :: U :: U :: U :: U :: U :: U :: A9 (A :: bv (decide ((n.column < 0) ∨ (n.column ≥ (s.columns.length : Int)))) :: po 0 :: .sF 4 (s.columns.map Col.cells) :: .pO 1 0 1 :: iv n.column :: .pF (Col.cells (s.columns[n.column.toNat]!)) 0 :: .agg (Col.cells (s.columns[n.column.toNat]!)) :: bv (decide (n.op = 8)) :: po 1 :: iv n.op :: bv (decide (n.op = 8)) :: bv (decide (¬(n.op = 7) ∧ (n.value.null = true))) :: A4 (A4 (bv (!(decide (n.op = 7))) :: po 1 :: iv n.op :: bv (!(decide (n.op = 7))) :: U :: U :: U :: U :: bv (decide ((n.list.length : Int) = 0)) :: .pO 1 0 5 :: .sF 3 (n.list.map Val.cells) :: iv (n.list.length : Int) :: bv (decide ((n.list.length : Int) = 0)) :: U9 (U9 ([U, U]))))))))), [.live ⟨2, [(Schema.cells s)], 33⟩, .live ⟨8, [(PNode.cells n)], 26⟩, .live ⟨4, [(Col.cells (s.columns[n.column.toNat]!))], 47⟩]⟩ (by kernel_rfl) ?_
    refine PV.ret (inBlockA_ret (thenA_ret (hret .ret _ (iv 1) (.inr rfl) (by kernel_rfl) ?_)))
    clear hret hK1 hK2 hK6 hK7 hK17 hK21 hK22 hK23 hK29 hK32 hK34 K0 K1 K2 K6 K7 K17 K21 K22 K23 K29 K32 K34
    show Tof noTau [.live ⟨2, [(Schema.cells s)], 33⟩, .live ⟨8, [(PNode.cells n)], 26⟩, .live ⟨4, [(Col.cells (s.columns[n.column.toNat]!))], 47⟩] (iv 1) (iv (nodeErr s i n))
    -- leaf 8
    refine Tof.int ?_
    first | grind [nodeErr, isLeaf, isCmp] | (have e : errFrom (fun _ v => vCheck (nullableCol s.columns[n.column.toNat]!) v) 0 n.list = vCheck (nullableCol s.columns[n.column.toNat]!) n.list[k.toNat]! := (by rw [he, drop_step _ _ (by omega), errFrom]; grind [nullableCol]); grind [nodeErr, nullableCol, isLeaf, isCmp]) | (rw [drop_end _ _ (by omega)] at he; grind [nodeErr, errFrom, isLeaf, isCmp])
  refine PV.seq_k fun K35 hK35 => ?_
  refine PV.regionN ?_
  refine PON.runs 2 (by kernel_rfl) ?_
  refine PON.ops (aLen_map Try.prog [.live ⟨2, [(Schema.cells s)], 33⟩, .live ⟨8, [(PNode.cells n)], 26⟩, .live ⟨4, [(Col.cells (s.columns[n.column.toNat]!))], 47⟩] 24 23 (by kernel_rfl) 3 Val.cells n.list) (by kernel_rfl) (by kernel_rfl) ?_
  refine PON.runs 2 (by kernel_rfl) ?_
  refine PON.fin rfl (thenA_normal (hK35 _ ?_))
  refine PV.condP ((n.list.length : Int) > 16) (decide ((n.list.length : Int) > 16)) (by kernel_rfl) decide_eq_true decide_eq_false (fun h36 => ?_) (fun h36 => ?_)
  · skip
    refine PV.seq_k fun K37 hK37 => ?_
    refine PV.regionN ?_
    refine PON.runs 1 (by kernel_rfl) ?_
    refine PON.fin rfl (thenA_normal (hK37 _ ?_))
    refine PV.norm ⟨(.agg (Schema.cells s) :: iv i :: .agg (PNode.cells n) :: po 0 :: U :: po 1 :: iv 7 :: po 2 :: U :: U :: U :: A4 (A :: A :: A :: bv (decide ((n.op < 1) ∨ (n.op > 11))) :: po 1 :: iv n.op :: bv (decide (n.op ≥ 9)) :: U9 (U9 (U :: U :: U :: U :: U :: U :: U :: A9 (A :: bv (decide ((n.column < 0) ∨ (n.column ≥ (s.columns.length : Int)))) :: po 0 :: .sF 4 (s.columns.map Col.cells) :: .pO 1 0 1 :: iv n.column :: .pF (Col.cells (s.columns[n.column.toNat]!)) 0 :: .agg (Col.cells (s.columns[n.column.toNat]!)) :: bv (decide (n.op = 8)) :: po 1 :: iv n.op :: bv (decide (n.op = 8)) :: bv (decide (¬(n.op = 7) ∧ (n.value.null = true))) :: A4 (A4 (bv (!(decide (n.op = 7))) :: po 1 :: iv n.op :: bv (!(decide (n.op = 7))) :: U :: U :: U :: U :: bv (decide ((n.list.length : Int) = 0)) :: .pO 1 0 5 :: .sF 3 (n.list.map Val.cells) :: iv (n.list.length : Int) :: bv (decide ((n.list.length : Int) = 0)) :: bv (decide ((n.list.length : Int) > 16)) :: .pO 1 0 5 :: .sF 3 (n.list.map Val.cells) :: iv (n.list.length : Int) :: bv (decide ((n.list.length : Int) > 16)) :: U9 ([U, U, U, U, U, U])))))))), [.live ⟨2, [(Schema.cells s)], 33⟩, .live ⟨8, [(PNode.cells n)], 26⟩, .live ⟨4, [(Col.cells (s.columns[n.column.toNat]!))], 47⟩]⟩ (by kernel_rfl) ?_
    refine PV.ret (inBlockA_ret (thenA_ret (hret .ret _ (iv 7) (.inr rfl) (by kernel_rfl) ?_)))
    clear hret hK1 hK2 hK6 hK7 hK17 hK21 hK22 hK23 hK29 hK32 hK35 hK37 K0 K1 K2 K6 K7 K17 K21 K22 K23 K29 K32 K35 K37
    show Tof noTau [.live ⟨2, [(Schema.cells s)], 33⟩, .live ⟨8, [(PNode.cells n)], 26⟩, .live ⟨4, [(Col.cells (s.columns[n.column.toNat]!))], 47⟩] (iv 7) (iv (nodeErr s i n))
    -- leaf 9
    refine Tof.int ?_
    first | grind [nodeErr, isLeaf, isCmp] | (have e : errFrom (fun _ v => vCheck (nullableCol s.columns[n.column.toNat]!) v) 0 n.list = vCheck (nullableCol s.columns[n.column.toNat]!) n.list[k.toNat]! := (by rw [he, drop_step _ _ (by omega), errFrom]; grind [nullableCol]); grind [nodeErr, nullableCol, isLeaf, isCmp]) | (rw [drop_end _ _ (by omega)] at he; grind [nodeErr, errFrom, isLeaf, isCmp])
  refine PV.skip (inBlockA_normal (thenA_normal (hK22 _ ?_)))
  refine PV.seq_k fun K38 hK38 => ?_
  refine PV.regionN ?_
  refine PON.runs 2 (by kernel_rfl) ?_
  refine PON.fin rfl (thenA_normal (hK38 _ ?_))
  refine PV.seq_k fun K39 hK39 => ?_
  refine PV.seq_k fun K40 hK40 => ?_
  refine PV.regionN ?_
  refine PON.runs 2 (by kernel_rfl) ?_
  refine PON.ops (aLen_map Try.prog [.live ⟨2, [(Schema.cells s)], 33⟩, .live ⟨8, [(PNode.cells n)], 26⟩, .live ⟨4, [[sv ((s.columns[n.column.toNat]!).name), iv ((s.columns[n.column.toNat]!).type), iv ((s.columns[n.column.toNat]!).scale), bv true]], 47⟩] 24 23 (by kernel_rfl) 3 Val.cells n.list) (by kernel_rfl) (by kernel_rfl) ?_
  refine PON.runs 1 (by kernel_rfl) ?_
  refine PON.fin rfl (thenA_normal (hK40 _ ?_))
  refine PV.block ?_
  refine PV.norm ⟨(.agg (Schema.cells s) :: iv i :: .agg (PNode.cells n) :: po 0 :: U :: po 1 :: iv 0 :: po 2 :: U :: U :: U :: A4 (A :: A :: A :: bv (decide ((n.op < 1) ∨ (n.op > 11))) :: po 1 :: iv n.op :: bv (decide (n.op ≥ 9)) :: U9 (U9 (U :: U :: U :: U :: U :: U :: U :: A9 (A :: bv (decide ((n.column < 0) ∨ (n.column ≥ (s.columns.length : Int)))) :: po 0 :: .sF 4 (s.columns.map Col.cells) :: .pO 1 0 1 :: iv n.column :: .pF (Col.cells (s.columns[n.column.toNat]!)) 0 :: .agg (Col.cells (s.columns[n.column.toNat]!)) :: bv (decide (n.op = 8)) :: po 1 :: iv n.op :: bv (decide (n.op = 8)) :: bv (decide (¬(n.op = 7) ∧ (n.value.null = true))) :: A4 (A4 (bv (!(decide (n.op = 7))) :: po 1 :: iv n.op :: bv (!(decide (n.op = 7))) :: U :: U :: U :: U :: bv (decide ((n.list.length : Int) = 0)) :: .pO 1 0 5 :: .sF 3 (n.list.map Val.cells) :: iv (n.list.length : Int) :: bv (decide ((n.list.length : Int) = 0)) :: bv (decide ((n.list.length : Int) > 16)) :: .pO 1 0 5 :: .sF 3 (n.list.map Val.cells) :: iv (n.list.length : Int) :: bv (decide ((n.list.length : Int) > 16)) :: .pO 2 0 3 :: .pO 1 0 5 :: .sF 3 (n.list.map Val.cells) :: iv (n.list.length : Int) :: iv 0 :: U9 ([U])))))))), [.live ⟨2, [(Schema.cells s)], 33⟩, .live ⟨8, [(PNode.cells n)], 26⟩, .live ⟨4, [[sv ((s.columns[n.column.toNat]!).name), iv ((s.columns[n.column.toNat]!).type), iv ((s.columns[n.column.toNat]!).scale), bv true]], 47⟩]⟩ (by kernel_rfl) ?_
  refine PV.loopR (α := Int) (fun xL => let k := xL; (⟨(A4 (A :: A :: A :: po 2 :: A9 (A9 (A9 (A9 (A9 (A9 (A9 (A9 (A9 (A4 (A4 (.sF 3 (n.list.map Val.cells) :: iv (n.list.length : Int) :: iv k :: A9 ([A])))))))))))))), [.live ⟨2, [(Schema.cells s)], 33⟩, .live ⟨8, [(PNode.cells n)], 26⟩, .live ⟨4, [[sv ((s.columns[n.column.toNat]!).name), iv ((s.columns[n.column.toNat]!).type), iv ((s.columns[n.column.toNat]!).scale), bv true]], 47⟩]⟩ : St)) (fun xL => let k := xL; (0 ≤ k ∧ k ≤ n.list.length) ∧ (errFrom (fun _ v => vCheck (nullableCol s.columns[n.column.toNat]!) v) 0 n.list = errFrom (fun _ v => vCheck (nullableCol s.columns[n.column.toNat]!) v) k (n.list.drop k.toNat))) (fun xL => let k := xL; ((n.list.length : Int) - k).toNat) [0, 1, 2] (0 : Int) ⟨rfl, rfl, (.a4 (.any (.any (.any (.cons (.pO _ _ rfl) (.a9 (.a9 (.a9 (.a9 (.a9 (.a9 (.a9 (.a9 (.a9 (.a4 (.a4 (.cons (.tree (by simp only [NIs_cons, NIs_nil, NIr_cons, NIr_nil, NI_v, NI_any, NI_pO, NI_sO, NI_pF, NI_sF, NI_agg, NI_tup, NI_fn, NIh_nil, NIh_live, NIh_dead, NIh_free, NIr_map, NIr_append, NIs_icells, NIs_scells, NIs_bcells, NIs_Val, NIs_Col, NIs_Schema, NIs_PNode, NIs_Src, NIr_Val, NIr_Col, NIr_ints, NIr_PNode]; try simp)) (.v (.v (.a9 (.any .nil))))))))))))))))))))), (.cons rfl (.tree (by simp only [NIs_cons, NIs_nil, NIr_cons, NIr_nil, NI_v, NI_any, NI_pO, NI_sO, NI_pF, NI_sF, NI_agg, NI_tup, NI_fn, NIh_nil, NIh_live, NIh_dead, NIh_free, NIr_map, NIr_append, NIs_icells, NIs_scells, NIs_bcells, NIs_Val, NIs_Col, NIs_Schema, NIs_PNode, NIs_Src, NIr_Val, NIr_Col, NIr_ints, NIr_PNode]; try simp)) (.cons rfl (.tree (by simp only [NIs_cons, NIs_nil, NIr_cons, NIr_nil, NI_v, NI_any, NI_pO, NI_sO, NI_pF, NI_sF, NI_agg, NI_tup, NI_fn, NIh_nil, NIh_live, NIh_dead, NIh_free, NIr_map, NIr_append, NIs_icells, NIs_scells, NIs_bcells, NIs_Val, NIs_Col, NIs_Schema, NIs_PNode, NIs_Src, NIr_Val, NIr_Col, NIr_ints, NIr_PNode]; try simp)) (.cons rfl (.tree (by simp only [NIs_cons, NIs_nil, NIr_cons, NIr_nil, NI_v, NI_any, NI_pO, NI_sO, NI_pF, NI_sF, NI_agg, NI_tup, NI_fn, NIh_nil, NIh_live, NIh_dead, NIh_free, NIr_map, NIr_append, NIs_icells, NIs_scells, NIs_bcells, NIs_Val, NIs_Col, NIs_Schema, NIs_PNode, NIs_Src, NIr_Val, NIr_Col, NIr_ints, NIr_PNode]; try simp)) .nil)))⟩ ?_ ?_
  · skip
    clear hret hK1 hK2 hK6 hK7 hK17 hK21 hK22 hK23 hK29 hK32 hK35 hK38 hK39 hK40 K0 K1 K2 K6 K7 K17 K21 K22 K23 K29 K32 K35 K38 K39 K40
    refine ⟨?_, ?_⟩
    · skip
      show 0 ≤ (0 : Int) ∧ (0 : Int) ≤ n.list.length
      simp
    · skip
      show errFrom (fun _ v => vCheck (nullableCol s.columns[n.column.toNat]!) v) 0 n.list = errFrom (fun _ v => vCheck (nullableCol s.columns[n.column.toNat]!) v) (0 : Int) (n.list.drop (0 : Int).toNat)
      simp
  rintro k hJ
  change (0 ≤ k ∧ k ≤ n.list.length) ∧ (errFrom (fun _ v => vCheck (nullableCol s.columns[n.column.toNat]!) v) 0 n.list = errFrom (fun _ v => vCheck (nullableCol s.columns[n.column.toNat]!) v) k (n.list.drop k.toNat)) at hJ
  obtain ⟨hk, he⟩ := hJ
  show PV _ Try.prog _ ⟨(A4 (A :: A :: A :: po 2 :: A9 (A9 (A9 (A9 (A9 (A9 (A9 (A9 (A9 (A4 (A4 (.sF 3 (n.list.map Val.cells) :: iv (n.list.length : Int) :: iv k :: A9 ([A])))))))))))))), [.live ⟨2, [(Schema.cells s)], 33⟩, .live ⟨8, [(PNode.cells n)], 26⟩, .live ⟨4, [[sv ((s.columns[n.column.toNat]!).name), iv ((s.columns[n.column.toNat]!).type), iv ((s.columns[n.column.toNat]!).scale), bv true]], 47⟩]⟩ _
  refine PV.seq_k fun K41 hK41 => ?_
  refine PV.regionN ?_
  refine PON.runs 1 (by kernel_rfl) ?_
  refine PON.fin rfl (thenA_normal (hK41 _ ?_))
  refine PV.seq_k fun K42 hK42 => ?_
  refine PV.condP (k < (n.list.length : Int)) (decide (k < (n.list.length : Int))) (by kernel_rfl) decide_eq_true decide_eq_false (fun h43 => ?_) (fun h43 => ?_)
  · skip
    refine PV.skip (thenA_normal (hK42 _ ?_))
    refine PV.seq_k fun K44 hK44 => ?_
    refine PV.block ?_
    refine PV.seq_k fun K45 hK45 => ?_
    refine PV.regionN ?_
    refine PON.ops (aIndexAddr_map Try.prog [.live ⟨2, [(Schema.cells s)], 33⟩, .live ⟨8, [(PNode.cells n)], 26⟩, .live ⟨4, [[sv ((s.columns[n.column.toNat]!).name), iv ((s.columns[n.column.toNat]!).type), iv ((s.columns[n.column.toNat]!).scale), bv true]], 47⟩] 24 23 3 Val.cells (by kernel_rfl) (by kernel_rfl) n.list .i64 k (by first | omega | grind [isLeaf, isCmp])) (by kernel_rfl) (by kernel_rfl) ?_
    refine PON.runs 3 (by kernel_rfl) ?_
    refine PON.fin rfl (thenA_normal (hK45 _ ?_))
    refine PV.seq_k fun K46 hK46 => ?_
    refine PV.regionN ?_
    refine PON.runs 2 (by kernel_rfl) ?_
    refine PON.call 26 [.agg (Col.cells (⟨(s.columns[n.column.toNat]!).name, ((s.columns[n.column.toNat]!).type), ((s.columns[n.column.toNat]!).scale), true⟩ : Col)), .agg (Val.cells (n.list[k.toNat]!))] (some 105) (pre := []) (post := []) (x := iv (vCheck (⟨(s.columns[n.column.toNat]!).name, ((s.columns[n.column.toNat]!).type), ((s.columns[n.column.toNat]!).scale), true⟩ : Col) (n.list[k.toNat]!))) _ (by kernel_rfl) (vCheck_ok (⟨(s.columns[n.column.toNat]!).name, ((s.columns[n.column.toNat]!).type), ((s.columns[n.column.toNat]!).scale), true⟩ : Col) (n.list[k.toNat]!)) trivial rfl ?_
    refine PON.runs 1 (by kernel_rfl) ?_
    refine PON.fin rfl (thenA_normal (hK46 _ ?_))
    refine PV.seq_k fun K47 hK47 => ?_
    refine PV.regionN ?_
    refine PON.runs 2 (by kernel_rfl) ?_
    refine PON.fin rfl (thenA_normal (hK47 _ ?_))
    refine PV.condN ((vCheck (⟨(s.columns[n.column.toNat]!).name, ((s.columns[n.column.toNat]!).type), ((s.columns[n.column.toNat]!).scale), true⟩ : Col) (n.list[k.toNat]!)) = 0) (!(decide ((vCheck (⟨(s.columns[n.column.toNat]!).name, ((s.columns[n.column.toNat]!).type), ((s.columns[n.column.toNat]!).scale), true⟩ : Col) (n.list[k.toNat]!)) = 0))) (by kernel_rfl) (fun h => bnot_t (decide_eq_true h)) (fun h => bnot_f (decide_eq_false h)) (fun h48 => ?_) (fun h48 => ?_)
    · skip
      refine PV.seq_k fun K49 hK49 => ?_
      refine PV.regionN ?_
      refine PON.runs 2 (by kernel_rfl) ?_
      refine PON.fin rfl (thenA_normal (hK49 _ ?_))
      refine PV.norm ⟨(A4 (A :: A :: iv (vCheck (⟨(s.columns[n.column.toNat]!).name, ((s.columns[n.column.toNat]!).type), ((s.columns[n.column.toNat]!).scale), true⟩ : Col) (n.list[k.toNat]!)) :: po 2 :: A :: po 3 :: iv (vCheck (⟨(s.columns[n.column.toNat]!).name, ((s.columns[n.column.toNat]!).type), ((s.columns[n.column.toNat]!).scale), true⟩ : Col) (n.list[k.toNat]!)) :: A9 (A9 (A9 (A9 (A9 (A9 (A9 (A9 (A9 (A4 ([A, .sF 3 (n.list.map Val.cells), iv (n.list.length : Int), iv k, bv (decide (k < (n.list.length : Int))), .pF (Val.cells (n.list[k.toNat]!)) 0, .agg (Val.cells (n.list[k.toNat]!)), .agg [sv ((s.columns[n.column.toNat]!).name), iv ((s.columns[n.column.toNat]!).type), iv ((s.columns[n.column.toNat]!).scale), bv true], .agg (Val.cells (n.list[k.toNat]!)), iv (vCheck (⟨(s.columns[n.column.toNat]!).name, ((s.columns[n.column.toNat]!).type), ((s.columns[n.column.toNat]!).scale), true⟩ : Col) (n.list[k.toNat]!)), iv (vCheck (⟨(s.columns[n.column.toNat]!).name, ((s.columns[n.column.toNat]!).type), ((s.columns[n.column.toNat]!).scale), true⟩ : Col) (n.list[k.toNat]!)), bv (!(decide ((vCheck (⟨(s.columns[n.column.toNat]!).name, ((s.columns[n.column.toNat]!).type), ((s.columns[n.column.toNat]!).scale), true⟩ : Col) (n.list[k.toNat]!)) = 0))), iv (vCheck (⟨(s.columns[n.column.toNat]!).name, ((s.columns[n.column.toNat]!).type), ((s.columns[n.column.toNat]!).scale), true⟩ : Col) (n.list[k.toNat]!)), A])))))))))))), [.live ⟨2, [(Schema.cells s)], 33⟩, .live ⟨8, [(PNode.cells n)], 26⟩, .live ⟨4, [[sv ((s.columns[n.column.toNat]!).name), iv ((s.columns[n.column.toNat]!).type), iv ((s.columns[n.column.toNat]!).scale), bv true]], 47⟩, .live ⟨3, [(Val.cells (n.list[k.toNat]!))], 23⟩]⟩ (by kernel_rfl) ?_
      refine PV.ret (inBlockA_ret (thenA_ret (thenA_ret (inBlockA_ret (thenA_ret (hret .ret _ (iv (vCheck (⟨(s.columns[n.column.toNat]!).name, ((s.columns[n.column.toNat]!).type), ((s.columns[n.column.toNat]!).scale), true⟩ : Col) (n.list[k.toNat]!))) (.inr rfl) (by kernel_rfl) ?_))))))
      clear hret hK1 hK2 hK6 hK7 hK17 hK21 hK22 hK23 hK29 hK32 hK35 hK38 hK39 hK40 hK41 hK42 hK44 hK45 hK46 hK47 hK49 K0 K1 K2 K6 K7 K17 K21 K22 K23 K29 K32 K35 K38 K39 K40 K41 K42 K44 K45 K46 K47 K49
      show Tof noTau [.live ⟨2, [(Schema.cells s)], 33⟩, .live ⟨8, [(PNode.cells n)], 26⟩, .live ⟨4, [[sv ((s.columns[n.column.toNat]!).name), iv ((s.columns[n.column.toNat]!).type), iv ((s.columns[n.column.toNat]!).scale), bv true]], 47⟩, .live ⟨3, [(Val.cells (n.list[k.toNat]!))], 23⟩] (iv (vCheck (⟨(s.columns[n.column.toNat]!).name, ((s.columns[n.column.toNat]!).type), ((s.columns[n.column.toNat]!).scale), true⟩ : Col) (n.list[k.toNat]!))) (iv (nodeErr s i n))
      -- leaf 10
      refine Tof.int ?_
      first | grind [nodeErr, isLeaf, isCmp] | (have e : errFrom (fun _ v => vCheck (nullableCol s.columns[n.column.toNat]!) v) 0 n.list = vCheck (nullableCol s.columns[n.column.toNat]!) n.list[k.toNat]! := (by rw [he, drop_step _ _ (by omega), errFrom]; grind [nullableCol]); grind [nodeErr, nullableCol, isLeaf, isCmp]) | (rw [drop_end _ _ (by omega)] at he; grind [nodeErr, errFrom, isLeaf, isCmp])
    refine PV.skip (inBlockA_normal (thenA_normal (hK44 _ ?_)))
    refine PV.regionN ?_
    refine PON.ops (aBin_add_in Try.prog [.live ⟨2, [(Schema.cells s)], 33⟩, .live ⟨8, [(PNode.cells n)], 26⟩, .live ⟨4, [[sv ((s.columns[n.column.toNat]!).name), iv ((s.columns[n.column.toNat]!).type), iv ((s.columns[n.column.toNat]!).scale), bv true]], 47⟩, .live ⟨3, [(Val.cells (n.list[k.toNat]!))], 23⟩] 3 (.tmp 99) (.const (.int .i64 1)) .i64 k 1 (by rw [wrap64] <;> omega)) (by kernel_rfl) (by kernel_rfl) ?_
    refine PON.runs 1 (by kernel_rfl) ?_
    refine PON.norm ⟨(A4 (A :: A :: A :: po 2 :: A :: po 3 :: iv (vCheck (⟨(s.columns[n.column.toNat]!).name, ((s.columns[n.column.toNat]!).type), ((s.columns[n.column.toNat]!).scale), true⟩ : Col) (n.list[k.toNat]!)) :: A9 (A9 (A9 (A9 (A9 (A9 (A9 (A9 (A9 (A4 ([A, .sF 3 (n.list.map Val.cells), iv (n.list.length : Int), iv (k + 1), bv (decide (k < (n.list.length : Int))), .pF (Val.cells (n.list[k.toNat]!)) 0, .agg (Val.cells (n.list[k.toNat]!)), .agg [sv ((s.columns[n.column.toNat]!).name), iv ((s.columns[n.column.toNat]!).type), iv ((s.columns[n.column.toNat]!).scale), bv true], .agg (Val.cells (n.list[k.toNat]!)), iv (vCheck (⟨(s.columns[n.column.toNat]!).name, ((s.columns[n.column.toNat]!).type), ((s.columns[n.column.toNat]!).scale), true⟩ : Col) (n.list[k.toNat]!)), iv (vCheck (⟨(s.columns[n.column.toNat]!).name, ((s.columns[n.column.toNat]!).type), ((s.columns[n.column.toNat]!).scale), true⟩ : Col) (n.list[k.toNat]!)), bv (!(decide ((vCheck (⟨(s.columns[n.column.toNat]!).name, ((s.columns[n.column.toNat]!).type), ((s.columns[n.column.toNat]!).scale), true⟩ : Col) (n.list[k.toNat]!)) = 0))), A, iv (k + 1)])))))))))))), [.live ⟨2, [(Schema.cells s)], 33⟩, .live ⟨8, [(PNode.cells n)], 26⟩, .live ⟨4, [[sv ((s.columns[n.column.toNat]!).name), iv ((s.columns[n.column.toNat]!).type), iv ((s.columns[n.column.toNat]!).scale), bv true]], 47⟩, .live ⟨3, [(Val.cells (n.list[k.toNat]!))], 23⟩]⟩ (by kernel_rfl) ?_
    refine PON.fin rfl (thenA_normal ?_)
    refine ⟨[0, 1, 2], (k + 1), ⟨rfl, rfl, (.a4 (.any (.any (.any (.cons (.pO _ _ rfl) (.a9 (.a9 (.a9 (.a9 (.a9 (.a9 (.a9 (.a9 (.a9 (.a4 (.a4 (.cons (.tree (by simp only [NIs_cons, NIs_nil, NIr_cons, NIr_nil, NI_v, NI_any, NI_pO, NI_sO, NI_pF, NI_sF, NI_agg, NI_tup, NI_fn, NIh_nil, NIh_live, NIh_dead, NIh_free, NIr_map, NIr_append, NIs_icells, NIs_scells, NIs_bcells, NIs_Val, NIs_Col, NIs_Schema, NIs_PNode, NIs_Src, NIr_Val, NIr_Col, NIr_ints, NIr_PNode]; try simp)) (.v (.v (.a9 (.any .nil))))))))))))))))))))), (.cons rfl (.tree (by simp only [NIs_cons, NIs_nil, NIr_cons, NIr_nil, NI_v, NI_any, NI_pO, NI_sO, NI_pF, NI_sF, NI_agg, NI_tup, NI_fn, NIh_nil, NIh_live, NIh_dead, NIh_free, NIr_map, NIr_append, NIs_icells, NIs_scells, NIs_bcells, NIs_Val, NIs_Col, NIs_Schema, NIs_PNode, NIs_Src, NIr_Val, NIr_Col, NIr_ints, NIr_PNode]; try simp)) (.cons rfl (.tree (by simp only [NIs_cons, NIs_nil, NIr_cons, NIr_nil, NI_v, NI_any, NI_pO, NI_sO, NI_pF, NI_sF, NI_agg, NI_tup, NI_fn, NIh_nil, NIh_live, NIh_dead, NIh_free, NIr_map, NIr_append, NIs_icells, NIs_scells, NIs_bcells, NIs_Val, NIs_Col, NIs_Schema, NIs_PNode, NIs_Src, NIr_Val, NIr_Col, NIr_ints, NIr_PNode]; try simp)) (.cons rfl (.tree (by simp only [NIs_cons, NIs_nil, NIr_cons, NIr_nil, NI_v, NI_any, NI_pO, NI_sO, NI_pF, NI_sF, NI_agg, NI_tup, NI_fn, NIh_nil, NIh_live, NIh_dead, NIh_free, NIr_map, NIr_append, NIs_icells, NIs_scells, NIs_bcells, NIs_Val, NIs_Col, NIs_Schema, NIs_PNode, NIs_Src, NIr_Val, NIr_Col, NIr_ints, NIr_PNode]; try simp)) .nil)))⟩, ?_, ?_⟩
    · skip
      clear hret hK1 hK2 hK6 hK7 hK17 hK21 hK22 hK23 hK29 hK32 hK35 hK38 hK39 hK40 hK41 hK42 hK44 hK45 hK46 hK47 K0 K1 K2 K6 K7 K17 K21 K22 K23 K29 K32 K35 K38 K39 K40 K41 K42 K44 K45 K46 K47
      refine ⟨?_, ?_⟩
      · skip
        show 0 ≤ (k + 1) ∧ (k + 1) ≤ n.list.length
        omega
      · skip
        show errFrom (fun _ v => vCheck (nullableCol s.columns[n.column.toNat]!) v) 0 n.list = errFrom (fun _ v => vCheck (nullableCol s.columns[n.column.toNat]!) v) (k + 1) (n.list.drop (k + 1).toNat)
        rw [drop_step _ _ (by omega)] at he
        rw [he, errFrom, if_pos (by grind [nullableCol])]
    · skip
      clear hret hK1 hK2 hK6 hK7 hK17 hK21 hK22 hK23 hK29 hK32 hK35 hK38 hK39 hK40 hK41 hK42 hK44 hK45 hK46 hK47 K0 K1 K2 K6 K7 K17 K21 K22 K23 K29 K32 K35 K38 K39 K40 K41 K42 K44 K45 K46 K47
      show ((n.list.length : Int) - (k + 1)).toNat < ((n.list.length : Int) - k).toNat
      omega
  refine PV.exit (thenA_exit (thenA_exit (inBlockA_hit (thenA_normal (hK39 _ ?_)))))
  refine PV.seq_k fun K50 hK50 => ?_
  refine PV.regionN ?_
  refine PON.runs 1 (by kernel_rfl) ?_
  refine PON.fin rfl (thenA_normal (hK50 _ ?_))
  refine PV.norm ⟨(A4 (A :: A :: iv 0 :: po 2 :: A9 (A9 (A9 (A9 (A9 (A9 (A9 (A9 (A9 (A4 (A4 (.sF 3 (n.list.map Val.cells) :: iv (n.list.length : Int) :: iv k :: bv (decide (k < (n.list.length : Int))) :: A9 ([])))))))))))))), [.live ⟨2, [(Schema.cells s)], 33⟩, .live ⟨8, [(PNode.cells n)], 26⟩, .live ⟨4, [[sv ((s.columns[n.column.toNat]!).name), iv ((s.columns[n.column.toNat]!).type), iv ((s.columns[n.column.toNat]!).scale), bv true]], 47⟩]⟩ (by kernel_rfl) ?_
  refine PV.ret (hret .ret _ (iv 0) (.inr rfl) (by kernel_rfl) ?_)
  clear hret hK1 hK2 hK6 hK7 hK17 hK21 hK22 hK23 hK29 hK32 hK35 hK38 hK39 hK40 hK41 hK42 hK50 K0 K1 K2 K6 K7 K17 K21 K22 K23 K29 K32 K35 K38 K39 K40 K41 K42 K50
  show Tof noTau [.live ⟨2, [(Schema.cells s)], 33⟩, .live ⟨8, [(PNode.cells n)], 26⟩, .live ⟨4, [[sv ((s.columns[n.column.toNat]!).name), iv ((s.columns[n.column.toNat]!).type), iv ((s.columns[n.column.toNat]!).scale), bv true]], 47⟩] (iv 0) (iv (nodeErr s i n))
  -- leaf 11
  refine Tof.int ?_
  first | grind [nodeErr, isLeaf, isCmp] | (have e : errFrom (fun _ v => vCheck (nullableCol s.columns[n.column.toNat]!) v) 0 n.list = vCheck (nullableCol s.columns[n.column.toNat]!) n.list[k.toNat]! := (by rw [he, drop_step _ _ (by omega), errFrom]; grind [nullableCol]); grind [nodeErr, nullableCol, isLeaf, isCmp]) | (rw [drop_end _ _ (by omega)] at he; grind [nodeErr, errFrom, isLeaf, isCmp])
theorem node_ok (s : Schema) (i : Int) (n : PNode) : PCX Try.prog 30 [.agg (Schema.cells s), iv i, .agg (PNode.cells n)] [] [] (iv (nodeErr s i n)) :=
  PCX.frame (by simp only [NIs_cons, NIs_nil, NIr_cons, NIr_nil, NI_v, NI_any, NI_pO, NI_sO, NI_pF, NI_sF, NI_agg, NI_tup, NI_fn, NIh_nil, NIh_live, NIh_dead, NIh_free, NIr_map, NIr_append, NIs_icells, NIs_scells, NIs_bcells, NIs_Val, NIs_Col, NIs_Schema, NIs_PNode, NIs_Src, NIr_Val, NIr_Col, NIr_ints, NIr_PNode]; try simp) (node_ok_walk s i n)

set_option maxHeartbeats 4000000 in
theorem rnode_ok_walk (s : Schema) (n : PNode) (i : Int) : PC Try.prog 32 [.agg (Schema.cells s), .agg (PNode.cells n), iv i] [] (fun yR kR => Tof noTau kR yR (iv (nodeErr s i n))) := by
  refine PC.of_bodyV Try.func32 rfl (.agg (Schema.cells s) :: .agg (PNode.cells n) :: iv i :: U9 (U9 (U9 (U9 (U9 (U9 (U9 (U9 (U9 (U9 ([U, U, U, U, U, U, U, U]))))))))))) (by kernel_rfl) (fun K0 hret => ?_)
  refine PV.seq_k fun K1 hK1 => ?_
  refine PV.regionN ?_
  refine PON.runs 3 (by kernel_rfl) ?_
  refine PON.fin rfl (thenA_normal (hK1 _ ?_))
  refine PV.seq_k fun K2 hK2 => ?_
  refine PV.norm ⟨(.agg (Schema.cells s) :: .agg (PNode.cells n) :: iv i :: po 0 :: po 1 :: U :: iv 0 :: U9 (U9 (U9 (U9 (U9 (U9 (U9 (U9 (U9 (U9 ([U, U, U, U]))))))))))), [.live ⟨2, [(Schema.cells s)], 33⟩, .live ⟨8, [(PNode.cells n)], 26⟩]⟩ (by kernel_rfl) ?_
  refine PV.seqR [0, 1] ⟨(.agg (Schema.cells s) :: .agg (PNode.cells n) :: iv i :: po 0 :: po 1 :: U :: iv 0 :: U :: U :: U :: U :: A4 (A :: A :: A :: bv (decide ((n.op < 1) ∨ (n.op > 11))) :: U9 (U9 (U9 (U9 (U9 (U9 (U9 (U9 (U9 ([U]))))))))))), [.live ⟨2, [(Schema.cells s)], 33⟩, .live ⟨8, [(PNode.cells n)], 26⟩]⟩ ?_ ?_
  · skip
    refine PV.regionN ?_
    refine PON.runs 4 (by kernel_rfl) ?_
    refine PON.norm ⟨(.agg (Schema.cells s) :: .agg (PNode.cells n) :: iv i :: po 0 :: po 1 :: U :: iv 0 :: U :: U :: U :: U :: po 1 :: iv n.op :: bv (decide (n.op < 1)) :: bv (decide (n.op < 1)) :: U9 (U9 (U9 (U9 (U9 (U9 (U9 (U9 (U9 ([U, U, U, U, U])))))))))), [.live ⟨2, [(Schema.cells s)], 33⟩, .live ⟨8, [(PNode.cells n)], 26⟩]⟩ (by kernel_rfl) ?_
    refine PON.splitP (n.op < 1) 14 (decide (n.op < 1)) (.agg (Schema.cells s) :: .agg (PNode.cells n) :: iv i :: po 0 :: po 1 :: U :: iv 0 :: U :: U :: U :: U :: po 1 :: iv n.op :: bv (decide (n.op < 1)) :: bv true :: U9 (U9 (U9 (U9 (U9 (U9 (U9 (U9 (U9 ([U, U, U, U, U])))))))))) (.agg (Schema.cells s) :: .agg (PNode.cells n) :: iv i :: po 0 :: po 1 :: U :: iv 0 :: U :: U :: U :: U :: po 1 :: iv n.op :: bv (decide (n.op < 1)) :: bv false :: U9 (U9 (U9 (U9 (U9 (U9 (U9 (U9 (U9 ([U, U, U, U, U])))))))))) (by kernel_rfl) decide_eq_true decide_eq_false (by kernel_rfl) (by kernel_rfl) (fun h3 => ?_) (fun h3 => ?_)
    · skip
      refine PON.runs 4 (by kernel_rfl) ?_
      refine PON.norm ⟨(.agg (Schema.cells s) :: .agg (PNode.cells n) :: iv i :: po 0 :: po 1 :: U :: iv 0 :: U :: U :: U :: U :: po 1 :: iv n.op :: bv (decide (n.op < 1)) :: bv true :: U :: U :: U :: bv true :: U9 (U9 (U9 (U9 (U9 (U9 (U9 (U9 (U9 ([U])))))))))), [.live ⟨2, [(Schema.cells s)], 33⟩, .live ⟨8, [(PNode.cells n)], 26⟩]⟩ (by kernel_rfl) ?_
      refine PON.fin rfl (thenA_normal ?_)
      exact ⟨rfl, rfl, (.cons (.tree (by simp only [NIs_cons, NIs_nil, NIr_cons, NIr_nil, NI_v, NI_any, NI_pO, NI_sO, NI_pF, NI_sF, NI_agg, NI_tup, NI_fn, NIh_nil, NIh_live, NIh_dead, NIh_free, NIr_map, NIr_append, NIs_icells, NIs_scells, NIs_bcells, NIs_Val, NIs_Col, NIs_Schema, NIs_PNode, NIs_Src, NIr_Val, NIr_Col, NIr_ints, NIr_PNode]; try simp)) (.cons (.tree (by simp only [NIs_cons, NIs_nil, NIr_cons, NIr_nil, NI_v, NI_any, NI_pO, NI_sO, NI_pF, NI_sF, NI_agg, NI_tup, NI_fn, NIh_nil, NIh_live, NIh_dead, NIh_free, NIr_map, NIr_append, NIs_icells, NIs_scells, NIs_bcells, NIs_Val, NIs_Col, NIs_Schema, NIs_PNode, NIs_Src, NIr_Val, NIr_Col, NIr_ints, NIr_PNode]; try simp)) (.v (.cons (.pO _ _ rfl) (.cons (.pO _ _ rfl) (.v (.v (.v (.v (.v (.v (.a4 (.any (.any (.any (.cons (.eq (.v _) (v_bool (by clear hret hK1 hK2 K0 K1 K2; (try simp only [strEq_dec]); grind))) (.v (.v (.v (.v (.v (.v (.v (.v (.v (.v (.v (.v (.v (.v (.v (.v (.v (.v (.v (.v (.v (.v (.v (.v (.v (.v (.v (.v (.v (.v (.v (.v (.v (.v (.v (.v (.v (.v (.v (.v (.v (.v (.v (.v (.v (.v (.v (.v (.v (.v (.v (.v (.v (.v (.v (.v (.v (.v (.v (.v (.v (.v (.v (.v (.v (.v (.v (.v (.v (.v (.v (.v (.v (.v (.v (.v (.v (.v (.v (.v (.v (.v .nil)))))))))))))))))))))))))))))))))))))))))))))))))))))))))))))))))))))))))))))))))))))))))))))))))), (.cons rfl (.tree (by simp only [NIs_cons, NIs_nil, NIr_cons, NIr_nil, NI_v, NI_any, NI_pO, NI_sO, NI_pF, NI_sF, NI_agg, NI_tup, NI_fn, NIh_nil, NIh_live, NIh_dead, NIh_free, NIr_map, NIr_append, NIs_icells, NIs_scells, NIs_bcells, NIs_Val, NIs_Col, NIs_Schema, NIs_PNode, NIs_Src, NIr_Val, NIr_Col, NIr_ints, NIr_PNode]; try simp)) (.cons rfl (.tree (by simp only [NIs_cons, NIs_nil, NIr_cons, NIr_nil, NI_v, NI_any, NI_pO, NI_sO, NI_pF, NI_sF, NI_agg, NI_tup, NI_fn, NIh_nil, NIh_live, NIh_dead, NIh_free, NIr_map, NIr_append, NIs_icells, NIs_scells, NIs_bcells, NIs_Val, NIs_Col, NIs_Schema, NIs_PNode, NIs_Src, NIr_Val, NIr_Col, NIr_ints, NIr_PNode]; try simp)) .nil))⟩
    refine PON.runs 4 (by kernel_rfl) ?_
    refine PON.norm ⟨(.agg (Schema.cells s) :: .agg (PNode.cells n) :: iv i :: po 0 :: po 1 :: U :: iv 0 :: U :: U :: U :: U :: po 1 :: iv n.op :: bv (decide (n.op < 1)) :: bv false :: po 1 :: iv n.op :: bv (decide (n.op > 11)) :: bv (decide (n.op > 11)) :: U9 (U9 (U9 (U9 (U9 (U9 (U9 (U9 (U9 ([U])))))))))), [.live ⟨2, [(Schema.cells s)], 33⟩, .live ⟨8, [(PNode.cells n)], 26⟩]⟩ (by kernel_rfl) ?_
    refine PON.fin rfl (thenA_normal ?_)
    exact ⟨rfl, rfl, (.cons (.tree (by simp only [NIs_cons, NIs_nil, NIr_cons, NIr_nil, NI_v, NI_any, NI_pO, NI_sO, NI_pF, NI_sF, NI_agg, NI_tup, NI_fn, NIh_nil, NIh_live, NIh_dead, NIh_free, NIr_map, NIr_append, NIs_icells, NIs_scells, NIs_bcells, NIs_Val, NIs_Col, NIs_Schema, NIs_PNode, NIs_Src, NIr_Val, NIr_Col, NIr_ints, NIr_PNode]; try simp)) (.cons (.tree (by simp only [NIs_cons, NIs_nil, NIr_cons, NIr_nil, NI_v, NI_any, NI_pO, NI_sO, NI_pF, NI_sF, NI_agg, NI_tup, NI_fn, NIh_nil, NIh_live, NIh_dead, NIh_free, NIr_map, NIr_append, NIs_icells, NIs_scells, NIs_bcells, NIs_Val, NIs_Col, NIs_Schema, NIs_PNode, NIs_Src, NIr_Val, NIr_Col, NIr_ints, NIr_PNode]; try simp)) (.v (.cons (.pO _ _ rfl) (.cons (.pO _ _ rfl) (.v (.v (.v (.v (.v (.v (.a4 (.any (.any (.any (.cons (.eq (.v _) (v_bool (by clear hret hK1 hK2 K0 K1 K2; (try simp only [strEq_dec]); grind))) (.v (.v (.v (.v (.v (.v (.v (.v (.v (.v (.v (.v (.v (.v (.v (.v (.v (.v (.v (.v (.v (.v (.v (.v (.v (.v (.v (.v (.v (.v (.v (.v (.v (.v (.v (.v (.v (.v (.v (.v (.v (.v (.v (.v (.v (.v (.v (.v (.v (.v (.v (.v (.v (.v (.v (.v (.v (.v (.v (.v (.v (.v (.v (.v (.v (.v (.v (.v (.v (.v (.v (.v (.v (.v (.v (.v (.v (.v (.v (.v (.v (.v .nil)))))))))))))))))))))))))))))))))))))))))))))))))))))))))))))))))))))))))))))))))))))))))))))))))), (.cons rfl (.tree (by simp only [NIs_cons, NIs_nil, NIr_cons, NIr_nil, NI_v, NI_any, NI_pO, NI_sO, NI_pF, NI_sF, NI_agg, NI_tup, NI_fn, NIh_nil, NIh_live, NIh_dead, NIh_free, NIr_map, NIr_append, NIs_icells, NIs_scells, NIs_bcells, NIs_Val, NIs_Col, NIs_Schema, NIs_PNode, NIs_Src, NIr_Val, NIr_Col, NIr_ints, NIr_PNode]; try simp)) (.cons rfl (.tree (by simp only [NIs_cons, NIs_nil, NIr_cons, NIr_nil, NI_v, NI_any, NI_pO, NI_sO, NI_pF, NI_sF, NI_agg, NI_tup, NI_fn, NIh_nil, NIh_live, NIh_dead, NIh_free, NIr_map, NIr_append, NIs_icells, NIs_scells, NIs_bcells, NIs_Val, NIs_Col, NIs_Schema, NIs_PNode, NIs_Src, NIr_Val, NIr_Col, NIr_ints, NIr_PNode]; try simp)) .nil))⟩
  refine PV.condP ((n.op < 1) ∨ (n.op > 11)) (decide ((n.op < 1) ∨ (n.op > 11))) (by kernel_rfl) decide_eq_true decide_eq_false (fun h4 => ?_) (fun h4 => ?_)
  · skip
    refine PV.seq_k fun K5 hK5 => ?_
    refine PV.regionN ?_
    refine PON.runs 1 (by kernel_rfl) ?_
    refine PON.fin rfl (thenA_normal (hK5 _ ?_))
    refine PV.norm ⟨(.agg (Schema.cells s) :: .agg (PNode.cells n) :: iv i :: po 0 :: po 1 :: U :: iv 1 :: U :: U :: U :: U :: A4 (A :: A :: A :: bv (decide ((n.op < 1) ∨ (n.op > 11))) :: U9 (U9 (U9 (U9 (U9 (U9 (U9 (U9 (U9 ([U]))))))))))), [.live ⟨2, [(Schema.cells s)], 33⟩, .live ⟨8, [(PNode.cells n)], 26⟩]⟩ (by kernel_rfl) ?_
    refine PV.ret (thenA_ret (hret .ret _ (iv 1) (.inr rfl) (by kernel_rfl) ?_))
    clear hret hK1 hK2 hK5 K0 K1 K2 K5
    show Tof noTau [.live ⟨2, [(Schema.cells s)], 33⟩, .live ⟨8, [(PNode.cells n)], 26⟩] (iv 1) (iv (nodeErr s i n))
    -- leaf 1
    refine Tof.int ?_
    first | grind [nodeErr, isLeaf, isCmp] | (have e : errFrom (fun _ v => vCheck (nullableCol s.columns[n.column.toNat]!) v) 0 n.list = vCheck (nullableCol s.columns[n.column.toNat]!) n.list[k.toNat]! := (by rw [he, drop_step _ _ (by omega), errFrom]; grind [nullableCol]); grind [nodeErr, nullableCol, isLeaf, isCmp]) | (rw [drop_end _ _ (by omega)] at he; grind [nodeErr, errFrom, isLeaf, isCmp])
  refine PV.skip (thenA_normal (hK2 _ ?_))
  refine PV.seq_k fun K6 hK6 => ?_
  refine PV.seq_k fun K7 hK7 => ?_
  refine PV.regionN ?_
  refine PON.runs 2 (by kernel_rfl) ?_
  refine PON.call 41 [iv n.op] (some 21) (pre := []) (post := []) (x := bv (isLeaf n.op)) _ (by kernel_rfl) (leaf_ok n.op) trivial rfl ?_
  refine PON.runs 1 (by kernel_rfl) ?_
  refine PON.fin rfl (thenA_normal (hK7 _ ?_))
  refine PV.condN ((isLeaf n.op) = true) (!(isLeaf n.op)) (by kernel_rfl) (fun h => bnot_t ((fun h => h) h)) (fun h => bnot_f (bool_ff h)) (fun h8 => ?_) (fun h8 => ?_)
  · skip
    refine PV.seq_k fun K9 hK9 => ?_
    refine PV.norm ⟨(.agg (Schema.cells s) :: .agg (PNode.cells n) :: iv i :: po 0 :: po 1 :: U :: iv 0 :: U :: U :: U :: U :: A4 (A :: A :: A :: bv (decide ((n.op < 1) ∨ (n.op > 11))) :: po 1 :: iv n.op :: bv (isLeaf n.op) :: bv (!(isLeaf n.op)) :: U9 (U9 (U9 (U9 (U9 (U9 (U9 (U9 ([U, U, U, U, U, U])))))))))), [.live ⟨2, [(Schema.cells s)], 33⟩, .live ⟨8, [(PNode.cells n)], 26⟩]⟩ (by kernel_rfl) ?_
    refine PV.seqR [0, 1] ⟨(.agg (Schema.cells s) :: .agg (PNode.cells n) :: iv i :: po 0 :: po 1 :: U :: iv 0 :: U :: U :: U :: U :: A4 (A :: A :: A :: bv (decide ((n.op < 1) ∨ (n.op > 11))) :: po 1 :: iv n.op :: bv (isLeaf n.op) :: bv (!(isLeaf n.op)) :: A9 (A9 (A4 (A :: A :: bv (decide ((n.a < 0) ∨ ((n.a ≥ i) ∨ (¬(n.op = 11) ∧ ((n.b < 0) ∨ (n.b ≥ i)))))) :: U9 (U9 (U9 (U9 (U9 ([U, U, U, U, U, U, U, U])))))))))), [.live ⟨2, [(Schema.cells s)], 33⟩, .live ⟨8, [(PNode.cells n)], 26⟩]⟩ ?_ ?_
    · skip
      refine PV.regionN ?_
      refine PON.runs 4 (by kernel_rfl) ?_
      refine PON.norm ⟨(.agg (Schema.cells s) :: .agg (PNode.cells n) :: iv i :: po 0 :: po 1 :: U :: iv 0 :: U :: U :: U :: U :: A4 (A :: A :: A :: bv (decide ((n.op < 1) ∨ (n.op > 11))) :: po 1 :: iv n.op :: bv (isLeaf n.op) :: bv (!(isLeaf n.op)) :: .pO 1 0 6 :: iv n.a :: bv (decide (n.a < 0)) :: bv (decide (n.a < 0)) :: U9 (U9 (U9 (U9 (U9 (U9 (U9 (U9 ([U, U])))))))))), [.live ⟨2, [(Schema.cells s)], 33⟩, .live ⟨8, [(PNode.cells n)], 26⟩]⟩ (by kernel_rfl) ?_
      refine PON.splitP (n.a < 0) 26 (decide (n.a < 0)) (.agg (Schema.cells s) :: .agg (PNode.cells n) :: iv i :: po 0 :: po 1 :: U :: iv 0 :: U :: U :: U :: U :: A4 (A :: A :: A :: bv (decide ((n.op < 1) ∨ (n.op > 11))) :: po 1 :: iv n.op :: bv (isLeaf n.op) :: bv (!(isLeaf n.op)) :: .pO 1 0 6 :: iv n.a :: bv (decide (n.a < 0)) :: bv true :: U9 (U9 (U9 (U9 (U9 (U9 (U9 (U9 ([U, U])))))))))) (.agg (Schema.cells s) :: .agg (PNode.cells n) :: iv i :: po 0 :: po 1 :: U :: iv 0 :: U :: U :: U :: U :: A4 (A :: A :: A :: bv (decide ((n.op < 1) ∨ (n.op > 11))) :: po 1 :: iv n.op :: bv (isLeaf n.op) :: bv (!(isLeaf n.op)) :: .pO 1 0 6 :: iv n.a :: bv (decide (n.a < 0)) :: bv false :: U9 (U9 (U9 (U9 (U9 (U9 (U9 (U9 ([U, U])))))))))) (by kernel_rfl) decide_eq_true decide_eq_false (by kernel_rfl) (by kernel_rfl) (fun h10 => ?_) (fun h10 => ?_)
      · skip
        refine PON.runs 21 (by kernel_rfl) ?_
        refine PON.norm ⟨(.agg (Schema.cells s) :: .agg (PNode.cells n) :: iv i :: po 0 :: po 1 :: U :: iv 0 :: U :: U :: U :: U :: A4 (A :: A :: A :: bv (decide ((n.op < 1) ∨ (n.op > 11))) :: po 1 :: iv n.op :: bv (isLeaf n.op) :: bv (!(isLeaf n.op)) :: .pO 1 0 6 :: iv n.a :: bv (decide (n.a < 0)) :: bv true :: U :: U :: U :: U :: bv true :: bv true :: U9 (U :: U :: U :: U :: U :: bv true :: U9 (U9 (U9 (U9 (U9 ([U, U, U, U, U, U, U, U])))))))), [.live ⟨2, [(Schema.cells s)], 33⟩, .live ⟨8, [(PNode.cells n)], 26⟩]⟩ (by kernel_rfl) ?_
        refine PON.fin rfl (thenA_normal ?_)
        exact ⟨rfl, rfl, (.cons (.tree (by simp only [NIs_cons, NIs_nil, NIr_cons, NIr_nil, NI_v, NI_any, NI_pO, NI_sO, NI_pF, NI_sF, NI_agg, NI_tup, NI_fn, NIh_nil, NIh_live, NIh_dead, NIh_free, NIr_map, NIr_append, NIs_icells, NIs_scells, NIs_bcells, NIs_Val, NIs_Col, NIs_Schema, NIs_PNode, NIs_Src, NIr_Val, NIr_Col, NIr_ints, NIr_PNode]; try simp)) (.cons (.tree (by simp only [NIs_cons, NIs_nil, NIr_cons, NIr_nil, NI_v, NI_any, NI_pO, NI_sO, NI_pF, NI_sF, NI_agg, NI_tup, NI_fn, NIh_nil, NIh_live, NIh_dead, NIh_free, NIr_map, NIr_append, NIs_icells, NIs_scells, NIs_bcells, NIs_Val, NIs_Col, NIs_Schema, NIs_PNode, NIs_Src, NIr_Val, NIr_Col, NIr_ints, NIr_PNode]; try simp)) (.v (.cons (.pO _ _ rfl) (.cons (.pO _ _ rfl) (.v (.v (.v (.v (.v (.v (.a4 (.any (.any (.any (.v (.cons (.pO _ _ rfl) (.v (.v (.v (.a9 (.a9 (.a4 (.any (.any (.cons (.eq (.v _) (v_bool (by clear hret hK1 hK2 hK6 hK7 hK9 K0 K1 K2 K6 K7 K9; (try simp only [strEq_dec]); grind))) (.v (.v (.v (.v (.v (.v (.v (.v (.v (.v (.v (.v (.v (.v (.v (.v (.v (.v (.v (.v (.v (.v (.v (.v (.v (.v (.v (.v (.v (.v (.v (.v (.v (.v (.v (.v (.v (.v (.v (.v (.v (.v (.v (.v (.v (.v (.v (.v (.v (.v (.v (.v (.v .nil))))))))))))))))))))))))))))))))))))))))))))))))))))))))))))))))))))))))))))))), (.cons rfl (.tree (by simp only [NIs_cons, NIs_nil, NIr_cons, NIr_nil, NI_v, NI_any, NI_pO, NI_sO, NI_pF, NI_sF, NI_agg, NI_tup, NI_fn, NIh_nil, NIh_live, NIh_dead, NIh_free, NIr_map, NIr_append, NIs_icells, NIs_scells, NIs_bcells, NIs_Val, NIs_Col, NIs_Schema, NIs_PNode, NIs_Src, NIr_Val, NIr_Col, NIr_ints, NIr_PNode]; try simp)) (.cons rfl (.tree (by simp only [NIs_cons, NIs_nil, NIr_cons, NIr_nil, NI_v, NI_any, NI_pO, NI_sO, NI_pF, NI_sF, NI_agg, NI_tup, NI_fn, NIh_nil, NIh_live, NIh_dead, NIh_free, NIr_map, NIr_append, NIs_icells, NIs_scells, NIs_bcells, NIs_Val, NIs_Col, NIs_Schema, NIs_PNode, NIs_Src, NIr_Val, NIr_Col, NIr_ints, NIr_PNode]; try simp)) .nil))⟩
      refine PON.runs 6 (by kernel_rfl) ?_
      refine PON.norm ⟨(.agg (Schema.cells s) :: .agg (PNode.cells n) :: iv i :: po 0 :: po 1 :: U :: iv 0 :: U :: U :: U :: U :: A4 (A :: A :: A :: bv (decide ((n.op < 1) ∨ (n.op > 11))) :: po 1 :: iv n.op :: bv (isLeaf n.op) :: bv (!(isLeaf n.op)) :: .pO 1 0 6 :: iv n.a :: bv (decide (n.a < 0)) :: bv false :: .pO 1 0 6 :: iv n.a :: iv i :: bv (decide (n.a ≥ i)) :: bv (decide (n.a ≥ i)) :: bv (decide (n.a ≥ i)) :: U9 (U9 (U9 (U9 (U9 (U9 (U9 ([U, U, U, U, U]))))))))), [.live ⟨2, [(Schema.cells s)], 33⟩, .live ⟨8, [(PNode.cells n)], 26⟩]⟩ (by kernel_rfl) ?_
      refine PON.splitP (n.a ≥ i) 32 (decide (n.a ≥ i)) (.agg (Schema.cells s) :: .agg (PNode.cells n) :: iv i :: po 0 :: po 1 :: U :: iv 0 :: U :: U :: U :: U :: A4 (A :: A :: A :: bv (decide ((n.op < 1) ∨ (n.op > 11))) :: po 1 :: iv n.op :: bv (isLeaf n.op) :: bv (!(isLeaf n.op)) :: .pO 1 0 6 :: iv n.a :: bv (decide (n.a < 0)) :: bv false :: .pO 1 0 6 :: iv n.a :: iv i :: bv (decide (n.a ≥ i)) :: bv (decide (n.a ≥ i)) :: bv true :: U9 (U9 (U9 (U9 (U9 (U9 (U9 ([U, U, U, U, U]))))))))) (.agg (Schema.cells s) :: .agg (PNode.cells n) :: iv i :: po 0 :: po 1 :: U :: iv 0 :: U :: U :: U :: U :: A4 (A :: A :: A :: bv (decide ((n.op < 1) ∨ (n.op > 11))) :: po 1 :: iv n.op :: bv (isLeaf n.op) :: bv (!(isLeaf n.op)) :: .pO 1 0 6 :: iv n.a :: bv (decide (n.a < 0)) :: bv false :: .pO 1 0 6 :: iv n.a :: iv i :: bv (decide (n.a ≥ i)) :: bv (decide (n.a ≥ i)) :: bv false :: U9 (U9 (U9 (U9 (U9 (U9 (U9 ([U, U, U, U, U]))))))))) (by kernel_rfl) decide_eq_true decide_eq_false (by kernel_rfl) (by kernel_rfl) (fun h11 => ?_) (fun h11 => ?_)
      · skip
        refine PON.runs 15 (by kernel_rfl) ?_
        refine PON.norm ⟨(.agg (Schema.cells s) :: .agg (PNode.cells n) :: iv i :: po 0 :: po 1 :: U :: iv 0 :: U :: U :: U :: U :: A4 (A :: A :: A :: bv (decide ((n.op < 1) ∨ (n.op > 11))) :: po 1 :: iv n.op :: bv (isLeaf n.op) :: bv (!(isLeaf n.op)) :: .pO 1 0 6 :: iv n.a :: bv (decide (n.a < 0)) :: bv false :: .pO 1 0 6 :: iv n.a :: iv i :: bv (decide (n.a ≥ i)) :: bv (decide (n.a ≥ i)) :: bv true :: U9 (U :: U :: U :: U :: U :: bv true :: U9 (U9 (U9 (U9 (U9 ([U, U, U, U, U, U, U, U])))))))), [.live ⟨2, [(Schema.cells s)], 33⟩, .live ⟨8, [(PNode.cells n)], 26⟩]⟩ (by kernel_rfl) ?_
        refine PON.fin rfl (thenA_normal ?_)
        exact ⟨rfl, rfl, (.cons (.tree (by simp only [NIs_cons, NIs_nil, NIr_cons, NIr_nil, NI_v, NI_any, NI_pO, NI_sO, NI_pF, NI_sF, NI_agg, NI_tup, NI_fn, NIh_nil, NIh_live, NIh_dead, NIh_free, NIr_map, NIr_append, NIs_icells, NIs_scells, NIs_bcells, NIs_Val, NIs_Col, NIs_Schema, NIs_PNode, NIs_Src, NIr_Val, NIr_Col, NIr_ints, NIr_PNode]; try simp)) (.cons (.tree (by simp only [NIs_cons, NIs_nil, NIr_cons, NIr_nil, NI_v, NI_any, NI_pO, NI_sO, NI_pF, NI_sF, NI_agg, NI_tup, NI_fn, NIh_nil, NIh_live, NIh_dead, NIh_free, NIr_map, NIr_append, NIs_icells, NIs_scells, NIs_bcells, NIs_Val, NIs_Col, NIs_Schema, NIs_PNode, NIs_Src, NIr_Val, NIr_Col, NIr_ints, NIr_PNode]; try simp)) (.v (.cons (.pO _ _ rfl) (.cons (.pO _ _ rfl) (.v (.v (.v (.v (.v (.v (.a4 (.any (.any (.any (.v (.cons (.pO _ _ rfl) (.v (.v (.v (.a9 (.a9 (.a4 (.any (.any (.cons (.eq (.v _) (v_bool (by clear hret hK1 hK2 hK6 hK7 hK9 K0 K1 K2 K6 K7 K9; (try simp only [strEq_dec]); grind))) (.v (.v (.v (.v (.v (.v (.v (.v (.v (.v (.v (.v (.v (.v (.v (.v (.v (.v (.v (.v (.v (.v (.v (.v (.v (.v (.v (.v (.v (.v (.v (.v (.v (.v (.v (.v (.v (.v (.v (.v (.v (.v (.v (.v (.v (.v (.v (.v (.v (.v (.v (.v (.v .nil))))))))))))))))))))))))))))))))))))))))))))))))))))))))))))))))))))))))))))))), (.cons rfl (.tree (by simp only [NIs_cons, NIs_nil, NIr_cons, NIr_nil, NI_v, NI_any, NI_pO, NI_sO, NI_pF, NI_sF, NI_agg, NI_tup, NI_fn, NIh_nil, NIh_live, NIh_dead, NIh_free, NIr_map, NIr_append, NIs_icells, NIs_scells, NIs_bcells, NIs_Val, NIs_Col, NIs_Schema, NIs_PNode, NIs_Src, NIr_Val, NIr_Col, NIr_ints, NIr_PNode]; try simp)) (.cons rfl (.tree (by simp only [NIs_cons, NIs_nil, NIr_cons, NIr_nil, NI_v, NI_any, NI_pO, NI_sO, NI_pF, NI_sF, NI_agg, NI_tup, NI_fn, NIh_nil, NIh_live, NIh_dead, NIh_free, NIr_map, NIr_append, NIs_icells, NIs_scells, NIs_bcells, NIs_Val, NIs_Col, NIs_Schema, NIs_PNode, NIs_Src, NIr_Val, NIr_Col, NIr_ints, NIr_PNode]; try simp)) .nil))⟩
      refine PON.runs 4 (by kernel_rfl) ?_
      refine PON.norm ⟨(.agg (Schema.cells s) :: .agg (PNode.cells n) :: iv i :: po 0 :: po 1 :: U :: iv 0 :: U :: U :: U :: U :: A4 (A :: A :: A :: bv (decide ((n.op < 1) ∨ (n.op > 11))) :: po 1 :: iv n.op :: bv (isLeaf n.op) :: bv (!(isLeaf n.op)) :: .pO 1 0 6 :: iv n.a :: bv (decide (n.a < 0)) :: bv false :: .pO 1 0 6 :: iv n.a :: iv i :: bv (decide (n.a ≥ i)) :: bv (decide (n.a ≥ i)) :: bv false :: po 1 :: iv n.op :: bv (!(decide (n.op = 11))) :: bv (!(decide (n.op = 11))) :: U9 (U9 (U9 (U9 (U9 (U9 (U9 ([U]))))))))), [.live ⟨2, [(Schema.cells s)], 33⟩, .live ⟨8, [(PNode.cells n)], 26⟩]⟩ (by kernel_rfl) ?_
      refine PON.splitN (n.op = 11) 36 (!(decide (n.op = 11))) (.agg (Schema.cells s) :: .agg (PNode.cells n) :: iv i :: po 0 :: po 1 :: U :: iv 0 :: U :: U :: U :: U :: A4 (A :: A :: A :: bv (decide ((n.op < 1) ∨ (n.op > 11))) :: po 1 :: iv n.op :: bv (isLeaf n.op) :: bv (!(isLeaf n.op)) :: .pO 1 0 6 :: iv n.a :: bv (decide (n.a < 0)) :: bv false :: .pO 1 0 6 :: iv n.a :: iv i :: bv (decide (n.a ≥ i)) :: bv (decide (n.a ≥ i)) :: bv false :: po 1 :: iv n.op :: bv (!(decide (n.op = 11))) :: bv false :: U9 (U9 (U9 (U9 (U9 (U9 (U9 ([U]))))))))) (.agg (Schema.cells s) :: .agg (PNode.cells n) :: iv i :: po 0 :: po 1 :: U :: iv 0 :: U :: U :: U :: U :: A4 (A :: A :: A :: bv (decide ((n.op < 1) ∨ (n.op > 11))) :: po 1 :: iv n.op :: bv (isLeaf n.op) :: bv (!(isLeaf n.op)) :: .pO 1 0 6 :: iv n.a :: bv (decide (n.a < 0)) :: bv false :: .pO 1 0 6 :: iv n.a :: iv i :: bv (decide (n.a ≥ i)) :: bv (decide (n.a ≥ i)) :: bv false :: po 1 :: iv n.op :: bv (!(decide (n.op = 11))) :: bv true :: U9 (U9 (U9 (U9 (U9 (U9 (U9 ([U]))))))))) (by kernel_rfl) (fun h => bnot_t (decide_eq_true h)) (fun h => bnot_f (decide_eq_false h)) (by kernel_rfl) (by kernel_rfl) (fun h12 => ?_) (fun h12 => ?_)
      · skip
        refine PON.runs 11 (by kernel_rfl) ?_
        refine PON.norm ⟨(.agg (Schema.cells s) :: .agg (PNode.cells n) :: iv i :: po 0 :: po 1 :: U :: iv 0 :: U :: U :: U :: U :: A4 (A :: A :: A :: bv (decide ((n.op < 1) ∨ (n.op > 11))) :: po 1 :: iv n.op :: bv (isLeaf n.op) :: bv (!(isLeaf n.op)) :: .pO 1 0 6 :: iv n.a :: bv (decide (n.a < 0)) :: bv false :: .pO 1 0 6 :: iv n.a :: iv i :: bv (decide (n.a ≥ i)) :: bv (decide (n.a ≥ i)) :: bv false :: po 1 :: iv n.op :: bv (!(decide (n.op = 11))) :: bv false :: U9 (bv false :: bv false :: U9 (U9 (U9 (U9 (U9 ([U, U, U, U, U, U, U, U])))))))), [.live ⟨2, [(Schema.cells s)], 33⟩, .live ⟨8, [(PNode.cells n)], 26⟩]⟩ (by kernel_rfl) ?_
        refine PON.fin rfl (thenA_normal ?_)
        exact ⟨rfl, rfl, (.cons (.tree (by simp only [NIs_cons, NIs_nil, NIr_cons, NIr_nil, NI_v, NI_any, NI_pO, NI_sO, NI_pF, NI_sF, NI_agg, NI_tup, NI_fn, NIh_nil, NIh_live, NIh_dead, NIh_free, NIr_map, NIr_append, NIs_icells, NIs_scells, NIs_bcells, NIs_Val, NIs_Col, NIs_Schema, NIs_PNode, NIs_Src, NIr_Val, NIr_Col, NIr_ints, NIr_PNode]; try simp)) (.cons (.tree (by simp only [NIs_cons, NIs_nil, NIr_cons, NIr_nil, NI_v, NI_any, NI_pO, NI_sO, NI_pF, NI_sF, NI_agg, NI_tup, NI_fn, NIh_nil, NIh_live, NIh_dead, NIh_free, NIr_map, NIr_append, NIs_icells, NIs_scells, NIs_bcells, NIs_Val, NIs_Col, NIs_Schema, NIs_PNode, NIs_Src, NIr_Val, NIr_Col, NIr_ints, NIr_PNode]; try simp)) (.v (.cons (.pO _ _ rfl) (.cons (.pO _ _ rfl) (.v (.v (.v (.v (.v (.v (.a4 (.any (.any (.any (.v (.cons (.pO _ _ rfl) (.v (.v (.v (.a9 (.a9 (.a4 (.any (.any (.cons (.eq (.v _) (v_bool (by clear hret hK1 hK2 hK6 hK7 hK9 K0 K1 K2 K6 K7 K9; (try simp only [strEq_dec]); grind))) (.v (.v (.v (.v (.v (.v (.v (.v (.v (.v (.v (.v (.v (.v (.v (.v (.v (.v (.v (.v (.v (.v (.v (.v (.v (.v (.v (.v (.v (.v (.v (.v (.v (.v (.v (.v (.v (.v (.v (.v (.v (.v (.v (.v (.v (.v (.v (.v (.v (.v (.v (.v (.v .nil))))))))))))))))))))))))))))))))))))))))))))))))))))))))))))))))))))))))))))))), (.cons rfl (.tree (by simp only [NIs_cons, NIs_nil, NIr_cons, NIr_nil, NI_v, NI_any, NI_pO, NI_sO, NI_pF, NI_sF, NI_agg, NI_tup, NI_fn, NIh_nil, NIh_live, NIh_dead, NIh_free, NIr_map, NIr_append, NIs_icells, NIs_scells, NIs_bcells, NIs_Val, NIs_Col, NIs_Schema, NIs_PNode, NIs_Src, NIr_Val, NIr_Col, NIr_ints, NIr_PNode]; try simp)) (.cons rfl (.tree (by simp only [NIs_cons, NIs_nil, NIr_cons, NIr_nil, NI_v, NI_any, NI_pO, NI_sO, NI_pF, NI_sF, NI_agg, NI_tup, NI_fn, NIh_nil, NIh_live, NIh_dead, NIh_free, NIr_map, NIr_append, NIs_icells, NIs_scells, NIs_bcells, NIs_Val, NIs_Col, NIs_Schema, NIs_PNode, NIs_Src, NIr_Val, NIr_Col, NIr_ints, NIr_PNode]; try simp)) .nil))⟩
      refine PON.runs 4 (by kernel_rfl) ?_
      refine PON.norm ⟨(.agg (Schema.cells s) :: .agg (PNode.cells n) :: iv i :: po 0 :: po 1 :: U :: iv 0 :: U :: U :: U :: U :: A4 (A :: A :: A :: bv (decide ((n.op < 1) ∨ (n.op > 11))) :: po 1 :: iv n.op :: bv (isLeaf n.op) :: bv (!(isLeaf n.op)) :: .pO 1 0 6 :: iv n.a :: bv (decide (n.a < 0)) :: bv false :: .pO 1 0 6 :: iv n.a :: iv i :: bv (decide (n.a ≥ i)) :: bv (decide (n.a ≥ i)) :: bv false :: po 1 :: iv n.op :: bv (!(decide (n.op = 11))) :: bv true :: .pO 1 0 7 :: iv n.b :: bv (decide (n.b < 0)) :: bv (decide (n.b < 0)) :: U9 (U9 (U9 (U9 (U9 (U9 ([U, U, U, U, U, U])))))))), [.live ⟨2, [(Schema.cells s)], 33⟩, .live ⟨8, [(PNode.cells n)], 26⟩]⟩ (by kernel_rfl) ?_
      refine PON.splitP (n.b < 0) 40 (decide (n.b < 0)) (.agg (Schema.cells s) :: .agg (PNode.cells n) :: iv i :: po 0 :: po 1 :: U :: iv 0 :: U :: U :: U :: U :: A4 (A :: A :: A :: bv (decide ((n.op < 1) ∨ (n.op > 11))) :: po 1 :: iv n.op :: bv (isLeaf n.op) :: bv (!(isLeaf n.op)) :: .pO 1 0 6 :: iv n.a :: bv (decide (n.a < 0)) :: bv false :: .pO 1 0 6 :: iv n.a :: iv i :: bv (decide (n.a ≥ i)) :: bv (decide (n.a ≥ i)) :: bv false :: po 1 :: iv n.op :: bv (!(decide (n.op = 11))) :: bv true :: .pO 1 0 7 :: iv n.b :: bv (decide (n.b < 0)) :: bv true :: U9 (U9 (U9 (U9 (U9 (U9 ([U, U, U, U, U, U])))))))) (.agg (Schema.cells s) :: .agg (PNode.cells n) :: iv i :: po 0 :: po 1 :: U :: iv 0 :: U :: U :: U :: U :: A4 (A :: A :: A :: bv (decide ((n.op < 1) ∨ (n.op > 11))) :: po 1 :: iv n.op :: bv (isLeaf n.op) :: bv (!(isLeaf n.op)) :: .pO 1 0 6 :: iv n.a :: bv (decide (n.a < 0)) :: bv false :: .pO 1 0 6 :: iv n.a :: iv i :: bv (decide (n.a ≥ i)) :: bv (decide (n.a ≥ i)) :: bv false :: po 1 :: iv n.op :: bv (!(decide (n.op = 11))) :: bv true :: .pO 1 0 7 :: iv n.b :: bv (decide (n.b < 0)) :: bv false :: U9 (U9 (U9 (U9 (U9 (U9 ([U, U, U, U, U, U])))))))) (by kernel_rfl) decide_eq_true decide_eq_false (by kernel_rfl) (by kernel_rfl) (fun h13 => ?_) (fun h13 => ?_)
      · skip
        refine PON.runs 7 (by kernel_rfl) ?_
        refine PON.norm ⟨(.agg (Schema.cells s) :: .agg (PNode.cells n) :: iv i :: po 0 :: po 1 :: U :: iv 0 :: U :: U :: U :: U :: A4 (A :: A :: A :: bv (decide ((n.op < 1) ∨ (n.op > 11))) :: po 1 :: iv n.op :: bv (isLeaf n.op) :: bv (!(isLeaf n.op)) :: .pO 1 0 6 :: iv n.a :: bv (decide (n.a < 0)) :: bv false :: .pO 1 0 6 :: iv n.a :: iv i :: bv (decide (n.a ≥ i)) :: bv (decide (n.a ≥ i)) :: bv false :: po 1 :: iv n.op :: bv (!(decide (n.op = 11))) :: bv true :: .pO 1 0 7 :: iv n.b :: bv (decide (n.b < 0)) :: bv true :: U :: U :: U :: U :: bv true :: bv true :: bv true :: U9 (U9 (U9 (U9 (U9 ([U, U, U, U, U, U, U, U]))))))), [.live ⟨2, [(Schema.cells s)], 33⟩, .live ⟨8, [(PNode.cells n)], 26⟩]⟩ (by kernel_rfl) ?_
        refine PON.fin rfl (thenA_normal ?_)
        exact ⟨rfl, rfl, (.cons (.tree (by simp only [NIs_cons, NIs_nil, NIr_cons, NIr_nil, NI_v, NI_any, NI_pO, NI_sO, NI_pF, NI_sF, NI_agg, NI_tup, NI_fn, NIh_nil, NIh_live, NIh_dead, NIh_free, NIr_map, NIr_append, NIs_icells, NIs_scells, NIs_bcells, NIs_Val, NIs_Col, NIs_Schema, NIs_PNode, NIs_Src, NIr_Val, NIr_Col, NIr_ints, NIr_PNode]; try simp)) (.cons (.tree (by simp only [NIs_cons, NIs_nil, NIr_cons, NIr_nil, NI_v, NI_any, NI_pO, NI_sO, NI_pF, NI_sF, NI_agg, NI_tup, NI_fn, NIh_nil, NIh_live, NIh_dead, NIh_free, NIr_map, NIr_append, NIs_icells, NIs_scells, NIs_bcells, NIs_Val, NIs_Col, NIs_Schema, NIs_PNode, NIs_Src, NIr_Val, NIr_Col, NIr_ints, NIr_PNode]; try simp)) (.v (.cons (.pO _ _ rfl) (.cons (.pO _ _ rfl) (.v (.v (.v (.v (.v (.v (.a4 (.any (.any (.any (.v (.cons (.pO _ _ rfl) (.v (.v (.v (.a9 (.a9 (.a4 (.any (.any (.cons (.eq (.v _) (v_bool (by clear hret hK1 hK2 hK6 hK7 hK9 K0 K1 K2 K6 K7 K9; (try simp only [strEq_dec]); grind))) (.v (.v (.v (.v (.v (.v (.v (.v (.v (.v (.v (.v (.v (.v (.v (.v (.v (.v (.v (.v (.v (.v (.v (.v (.v (.v (.v (.v (.v (.v (.v (.v (.v (.v (.v (.v (.v (.v (.v (.v (.v (.v (.v (.v (.v (.v (.v (.v (.v (.v (.v (.v (.v .nil))))))))))))))))))))))))))))))))))))))))))))))))))))))))))))))))))))))))))))))), (.cons rfl (.tree (by simp only [NIs_cons, NIs_nil, NIr_cons, NIr_nil, NI_v, NI_any, NI_pO, NI_sO, NI_pF, NI_sF, NI_agg, NI_tup, NI_fn, NIh_nil, NIh_live, NIh_dead, NIh_free, NIr_map, NIr_append, NIs_icells, NIs_scells, NIs_bcells, NIs_Val, NIs_Col, NIs_Schema, NIs_PNode, NIs_Src, NIr_Val, NIr_Col, NIr_ints, NIr_PNode]; try simp)) (.cons rfl (.tree (by simp only [NIs_cons, NIs_nil, NIr_cons, NIr_nil, NI_v, NI_any, NI_pO, NI_sO, NI_pF, NI_sF, NI_agg, NI_tup, NI_fn, NIh_nil, NIh_live, NIh_dead, NIh_free, NIr_map, NIr_append, NIs_icells, NIs_scells, NIs_bcells, NIs_Val, NIs_Col, NIs_Schema, NIs_PNode, NIs_Src, NIr_Val, NIr_Col, NIr_ints, NIr_PNode]; try simp)) .nil))⟩
      refine PON.runs 7 (by kernel_rfl) ?_
      refine PON.norm ⟨(.agg (Schema.cells s) :: .agg (PNode.cells n) :: iv i :: po 0 :: po 1 :: U :: iv 0 :: U :: U :: U :: U :: A4 (A :: A :: A :: bv (decide ((n.op < 1) ∨ (n.op > 11))) :: po 1 :: iv n.op :: bv (isLeaf n.op) :: bv (!(isLeaf n.op)) :: .pO 1 0 6 :: iv n.a :: bv (decide (n.a < 0)) :: bv false :: .pO 1 0 6 :: iv n.a :: iv i :: bv (decide (n.a ≥ i)) :: bv (decide (n.a ≥ i)) :: bv false :: po 1 :: iv n.op :: bv (!(decide (n.op = 11))) :: bv true :: .pO 1 0 7 :: iv n.b :: bv (decide (n.b < 0)) :: bv false :: .pO 1 0 7 :: iv n.b :: iv i :: bv (decide (n.b ≥ i)) :: bv (decide (n.b ≥ i)) :: bv (decide (n.b ≥ i)) :: bv (decide (n.b ≥ i)) :: U9 (U9 (U9 (U9 (U9 ([U, U, U, U, U, U, U, U]))))))), [.live ⟨2, [(Schema.cells s)], 33⟩, .live ⟨8, [(PNode.cells n)], 26⟩]⟩ (by kernel_rfl) ?_
      refine PON.fin rfl (thenA_normal ?_)
      exact ⟨rfl, rfl, (.cons (.tree (by simp only [NIs_cons, NIs_nil, NIr_cons, NIr_nil, NI_v, NI_any, NI_pO, NI_sO, NI_pF, NI_sF, NI_agg, NI_tup, NI_fn, NIh_nil, NIh_live, NIh_dead, NIh_free, NIr_map, NIr_append, NIs_icells, NIs_scells, NIs_bcells, NIs_Val, NIs_Col, NIs_Schema, NIs_PNode, NIs_Src, NIr_Val, NIr_Col, NIr_ints, NIr_PNode]; try simp)) (.cons (.tree (by simp only [NIs_cons, NIs_nil, NIr_cons, NIr_nil, NI_v, NI_any, NI_pO, NI_sO, NI_pF, NI_sF, NI_agg, NI_tup, NI_fn, NIh_nil, NIh_live, NIh_dead, NIh_free, NIr_map, NIr_append, NIs_icells, NIs_scells, NIs_bcells, NIs_Val, NIs_Col, NIs_Schema, NIs_PNode, NIs_Src, NIr_Val, NIr_Col, NIr_ints, NIr_PNode]; try simp)) (.v (.cons (.pO _ _ rfl) (.cons (.pO _ _ rfl) (.v (.v (.v (.v (.v (.v (.a4 (.any (.any (.any (.v (.cons (.pO _ _ rfl) (.v (.v (.v (.a9 (.a9 (.a4 (.any (.any (.cons (.eq (.v _) (v_bool (by clear hret hK1 hK2 hK6 hK7 hK9 K0 K1 K2 K6 K7 K9; (try simp only [strEq_dec]); grind))) (.v (.v (.v (.v (.v (.v (.v (.v (.v (.v (.v (.v (.v (.v (.v (.v (.v (.v (.v (.v (.v (.v (.v (.v (.v (.v (.v (.v (.v (.v (.v (.v (.v (.v (.v (.v (.v (.v (.v (.v (.v (.v (.v (.v (.v (.v (.v (.v (.v (.v (.v (.v (.v .nil))))))))))))))))))))))))))))))))))))))))))))))))))))))))))))))))))))))))))))))), (.cons rfl (.tree (by simp only [NIs_cons, NIs_nil, NIr_cons, NIr_nil, NI_v, NI_any, NI_pO, NI_sO, NI_pF, NI_sF, NI_agg, NI_tup, NI_fn, NIh_nil, NIh_live, NIh_dead, NIh_free, NIr_map, NIr_append, NIs_icells, NIs_scells, NIs_bcells, NIs_Val, NIs_Col, NIs_Schema, NIs_PNode, NIs_Src, NIr_Val, NIr_Col, NIr_ints, NIr_PNode]; try simp)) (.cons rfl (.tree (by simp only [NIs_cons, NIs_nil, NIr_cons, NIr_nil, NI_v, NI_any, NI_pO, NI_sO, NI_pF, NI_sF, NI_agg, NI_tup, NI_fn, NIh_nil, NIh_live, NIh_dead, NIh_free, NIr_map, NIr_append, NIs_icells, NIs_scells, NIs_bcells, NIs_Val, NIs_Col, NIs_Schema, NIs_PNode, NIs_Src, NIr_Val, NIr_Col, NIr_ints, NIr_PNode]; try simp)) .nil))⟩
    refine PV.condP ((n.a < 0) ∨ ((n.a ≥ i) ∨ (¬(n.op = 11) ∧ ((n.b < 0) ∨ (n.b ≥ i))))) (decide ((n.a < 0) ∨ ((n.a ≥ i) ∨ (¬(n.op = 11) ∧ ((n.b < 0) ∨ (n.b ≥ i)))))) (by kernel_rfl) decide_eq_true decide_eq_false (fun h14 => ?_) (fun h14 => ?_)
    · skip
      refine PV.seq_k fun K15 hK15 => ?_
      refine PV.regionN ?_
      refine PON.runs 1 (by kernel_rfl) ?_
      refine PON.fin rfl (thenA_normal (hK15 _ ?_))
      refine PV.norm ⟨(.agg (Schema.cells s) :: .agg (PNode.cells n) :: iv i :: po 0 :: po 1 :: U :: iv 4 :: U :: U :: U :: U :: A4 (A :: A :: A :: bv (decide ((n.op < 1) ∨ (n.op > 11))) :: po 1 :: iv n.op :: bv (isLeaf n.op) :: bv (!(isLeaf n.op)) :: A9 (A9 (A4 (A :: A :: bv (decide ((n.a < 0) ∨ ((n.a ≥ i) ∨ (¬(n.op = 11) ∧ ((n.b < 0) ∨ (n.b ≥ i)))))) :: U9 (U9 (U9 (U9 (U9 ([U, U, U, U, U, U, U, U])))))))))), [.live ⟨2, [(Schema.cells s)], 33⟩, .live ⟨8, [(PNode.cells n)], 26⟩]⟩ (by kernel_rfl) ?_
      refine PV.ret (thenA_ret (thenA_ret (hret .ret _ (iv 4) (.inr rfl) (by kernel_rfl) ?_)))
      clear hret hK1 hK2 hK6 hK7 hK9 hK15 K0 K1 K2 K6 K7 K9 K15
      show Tof noTau [.live ⟨2, [(Schema.cells s)], 33⟩, .live ⟨8, [(PNode.cells n)], 26⟩] (iv 4) (iv (nodeErr s i n))
      -- leaf 2
      refine Tof.int ?_
      first | grind [nodeErr, isLeaf, isCmp] | (have e : errFrom (fun _ v => vCheck (nullableCol s.columns[n.column.toNat]!) v) 0 n.list = vCheck (nullableCol s.columns[n.column.toNat]!) n.list[k.toNat]! := (by rw [he, drop_step _ _ (by omega), errFrom]; grind [nullableCol]); grind [nodeErr, nullableCol, isLeaf, isCmp]) | (rw [drop_end _ _ (by omega)] at he; grind [nodeErr, errFrom, isLeaf, isCmp])
    refine PV.skip (thenA_normal (hK9 _ ?_))
    refine PV.seq_k fun K16 hK16 => ?_
    refine PV.regionN ?_
    refine PON.runs 1 (by kernel_rfl) ?_
    refine PON.fin rfl (thenA_normal (hK16 _ ?_))
    refine PV.norm ⟨(.agg (Schema.cells s) :: .agg (PNode.cells n) :: iv i :: po 0 :: po 1 :: U :: iv 0 :: U :: U :: U :: U :: A4 (A :: A :: A :: bv (decide ((n.op < 1) ∨ (n.op > 11))) :: po 1 :: iv n.op :: bv (isLeaf n.op) :: bv (!(isLeaf n.op)) :: A9 (A9 (A4 (A :: A :: bv (decide ((n.a < 0) ∨ ((n.a ≥ i) ∨ (¬(n.op = 11) ∧ ((n.b < 0) ∨ (n.b ≥ i)))))) :: U9 (U9 (U9 (U9 (U9 ([U, U, U, U, U, U, U, U])))))))))), [.live ⟨2, [(Schema.cells s)], 33⟩, .live ⟨8, [(PNode.cells n)], 26⟩]⟩ (by kernel_rfl) ?_
    refine PV.ret (thenA_ret (hret .ret _ (iv 0) (.inr rfl) (by kernel_rfl) ?_))
    clear hret hK1 hK2 hK6 hK7 hK9 hK16 K0 K1 K2 K6 K7 K9 K16
    show Tof noTau [.live ⟨2, [(Schema.cells s)], 33⟩, .live ⟨8, [(PNode.cells n)], 26⟩] (iv 0) (iv (nodeErr s i n))
    -- leaf 3
    refine Tof.int ?_
    first | grind [nodeErr, isLeaf, isCmp] | (have e : errFrom (fun _ v => vCheck (nullableCol s.columns[n.column.toNat]!) v) 0 n.list = vCheck (nullableCol s.columns[n.column.toNat]!) n.list[k.toNat]! := (by rw [he, drop_step _ _ (by omega), errFrom]; grind [nullableCol]); grind [nodeErr, nullableCol, isLeaf, isCmp]) | (rw [drop_end _ _ (by omega)] at he; grind [nodeErr, errFrom, isLeaf, isCmp])
  refine PV.skip (thenA_normal (hK6 _ ?_))
  refine PV.seq_k fun K17 hK17 => ?_
  refine PV.norm ⟨(.agg (Schema.cells s) :: .agg (PNode.cells n) :: iv i :: po 0 :: po 1 :: U :: iv 0 :: U :: U :: U :: U :: A4 (A :: A :: A :: bv (decide ((n.op < 1) ∨ (n.op > 11))) :: po 1 :: iv n.op :: bv (isLeaf n.op) :: bv (!(isLeaf n.op)) :: U9 (U9 (U9 (U9 (U9 (U9 (U9 (U9 ([U, U, U, U, U, U])))))))))), [.live ⟨2, [(Schema.cells s)], 33⟩, .live ⟨8, [(PNode.cells n)], 26⟩]⟩ (by kernel_rfl) ?_
  refine PV.seqR [0, 1] ⟨(.agg (Schema.cells s) :: .agg (PNode.cells n) :: iv i :: po 0 :: po 1 :: U :: iv 0 :: U :: U :: U :: U :: A4 (A :: A :: A :: bv (decide ((n.op < 1) ∨ (n.op > 11))) :: po 1 :: iv n.op :: bv (isLeaf n.op) :: bv (!(isLeaf n.op)) :: U9 (U9 (U :: U :: U :: U :: U :: U :: U :: A9 (A :: bv (decide ((n.column < 0) ∨ (n.column ≥ (s.columns.length : Int)))) :: U9 (U9 (U9 (U9 ([U, U, U, U, U, U]))))))))), [.live ⟨2, [(Schema.cells s)], 33⟩, .live ⟨8, [(PNode.cells n)], 26⟩]⟩ ?_ ?_
  · skip
    refine PV.regionN ?_
    refine PON.runs 4 (by kernel_rfl) ?_
    refine PON.norm ⟨(.agg (Schema.cells s) :: .agg (PNode.cells n) :: iv i :: po 0 :: po 1 :: U :: iv 0 :: U :: U :: U :: U :: A4 (A :: A :: A :: bv (decide ((n.op < 1) ∨ (n.op > 11))) :: po 1 :: iv n.op :: bv (isLeaf n.op) :: bv (!(isLeaf n.op)) :: U9 (U9 (U :: U :: U :: U :: U :: U :: U :: .pO 1 0 1 :: iv n.column :: bv (decide (n.column < 0)) :: bv (decide (n.column < 0)) :: U9 (U9 (U9 (U9 (U9 ([U, U, U, U]))))))))), [.live ⟨2, [(Schema.cells s)], 33⟩, .live ⟨8, [(PNode.cells n)], 26⟩]⟩ (by kernel_rfl) ?_
    refine PON.splitP (n.column < 0) 51 (decide (n.column < 0)) (.agg (Schema.cells s) :: .agg (PNode.cells n) :: iv i :: po 0 :: po 1 :: U :: iv 0 :: U :: U :: U :: U :: A4 (A :: A :: A :: bv (decide ((n.op < 1) ∨ (n.op > 11))) :: po 1 :: iv n.op :: bv (isLeaf n.op) :: bv (!(isLeaf n.op)) :: U9 (U9 (U :: U :: U :: U :: U :: U :: U :: .pO 1 0 1 :: iv n.column :: bv (decide (n.column < 0)) :: bv true :: U9 (U9 (U9 (U9 (U9 ([U, U, U, U]))))))))) (.agg (Schema.cells s) :: .agg (PNode.cells n) :: iv i :: po 0 :: po 1 :: U :: iv 0 :: U :: U :: U :: U :: A4 (A :: A :: A :: bv (decide ((n.op < 1) ∨ (n.op > 11))) :: po 1 :: iv n.op :: bv (isLeaf n.op) :: bv (!(isLeaf n.op)) :: U9 (U9 (U :: U :: U :: U :: U :: U :: U :: .pO 1 0 1 :: iv n.column :: bv (decide (n.column < 0)) :: bv false :: U9 (U9 (U9 (U9 (U9 ([U, U, U, U]))))))))) (by kernel_rfl) decide_eq_true decide_eq_false (by kernel_rfl) (by kernel_rfl) (fun h18 => ?_) (fun h18 => ?_)
    · skip
      refine PON.runs 7 (by kernel_rfl) ?_
      refine PON.norm ⟨(.agg (Schema.cells s) :: .agg (PNode.cells n) :: iv i :: po 0 :: po 1 :: U :: iv 0 :: U :: U :: U :: U :: A4 (A :: A :: A :: bv (decide ((n.op < 1) ∨ (n.op > 11))) :: po 1 :: iv n.op :: bv (isLeaf n.op) :: bv (!(isLeaf n.op)) :: U9 (U9 (U :: U :: U :: U :: U :: U :: U :: .pO 1 0 1 :: iv n.column :: bv (decide (n.column < 0)) :: bv true :: U :: U :: U :: U :: U :: U :: bv true :: U9 (U9 (U9 (U9 ([U, U, U, U, U, U])))))))), [.live ⟨2, [(Schema.cells s)], 33⟩, .live ⟨8, [(PNode.cells n)], 26⟩]⟩ (by kernel_rfl) ?_
      refine PON.fin rfl (thenA_normal ?_)
      exact ⟨rfl, rfl, (.cons (.tree (by simp only [NIs_cons, NIs_nil, NIr_cons, NIr_nil, NI_v, NI_any, NI_pO, NI_sO, NI_pF, NI_sF, NI_agg, NI_tup, NI_fn, NIh_nil, NIh_live, NIh_dead, NIh_free, NIr_map, NIr_append, NIs_icells, NIs_scells, NIs_bcells, NIs_Val, NIs_Col, NIs_Schema, NIs_PNode, NIs_Src, NIr_Val, NIr_Col, NIr_ints, NIr_PNode]; try simp)) (.cons (.tree (by simp only [NIs_cons, NIs_nil, NIr_cons, NIr_nil, NI_v, NI_any, NI_pO, NI_sO, NI_pF, NI_sF, NI_agg, NI_tup, NI_fn, NIh_nil, NIh_live, NIh_dead, NIh_free, NIr_map, NIr_append, NIs_icells, NIs_scells, NIs_bcells, NIs_Val, NIs_Col, NIs_Schema, NIs_PNode, NIs_Src, NIr_Val, NIr_Col, NIr_ints, NIr_PNode]; try simp)) (.v (.cons (.pO _ _ rfl) (.cons (.pO _ _ rfl) (.v (.v (.v (.v (.v (.v (.a4 (.any (.any (.any (.v (.cons (.pO _ _ rfl) (.v (.v (.v (.v (.v (.v (.v (.v (.v (.v (.v (.v (.v (.v (.v (.v (.v (.v (.v (.v (.v (.v (.v (.v (.v (.v (.v (.v (.a9 (.any (.cons (.eq (.v _) (v_bool (by clear hret hK1 hK2 hK6 hK7 hK17 K0 K1 K2 K6 K7 K17; (try simp only [strEq_dec]); grind))) (.v (.v (.v (.v (.v (.v (.v (.v (.v (.v (.v (.v (.v (.v (.v (.v (.v (.v (.v (.v (.v (.v (.v (.v (.v (.v (.v (.v (.v (.v (.v (.v (.v (.v (.v (.v (.v (.v (.v (.v (.v (.v .nil)))))))))))))))))))))))))))))))))))))))))))))))))))))))))))))))))))))))))))))))))))))))))), (.cons rfl (.tree (by simp only [NIs_cons, NIs_nil, NIr_cons, NIr_nil, NI_v, NI_any, NI_pO, NI_sO, NI_pF, NI_sF, NI_agg, NI_tup, NI_fn, NIh_nil, NIh_live, NIh_dead, NIh_free, NIr_map, NIr_append, NIs_icells, NIs_scells, NIs_bcells, NIs_Val, NIs_Col, NIs_Schema, NIs_PNode, NIs_Src, NIr_Val, NIr_Col, NIr_ints, NIr_PNode]; try simp)) (.cons rfl (.tree (by simp only [NIs_cons, NIs_nil, NIr_cons, NIr_nil, NI_v, NI_any, NI_pO, NI_sO, NI_pF, NI_sF, NI_agg, NI_tup, NI_fn, NIh_nil, NIh_live, NIh_dead, NIh_free, NIr_map, NIr_append, NIs_icells, NIs_scells, NIs_bcells, NIs_Val, NIs_Col, NIs_Schema, NIs_PNode, NIs_Src, NIr_Val, NIr_Col, NIr_ints, NIr_PNode]; try simp)) .nil))⟩
    refine PON.runs 4 (by kernel_rfl) ?_
    refine PON.ops (aLen_map Try.prog [.live ⟨2, [(Schema.cells s)], 33⟩, .live ⟨8, [(PNode.cells n)], 26⟩] 31 47 (by kernel_rfl) 4 Col.cells s.columns) (by kernel_rfl) (by kernel_rfl) ?_
    refine PON.runs 2 (by kernel_rfl) ?_
    refine PON.norm ⟨(.agg (Schema.cells s) :: .agg (PNode.cells n) :: iv i :: po 0 :: po 1 :: U :: iv 0 :: U :: U :: U :: U :: A4 (A :: A :: A :: bv (decide ((n.op < 1) ∨ (n.op > 11))) :: po 1 :: iv n.op :: bv (isLeaf n.op) :: bv (!(isLeaf n.op)) :: U9 (U9 (U :: U :: U :: U :: U :: U :: U :: .pO 1 0 1 :: iv n.column :: bv (decide (n.column < 0)) :: bv false :: .pO 1 0 1 :: iv n.column :: po 0 :: .sF 4 (s.columns.map Col.cells) :: iv (s.columns.length : Int) :: bv (decide (n.column ≥ (s.columns.length : Int))) :: bv (decide (n.column ≥ (s.columns.length : Int))) :: U9 (U9 (U9 (U9 ([U, U, U, U, U, U])))))))), [.live ⟨2, [(Schema.cells s)], 33⟩, .live ⟨8, [(PNode.cells n)], 26⟩]⟩ (by kernel_rfl) ?_
    refine PON.fin rfl (thenA_normal ?_)
    exact ⟨rfl, rfl, (.cons (.tree (by simp only [NIs_cons, NIs_nil, NIr_cons, NIr_nil, NI_v, NI_any, NI_pO, NI_sO, NI_pF, NI_sF, NI_agg, NI_tup, NI_fn, NIh_nil, NIh_live, NIh_dead, NIh_free, NIr_map, NIr_append, NIs_icells, NIs_scells, NIs_bcells, NIs_Val, NIs_Col, NIs_Schema, NIs_PNode, NIs_Src, NIr_Val, NIr_Col, NIr_ints, NIr_PNode]; try simp)) (.cons (.tree (by simp only [NIs_cons, NIs_nil, NIr_cons, NIr_nil, NI_v, NI_any, NI_pO, NI_sO, NI_pF, NI_sF, NI_agg, NI_tup, NI_fn, NIh_nil, NIh_live, NIh_dead, NIh_free, NIr_map, NIr_append, NIs_icells, NIs_scells, NIs_bcells, NIs_Val, NIs_Col, NIs_Schema, NIs_PNode, NIs_Src, NIr_Val, NIr_Col, NIr_ints, NIr_PNode]; try simp)) (.v (.cons (.pO _ _ rfl) (.cons (.pO _ _ rfl) (.v (.v (.v (.v (.v (.v (.a4 (.any (.any (.any (.v (.cons (.pO _ _ rfl) (.v (.v (.v (.v (.v (.v (.v (.v (.v (.v (.v (.v (.v (.v (.v (.v (.v (.v (.v (.v (.v (.v (.v (.v (.v (.v (.v (.v (.a9 (.any (.cons (.eq (.v _) (v_bool (by clear hret hK1 hK2 hK6 hK7 hK17 K0 K1 K2 K6 K7 K17; (try simp only [strEq_dec]); grind))) (.v (.v (.v (.v (.v (.v (.v (.v (.v (.v (.v (.v (.v (.v (.v (.v (.v (.v (.v (.v (.v (.v (.v (.v (.v (.v (.v (.v (.v (.v (.v (.v (.v (.v (.v (.v (.v (.v (.v (.v (.v (.v .nil)))))))))))))))))))))))))))))))))))))))))))))))))))))))))))))))))))))))))))))))))))))))))), (.cons rfl (.tree (by simp only [NIs_cons, NIs_nil, NIr_cons, NIr_nil, NI_v, NI_any, NI_pO, NI_sO, NI_pF, NI_sF, NI_agg, NI_tup, NI_fn, NIh_nil, NIh_live, NIh_dead, NIh_free, NIr_map, NIr_append, NIs_icells, NIs_scells, NIs_bcells, NIs_Val, NIs_Col, NIs_Schema, NIs_PNode, NIs_Src, NIr_Val, NIr_Col, NIr_ints, NIr_PNode]; try simp)) (.cons rfl (.tree (by simp only [NIs_cons, NIs_nil, NIr_cons, NIr_nil, NI_v, NI_any, NI_pO, NI_sO, NI_pF, NI_sF, NI_agg, NI_tup, NI_fn, NIh_nil, NIh_live, NIh_dead, NIh_free, NIr_map, NIr_append, NIs_icells, NIs_scells, NIs_bcells, NIs_Val, NIs_Col, NIs_Schema, NIs_PNode, NIs_Src, NIr_Val, NIr_Col, NIr_ints, NIr_PNode]; try simp)) .nil))⟩
  refine PV.condP ((n.column < 0) ∨ (n.column ≥ (s.columns.length : Int))) (decide ((n.column < 0) ∨ (n.column ≥ (s.columns.length : Int)))) (by kernel_rfl) decide_eq_true decide_eq_false (fun h19 => ?_) (fun h19 => ?_)
  · skip
    refine PV.seq_k fun K20 hK20 => ?_
    refine PV.regionN ?_
    refine PON.runs 1 (by kernel_rfl) ?_
    refine PON.fin rfl (thenA_normal (hK20 _ ?_))
    refine PV.norm ⟨(.agg (Schema.cells s) :: .agg (PNode.cells n) :: iv i :: po 0 :: po 1 :: U :: iv 4 :: U :: U :: U :: U :: A4 (A :: A :: A :: bv (decide ((n.op < 1) ∨ (n.op > 11))) :: po 1 :: iv n.op :: bv (isLeaf n.op) :: bv (!(isLeaf n.op)) :: U9 (U9 (U :: U :: U :: U :: U :: U :: U :: A9 (A :: bv (decide ((n.column < 0) ∨ (n.column ≥ (s.columns.length : Int)))) :: U9 (U9 (U9 (U9 ([U, U, U, U, U, U]))))))))), [.live ⟨2, [(Schema.cells s)], 33⟩, .live ⟨8, [(PNode.cells n)], 26⟩]⟩ (by kernel_rfl) ?_
    refine PV.ret (thenA_ret (hret .ret _ (iv 4) (.inr rfl) (by kernel_rfl) ?_))
    clear hret hK1 hK2 hK6 hK7 hK17 hK20 K0 K1 K2 K6 K7 K17 K20
    show Tof noTau [.live ⟨2, [(Schema.cells s)], 33⟩, .live ⟨8, [(PNode.cells n)], 26⟩] (iv 4) (iv (nodeErr s i n))
    -- leaf 4
    refine Tof.int ?_
    first | grind [nodeErr, isLeaf, isCmp] | (have e : errFrom (fun _ v => vCheck (nullableCol s.columns[n.column.toNat]!) v) 0 n.list = vCheck (nullableCol s.columns[n.column.toNat]!) n.list[k.toNat]! := (by rw [he, drop_step _ _ (by omega), errFrom]; grind [nullableCol]); grind [nodeErr, nullableCol, isLeaf, isCmp]) | (rw [drop_end _ _ (by omega)] at he; grind [nodeErr, errFrom, isLeaf, isCmp])
  refine PV.skip (thenA_normal (hK17 _ ?_))
  refine PV.seq_k fun K21 hK21 => ?_
  refine PV.regionN ?_
  refine PON.runs 4 (by kernel_rfl) ?_
  refine PON.ops (aIndexAddr_map Try.prog [.live ⟨2, [(Schema.cells s)], 33⟩, .live ⟨8, [(PNode.cells n)], 26⟩] 31 47 4 Col.cells (by kernel_rfl) (by kernel_rfl) s.columns .i64 n.column (by first | omega | grind [isLeaf, isCmp])) (by kernel_rfl) (by kernel_rfl) ?_
  refine PON.runs 3 (by kernel_rfl) ?_
  refine PON.fin rfl (thenA_normal (hK21 _ ?_))
  refine PV.seq_k fun K22 hK22 => ?_
  refine PV.seq_k fun K23 hK23 => ?_
  refine PV.regionN ?_
  refine PON.runs 2 (by kernel_rfl) ?_
  refine PON.call 52 [iv n.op] (some 67) (pre := []) (post := []) (x := bv (isCmp n.op)) _ (by kernel_rfl) (comparison_ok n.op) trivial rfl ?_
  refine PON.fin rfl (thenA_normal (hK23 _ ?_))
  refine PV.condP ((isCmp n.op) = true) (isCmp n.op) (by kernel_rfl) (fun h => h) bool_ff (fun h24 => ?_) (fun h24 => ?_)
  · skip
    refine PV.seq_k fun K25 hK25 => ?_
    refine PV.seq_k fun K26 hK26 => ?_
    refine PV.regionN ?_
    refine PON.runs 3 (by kernel_rfl) ?_
    refine PON.fin rfl (thenA_normal (hK26 _ ?_))
    refine PV.condP (n.value.null = true) n.value.null (by kernel_rfl) (fun h => h) bool_ff (fun h27 => ?_) (fun h27 => ?_)
    · skip
      refine PV.seq_k fun K28 hK28 => ?_
      refine PV.regionN ?_
      refine PON.runs 1 (by kernel_rfl) ?_
      refine PON.fin rfl (thenA_normal (hK28 _ ?_))
      refine PV.norm ⟨(.agg (Schema.cells s) :: .agg (PNode.cells n) :: iv i :: po 0 :: po 1 :: U :: iv 12 :: po 2 :: U :: U :: U :: A4 (A :: A :: A :: bv (decide ((n.op < 1) ∨ (n.op > 11))) :: po 1 :: iv n.op :: bv (isLeaf n.op) :: bv (!(isLeaf n.op)) :: U9 (U9 (U :: U :: U :: U :: U :: U :: U :: A9 (A :: bv (decide ((n.column < 0) ∨ (n.column ≥ (s.columns.length : Int)))) :: po 0 :: .sF 4 (s.columns.map Col.cells) :: .pO 1 0 1 :: iv n.column :: .pF (Col.cells (s.columns[n.column.toNat]!)) 0 :: .agg (Col.cells (s.columns[n.column.toNat]!)) :: po 1 :: iv n.op :: bv (isCmp n.op) :: .pO 1 0 2 :: .pO 1 0 2 :: bv n.value.null :: U9 (U9 (U9 ([U, U, U])))))))), [.live ⟨2, [(Schema.cells s)], 33⟩, .live ⟨8, [(PNode.cells n)], 26⟩, .live ⟨4, [(Col.cells (s.columns[n.column.toNat]!))], 47⟩]⟩ (by kernel_rfl) ?_
      refine PV.ret (thenA_ret (thenA_ret (hret .ret _ (iv 12) (.inr rfl) (by kernel_rfl) ?_)))
      clear hret hK1 hK2 hK6 hK7 hK17 hK21 hK22 hK23 hK25 hK26 hK28 K0 K1 K2 K6 K7 K17 K21 K22 K23 K25 K26 K28
      show Tof noTau [.live ⟨2, [(Schema.cells s)], 33⟩, .live ⟨8, [(PNode.cells n)], 26⟩, .live ⟨4, [(Col.cells (s.columns[n.column.toNat]!))], 47⟩] (iv 12) (iv (nodeErr s i n))
      -- leaf 5
      refine Tof.int ?_
      first | grind [nodeErr, isLeaf, isCmp] | (have e : errFrom (fun _ v => vCheck (nullableCol s.columns[n.column.toNat]!) v) 0 n.list = vCheck (nullableCol s.columns[n.column.toNat]!) n.list[k.toNat]! := (by rw [he, drop_step _ _ (by omega), errFrom]; grind [nullableCol]); grind [nodeErr, nullableCol, isLeaf, isCmp]) | (rw [drop_end _ _ (by omega)] at he; grind [nodeErr, errFrom, isLeaf, isCmp])
    refine PV.skip (thenA_normal (hK25 _ ?_))
    refine PV.seq_k fun K29 hK29 => ?_
    refine PV.regionN ?_
    refine PON.runs 3 (by kernel_rfl) ?_
    refine PON.call 53 [.agg (Col.cells (s.columns[n.column.toNat]!)), .agg (Val.cells n.value)] (some 74) (pre := []) (post := []) (x := iv (vCheck (s.columns[n.column.toNat]!) n.value)) _ (by kernel_rfl) (rCheck_ok (s.columns[n.column.toNat]!) n.value) trivial rfl ?_
    refine PON.runs 1 (by kernel_rfl) ?_
    refine PON.fin rfl (thenA_normal (hK29 _ ?_))
    refine PV.norm ⟨(.agg (Schema.cells s) :: .agg (PNode.cells n) :: iv i :: po 0 :: po 1 :: U :: iv (vCheck (s.columns[n.column.toNat]!) n.value) :: po 2 :: U :: U :: U :: A4 (A :: A :: A :: bv (decide ((n.op < 1) ∨ (n.op > 11))) :: po 1 :: iv n.op :: bv (isLeaf n.op) :: bv (!(isLeaf n.op)) :: U9 (U9 (U :: U :: U :: U :: U :: U :: U :: A9 (A :: bv (decide ((n.column < 0) ∨ (n.column ≥ (s.columns.length : Int)))) :: po 0 :: .sF 4 (s.columns.map Col.cells) :: .pO 1 0 1 :: iv n.column :: .pF (Col.cells (s.columns[n.column.toNat]!)) 0 :: .agg (Col.cells (s.columns[n.column.toNat]!)) :: po 1 :: iv n.op :: bv (isCmp n.op) :: .pO 1 0 2 :: .pO 1 0 2 :: bv n.value.null :: .agg (Col.cells (s.columns[n.column.toNat]!)) :: .pO 1 0 2 :: .agg (Val.cells n.value) :: iv (vCheck (s.columns[n.column.toNat]!) n.value) :: U9 (U9 ([U, U, U, U, U, U, U, U]))))))), [.live ⟨2, [(Schema.cells s)], 33⟩, .live ⟨8, [(PNode.cells n)], 26⟩, .live ⟨4, [(Col.cells (s.columns[n.column.toNat]!))], 47⟩]⟩ (by kernel_rfl) ?_
    refine PV.ret (thenA_ret (hret .ret _ (iv (vCheck (s.columns[n.column.toNat]!) n.value)) (.inr rfl) (by kernel_rfl) ?_))
    clear hret hK1 hK2 hK6 hK7 hK17 hK21 hK22 hK23 hK25 hK26 hK29 K0 K1 K2 K6 K7 K17 K21 K22 K23 K25 K26 K29
    show Tof noTau [.live ⟨2, [(Schema.cells s)], 33⟩, .live ⟨8, [(PNode.cells n)], 26⟩, .live ⟨4, [(Col.cells (s.columns[n.column.toNat]!))], 47⟩] (iv (vCheck (s.columns[n.column.toNat]!) n.value)) (iv (nodeErr s i n))
    -- leaf 6
    refine Tof.int ?_
    first | grind [nodeErr, isLeaf, isCmp] | (have e : errFrom (fun _ v => vCheck (nullableCol s.columns[n.column.toNat]!) v) 0 n.list = vCheck (nullableCol s.columns[n.column.toNat]!) n.list[k.toNat]! := (by rw [he, drop_step _ _ (by omega), errFrom]; grind [nullableCol]); grind [nodeErr, nullableCol, isLeaf, isCmp]) | (rw [drop_end _ _ (by omega)] at he; grind [nodeErr, errFrom, isLeaf, isCmp])
  refine PV.skip (thenA_normal (hK22 _ ?_))
  refine PV.seq_k fun K30 hK30 => ?_
  refine PV.seq_k fun K31 hK31 => ?_
  refine PV.regionN ?_
  refine PON.runs 3 (by kernel_rfl) ?_
  refine PON.fin rfl (thenA_normal (hK31 _ ?_))
  refine PV.condP (n.op = 8) (decide (n.op = 8)) (by kernel_rfl) decide_eq_true decide_eq_false (fun h32 => ?_) (fun h32 => ?_)
  · skip
    refine PV.seq_k fun K33 hK33 => ?_
    refine PV.regionN ?_
    refine PON.runs 1 (by kernel_rfl) ?_
    refine PON.fin rfl (thenA_normal (hK33 _ ?_))
    refine PV.norm ⟨(.agg (Schema.cells s) :: .agg (PNode.cells n) :: iv i :: po 0 :: po 1 :: U :: iv 0 :: po 2 :: U :: U :: U :: A4 (A :: A :: A :: bv (decide ((n.op < 1) ∨ (n.op > 11))) :: po 1 :: iv n.op :: bv (isLeaf n.op) :: bv (!(isLeaf n.op)) :: U9 (U9 (U :: U :: U :: U :: U :: U :: U :: A9 (A :: bv (decide ((n.column < 0) ∨ (n.column ≥ (s.columns.length : Int)))) :: po 0 :: .sF 4 (s.columns.map Col.cells) :: .pO 1 0 1 :: iv n.column :: .pF (Col.cells (s.columns[n.column.toNat]!)) 0 :: .agg (Col.cells (s.columns[n.column.toNat]!)) :: po 1 :: iv n.op :: bv (isCmp n.op) :: U :: U :: U :: U :: U :: U :: U :: po 1 :: iv n.op :: bv (decide (n.op = 8)) :: U9 (U9 ([U, U, U, U, U]))))))), [.live ⟨2, [(Schema.cells s)], 33⟩, .live ⟨8, [(PNode.cells n)], 26⟩, .live ⟨4, [(Col.cells (s.columns[n.column.toNat]!))], 47⟩]⟩ (by kernel_rfl) ?_
    refine PV.ret (thenA_ret (hret .ret _ (iv 0) (.inr rfl) (by kernel_rfl) ?_))
    clear hret hK1 hK2 hK6 hK7 hK17 hK21 hK22 hK23 hK30 hK31 hK33 K0 K1 K2 K6 K7 K17 K21 K22 K23 K30 K31 K33
    show Tof noTau [.live ⟨2, [(Schema.cells s)], 33⟩, .live ⟨8, [(PNode.cells n)], 26⟩, .live ⟨4, [(Col.cells (s.columns[n.column.toNat]!))], 47⟩] (iv 0) (iv (nodeErr s i n))
    -- leaf 7
    refine Tof.int ?_
    first | grind [nodeErr, isLeaf, isCmp] | (have e : errFrom (fun _ v => vCheck (nullableCol s.columns[n.column.toNat]!) v) 0 n.list = vCheck (nullableCol s.columns[n.column.toNat]!) n.list[k.toNat]! := (by rw [he, drop_step _ _ (by omega), errFrom]; grind [nullableCol]); grind [nodeErr, nullableCol, isLeaf, isCmp]) | (rw [drop_end _ _ (by omega)] at he; grind [nodeErr, errFrom, isLeaf, isCmp])
  refine PV.skip (thenA_normal (hK30 _ ?_))
  refine PV.seq_k fun K34 hK34 => ?_
  refine PV.seq_k fun K35 hK35 => ?_
  refine PV.regionN ?_
  refine PON.runs 2 (by kernel_rfl) ?_
  refine PON.ops (aLen_map Try.prog [.live ⟨2, [(Schema.cells s)], 33⟩, .live ⟨8, [(PNode.cells n)], 26⟩, .live ⟨4, [(Col.cells (s.columns[n.column.toNat]!))], 47⟩] 24 23 (by kernel_rfl) 3 Val.cells n.list) (by kernel_rfl) (by kernel_rfl) ?_
  refine PON.runs 1 (by kernel_rfl) ?_
  refine PON.fin rfl (thenA_normal (hK35 _ ?_))
  refine PV.condP ((n.list.length : Int) = 0) (decide ((n.list.length : Int) = 0)) (by kernel_rfl) decide_eq_true decide_eq_false (fun h36 => ?_) (fun h36 => ?_)
  · skip
    refine PV.seq_k fun K37 hK37 => ?_
    refine PV.regionN ?_
    refine PON.runs 1 (by kernel_rfl) ?_
    refine PON.fin rfl (thenA_normal (hK37 _ ?_))
    refine PV.norm ⟨(.agg (Schema.cells s) :: .agg (PNode.cells n) :: iv i :: po 0 :: po 1 :: U :: iv 1 :: po 2 :: U :: U :: U :: A4 (A :: A :: A :: bv (decide ((n.op < 1) ∨ (n.op > 11))) :: po 1 :: iv n.op :: bv (isLeaf n.op) :: bv (!(isLeaf n.op)) :: U9 (U9 (U :: U :: U :: U :: U :: U :: U :: A9 (A :: bv (decide ((n.column < 0) ∨ (n.column ≥ (s.columns.length : Int)))) :: po 0 :: .sF 4 (s.columns.map Col.cells) :: .pO 1 0 1 :: iv n.column :: .pF (Col.cells (s.columns[n.column.toNat]!)) 0 :: .agg (Col.cells (s.columns[n.column.toNat]!)) :: po 1 :: iv n.op :: bv (isCmp n.op) :: U :: U :: U :: U :: U :: U :: U :: po 1 :: iv n.op :: bv (decide (n.op = 8)) :: .pO 1 0 5 :: .sF 3 (n.list.map Val.cells) :: iv (n.list.length : Int) :: bv (decide ((n.list.length : Int) = 0)) :: U9 (U9 ([U]))))))), [.live ⟨2, [(Schema.cells s)], 33⟩, .live ⟨8, [(PNode.cells n)], 26⟩, .live ⟨4, [(Col.cells (s.columns[n.column.toNat]!))], 47⟩]⟩ (by kernel_rfl) ?_
    refine PV.ret (thenA_ret (hret .ret _ (iv 1) (.inr rfl) (by kernel_rfl) ?_))
    clear hret hK1 hK2 hK6 hK7 hK17 hK21 hK22 hK23 hK30 hK31 hK34 hK35 hK37 K0 K1 K2 K6 K7 K17 K21 K22 K23 K30 K31 K34 K35 K37
    show Tof noTau [.live ⟨2, [(Schema.cells s)], 33⟩, .live ⟨8, [(PNode.cells n)], 26⟩, .live ⟨4, [(Col.cells (s.columns[n.column.toNat]!))], 47⟩] (iv 1) (iv (nodeErr s i n))
    -- leaf 8
    refine Tof.int ?_
    first | grind [nodeErr, isLeaf, isCmp] | (have e : errFrom (fun _ v => vCheck (nullableCol s.columns[n.column.toNat]!) v) 0 n.list = vCheck (nullableCol s.columns[n.column.toNat]!) n.list[k.toNat]! := (by rw [he, drop_step _ _ (by omega), errFrom]; grind [nullableCol]); grind [nodeErr, nullableCol, isLeaf, isCmp]) | (rw [drop_end _ _ (by omega)] at he; grind [nodeErr, errFrom, isLeaf, isCmp])
  refine PV.skip (thenA_normal (hK34 _ ?_))
  refine PV.seq_k fun K38 hK38 => ?_
  refine PV.seq_k fun K39 hK39 => ?_
  refine PV.regionN ?_
  refine PON.runs 2 (by kernel_rfl) ?_
  refine PON.ops (aLen_map Try.prog [.live ⟨2, [(Schema.cells s)], 33⟩, .live ⟨8, [(PNode.cells n)], 26⟩, .live ⟨4, [(Col.cells (s.columns[n.column.toNat]!))], 47⟩] 24 23 (by kernel_rfl) 3 Val.cells n.list) (by kernel_rfl) (by kernel_rfl) ?_
  refine PON.runs 1 (by kernel_rfl) ?_
  refine PON.fin rfl (thenA_normal (hK39 _ ?_))
  refine PV.condP ((n.list.length : Int) > 16) (decide ((n.list.length : Int) > 16)) (by kernel_rfl) decide_eq_true decide_eq_false (fun h40 => ?_) (fun h40 => ?_)
  · skip
    refine PV.seq_k fun K41 hK41 => ?_
    refine PV.regionN ?_
    refine PON.runs 1 (by kernel_rfl) ?_
    refine PON.fin rfl (thenA_normal (hK41 _ ?_))
    refine PV.norm ⟨(.agg (Schema.cells s) :: .agg (PNode.cells n) :: iv i :: po 0 :: po 1 :: U :: iv 7 :: po 2 :: U :: U :: U :: A4 (A :: A :: A :: bv (decide ((n.op < 1) ∨ (n.op > 11))) :: po 1 :: iv n.op :: bv (isLeaf n.op) :: bv (!(isLeaf n.op)) :: U9 (U9 (U :: U :: U :: U :: U :: U :: U :: A9 (A :: bv (decide ((n.column < 0) ∨ (n.column ≥ (s.columns.length : Int)))) :: po 0 :: .sF 4 (s.columns.map Col.cells) :: .pO 1 0 1 :: iv n.column :: .pF (Col.cells (s.columns[n.column.toNat]!)) 0 :: .agg (Col.cells (s.columns[n.column.toNat]!)) :: po 1 :: iv n.op :: bv (isCmp n.op) :: U :: U :: U :: U :: U :: U :: U :: po 1 :: iv n.op :: bv (decide (n.op = 8)) :: .pO 1 0 5 :: .sF 3 (n.list.map Val.cells) :: iv (n.list.length : Int) :: bv (decide ((n.list.length : Int) = 0)) :: .pO 1 0 5 :: .sF 3 (n.list.map Val.cells) :: iv (n.list.length : Int) :: bv (decide ((n.list.length : Int) > 16)) :: U9 ([U, U, U, U, U, U])))))), [.live ⟨2, [(Schema.cells s)], 33⟩, .live ⟨8, [(PNode.cells n)], 26⟩, .live ⟨4, [(Col.cells (s.columns[n.column.toNat]!))], 47⟩]⟩ (by kernel_rfl) ?_
    refine PV.ret (thenA_ret (hret .ret _ (iv 7) (.inr rfl) (by kernel_rfl) ?_))
    clear hret hK1 hK2 hK6 hK7 hK17 hK21 hK22 hK23 hK30 hK31 hK34 hK35 hK38 hK39 hK41 K0 K1 K2 K6 K7 K17 K21 K22 K23 K30 K31 K34 K35 K38 K39 K41
    show Tof noTau [.live ⟨2, [(Schema.cells s)], 33⟩, .live ⟨8, [(PNode.cells n)], 26⟩, .live ⟨4, [(Col.cells (s.columns[n.column.toNat]!))], 47⟩] (iv 7) (iv (nodeErr s i n))
    -- leaf 9
    refine Tof.int ?_
    first | grind [nodeErr, isLeaf, isCmp] | (have e : errFrom (fun _ v => vCheck (nullableCol s.columns[n.column.toNat]!) v) 0 n.list = vCheck (nullableCol s.columns[n.column.toNat]!) n.list[k.toNat]! := (by rw [he, drop_step _ _ (by omega), errFrom]; grind [nullableCol]); grind [nodeErr, nullableCol, isLeaf, isCmp]) | (rw [drop_end _ _ (by omega)] at he; grind [nodeErr, errFrom, isLeaf, isCmp])
  refine PV.skip (thenA_normal (hK38 _ ?_))
  refine PV.seq_k fun K42 hK42 => ?_
  refine PV.seq_k fun K43 hK43 => ?_
  refine PV.regionN ?_
  refine PON.runs 2 (by kernel_rfl) ?_
  refine PON.ops (aLen_map Try.prog [.live ⟨2, [(Schema.cells s)], 33⟩, .live ⟨8, [(PNode.cells n)], 26⟩, .live ⟨4, [(Col.cells (s.columns[n.column.toNat]!))], 47⟩] 24 23 (by kernel_rfl) 3 Val.cells n.list) (by kernel_rfl) (by kernel_rfl) ?_
  refine PON.runs 1 (by kernel_rfl) ?_
  refine PON.fin rfl (thenA_normal (hK43 _ ?_))
  refine PV.block ?_
  refine PV.norm ⟨(.agg (Schema.cells s) :: .agg (PNode.cells n) :: iv i :: po 0 :: po 1 :: U :: iv 0 :: po 2 :: U :: U :: U :: A4 (A :: A :: A :: bv (decide ((n.op < 1) ∨ (n.op > 11))) :: po 1 :: iv n.op :: bv (isLeaf n.op) :: bv (!(isLeaf n.op)) :: U9 (U9 (U :: U :: U :: U :: U :: U :: U :: A9 (A :: bv (decide ((n.column < 0) ∨ (n.column ≥ (s.columns.length : Int)))) :: po 0 :: .sF 4 (s.columns.map Col.cells) :: .pO 1 0 1 :: iv n.column :: .pF (Col.cells (s.columns[n.column.toNat]!)) 0 :: .agg (Col.cells (s.columns[n.column.toNat]!)) :: po 1 :: iv n.op :: bv (isCmp n.op) :: U :: U :: U :: U :: U :: U :: U :: po 1 :: iv n.op :: bv (decide (n.op = 8)) :: .pO 1 0 5 :: .sF 3 (n.list.map Val.cells) :: iv (n.list.length : Int) :: bv (decide ((n.list.length : Int) = 0)) :: .pO 1 0 5 :: .sF 3 (n.list.map Val.cells) :: iv (n.list.length : Int) :: bv (decide ((n.list.length : Int) > 16)) :: .pO 1 0 5 :: .sF 3 (n.list.map Val.cells) :: iv (n.list.length : Int) :: iv 0 :: U9 ([U, U])))))), [.live ⟨2, [(Schema.cells s)], 33⟩, .live ⟨8, [(PNode.cells n)], 26⟩, .live ⟨4, [(Col.cells (s.columns[n.column.toNat]!))], 47⟩]⟩ (by kernel_rfl) ?_
  refine PV.loopR (α := Int) (fun xL => let k := xL; (⟨(A4 (A :: A :: A :: po 2 :: A9 (A9 (A9 (A9 (A9 (A9 (A9 (A9 (A4 (A :: A :: A :: .sF 3 (n.list.map Val.cells) :: iv (n.list.length : Int) :: iv k :: A9 ([A, A])))))))))))), [.live ⟨2, [(Schema.cells s)], 33⟩, .live ⟨8, [(PNode.cells n)], 26⟩, .live ⟨4, [(Col.cells (s.columns[n.column.toNat]!))], 47⟩]⟩ : St)) (fun xL => let k := xL; (0 ≤ k ∧ k ≤ n.list.length) ∧ (errFrom (fun _ v => vCheck (nullableCol s.columns[n.column.toNat]!) v) 0 n.list = errFrom (fun _ v => vCheck (nullableCol s.columns[n.column.toNat]!) v) k (n.list.drop k.toNat))) (fun xL => let k := xL; ((n.list.length : Int) - k).toNat) [0, 1, 2] (0 : Int) ⟨rfl, rfl, (.a4 (.any (.any (.any (.cons (.pO _ _ rfl) (.a9 (.a9 (.a9 (.a9 (.a9 (.a9 (.a9 (.a9 (.a4 (.any (.any (.any (.cons (.tree (by simp only [NIs_cons, NIs_nil, NIr_cons, NIr_nil, NI_v, NI_any, NI_pO, NI_sO, NI_pF, NI_sF, NI_agg, NI_tup, NI_fn, NIh_nil, NIh_live, NIh_dead, NIh_free, NIr_map, NIr_append, NIs_icells, NIs_scells, NIs_bcells, NIs_Val, NIs_Col, NIs_Schema, NIs_PNode, NIs_Src, NIr_Val, NIr_Col, NIr_ints, NIr_PNode]; try simp)) (.v (.v (.a9 (.any (.any .nil))))))))))))))))))))))), (.cons rfl (.tree (by simp only [NIs_cons, NIs_nil, NIr_cons, NIr_nil, NI_v, NI_any, NI_pO, NI_sO, NI_pF, NI_sF, NI_agg, NI_tup, NI_fn, NIh_nil, NIh_live, NIh_dead, NIh_free, NIr_map, NIr_append, NIs_icells, NIs_scells, NIs_bcells, NIs_Val, NIs_Col, NIs_Schema, NIs_PNode, NIs_Src, NIr_Val, NIr_Col, NIr_ints, NIr_PNode]; try simp)) (.cons rfl (.tree (by simp only [NIs_cons, NIs_nil, NIr_cons, NIr_nil, NI_v, NI_any, NI_pO, NI_sO, NI_pF, NI_sF, NI_agg, NI_tup, NI_fn, NIh_nil, NIh_live, NIh_dead, NIh_free, NIr_map, NIr_append, NIs_icells, NIs_scells, NIs_bcells, NIs_Val, NIs_Col, NIs_Schema, NIs_PNode, NIs_Src, NIr_Val, NIr_Col, NIr_ints, NIr_PNode]; try simp)) (.cons rfl (.tree (by simp only [NIs_cons, NIs_nil, NIr_cons, NIr_nil, NI_v, NI_any, NI_pO, NI_sO, NI_pF, NI_sF, NI_agg, NI_tup, NI_fn, NIh_nil, NIh_live, NIh_dead, NIh_free, NIr_map, NIr_append, NIs_icells, NIs_scells, NIs_bcells, NIs_Val, NIs_Col, NIs_Schema, NIs_PNode, NIs_Src, NIr_Val, NIr_Col, NIr_ints, NIr_PNode]; try simp)) .nil)))⟩ ?_ ?_
  · skip
    clear hret hK1 hK2 hK6 hK7 hK17 hK21 hK22 hK23 hK30 hK31 hK34 hK35 hK38 hK39 hK42 hK43 K0 K1 K2 K6 K7 K17 K21 K22 K23 K30 K31 K34 K35 K38 K39 K42 K43
    refine ⟨?_, ?_⟩
    · skip
      show 0 ≤ (0 : Int) ∧ (0 : Int) ≤ n.list.length
      simp
    · skip
      show errFrom (fun _ v => vCheck (nullableCol s.columns[n.column.toNat]!) v) 0 n.list = errFrom (fun _ v => vCheck (nullableCol s.columns[n.column.toNat]!) v) (0 : Int) (n.list.drop (0 : Int).toNat)
      simp
  rintro k hJ
  change (0 ≤ k ∧ k ≤ n.list.length) ∧ (errFrom (fun _ v => vCheck (nullableCol s.columns[n.column.toNat]!) v) 0 n.list = errFrom (fun _ v => vCheck (nullableCol s.columns[n.column.toNat]!) v) k (n.list.drop k.toNat)) at hJ
  obtain ⟨hk, he⟩ := hJ
  show PV _ Try.prog _ ⟨(A4 (A :: A :: A :: po 2 :: A9 (A9 (A9 (A9 (A9 (A9 (A9 (A9 (A4 (A :: A :: A :: .sF 3 (n.list.map Val.cells) :: iv (n.list.length : Int) :: iv k :: A9 ([A, A])))))))))))), [.live ⟨2, [(Schema.cells s)], 33⟩, .live ⟨8, [(PNode.cells n)], 26⟩, .live ⟨4, [(Col.cells (s.columns[n.column.toNat]!))], 47⟩]⟩ _
  refine PV.seq_k fun K44 hK44 => ?_
  refine PV.regionN ?_
  refine PON.runs 1 (by kernel_rfl) ?_
  refine PON.fin rfl (thenA_normal (hK44 _ ?_))
  refine PV.seq_k fun K45 hK45 => ?_
  refine PV.condP (k < (n.list.length : Int)) (decide (k < (n.list.length : Int))) (by kernel_rfl) decide_eq_true decide_eq_false (fun h46 => ?_) (fun h46 => ?_)
  · skip
    refine PV.skip (thenA_normal (hK45 _ ?_))
    refine PV.seq_k fun K47 hK47 => ?_
    refine PV.block ?_
    refine PV.seq_k fun K48 hK48 => ?_
    refine PV.regionN ?_
    refine PON.ops (aIndexAddr_map Try.prog [.live ⟨2, [(Schema.cells s)], 33⟩, .live ⟨8, [(PNode.cells n)], 26⟩, .live ⟨4, [(Col.cells (s.columns[n.column.toNat]!))], 47⟩] 24 23 3 Val.cells (by kernel_rfl) (by kernel_rfl) n.list .i64 k (by first | omega | grind [isLeaf, isCmp])) (by kernel_rfl) (by kernel_rfl) ?_
    refine PON.runs 3 (by kernel_rfl) ?_
    refine PON.fin rfl (thenA_normal (hK48 _ ?_))
    refine PV.norm ⟨(A4 (A :: A :: A :: po 2 :: A :: po 3 :: A9 (A9 (A9 (A9 (A9 (A9 (A9 (A9 (A4 (A :: .sF 3 (n.list.map Val.cells) :: iv (n.list.length : Int) :: iv k :: bv (decide (k < (n.list.length : Int))) :: .pF (Val.cells (n.list[k.toNat]!)) 0 :: .agg (Val.cells (n.list[k.toNat]!)) :: A4 (A4 ([]))))))))))))), [.live ⟨2, [(Schema.cells s)], 33⟩, .live ⟨8, [(PNode.cells n)], 26⟩, .live ⟨4, [(Col.cells (s.columns[n.column.toNat]!))], 47⟩, .live ⟨3, [(Val.cells (n.list[k.toNat]!))], 23⟩]⟩ (by kernel_rfl) ?_
    refine PV.seqR [0, 1, 2, 3] ⟨(A4 (A :: A :: A :: po 2 :: A :: po 3 :: iv (vCheck (nullableCol (s.columns[n.column.toNat]!)) (n.list[k.toNat]!)) :: A9 (A9 (A9 (A9 (A9 (A9 (A9 (A9 (A4 (.sF 3 (n.list.map Val.cells) :: iv (n.list.length : Int) :: iv k :: bv (decide (k < (n.list.length : Int))) :: .pF (Val.cells (n.list[k.toNat]!)) 0 :: .agg (Val.cells (n.list[k.toNat]!)) :: A4 (A4 ([]))))))))))))), [.live ⟨2, [(Schema.cells s)], 33⟩, .live ⟨8, [(PNode.cells n)], 26⟩, .live ⟨4, [(Col.cells (s.columns[n.column.toNat]!))], 47⟩, .live ⟨3, [(Val.cells (n.list[k.toNat]!))], 23⟩]⟩ ?_ ?_
    · skip
      refine PV.drawnG mixed (by kernel_rfl) ?_
      refine DRG.runs 1 (by kernel_rfl) ?_
      refine DRG.call 54 [.agg (Col.cells (s.columns[n.column.toNat]!))] (some 94) (pre := []) (post := []) (x := .agg (Col.cells (nullableCol (s.columns[n.column.toNat]!)))) _ (by kernel_rfl) (nullable_ok (s.columns[n.column.toNat]!)) trivial rfl ?_
      refine DRG.runs 1 (by kernel_rfl) ?_
      refine DRG.call 53 [.agg (Col.cells (nullableCol (s.columns[n.column.toNat]!))), .agg (Val.cells (n.list[k.toNat]!))] (some 96) (pre := []) (post := []) (x := iv (vCheck (nullableCol (s.columns[n.column.toNat]!)) (n.list[k.toNat]!))) _ (by kernel_rfl) (rCheck_ok (nullableCol (s.columns[n.column.toNat]!)) (n.list[k.toNat]!)) trivial rfl ?_
      refine DRG.runs 1 (by kernel_rfl) ?_
      refine DRG.norm ⟨(A4 (A :: A :: A :: po 2 :: A :: po 3 :: iv (vCheck (nullableCol (s.columns[n.column.toNat]!)) (n.list[k.toNat]!)) :: A9 (A9 (A9 (A9 (A9 (A9 (A9 (A9 (A4 (.sF 3 (n.list.map Val.cells) :: iv (n.list.length : Int) :: iv k :: bv (decide (k < (n.list.length : Int))) :: .pF (Val.cells (n.list[k.toNat]!)) 0 :: .agg (Val.cells (n.list[k.toNat]!)) :: .agg (Col.cells (s.columns[n.column.toNat]!)) :: .agg (Col.cells (nullableCol (s.columns[n.column.toNat]!))) :: .agg (Val.cells (n.list[k.toNat]!)) :: iv (vCheck (nullableCol (s.columns[n.column.toNat]!)) (n.list[k.toNat]!)) :: A4 ([])))))))))))), [.live ⟨2, [(Schema.cells s)], 33⟩, .live ⟨8, [(PNode.cells n)], 26⟩, .live ⟨4, [(Col.cells (s.columns[n.column.toNat]!))], 47⟩, .live ⟨3, [(Val.cells (n.list[k.toNat]!))], 23⟩, .free, .free, .free, .free, .free]⟩ (by kernel_rfl) ?_
      refine DRG.fin rfl (And.intro (by kernel_rfl) ?_)
      refine id (thenA_normal ?_)
      exact ⟨rfl, rfl, (.a4 (.any (.any (.any (.cons (.pO _ _ rfl) (.any (.cons (.pO _ _ rfl) (.v (.a9 (.a9 (.a9 (.a9 (.a9 (.a9 (.a9 (.a9 (.a4 (.cons (.tree (by simp only [NIs_cons, NIs_nil, NIr_cons, NIr_nil, NI_v, NI_any, NI_pO, NI_sO, NI_pF, NI_sF, NI_agg, NI_tup, NI_fn, NIh_nil, NIh_live, NIh_dead, NIh_free, NIr_map, NIr_append, NIs_icells, NIs_scells, NIs_bcells, NIs_Val, NIs_Col, NIs_Schema, NIs_PNode, NIs_Src, NIr_Val, NIr_Col, NIr_ints, NIr_PNode]; try simp)) (.v (.v (.v (.cons (.tree (by simp only [NIs_cons, NIs_nil, NIr_cons, NIr_nil, NI_v, NI_any, NI_pO, NI_sO, NI_pF, NI_sF, NI_agg, NI_tup, NI_fn, NIh_nil, NIh_live, NIh_dead, NIh_free, NIr_map, NIr_append, NIs_icells, NIs_scells, NIs_bcells, NIs_Val, NIs_Col, NIs_Schema, NIs_PNode, NIs_Src, NIr_Val, NIr_Col, NIr_ints, NIr_PNode]; try simp)) (.cons (.tree (by simp only [NIs_cons, NIs_nil, NIr_cons, NIr_nil, NI_v, NI_any, NI_pO, NI_sO, NI_pF, NI_sF, NI_agg, NI_tup, NI_fn, NIh_nil, NIh_live, NIh_dead, NIh_free, NIr_map, NIr_append, NIs_icells, NIs_scells, NIs_bcells, NIs_Val, NIs_Col, NIs_Schema, NIs_PNode, NIs_Src, NIr_Val, NIr_Col, NIr_ints, NIr_PNode]; try simp)) (.a4 (.a4 .nil))))))))))))))))))))))))), (.cons rfl (.tree (by simp only [NIs_cons, NIs_nil, NIr_cons, NIr_nil, NI_v, NI_any, NI_pO, NI_sO, NI_pF, NI_sF, NI_agg, NI_tup, NI_fn, NIh_nil, NIh_live, NIh_dead, NIh_free, NIr_map, NIr_append, NIs_icells, NIs_scells, NIs_bcells, NIs_Val, NIs_Col, NIs_Schema, NIs_PNode, NIs_Src, NIr_Val, NIr_Col, NIr_ints, NIr_PNode]; try simp)) (.cons rfl (.tree (by simp only [NIs_cons, NIs_nil, NIr_cons, NIr_nil, NI_v, NI_any, NI_pO, NI_sO, NI_pF, NI_sF, NI_agg, NI_tup, NI_fn, NIh_nil, NIh_live, NIh_dead, NIh_free, NIr_map, NIr_append, NIs_icells, NIs_scells, NIs_bcells, NIs_Val, NIs_Col, NIs_Schema, NIs_PNode, NIs_Src, NIr_Val, NIr_Col, NIr_ints, NIr_PNode]; try simp)) (.cons rfl (.tree (by simp only [NIs_cons, NIs_nil, NIr_cons, NIr_nil, NI_v, NI_any, NI_pO, NI_sO, NI_pF, NI_sF, NI_agg, NI_tup, NI_fn, NIh_nil, NIh_live, NIh_dead, NIh_free, NIr_map, NIr_append, NIs_icells, NIs_scells, NIs_bcells, NIs_Val, NIs_Col, NIs_Schema, NIs_PNode, NIs_Src, NIr_Val, NIr_Col, NIr_ints, NIr_PNode]; try simp)) (.cons rfl (.tree (by simp only [NIs_cons, NIs_nil, NIr_cons, NIr_nil, NI_v, NI_any, NI_pO, NI_sO, NI_pF, NI_sF, NI_agg, NI_tup, NI_fn, NIh_nil, NIh_live, NIh_dead, NIh_free, NIr_map, NIr_append, NIs_icells, NIs_scells, NIs_bcells, NIs_Val, NIs_Col, NIs_Schema, NIs_PNode, NIs_Src, NIr_Val, NIr_Col, NIr_ints, NIr_PNode]; try simp)) .nil))))⟩
    refine PV.seq_k fun K49 hK49 => ?_
    refine PV.regionN ?_
    refine PON.runs 2 (by kernel_rfl) ?_
    refine PON.fin rfl (thenA_normal (hK49 _ ?_))
    refine PV.condN ((vCheck (nullableCol (s.columns[n.column.toNat]!)) (n.list[k.toNat]!)) = 0) (!(decide ((vCheck (nullableCol (s.columns[n.column.toNat]!)) (n.list[k.toNat]!)) = 0))) (by kernel_rfl) (fun h => bnot_t (decide_eq_true h)) (fun h => bnot_f (decide_eq_false h)) (fun h50 => ?_) (fun h50 => ?_)
    · skip
      refine PV.seq_k fun K51 hK51 => ?_
      refine PV.regionN ?_
      refine PON.runs 2 (by kernel_rfl) ?_
      refine PON.fin rfl (thenA_normal (hK51 _ ?_))
      refine PV.norm ⟨(A4 (A :: A :: iv (vCheck (nullableCol (s.columns[n.column.toNat]!)) (n.list[k.toNat]!)) :: po 2 :: A :: po 3 :: iv (vCheck (nullableCol (s.columns[n.column.toNat]!)) (n.list[k.toNat]!)) :: A9 (A9 (A9 (A9 (A9 (A9 (A9 (A9 (A4 (.sF 3 (n.list.map Val.cells) :: iv (n.list.length : Int) :: iv k :: bv (decide (k < (n.list.length : Int))) :: .pF (Val.cells (n.list[k.toNat]!)) 0 :: .agg (Val.cells (n.list[k.toNat]!)) :: A4 ([iv (vCheck (nullableCol (s.columns[n.column.toNat]!)) (n.list[k.toNat]!)), bv (!(decide ((vCheck (nullableCol (s.columns[n.column.toNat]!)) (n.list[k.toNat]!)) = 0))), iv (vCheck (nullableCol (s.columns[n.column.toNat]!)) (n.list[k.toNat]!)), A])))))))))))), [.live ⟨2, [(Schema.cells s)], 33⟩, .live ⟨8, [(PNode.cells n)], 26⟩, .live ⟨4, [(Col.cells (s.columns[n.column.toNat]!))], 47⟩, .live ⟨3, [(Val.cells (n.list[k.toNat]!))], 23⟩]⟩ (by kernel_rfl) ?_
      refine PV.ret (inBlockA_ret (thenA_ret (thenA_ret (inBlockA_ret (thenA_ret (hret .ret _ (iv (vCheck (nullableCol (s.columns[n.column.toNat]!)) (n.list[k.toNat]!))) (.inr rfl) (by kernel_rfl) ?_))))))
      clear hret hK1 hK2 hK6 hK7 hK17 hK21 hK22 hK23 hK30 hK31 hK34 hK35 hK38 hK39 hK42 hK43 hK44 hK45 hK47 hK48 hK49 hK51 K0 K1 K2 K6 K7 K17 K21 K22 K23 K30 K31 K34 K35 K38 K39 K42 K43 K44 K45 K47 K48 K49 K51
      show Tof noTau [.live ⟨2, [(Schema.cells s)], 33⟩, .live ⟨8, [(PNode.cells n)], 26⟩, .live ⟨4, [(Col.cells (s.columns[n.column.toNat]!))], 47⟩, .live ⟨3, [(Val.cells (n.list[k.toNat]!))], 23⟩] (iv (vCheck (nullableCol (s.columns[n.column.toNat]!)) (n.list[k.toNat]!))) (iv (nodeErr s i n))
      -- leaf 10
      refine Tof.int ?_
      first | grind [nodeErr, isLeaf, isCmp] | (have e : errFrom (fun _ v => vCheck (nullableCol s.columns[n.column.toNat]!) v) 0 n.list = vCheck (nullableCol s.columns[n.column.toNat]!) n.list[k.toNat]! := (by rw [he, drop_step _ _ (by omega), errFrom]; grind [nullableCol]); grind [nodeErr, nullableCol, isLeaf, isCmp]) | (rw [drop_end _ _ (by omega)] at he; grind [nodeErr, errFrom, isLeaf, isCmp])
    refine PV.skip (inBlockA_normal (thenA_normal (hK47 _ ?_)))
    refine PV.regionN ?_
    refine PON.ops (aBin_add_in Try.prog [.live ⟨2, [(Schema.cells s)], 33⟩, .live ⟨8, [(PNode.cells n)], 26⟩, .live ⟨4, [(Col.cells (s.columns[n.column.toNat]!))], 47⟩, .live ⟨3, [(Val.cells (n.list[k.toNat]!))], 23⟩] 3 (.tmp 89) (.const (.int .i64 1)) .i64 k 1 (by rw [wrap64] <;> omega)) (by kernel_rfl) (by kernel_rfl) ?_
    refine PON.runs 1 (by kernel_rfl) ?_
    refine PON.norm ⟨(A4 (A :: A :: A :: po 2 :: A :: po 3 :: iv (vCheck (nullableCol (s.columns[n.column.toNat]!)) (n.list[k.toNat]!)) :: A9 (A9 (A9 (A9 (A9 (A9 (A9 (A9 (A4 (.sF 3 (n.list.map Val.cells) :: iv (n.list.length : Int) :: iv (k + 1) :: bv (decide (k < (n.list.length : Int))) :: .pF (Val.cells (n.list[k.toNat]!)) 0 :: .agg (Val.cells (n.list[k.toNat]!)) :: A4 ([iv (vCheck (nullableCol (s.columns[n.column.toNat]!)) (n.list[k.toNat]!)), bv (!(decide ((vCheck (nullableCol (s.columns[n.column.toNat]!)) (n.list[k.toNat]!)) = 0))), A, iv (k + 1)])))))))))))), [.live ⟨2, [(Schema.cells s)], 33⟩, .live ⟨8, [(PNode.cells n)], 26⟩, .live ⟨4, [(Col.cells (s.columns[n.column.toNat]!))], 47⟩, .live ⟨3, [(Val.cells (n.list[k.toNat]!))], 23⟩]⟩ (by kernel_rfl) ?_
    refine PON.fin rfl (thenA_normal ?_)
    refine ⟨[0, 1, 2], (k + 1), ⟨rfl, rfl, (.a4 (.any (.any (.any (.cons (.pO _ _ rfl) (.a9 (.a9 (.a9 (.a9 (.a9 (.a9 (.a9 (.a9 (.a4 (.any (.any (.any (.cons (.tree (by simp only [NIs_cons, NIs_nil, NIr_cons, NIr_nil, NI_v, NI_any, NI_pO, NI_sO, NI_pF, NI_sF, NI_agg, NI_tup, NI_fn, NIh_nil, NIh_live, NIh_dead, NIh_free, NIr_map, NIr_append, NIs_icells, NIs_scells, NIs_bcells, NIs_Val, NIs_Col, NIs_Schema, NIs_PNode, NIs_Src, NIr_Val, NIr_Col, NIr_ints, NIr_PNode]; try simp)) (.v (.v (.a9 (.any (.any .nil))))))))))))))))))))))), (.cons rfl (.tree (by simp only [NIs_cons, NIs_nil, NIr_cons, NIr_nil, NI_v, NI_any, NI_pO, NI_sO, NI_pF, NI_sF, NI_agg, NI_tup, NI_fn, NIh_nil, NIh_live, NIh_dead, NIh_free, NIr_map, NIr_append, NIs_icells, NIs_scells, NIs_bcells, NIs_Val, NIs_Col, NIs_Schema, NIs_PNode, NIs_Src, NIr_Val, NIr_Col, NIr_ints, NIr_PNode]; try simp)) (.cons rfl (.tree (by simp only [NIs_cons, NIs_nil, NIr_cons, NIr_nil, NI_v, NI_any, NI_pO, NI_sO, NI_pF, NI_sF, NI_agg, NI_tup, NI_fn, NIh_nil, NIh_live, NIh_dead, NIh_free, NIr_map, NIr_append, NIs_icells, NIs_scells, NIs_bcells, NIs_Val, NIs_Col, NIs_Schema, NIs_PNode, NIs_Src, NIr_Val, NIr_Col, NIr_ints, NIr_PNode]; try simp)) (.cons rfl (.tree (by simp only [NIs_cons, NIs_nil, NIr_cons, NIr_nil, NI_v, NI_any, NI_pO, NI_sO, NI_pF, NI_sF, NI_agg, NI_tup, NI_fn, NIh_nil, NIh_live, NIh_dead, NIh_free, NIr_map, NIr_append, NIs_icells, NIs_scells, NIs_bcells, NIs_Val, NIs_Col, NIs_Schema, NIs_PNode, NIs_Src, NIr_Val, NIr_Col, NIr_ints, NIr_PNode]; try simp)) .nil)))⟩, ?_, ?_⟩
    · skip
      clear hret hK1 hK2 hK6 hK7 hK17 hK21 hK22 hK23 hK30 hK31 hK34 hK35 hK38 hK39 hK42 hK43 hK44 hK45 hK47 hK48 hK49 K0 K1 K2 K6 K7 K17 K21 K22 K23 K30 K31 K34 K35 K38 K39 K42 K43 K44 K45 K47 K48 K49
      refine ⟨?_, ?_⟩
      · skip
        show 0 ≤ (k + 1) ∧ (k + 1) ≤ n.list.length
        omega
      · skip
        show errFrom (fun _ v => vCheck (nullableCol s.columns[n.column.toNat]!) v) 0 n.list = errFrom (fun _ v => vCheck (nullableCol s.columns[n.column.toNat]!) v) (k + 1) (n.list.drop (k + 1).toNat)
        rw [drop_step _ _ (by omega)] at he
        rw [he, errFrom, if_pos (by grind [nullableCol])]
    · skip
      clear hret hK1 hK2 hK6 hK7 hK17 hK21 hK22 hK23 hK30 hK31 hK34 hK35 hK38 hK39 hK42 hK43 hK44 hK45 hK47 hK48 hK49 K0 K1 K2 K6 K7 K17 K21 K22 K23 K30 K31 K34 K35 K38 K39 K42 K43 K44 K45 K47 K48 K49
      show ((n.list.length : Int) - (k + 1)).toNat < ((n.list.length : Int) - k).toNat
      omega
  refine PV.exit (thenA_exit (thenA_exit (inBlockA_hit (thenA_normal (hK42 _ ?_)))))
  refine PV.seq_k fun K52 hK52 => ?_
  refine PV.regionN ?_
  refine PON.runs 1 (by kernel_rfl) ?_
  refine PON.fin rfl (thenA_normal (hK52 _ ?_))
  refine PV.norm ⟨(A4 (A :: A :: iv 0 :: po 2 :: A9 (A9 (A9 (A9 (A9 (A9 (A9 (A9 (A4 (A :: A :: A :: .sF 3 (n.list.map Val.cells) :: iv (n.list.length : Int) :: iv k :: bv (decide (k < (n.list.length : Int))) :: A9 ([A])))))))))))), [.live ⟨2, [(Schema.cells s)], 33⟩, .live ⟨8, [(PNode.cells n)], 26⟩, .live ⟨4, [(Col.cells (s.columns[n.column.toNat]!))], 47⟩]⟩ (by kernel_rfl) ?_
  refine PV.ret (hret .ret _ (iv 0) (.inr rfl) (by kernel_rfl) ?_)
  clear hret hK1 hK2 hK6 hK7 hK17 hK21 hK22 hK23 hK30 hK31 hK34 hK35 hK38 hK39 hK42 hK43 hK44 hK45 hK52 K0 K1 K2 K6 K7 K17 K21 K22 K23 K30 K31 K34 K35 K38 K39 K42 K43 K44 K45 K52
  show Tof noTau [.live ⟨2, [(Schema.cells s)], 33⟩, .live ⟨8, [(PNode.cells n)], 26⟩, .live ⟨4, [(Col.cells (s.columns[n.column.toNat]!))], 47⟩] (iv 0) (iv (nodeErr s i n))
  -- leaf 11
  refine Tof.int ?_
  first | grind [nodeErr, isLeaf, isCmp] | (have e : errFrom (fun _ v => vCheck (nullableCol s.columns[n.column.toNat]!) v) 0 n.list = vCheck (nullableCol s.columns[n.column.toNat]!) n.list[k.toNat]! := (by rw [he, drop_step _ _ (by omega), errFrom]; grind [nullableCol]); grind [nodeErr, nullableCol, isLeaf, isCmp]) | (rw [drop_end _ _ (by omega)] at he; grind [nodeErr, errFrom, isLeaf, isCmp])
theorem rnode_ok (s : Schema) (n : PNode) (i : Int) : PCX Try.prog 32 [.agg (Schema.cells s), .agg (PNode.cells n), iv i] [] [] (iv (nodeErr s i n)) :=
  PCX.frame (by simp only [NIs_cons, NIs_nil, NIr_cons, NIr_nil, NI_v, NI_any, NI_pO, NI_sO, NI_pF, NI_sF, NI_agg, NI_tup, NI_fn, NIh_nil, NIh_live, NIh_dead, NIh_free, NIr_map, NIr_append, NIs_icells, NIs_scells, NIs_bcells, NIs_Val, NIs_Col, NIs_Schema, NIs_PNode, NIs_Src, NIr_Val, NIr_Col, NIr_ints, NIr_PNode]; try simp) (rnode_ok_walk s n i)

set_option maxHeartbeats 4000000 in
theorem check_ok_walk (s : Schema) (p : (List PNode)) : PC Try.prog 15 [.agg (Schema.cells s), .sF 8 (p.map PNode.cells)] [] (fun yR kR => Tof noTau kR yR (iv (predErr s p))) := by
  refine PC.of_bodyV Try.func15 rfl (.agg (Schema.cells s) :: .sF 8 (p.map PNode.cells) :: U9 (U9 (U9 ([U, U, U])))) (by kernel_rfl) (fun K0 hret => ?_)
  refine PV.seq_k fun K1 hK1 => ?_
  refine PV.regionN ?_
  refine PON.runs 2 (by kernel_rfl) ?_
  refine PON.fin rfl (thenA_normal (hK1 _ ?_))
  refine PV.seq_k fun K2 hK2 => ?_
  refine PV.seq_k fun K3 hK3 => ?_
  refine PV.regionN ?_
  refine PON.runs 1 (by kernel_rfl) ?_
  refine PON.call 29 [.agg (Schema.cells s)] (some 10) (pre := []) (post := []) (x := iv (schemaErr s)) _ (by kernel_rfl) (schema_ok s) trivial rfl ?_
  refine PON.runs 1 (by kernel_rfl) ?_
  refine PON.fin rfl (thenA_normal (hK3 _ ?_))
  refine PV.seq_k fun K4 hK4 => ?_
  refine PV.regionN ?_
  refine PON.runs 2 (by kernel_rfl) ?_
  refine PON.fin rfl (thenA_normal (hK4 _ ?_))
  refine PV.condN ((schemaErr s) = 0) (!(decide ((schemaErr s) = 0))) (by kernel_rfl) (fun h => bnot_t (decide_eq_true h)) (fun h => bnot_f (decide_eq_false h)) (fun h5 => ?_) (fun h5 => ?_)
  · skip
    refine PV.seq_k fun K6 hK6 => ?_
    refine PV.regionN ?_
    refine PON.runs 2 (by kernel_rfl) ?_
    refine PON.fin rfl (thenA_normal (hK6 _ ?_))
    refine PV.norm ⟨(.agg (Schema.cells s) :: .sF 8 (p.map PNode.cells) :: po 0 :: U :: iv (schemaErr s) :: iv (schemaErr s) :: U :: U :: U :: .agg (Schema.cells s) :: iv (schemaErr s) :: iv (schemaErr s) :: bv (!(decide ((schemaErr s) = 0))) :: iv (schemaErr s) :: U9 (U9 ([]))), [.live ⟨2, [(Schema.cells s)], 33⟩]⟩ (by kernel_rfl) ?_
    refine PV.ret (thenA_ret (hret .ret _ (iv (schemaErr s)) (.inr rfl) (by kernel_rfl) ?_))
    clear hret hK1 hK2 hK3 hK4 hK6 K0 K1 K2 K3 K4 K6
    show Tof noTau [.live ⟨2, [(Schema.cells s)], 33⟩] (iv (schemaErr s)) (iv (predErr s p))
    -- leaf 1
    refine Tof.int ?_
    first | grind [predErr] | (have e : errFrom (nodeErr s) 0 p = nodeErr s k p[k.toNat]! := (by rw [he, drop_step _ _ (by omega), errFrom]; grind); grind [predErr]) | (rw [drop_end _ _ (by omega)] at he; grind [predErr, errFrom])
  refine PV.skip (thenA_normal (hK2 _ ?_))
  refine PV.seq_k fun K7 hK7 => ?_
  refine PV.seq_k fun K8 hK8 => ?_
  refine PV.regionN ?_
  refine PON.runs 1 (by kernel_rfl) ?_
  refine PON.ops (aLen_map Try.prog [.live ⟨2, [(Schema.cells s)], 33⟩] 27 26 (by kernel_rfl) 8 PNode.cells p) (by kernel_rfl) (by kernel_rfl) ?_
  refine PON.runs 1 (by kernel_rfl) ?_
  refine PON.fin rfl (thenA_normal (hK8 _ ?_))
  refine PV.condP ((p.length : Int) > 64) (decide ((p.length : Int) > 64)) (by kernel_rfl) decide_eq_true decide_eq_false (fun h9 => ?_) (fun h9 => ?_)
  · skip
    refine PV.seq_k fun K10 hK10 => ?_
    refine PV.regionN ?_
    refine PON.runs 1 (by kernel_rfl) ?_
    refine PON.fin rfl (thenA_normal (hK10 _ ?_))
    refine PV.norm ⟨(.agg (Schema.cells s) :: .sF 8 (p.map PNode.cells) :: po 0 :: U :: iv 7 :: iv (schemaErr s) :: U :: U :: U :: .agg (Schema.cells s) :: iv (schemaErr s) :: iv (schemaErr s) :: bv (!(decide ((schemaErr s) = 0))) :: U :: .sF 8 (p.map PNode.cells) :: iv (p.length : Int) :: bv (decide ((p.length : Int) > 64)) :: U9 ([U, U, U, U, U, U])), [.live ⟨2, [(Schema.cells s)], 33⟩]⟩ (by kernel_rfl) ?_
    refine PV.ret (thenA_ret (hret .ret _ (iv 7) (.inr rfl) (by kernel_rfl) ?_))
    clear hret hK1 hK2 hK3 hK4 hK7 hK8 hK10 K0 K1 K2 K3 K4 K7 K8 K10
    show Tof noTau [.live ⟨2, [(Schema.cells s)], 33⟩] (iv 7) (iv (predErr s p))
    -- leaf 2
    refine Tof.int ?_
    first | grind [predErr] | (have e : errFrom (nodeErr s) 0 p = nodeErr s k p[k.toNat]! := (by rw [he, drop_step _ _ (by omega), errFrom]; grind); grind [predErr]) | (rw [drop_end _ _ (by omega)] at he; grind [predErr, errFrom])
  refine PV.skip (thenA_normal (hK7 _ ?_))
  refine PV.seq_k fun K11 hK11 => ?_
  refine PV.seq_k fun K12 hK12 => ?_
  refine PV.regionN ?_
  refine PON.runs 1 (by kernel_rfl) ?_
  refine PON.ops (aLen_map Try.prog [.live ⟨2, [(Schema.cells s)], 33⟩] 27 26 (by kernel_rfl) 8 PNode.cells p) (by kernel_rfl) (by kernel_rfl) ?_
  refine PON.runs 1 (by kernel_rfl) ?_
  refine PON.fin rfl (thenA_normal (hK12 _ ?_))
  refine PV.block ?_
  refine PV.norm ⟨(.agg (Schema.cells s) :: .sF 8 (p.map PNode.cells) :: po 0 :: U :: iv 0 :: iv (schemaErr s) :: U :: U :: U :: .agg (Schema.cells s) :: iv (schemaErr s) :: iv (schemaErr s) :: bv (!(decide ((schemaErr s) = 0))) :: U :: .sF 8 (p.map PNode.cells) :: iv (p.length : Int) :: bv (decide ((p.length : Int) > 64)) :: .sF 8 (p.map PNode.cells) :: iv (p.length : Int) :: iv 0 :: U9 ([U, U, U])), [.live ⟨2, [(Schema.cells s)], 33⟩]⟩ (by kernel_rfl) ?_
  refine PV.loopR (α := Int) (fun xL => let k := xL; (⟨(A :: A :: po 0 :: A9 (A4 (A :: .sF 8 (p.map PNode.cells) :: iv (p.length : Int) :: iv k :: A9 ([A, A, A])))), [.live ⟨2, [(Schema.cells s)], 33⟩]⟩ : St)) (fun xL => let k := xL; (0 ≤ k ∧ k ≤ p.length) ∧ (errFrom (nodeErr s) 0 p = errFrom (nodeErr s) k (p.drop k.toNat))) (fun xL => let k := xL; ((p.length : Int) - k).toNat) [0] (0 : Int) ⟨rfl, rfl, (.any (.any (.cons (.pO _ _ rfl) (.a9 (.a4 (.any (.cons (.tree (by simp only [NIs_cons, NIs_nil, NIr_cons, NIr_nil, NI_v, NI_any, NI_pO, NI_sO, NI_pF, NI_sF, NI_agg, NI_tup, NI_fn, NIh_nil, NIh_live, NIh_dead, NIh_free, NIr_map, NIr_append, NIs_icells, NIs_scells, NIs_bcells, NIs_Val, NIs_Col, NIs_Schema, NIs_PNode, NIs_Src, NIr_Val, NIr_Col, NIr_ints, NIr_PNode]; try simp)) (.v (.v (.a9 (.any (.any (.any .nil))))))))))))), (.cons rfl (.tree (by simp only [NIs_cons, NIs_nil, NIr_cons, NIr_nil, NI_v, NI_any, NI_pO, NI_sO, NI_pF, NI_sF, NI_agg, NI_tup, NI_fn, NIh_nil, NIh_live, NIh_dead, NIh_free, NIr_map, NIr_append, NIs_icells, NIs_scells, NIs_bcells, NIs_Val, NIs_Col, NIs_Schema, NIs_PNode, NIs_Src, NIr_Val, NIr_Col, NIr_ints, NIr_PNode]; try simp)) .nil)⟩ ?_ ?_
  · skip
    clear hret hK1 hK2 hK3 hK4 hK7 hK8 hK11 hK12 K0 K1 K2 K3 K4 K7 K8 K11 K12
    refine ⟨?_, ?_⟩
    · skip
      show 0 ≤ (0 : Int) ∧ (0 : Int) ≤ p.length
      simp
    · skip
      show errFrom (nodeErr s) 0 p = errFrom (nodeErr s) (0 : Int) (p.drop (0 : Int).toNat)
      simp
  rintro k hJ
  change (0 ≤ k ∧ k ≤ p.length) ∧ (errFrom (nodeErr s) 0 p = errFrom (nodeErr s) k (p.drop k.toNat)) at hJ
  obtain ⟨hk, he⟩ := hJ
  show PV _ Try.prog _ ⟨(A :: A :: po 0 :: A9 (A4 (A :: .sF 8 (p.map PNode.cells) :: iv (p.length : Int) :: iv k :: A9 ([A, A, A])))), [.live ⟨2, [(Schema.cells s)], 33⟩]⟩ _
  refine PV.seq_k fun K13 hK13 => ?_
  refine PV.regionN ?_
  refine PON.runs 1 (by kernel_rfl) ?_
  refine PON.fin rfl (thenA_normal (hK13 _ ?_))
  refine PV.seq_k fun K14 hK14 => ?_
  refine PV.condP (k < (p.length : Int)) (decide (k < (p.length : Int))) (by kernel_rfl) decide_eq_true decide_eq_false (fun h15 => ?_) (fun h15 => ?_)
  · skip
    refine PV.skip (thenA_normal (hK14 _ ?_))
    refine PV.seq_k fun K16 hK16 => ?_
    refine PV.block ?_
    refine PV.seq_k fun K17 hK17 => ?_
    refine PV.regionN ?_
    refine PON.runs 1 (by kernel_rfl) ?_
    refine PON.ops (aIndexAddr_map Try.prog [.live ⟨2, [(Schema.cells s)], 33⟩] 27 26 8 PNode.cells (by kernel_rfl) (by kernel_rfl) p .i64 k (by first | omega | grind [isLeaf, isCmp])) (by kernel_rfl) (by kernel_rfl) ?_
    refine PON.runs 4 (by kernel_rfl) ?_
    refine PON.fin rfl (thenA_normal (hK17 _ ?_))
    refine PV.seq_k fun K18 hK18 => ?_
    refine PV.regionN ?_
    refine PON.runs 3 (by kernel_rfl) ?_
    refine PON.call 30 [.agg (Schema.cells s), iv k, .agg (PNode.cells (p[k.toNat]!))] (some 27) (pre := []) (post := []) (x := iv (nodeErr s k (p[k.toNat]!))) _ (by kernel_rfl) (node_ok s k (p[k.toNat]!)) trivial rfl ?_
    refine PON.runs 1 (by kernel_rfl) ?_
    refine PON.fin rfl (thenA_normal (hK18 _ ?_))
    refine PV.seq_k fun K19 hK19 => ?_
    refine PV.regionN ?_
    refine PON.runs 2 (by kernel_rfl) ?_
    refine PON.fin rfl (thenA_normal (hK19 _ ?_))
    refine PV.condN ((nodeErr s k (p[k.toNat]!)) = 0) (!(decide ((nodeErr s k (p[k.toNat]!)) = 0))) (by kernel_rfl) (fun h => bnot_t (decide_eq_true h)) (fun h => bnot_f (decide_eq_false h)) (fun h20 => ?_) (fun h20 => ?_)
    · skip
      refine PV.seq_k fun K21 hK21 => ?_
      refine PV.regionN ?_
      refine PON.runs 2 (by kernel_rfl) ?_
      refine PON.fin rfl (thenA_normal (hK21 _ ?_))
      refine PV.norm ⟨(A :: A :: po 0 :: A :: iv (nodeErr s k (p[k.toNat]!)) :: A :: iv k :: po 1 :: iv (nodeErr s k (p[k.toNat]!)) :: A4 (A4 ([.sF 8 (p.map PNode.cells), iv (p.length : Int), iv k, bv (decide (k < (p.length : Int))), iv k, .pF (PNode.cells (p[k.toNat]!)) 0, .agg (PNode.cells (p[k.toNat]!)), .agg (Schema.cells s), iv k, .agg (PNode.cells (p[k.toNat]!)), iv (nodeErr s k (p[k.toNat]!)), iv (nodeErr s k (p[k.toNat]!)), bv (!(decide ((nodeErr s k (p[k.toNat]!)) = 0))), iv (nodeErr s k (p[k.toNat]!)), A]))), [.live ⟨2, [(Schema.cells s)], 33⟩, .live ⟨8, [(PNode.cells (p[k.toNat]!))], 26⟩]⟩ (by kernel_rfl) ?_
      refine PV.ret (inBlockA_ret (thenA_ret (thenA_ret (inBlockA_ret (thenA_ret (hret .ret _ (iv (nodeErr s k (p[k.toNat]!))) (.inr rfl) (by kernel_rfl) ?_))))))
      clear hret hK1 hK2 hK3 hK4 hK7 hK8 hK11 hK12 hK13 hK14 hK16 hK17 hK18 hK19 hK21 K0 K1 K2 K3 K4 K7 K8 K11 K12 K13 K14 K16 K17 K18 K19 K21
      show Tof noTau [.live ⟨2, [(Schema.cells s)], 33⟩, .live ⟨8, [(PNode.cells (p[k.toNat]!))], 26⟩] (iv (nodeErr s k (p[k.toNat]!))) (iv (predErr s p))
      -- leaf 3
      refine Tof.int ?_
      first | grind [predErr] | (have e : errFrom (nodeErr s) 0 p = nodeErr s k p[k.toNat]! := (by rw [he, drop_step _ _ (by omega), errFrom]; grind); grind [predErr]) | (rw [drop_end _ _ (by omega)] at he; grind [predErr, errFrom])
    refine PV.skip (inBlockA_normal (thenA_normal (hK16 _ ?_)))
    refine PV.regionN ?_
    refine PON.ops (aBin_add_in Try.prog [.live ⟨2, [(Schema.cells s)], 33⟩, .live ⟨8, [(PNode.cells (p[k.toNat]!))], 26⟩] 3 (.tmp 19) (.const (.int .i64 1)) .i64 k 1 (by rw [wrap64] <;> omega)) (by kernel_rfl) (by kernel_rfl) ?_
    refine PON.runs 1 (by kernel_rfl) ?_
    refine PON.norm ⟨(A :: A :: po 0 :: A :: A :: A :: iv k :: po 1 :: iv (nodeErr s k (p[k.toNat]!)) :: A4 (A4 ([.sF 8 (p.map PNode.cells), iv (p.length : Int), iv (k + 1), bv (decide (k < (p.length : Int))), iv k, .pF (PNode.cells (p[k.toNat]!)) 0, .agg (PNode.cells (p[k.toNat]!)), .agg (Schema.cells s), iv k, .agg (PNode.cells (p[k.toNat]!)), iv (nodeErr s k (p[k.toNat]!)), iv (nodeErr s k (p[k.toNat]!)), bv (!(decide ((nodeErr s k (p[k.toNat]!)) = 0))), A, iv (k + 1)]))), [.live ⟨2, [(Schema.cells s)], 33⟩, .live ⟨8, [(PNode.cells (p[k.toNat]!))], 26⟩]⟩ (by kernel_rfl) ?_
    refine PON.fin rfl (thenA_normal ?_)
    refine ⟨[0], (k + 1), ⟨rfl, rfl, (.any (.any (.cons (.pO _ _ rfl) (.a9 (.a4 (.any (.cons (.tree (by simp only [NIs_cons, NIs_nil, NIr_cons, NIr_nil, NI_v, NI_any, NI_pO, NI_sO, NI_pF, NI_sF, NI_agg, NI_tup, NI_fn, NIh_nil, NIh_live, NIh_dead, NIh_free, NIr_map, NIr_append, NIs_icells, NIs_scells, NIs_bcells, NIs_Val, NIs_Col, NIs_Schema, NIs_PNode, NIs_Src, NIr_Val, NIr_Col, NIr_ints, NIr_PNode]; try simp)) (.v (.v (.a9 (.any (.any (.any .nil))))))))))))), (.cons rfl (.tree (by simp only [NIs_cons, NIs_nil, NIr_cons, NIr_nil, NI_v, NI_any, NI_pO, NI_sO, NI_pF, NI_sF, NI_agg, NI_tup, NI_fn, NIh_nil, NIh_live, NIh_dead, NIh_free, NIr_map, NIr_append, NIs_icells, NIs_scells, NIs_bcells, NIs_Val, NIs_Col, NIs_Schema, NIs_PNode, NIs_Src, NIr_Val, NIr_Col, NIr_ints, NIr_PNode]; try simp)) .nil)⟩, ?_, ?_⟩
    · skip
      clear hret hK1 hK2 hK3 hK4 hK7 hK8 hK11 hK12 hK13 hK14 hK16 hK17 hK18 hK19 K0 K1 K2 K3 K4 K7 K8 K11 K12 K13 K14 K16 K17 K18 K19
      refine ⟨?_, ?_⟩
      · skip
        show 0 ≤ (k + 1) ∧ (k + 1) ≤ p.length
        omega
      · skip
        show errFrom (nodeErr s) 0 p = errFrom (nodeErr s) (k + 1) (p.drop (k + 1).toNat)
        rw [drop_step _ _ (by omega)] at he
        rw [he, errFrom, if_pos (by assumption)]
    · skip
      clear hret hK1 hK2 hK3 hK4 hK7 hK8 hK11 hK12 hK13 hK14 hK16 hK17 hK18 hK19 K0 K1 K2 K3 K4 K7 K8 K11 K12 K13 K14 K16 K17 K18 K19
      show ((p.length : Int) - (k + 1)).toNat < ((p.length : Int) - k).toNat
      omega
  refine PV.exit (thenA_exit (thenA_exit (inBlockA_hit (thenA_normal (hK11 _ ?_)))))
  refine PV.seq_k fun K22 hK22 => ?_
  refine PV.regionN ?_
  refine PON.runs 1 (by kernel_rfl) ?_
  refine PON.fin rfl (thenA_normal (hK22 _ ?_))
  refine PV.norm ⟨(A :: A :: po 0 :: A :: iv 0 :: A9 (A :: A :: A :: .sF 8 (p.map PNode.cells) :: iv (p.length : Int) :: iv k :: bv (decide (k < (p.length : Int))) :: A9 ([A, A]))), [.live ⟨2, [(Schema.cells s)], 33⟩]⟩ (by kernel_rfl) ?_
  refine PV.ret (hret .ret _ (iv 0) (.inr rfl) (by kernel_rfl) ?_)
  clear hret hK1 hK2 hK3 hK4 hK7 hK8 hK11 hK12 hK13 hK14 hK22 K0 K1 K2 K3 K4 K7 K8 K11 K12 K13 K14 K22
  show Tof noTau [.live ⟨2, [(Schema.cells s)], 33⟩] (iv 0) (iv (predErr s p))
  -- leaf 4
  refine Tof.int ?_
  first | grind [predErr] | (have e : errFrom (nodeErr s) 0 p = nodeErr s k p[k.toNat]! := (by rw [he, drop_step _ _ (by omega), errFrom]; grind); grind [predErr]) | (rw [drop_end _ _ (by omega)] at he; grind [predErr, errFrom])
theorem check_ok (s : Schema) (p : (List PNode)) : PCX Try.prog 15 [.agg (Schema.cells s), .sF 8 (p.map PNode.cells)] [] [] (iv (predErr s p)) :=
  PCX.frame (by simp only [NIs_cons, NIs_nil, NIr_cons, NIr_nil, NI_v, NI_any, NI_pO, NI_sO, NI_pF, NI_sF, NI_agg, NI_tup, NI_fn, NIh_nil, NIh_live, NIh_dead, NIh_free, NIr_map, NIr_append, NIs_icells, NIs_scells, NIs_bcells, NIs_Val, NIs_Col, NIs_Schema, NIs_PNode, NIs_Src, NIr_Val, NIr_Col, NIr_ints, NIr_PNode]; try simp) (check_ok_walk s p)

set_option maxHeartbeats 4000000 in
theorem rcheck_ok_walk (s : Schema) (p : (List PNode)) : PC Try.prog 16 [.agg (Schema.cells s), .sF 8 (p.map PNode.cells)] [] (fun yR kR => Tof noTau kR yR (iv (predErr s p))) := by
  refine PC.of_bodyV Try.func16 rfl (.agg (Schema.cells s) :: .sF 8 (p.map PNode.cells) :: U9 (U9 (U9 ([U, U, U])))) (by kernel_rfl) (fun K0 hret => ?_)
  refine PV.seq_k fun K1 hK1 => ?_
  refine PV.regionN ?_
  refine PON.runs 2 (by kernel_rfl) ?_
  refine PON.fin rfl (thenA_normal (hK1 _ ?_))
  refine PV.seq_k fun K2 hK2 => ?_
  refine PV.seq_k fun K3 hK3 => ?_
  refine PV.regionN ?_
  refine PON.runs 1 (by kernel_rfl) ?_
  refine PON.call 31 [.agg (Schema.cells s)] (some 10) (pre := []) (post := []) (x := iv (schemaErr s)) _ (by kernel_rfl) (rschema_ok s) trivial rfl ?_
  refine PON.runs 1 (by kernel_rfl) ?_
  refine PON.fin rfl (thenA_normal (hK3 _ ?_))
  refine PV.seq_k fun K4 hK4 => ?_
  refine PV.regionN ?_
  refine PON.runs 2 (by kernel_rfl) ?_
  refine PON.fin rfl (thenA_normal (hK4 _ ?_))
  refine PV.condN ((schemaErr s) = 0) (!(decide ((schemaErr s) = 0))) (by kernel_rfl) (fun h => bnot_t (decide_eq_true h)) (fun h => bnot_f (decide_eq_false h)) (fun h5 => ?_) (fun h5 => ?_)
  · skip
    refine PV.seq_k fun K6 hK6 => ?_
    refine PV.regionN ?_
    refine PON.runs 2 (by kernel_rfl) ?_
    refine PON.fin rfl (thenA_normal (hK6 _ ?_))
    refine PV.norm ⟨(.agg (Schema.cells s) :: .sF 8 (p.map PNode.cells) :: po 0 :: U :: iv (schemaErr s) :: iv (schemaErr s) :: U :: U :: U :: .agg (Schema.cells s) :: iv (schemaErr s) :: iv (schemaErr s) :: bv (!(decide ((schemaErr s) = 0))) :: iv (schemaErr s) :: U9 (U9 ([]))), [.live ⟨2, [(Schema.cells s)], 33⟩]⟩ (by kernel_rfl) ?_
    refine PV.ret (thenA_ret (hret .ret _ (iv (schemaErr s)) (.inr rfl) (by kernel_rfl) ?_))
    clear hret hK1 hK2 hK3 hK4 hK6 K0 K1 K2 K3 K4 K6
    show Tof noTau [.live ⟨2, [(Schema.cells s)], 33⟩] (iv (schemaErr s)) (iv (predErr s p))
    -- leaf 1
    refine Tof.int ?_
    first | grind [predErr] | (have e : errFrom (nodeErr s) 0 p = nodeErr s k p[k.toNat]! := (by rw [he, drop_step _ _ (by omega), errFrom]; grind); grind [predErr]) | (rw [drop_end _ _ (by omega)] at he; grind [predErr, errFrom])
  refine PV.skip (thenA_normal (hK2 _ ?_))
  refine PV.seq_k fun K7 hK7 => ?_
  refine PV.seq_k fun K8 hK8 => ?_
  refine PV.regionN ?_
  refine PON.runs 1 (by kernel_rfl) ?_
  refine PON.ops (aLen_map Try.prog [.live ⟨2, [(Schema.cells s)], 33⟩] 27 26 (by kernel_rfl) 8 PNode.cells p) (by kernel_rfl) (by kernel_rfl) ?_
  refine PON.runs 1 (by kernel_rfl) ?_
  refine PON.fin rfl (thenA_normal (hK8 _ ?_))
  refine PV.condP ((p.length : Int) > 64) (decide ((p.length : Int) > 64)) (by kernel_rfl) decide_eq_true decide_eq_false (fun h9 => ?_) (fun h9 => ?_)
  · skip
    refine PV.seq_k fun K10 hK10 => ?_
    refine PV.regionN ?_
    refine PON.runs 1 (by kernel_rfl) ?_
    refine PON.fin rfl (thenA_normal (hK10 _ ?_))
    refine PV.norm ⟨(.agg (Schema.cells s) :: .sF 8 (p.map PNode.cells) :: po 0 :: U :: iv 7 :: iv (schemaErr s) :: U :: U :: U :: .agg (Schema.cells s) :: iv (schemaErr s) :: iv (schemaErr s) :: bv (!(decide ((schemaErr s) = 0))) :: U :: .sF 8 (p.map PNode.cells) :: iv (p.length : Int) :: bv (decide ((p.length : Int) > 64)) :: U9 ([U, U, U, U, U, U])), [.live ⟨2, [(Schema.cells s)], 33⟩]⟩ (by kernel_rfl) ?_
    refine PV.ret (thenA_ret (hret .ret _ (iv 7) (.inr rfl) (by kernel_rfl) ?_))
    clear hret hK1 hK2 hK3 hK4 hK7 hK8 hK10 K0 K1 K2 K3 K4 K7 K8 K10
    show Tof noTau [.live ⟨2, [(Schema.cells s)], 33⟩] (iv 7) (iv (predErr s p))
    -- leaf 2
    refine Tof.int ?_
    first | grind [predErr] | (have e : errFrom (nodeErr s) 0 p = nodeErr s k p[k.toNat]! := (by rw [he, drop_step _ _ (by omega), errFrom]; grind); grind [predErr]) | (rw [drop_end _ _ (by omega)] at he; grind [predErr, errFrom])
  refine PV.skip (thenA_normal (hK7 _ ?_))
  refine PV.seq_k fun K11 hK11 => ?_
  refine PV.seq_k fun K12 hK12 => ?_
  refine PV.regionN ?_
  refine PON.runs 1 (by kernel_rfl) ?_
  refine PON.ops (aLen_map Try.prog [.live ⟨2, [(Schema.cells s)], 33⟩] 27 26 (by kernel_rfl) 8 PNode.cells p) (by kernel_rfl) (by kernel_rfl) ?_
  refine PON.runs 1 (by kernel_rfl) ?_
  refine PON.fin rfl (thenA_normal (hK12 _ ?_))
  refine PV.block ?_
  refine PV.norm ⟨(.agg (Schema.cells s) :: .sF 8 (p.map PNode.cells) :: po 0 :: U :: iv 0 :: iv (schemaErr s) :: U :: U :: U :: .agg (Schema.cells s) :: iv (schemaErr s) :: iv (schemaErr s) :: bv (!(decide ((schemaErr s) = 0))) :: U :: .sF 8 (p.map PNode.cells) :: iv (p.length : Int) :: bv (decide ((p.length : Int) > 64)) :: .sF 8 (p.map PNode.cells) :: iv (p.length : Int) :: iv 0 :: U9 ([U, U, U])), [.live ⟨2, [(Schema.cells s)], 33⟩]⟩ (by kernel_rfl) ?_
  refine PV.loopR (α := Int) (fun xL => let k := xL; (⟨(A :: A :: po 0 :: A9 (A4 (A :: .sF 8 (p.map PNode.cells) :: iv (p.length : Int) :: iv k :: A9 ([A, A, A])))), [.live ⟨2, [(Schema.cells s)], 33⟩]⟩ : St)) (fun xL => let k := xL; (0 ≤ k ∧ k ≤ p.length) ∧ (errFrom (nodeErr s) 0 p = errFrom (nodeErr s) k (p.drop k.toNat))) (fun xL => let k := xL; ((p.length : Int) - k).toNat) [0] (0 : Int) ⟨rfl, rfl, (.any (.any (.cons (.pO _ _ rfl) (.a9 (.a4 (.any (.cons (.tree (by simp only [NIs_cons, NIs_nil, NIr_cons, NIr_nil, NI_v, NI_any, NI_pO, NI_sO, NI_pF, NI_sF, NI_agg, NI_tup, NI_fn, NIh_nil, NIh_live, NIh_dead, NIh_free, NIr_map, NIr_append, NIs_icells, NIs_scells, NIs_bcells, NIs_Val, NIs_Col, NIs_Schema, NIs_PNode, NIs_Src, NIr_Val, NIr_Col, NIr_ints, NIr_PNode]; try simp)) (.v (.v (.a9 (.any (.any (.any .nil))))))))))))), (.cons rfl (.tree (by simp only [NIs_cons, NIs_nil, NIr_cons, NIr_nil, NI_v, NI_any, NI_pO, NI_sO, NI_pF, NI_sF, NI_agg, NI_tup, NI_fn, NIh_nil, NIh_live, NIh_dead, NIh_free, NIr_map, NIr_append, NIs_icells, NIs_scells, NIs_bcells, NIs_Val, NIs_Col, NIs_Schema, NIs_PNode, NIs_Src, NIr_Val, NIr_Col, NIr_ints, NIr_PNode]; try simp)) .nil)⟩ ?_ ?_
  · skip
    clear hret hK1 hK2 hK3 hK4 hK7 hK8 hK11 hK12 K0 K1 K2 K3 K4 K7 K8 K11 K12
    refine ⟨?_, ?_⟩
    · skip
      show 0 ≤ (0 : Int) ∧ (0 : Int) ≤ p.length
      simp
    · skip
      show errFrom (nodeErr s) 0 p = errFrom (nodeErr s) (0 : Int) (p.drop (0 : Int).toNat)
      simp
  rintro k hJ
  change (0 ≤ k ∧ k ≤ p.length) ∧ (errFrom (nodeErr s) 0 p = errFrom (nodeErr s) k (p.drop k.toNat)) at hJ
  obtain ⟨hk, he⟩ := hJ
  show PV _ Try.prog _ ⟨(A :: A :: po 0 :: A9 (A4 (A :: .sF 8 (p.map PNode.cells) :: iv (p.length : Int) :: iv k :: A9 ([A, A, A])))), [.live ⟨2, [(Schema.cells s)], 33⟩]⟩ _
  refine PV.seq_k fun K13 hK13 => ?_
  refine PV.regionN ?_
  refine PON.runs 1 (by kernel_rfl) ?_
  refine PON.fin rfl (thenA_normal (hK13 _ ?_))
  refine PV.seq_k fun K14 hK14 => ?_
  refine PV.condP (k < (p.length : Int)) (decide (k < (p.length : Int))) (by kernel_rfl) decide_eq_true decide_eq_false (fun h15 => ?_) (fun h15 => ?_)
  · skip
    refine PV.skip (thenA_normal (hK14 _ ?_))
    refine PV.seq_k fun K16 hK16 => ?_
    refine PV.block ?_
    refine PV.seq_k fun K17 hK17 => ?_
    refine PV.regionN ?_
    refine PON.runs 1 (by kernel_rfl) ?_
    refine PON.ops (aIndexAddr_map Try.prog [.live ⟨2, [(Schema.cells s)], 33⟩] 27 26 8 PNode.cells (by kernel_rfl) (by kernel_rfl) p .i64 k (by first | omega | grind [isLeaf, isCmp])) (by kernel_rfl) (by kernel_rfl) ?_
    refine PON.runs 4 (by kernel_rfl) ?_
    refine PON.fin rfl (thenA_normal (hK17 _ ?_))
    refine PV.seq_k fun K18 hK18 => ?_
    refine PV.regionN ?_
    refine PON.runs 3 (by kernel_rfl) ?_
    refine PON.call 32 [.agg (Schema.cells s), .agg (PNode.cells (p[k.toNat]!)), iv k] (some 27) (pre := []) (post := []) (x := iv (nodeErr s k (p[k.toNat]!))) _ (by kernel_rfl) (rnode_ok s (p[k.toNat]!) k) trivial rfl ?_
    refine PON.runs 1 (by kernel_rfl) ?_
    refine PON.fin rfl (thenA_normal (hK18 _ ?_))
    refine PV.seq_k fun K19 hK19 => ?_
    refine PV.regionN ?_
    refine PON.runs 2 (by kernel_rfl) ?_
    refine PON.fin rfl (thenA_normal (hK19 _ ?_))
    refine PV.condN ((nodeErr s k (p[k.toNat]!)) = 0) (!(decide ((nodeErr s k (p[k.toNat]!)) = 0))) (by kernel_rfl) (fun h => bnot_t (decide_eq_true h)) (fun h => bnot_f (decide_eq_false h)) (fun h20 => ?_) (fun h20 => ?_)
    · skip
      refine PV.seq_k fun K21 hK21 => ?_
      refine PV.regionN ?_
      refine PON.runs 2 (by kernel_rfl) ?_
      refine PON.fin rfl (thenA_normal (hK21 _ ?_))
      refine PV.norm ⟨(A :: A :: po 0 :: A :: iv (nodeErr s k (p[k.toNat]!)) :: A :: iv k :: po 1 :: iv (nodeErr s k (p[k.toNat]!)) :: A4 (A4 ([.sF 8 (p.map PNode.cells), iv (p.length : Int), iv k, bv (decide (k < (p.length : Int))), iv k, .pF (PNode.cells (p[k.toNat]!)) 0, .agg (PNode.cells (p[k.toNat]!)), .agg (Schema.cells s), .agg (PNode.cells (p[k.toNat]!)), iv k, iv (nodeErr s k (p[k.toNat]!)), iv (nodeErr s k (p[k.toNat]!)), bv (!(decide ((nodeErr s k (p[k.toNat]!)) = 0))), iv (nodeErr s k (p[k.toNat]!)), A]))), [.live ⟨2, [(Schema.cells s)], 33⟩, .live ⟨8, [(PNode.cells (p[k.toNat]!))], 26⟩]⟩ (by kernel_rfl) ?_
      refine PV.ret (inBlockA_ret (thenA_ret (thenA_ret (inBlockA_ret (thenA_ret (hret .ret _ (iv (nodeErr s k (p[k.toNat]!))) (.inr rfl) (by kernel_rfl) ?_))))))
      clear hret hK1 hK2 hK3 hK4 hK7 hK8 hK11 hK12 hK13 hK14 hK16 hK17 hK18 hK19 hK21 K0 K1 K2 K3 K4 K7 K8 K11 K12 K13 K14 K16 K17 K18 K19 K21
      show Tof noTau [.live ⟨2, [(Schema.cells s)], 33⟩, .live ⟨8, [(PNode.cells (p[k.toNat]!))], 26⟩] (iv (nodeErr s k (p[k.toNat]!))) (iv (predErr s p))
      -- leaf 3
      refine Tof.int ?_
      first | grind [predErr] | (have e : errFrom (nodeErr s) 0 p = nodeErr s k p[k.toNat]! := (by rw [he, drop_step _ _ (by omega), errFrom]; grind); grind [predErr]) | (rw [drop_end _ _ (by omega)] at he; grind [predErr, errFrom])
    refine PV.skip (inBlockA_normal (thenA_normal (hK16 _ ?_)))
    refine PV.regionN ?_
    refine PON.ops (aBin_add_in Try.prog [.live ⟨2, [(Schema.cells s)], 33⟩, .live ⟨8, [(PNode.cells (p[k.toNat]!))], 26⟩] 3 (.tmp 19) (.const (.int .i64 1)) .i64 k 1 (by rw [wrap64] <;> omega)) (by kernel_rfl) (by kernel_rfl) ?_
    refine PON.runs 1 (by kernel_rfl) ?_
    refine PON.norm ⟨(A :: A :: po 0 :: A :: A :: A :: iv k :: po 1 :: iv (nodeErr s k (p[k.toNat]!)) :: A4 (A4 ([.sF 8 (p.map PNode.cells), iv (p.length : Int), iv (k + 1), bv (decide (k < (p.length : Int))), iv k, .pF (PNode.cells (p[k.toNat]!)) 0, .agg (PNode.cells (p[k.toNat]!)), .agg (Schema.cells s), .agg (PNode.cells (p[k.toNat]!)), iv k, iv (nodeErr s k (p[k.toNat]!)), iv (nodeErr s k (p[k.toNat]!)), bv (!(decide ((nodeErr s k (p[k.toNat]!)) = 0))), A, iv (k + 1)]))), [.live ⟨2, [(Schema.cells s)], 33⟩, .live ⟨8, [(PNode.cells (p[k.toNat]!))], 26⟩]⟩ (by kernel_rfl) ?_
    refine PON.fin rfl (thenA_normal ?_)
    refine ⟨[0], (k + 1), ⟨rfl, rfl, (.any (.any (.cons (.pO _ _ rfl) (.a9 (.a4 (.any (.cons (.tree (by simp only [NIs_cons, NIs_nil, NIr_cons, NIr_nil, NI_v, NI_any, NI_pO, NI_sO, NI_pF, NI_sF, NI_agg, NI_tup, NI_fn, NIh_nil, NIh_live, NIh_dead, NIh_free, NIr_map, NIr_append, NIs_icells, NIs_scells, NIs_bcells, NIs_Val, NIs_Col, NIs_Schema, NIs_PNode, NIs_Src, NIr_Val, NIr_Col, NIr_ints, NIr_PNode]; try simp)) (.v (.v (.a9 (.any (.any (.any .nil))))))))))))), (.cons rfl (.tree (by simp only [NIs_cons, NIs_nil, NIr_cons, NIr_nil, NI_v, NI_any, NI_pO, NI_sO, NI_pF, NI_sF, NI_agg, NI_tup, NI_fn, NIh_nil, NIh_live, NIh_dead, NIh_free, NIr_map, NIr_append, NIs_icells, NIs_scells, NIs_bcells, NIs_Val, NIs_Col, NIs_Schema, NIs_PNode, NIs_Src, NIr_Val, NIr_Col, NIr_ints, NIr_PNode]; try simp)) .nil)⟩, ?_, ?_⟩
    · skip
      clear hret hK1 hK2 hK3 hK4 hK7 hK8 hK11 hK12 hK13 hK14 hK16 hK17 hK18 hK19 K0 K1 K2 K3 K4 K7 K8 K11 K12 K13 K14 K16 K17 K18 K19
      refine ⟨?_, ?_⟩
      · skip
        show 0 ≤ (k + 1) ∧ (k + 1) ≤ p.length
        omega
      · skip
        show errFrom (nodeErr s) 0 p = errFrom (nodeErr s) (k + 1) (p.drop (k + 1).toNat)
        rw [drop_step _ _ (by omega)] at he
        rw [he, errFrom, if_pos (by assumption)]
    · skip
      clear hret hK1 hK2 hK3 hK4 hK7 hK8 hK11 hK12 hK13 hK14 hK16 hK17 hK18 hK19 K0 K1 K2 K3 K4 K7 K8 K11 K12 K13 K14 K16 K17 K18 K19
      show ((p.length : Int) - (k + 1)).toNat < ((p.length : Int) - k).toNat
      omega
  refine PV.exit (thenA_exit (thenA_exit (inBlockA_hit (thenA_normal (hK11 _ ?_)))))
  refine PV.seq_k fun K22 hK22 => ?_
  refine PV.regionN ?_
  refine PON.runs 1 (by kernel_rfl) ?_
  refine PON.fin rfl (thenA_normal (hK22 _ ?_))
  refine PV.norm ⟨(A :: A :: po 0 :: A :: iv 0 :: A9 (A :: A :: A :: .sF 8 (p.map PNode.cells) :: iv (p.length : Int) :: iv k :: bv (decide (k < (p.length : Int))) :: A9 ([A, A]))), [.live ⟨2, [(Schema.cells s)], 33⟩]⟩ (by kernel_rfl) ?_
  refine PV.ret (hret .ret _ (iv 0) (.inr rfl) (by kernel_rfl) ?_)
  clear hret hK1 hK2 hK3 hK4 hK7 hK8 hK11 hK12 hK13 hK14 hK22 K0 K1 K2 K3 K4 K7 K8 K11 K12 K13 K14 K22
  show Tof noTau [.live ⟨2, [(Schema.cells s)], 33⟩] (iv 0) (iv (predErr s p))
  -- leaf 4
  refine Tof.int ?_
  first | grind [predErr] | (have e : errFrom (nodeErr s) 0 p = nodeErr s k p[k.toNat]! := (by rw [he, drop_step _ _ (by omega), errFrom]; grind); grind [predErr]) | (rw [drop_end _ _ (by omega)] at he; grind [predErr, errFrom])
theorem rcheck_ok (s : Schema) (p : (List PNode)) : PCX Try.prog 16 [.agg (Schema.cells s), .sF 8 (p.map PNode.cells)] [] [] (iv (predErr s p)) :=
  PCX.frame (by simp only [NIs_cons, NIs_nil, NIr_cons, NIr_nil, NI_v, NI_any, NI_pO, NI_sO, NI_pF, NI_sF, NI_agg, NI_tup, NI_fn, NIh_nil, NIh_live, NIh_dead, NIh_free, NIr_map, NIr_append, NIs_icells, NIs_scells, NIs_bcells, NIs_Val, NIs_Col, NIs_Schema, NIs_PNode, NIs_Src, NIr_Val, NIr_Col, NIr_ints, NIr_PNode]; try simp) (rcheck_ok_walk s p)

end Go.Proofs.Ytinehkfcploeiaa
