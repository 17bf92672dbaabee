/- Contracts of the evaluation of predicates, second part. -/
import Derived.Test.YtinehkfcploeiaaEval
namespace Go.Proofs.Ytinehkfcploeiaa
open Go.Abs
set_option linter.unusedVariables false
set_option linter.unusedSimpArgs false


def rowErr (s : Schema) (row : List Val) : Int := if row.length ≠ s.columns.length then 1 else errFrom (fun i v => vCheck s.columns[i.toNat]! v) 0 row
/-- the truth value of a node behind the values of the earlier ones -/
def nodeVal (s : Schema) (row : List Val) (acc : List Int) (n : PNode) : Int :=
  if n.op ≥ 9 then vCombine n.op acc[n.a.toNat]! (if n.op ≠ 11 then acc[n.b.toNat]! else 0) else vTest s.columns[n.column.toNat]!.type n row[n.column.toNat]!
def nodeVals (s : Schema) (row : List Val) (p : List PNode) : List Int := p.foldl (fun acc n => acc ++ [nodeVal s row acc n]) []
def evalT (s : Schema) (p : List PNode) (row : List Val) : Int := (nodeVals s row p).getLastD 1
def evalE (s : Schema) (p : List PNode) (row : List Val) : Int := if predErr s p ≠ 0 then predErr s p else rowErr s row
def evalV (s : Schema) (p : List PNode) (row : List Val) : Int := if evalE s p row ≠ 0 then 0 else evalT s p row
theorem nodeVals_snoc (s : Schema) (row : List Val) (p : List PNode) (n : PNode) : nodeVals s row (p ++ [n]) = nodeVals s row p ++ [nodeVal s row (nodeVals s row p) n] := by
  simp [nodeVals, List.foldl_append]
theorem nodeVals_len (s : Schema) (row : List Val) (p : List PNode) : (nodeVals s row p).length = p.length := by
  have : ∀ (p : List PNode) (acc : List Int), (p.foldl (fun acc n => acc ++ [nodeVal s row acc n]) acc).length = acc.length + p.length := by
    intro p
    induction p with
    | nil => intro acc; rfl
    | cons n p ih => intro acc; rw [List.foldl_cons, ih]; simp; omega
  simpa [nodeVals] using this p []
theorem node_shape {s : Schema} {i : Int} {n : PNode} (h : nodeErr s i n = 0) : (1 ≤ n.op ∧ n.op ≤ 11) ∧ (n.op ≥ 9 → 0 ≤ n.a ∧ n.a < i ∧ (n.op ≠ 11 → 0 ≤ n.b ∧ n.b < i)) ∧ (n.op < 9 → 0 ≤ n.column ∧ n.column < s.columns.length) := by
  grind [nodeErr]
theorem pred_len {s : Schema} {p : List PNode} (h : predErr s p = 0) : p.length ≤ 64 ∧ errFrom (nodeErr s) 0 p = 0 ∧ schemaErr s = 0 := by
  grind [predErr]
theorem schema_len {s : Schema} (h : schemaErr s = 0) : 1 ≤ s.columns.length ∧ s.columns.length ≤ 12 ∧ 0 ≤ s.key ∧ s.key < s.columns.length := by
  grind [schemaErr]
theorem vTest_range (t : Int) (n : PNode) (x : Val) : 0 ≤ vTest t n x ∧ vTest t n x ≤ 2 := by
  have h : ∀ b, 0 ≤ vTruth b ∧ vTruth b ≤ 2 := by intro b; cases b <;> decide
  unfold vTest
  repeat' split
  all_goals first | exact h _ | decide
theorem vCombine_range {op a b : Int} (ha : 0 ≤ a ∧ a ≤ 2) (hb : 0 ≤ b ∧ b ≤ 2) : 0 ≤ vCombine op a b ∧ vCombine op a b ≤ 2 := by
  unfold vCombine
  have hw : ¬ a = 2 → IntKind.i64.wrap (1 - a) = 1 - a := fun h => by rw [wrap64] <;> omega
  grind
theorem get!_range {l : List Int} (h : ∀ x, x ∈ l → 0 ≤ x ∧ x ≤ 2) (i : Nat) : 0 ≤ l[i]! ∧ l[i]! ≤ 2 := by
  by_cases hi : i < l.length
  · rw [getElem!_pos l i hi]; exact h _ (List.getElem_mem hi)
  · rw [getElem!_neg l i hi]; decide
theorem nodeVals_range (s : Schema) (row : List Val) (p : List PNode) : ∀ x, x ∈ nodeVals s row p → 0 ≤ x ∧ x ≤ 2 := by
  have : ∀ (p : List PNode) (acc : List Int), (∀ x, x ∈ acc → 0 ≤ x ∧ x ≤ 2) → ∀ x, x ∈ p.foldl (fun acc n => acc ++ [nodeVal s row acc n]) acc → 0 ≤ x ∧ x ≤ 2 := by
    intro p
    induction p with
    | nil => intro acc h; simpa using h
    | cons n p ih =>
      intro acc h
      rw [List.foldl_cons]
      refine ih _ ?_
      intro x hx
      rcases List.mem_append.1 hx with q | q
      · exact h x q
      · simp at q
        subst q
        unfold nodeVal
        split
        · exact vCombine_range (get!_range h _) (by split; exact get!_range h _; decide)
        · exact vTest_range _ _ _
  exact this p [] (by simp)
theorem comb_and {a b : Int} (ha : 0 ≤ a ∧ a ≤ 2) (hb : 0 ≤ b ∧ b ≤ 2) : vCombine 9 a b = vAnd a b := by
  obtain rfl | rfl | rfl : a = 0 ∨ a = 1 ∨ a = 2 := by omega
  all_goals (obtain rfl | rfl | rfl : b = 0 ∨ b = 1 ∨ b = 2 := by omega)
  all_goals rfl
theorem comb_or {a b : Int} (ha : 0 ≤ a ∧ a ≤ 2) (hb : 0 ≤ b ∧ b ≤ 2) : vCombine 10 a b = vNot (vAnd (vNot a) (vNot b)) := by
  obtain rfl | rfl | rfl : a = 0 ∨ a = 1 ∨ a = 2 := by omega
  all_goals (obtain rfl | rfl | rfl : b = 0 ∨ b = 1 ∨ b = 2 := by omega)
  all_goals rfl
theorem comb_not {a b : Int} : vCombine 11 a b = vNot a := by
  unfold vCombine vNot; grind
theorem nodeVals_at {s : Schema} {row : List Val} {p : List PNode} {L : List Int} {k : Nat} (h : L.take k = nodeVals s row p) (i : Nat) (hi : i < k) : 0 ≤ L[i]! ∧ L[i]! ≤ 2 := by
  have := get!_range (nodeVals_range s row p) i
  rw [← h, getElem!_take _ _ _ hi] at this
  exact this
theorem getLastD_get! (l : List Int) (d : Int) (h : 0 < l.length) : l.getLastD d = l[l.length - 1]! := by
  rw [getElem!_pos _ _ (by omega), List.getLastD_eq_getLast?, List.getLast?_eq_getElem?, List.getElem?_eq_getElem (by omega)]
  rfl

set_option maxHeartbeats 4000000 in
theorem checkRow_ok_walk (s : Schema) (row : (List Val)) (hs : s.columns.length ≤ 12) : PC Try.prog 36 [.agg (Schema.cells s), .sF 3 (row.map Val.cells)] [] (fun yR kR => Tof noTau kR yR (iv (rowErr s row))) := by
  refine PC.of_bodyV Try.func36 rfl (.agg (Schema.cells s) :: .sF 3 (row.map Val.cells) :: U9 (U9 (U9 ([U, U, U])))) (by kernel_rfl) (fun K0 hret => ?_)
  refine PV.seq_k fun K1 hK1 => ?_
  refine PV.regionN ?_
  refine PON.runs 2 (by kernel_rfl) ?_
  refine PON.fin rfl (thenA_normal (hK1 _ ?_))
  refine PV.seq_k fun K2 hK2 => ?_
  refine PV.seq_k fun K3 hK3 => ?_
  refine PV.regionN ?_
  refine PON.runs 1 (by kernel_rfl) ?_
  refine PON.ops (aLen_map Try.prog [.live ⟨2, [(Schema.cells s)], 33⟩] 24 23 (by kernel_rfl) 3 Val.cells row) (by kernel_rfl) (by kernel_rfl) ?_
  refine PON.runs 2 (by kernel_rfl) ?_
  refine PON.ops (aLen_map Try.prog [.live ⟨2, [(Schema.cells s)], 33⟩] 31 47 (by kernel_rfl) 4 Col.cells s.columns) (by kernel_rfl) (by kernel_rfl) ?_
  refine PON.runs 1 (by kernel_rfl) ?_
  refine PON.fin rfl (thenA_normal (hK3 _ ?_))
  refine PV.condN ((row.length : Int) = (s.columns.length : Int)) (!(decide ((row.length : Int) = (s.columns.length : Int)))) (by kernel_rfl) (fun h => bnot_t (decide_eq_true h)) (fun h => bnot_f (decide_eq_false h)) (fun h4 => ?_) (fun h4 => ?_)
  · skip
    refine PV.seq_k fun K5 hK5 => ?_
    refine PV.regionN ?_
    refine PON.runs 1 (by kernel_rfl) ?_
    refine PON.fin rfl (thenA_normal (hK5 _ ?_))
    refine PV.norm ⟨(.agg (Schema.cells s) :: .sF 3 (row.map Val.cells) :: po 0 :: U :: iv 1 :: U :: U :: U :: .sF 3 (row.map Val.cells) :: iv (row.length : Int) :: po 0 :: .sF 4 (s.columns.map Col.cells) :: iv (s.columns.length : Int) :: bv (!(decide ((row.length : Int) = (s.columns.length : Int)))) :: U9 (U9 ([]))), [.live ⟨2, [(Schema.cells s)], 33⟩]⟩ (by kernel_rfl) ?_
    refine PV.ret (thenA_ret (hret .ret _ (iv 1) (.inr rfl) (by kernel_rfl) ?_))
    clear hret hK1 hK2 hK3 hK5 K0 K1 K2 K3 K5
    show Tof noTau [.live ⟨2, [(Schema.cells s)], 33⟩] (iv 1) (iv (rowErr s row))
    -- leaf 1
    refine Tof.int ?_
    first | grind [rowErr] | (rw [drop_step _ _ (by omega), errFrom] at hr; grind [rowErr]) | (rw [drop_end _ _ (by omega)] at hr; grind [rowErr, errFrom])
  refine PV.skip (thenA_normal (hK2 _ ?_))
  refine PV.seq_k fun K6 hK6 => ?_
  refine PV.seq_k fun K7 hK7 => ?_
  refine PV.regionN ?_
  refine PON.runs 1 (by kernel_rfl) ?_
  refine PON.ops (aLen_map Try.prog [.live ⟨2, [(Schema.cells s)], 33⟩] 24 23 (by kernel_rfl) 3 Val.cells row) (by kernel_rfl) (by kernel_rfl) ?_
  refine PON.runs 1 (by kernel_rfl) ?_
  refine PON.fin rfl (thenA_normal (hK7 _ ?_))
  refine PV.block ?_
  refine PV.norm ⟨(.agg (Schema.cells s) :: .sF 3 (row.map Val.cells) :: po 0 :: U :: iv 0 :: U :: U :: U :: .sF 3 (row.map Val.cells) :: iv (row.length : Int) :: po 0 :: .sF 4 (s.columns.map Col.cells) :: iv (s.columns.length : Int) :: bv (!(decide ((row.length : Int) = (s.columns.length : Int)))) :: .sF 3 (row.map Val.cells) :: iv (row.length : Int) :: iv 0 :: U9 ([U, U, U, U, U, U])), [.live ⟨2, [(Schema.cells s)], 33⟩]⟩ (by kernel_rfl) ?_
  refine PV.loopR (α := Int) (fun xL => let k := xL; (⟨(A :: A :: po 0 :: A9 (A :: A :: .sF 3 (row.map Val.cells) :: iv (row.length : Int) :: iv k :: A9 (A4 ([A, A])))), [.live ⟨2, [(Schema.cells s)], 33⟩]⟩ : St)) (fun xL => let k := xL; (0 ≤ k ∧ k ≤ row.length) ∧ (errFrom (fun i v => vCheck s.columns[i.toNat]! v) 0 row = errFrom (fun i v => vCheck s.columns[i.toNat]! v) k (row.drop k.toNat))) (fun xL => let k := xL; ((row.length : Int) - k).toNat) [0] (0 : Int) ⟨rfl, rfl, (.any (.any (.cons (.pO _ _ rfl) (.a9 (.any (.any (.cons (.tree (by simp only [NIs_cons, NIs_nil, NIr_cons, NIr_nil, NI_v, NI_any, NI_pO, NI_sO, NI_pF, NI_sF, NI_agg, NI_tup, NI_fn, NIh_nil, NIh_live, NIh_dead, NIh_free, NIr_map, NIr_append, NIs_icells, NIs_scells, NIs_bcells, NIs_Val, NIs_Col, NIs_Schema, NIs_PNode, NIs_Src, NIr_Val, NIr_Col, NIr_ints, NIr_PNode]; try simp)) (.v (.v (.a9 (.a4 (.any (.any .nil))))))))))))), (.cons rfl (.tree (by simp only [NIs_cons, NIs_nil, NIr_cons, NIr_nil, NI_v, NI_any, NI_pO, NI_sO, NI_pF, NI_sF, NI_agg, NI_tup, NI_fn, NIh_nil, NIh_live, NIh_dead, NIh_free, NIr_map, NIr_append, NIs_icells, NIs_scells, NIs_bcells, NIs_Val, NIs_Col, NIs_Schema, NIs_PNode, NIs_Src, NIr_Val, NIr_Col, NIr_ints, NIr_PNode]; try simp)) .nil)⟩ ?_ ?_
  · skip
    clear hret hK1 hK2 hK3 hK6 hK7 K0 K1 K2 K3 K6 K7
    refine ⟨?_, ?_⟩
    · skip
      show 0 ≤ (0 : Int) ∧ (0 : Int) ≤ row.length
      simp
    · skip
      show errFrom (fun i v => vCheck s.columns[i.toNat]! v) 0 row = errFrom (fun i v => vCheck s.columns[i.toNat]! v) (0 : Int) (row.drop (0 : Int).toNat)
      simp
  rintro k hJ
  change (0 ≤ k ∧ k ≤ row.length) ∧ (errFrom (fun i v => vCheck s.columns[i.toNat]! v) 0 row = errFrom (fun i v => vCheck s.columns[i.toNat]! v) k (row.drop k.toNat)) at hJ
  obtain ⟨hk, hr⟩ := hJ
  show PV _ Try.prog _ ⟨(A :: A :: po 0 :: A9 (A :: A :: .sF 3 (row.map Val.cells) :: iv (row.length : Int) :: iv k :: A9 (A4 ([A, A])))), [.live ⟨2, [(Schema.cells s)], 33⟩]⟩ _
  refine PV.seq_k fun K8 hK8 => ?_
  refine PV.regionN ?_
  refine PON.runs 1 (by kernel_rfl) ?_
  refine PON.fin rfl (thenA_normal (hK8 _ ?_))
  refine PV.seq_k fun K9 hK9 => ?_
  refine PV.condP (k < (row.length : Int)) (decide (k < (row.length : Int))) (by kernel_rfl) decide_eq_true decide_eq_false (fun h10 => ?_) (fun h10 => ?_)
  · skip
    refine PV.skip (thenA_normal (hK9 _ ?_))
    refine PV.seq_k fun K11 hK11 => ?_
    refine PV.block ?_
    refine PV.seq_k fun K12 hK12 => ?_
    refine PV.regionN ?_
    refine PON.runs 1 (by kernel_rfl) ?_
    refine PON.ops (aIndexAddr_map Try.prog [.live ⟨2, [(Schema.cells s)], 33⟩] 24 23 3 Val.cells (by kernel_rfl) (by kernel_rfl) row .i64 k (by first | omega | grind)) (by kernel_rfl) (by kernel_rfl) ?_
    refine PON.runs 4 (by kernel_rfl) ?_
    refine PON.fin rfl (thenA_normal (hK12 _ ?_))
    refine PV.norm ⟨(A :: A :: po 0 :: A :: A :: iv k :: po 1 :: A4 (A :: A :: A :: .sF 3 (row.map Val.cells) :: iv (row.length : Int) :: iv k :: bv (decide (k < (row.length : Int))) :: iv k :: .pF (Val.cells (row[k.toNat]!)) 0 :: .agg (Val.cells (row[k.toNat]!)) :: A9 ([A, A]))), [.live ⟨2, [(Schema.cells s)], 33⟩, .live ⟨3, [(Val.cells (row[k.toNat]!))], 23⟩]⟩ (by kernel_rfl) ?_
    refine PV.seqR [0, 1] ⟨(A :: A :: po 0 :: A :: A :: iv k :: po 1 :: iv (vCheck (s.columns[k.toNat]!) (row[k.toNat]!)) :: A4 (A :: A :: .sF 3 (row.map Val.cells) :: iv (row.length : Int) :: iv k :: bv (decide (k < (row.length : Int))) :: iv k :: .pF (Val.cells (row[k.toNat]!)) 0 :: .agg (Val.cells (row[k.toNat]!)) :: A9 ([A, A]))), [.live ⟨2, [(Schema.cells s)], 33⟩, .live ⟨3, [(Val.cells (row[k.toNat]!))], 23⟩]⟩ ?_ ?_
    · skip
      refine PV.drawnG mixed (by kernel_rfl) ?_
      refine DRG.runs 3 (by kernel_rfl) ?_
      refine DRG.ops (aIndexAddr_map Try.prog [.live ⟨2, [(Schema.cells s)], 33⟩, .live ⟨3, [(Val.cells (row[k.toNat]!))], 23⟩, .free, .free, .free, .free, .free, .free, .free, .free] 31 47 4 Col.cells (by kernel_rfl) (by kernel_rfl) s.columns .i64 k (by first | omega | grind)) (by kernel_rfl) (by kernel_rfl) ?_
      refine DRG.runs 2 (by kernel_rfl) ?_
      refine DRG.call 53 [.agg (Col.cells (s.columns[k.toNat]!)), .agg (Val.cells (row[k.toNat]!))] (some 27) (pre := []) (post := []) (x := iv (vCheck (s.columns[k.toNat]!) (row[k.toNat]!))) _ (by kernel_rfl) (rCheck_ok (s.columns[k.toNat]!) (row[k.toNat]!)) trivial rfl ?_
      refine DRG.runs 1 (by kernel_rfl) ?_
      refine DRG.norm ⟨(A :: A :: po 0 :: A :: A :: iv k :: po 1 :: iv (vCheck (s.columns[k.toNat]!) (row[k.toNat]!)) :: A4 (A :: A :: .sF 3 (row.map Val.cells) :: iv (row.length : Int) :: iv k :: bv (decide (k < (row.length : Int))) :: iv k :: .pF (Val.cells (row[k.toNat]!)) 0 :: .agg (Val.cells (row[k.toNat]!)) :: po 0 :: .sF 4 (s.columns.map Col.cells) :: iv k :: .pF (Col.cells (s.columns[k.toNat]!)) 0 :: .agg (Col.cells (s.columns[k.toNat]!)) :: .agg (Val.cells (row[k.toNat]!)) :: iv (vCheck (s.columns[k.toNat]!) (row[k.toNat]!)) :: A4 ([]))), [.live ⟨2, [(Schema.cells s)], 33⟩, .live ⟨3, [(Val.cells (row[k.toNat]!))], 23⟩, .free, .free, .free, .free, .free, .free, .free, .free]⟩ (by kernel_rfl) ?_
      refine DRG.fin rfl (And.intro (by kernel_rfl) ?_)
      refine id (thenA_normal ?_)
      exact ⟨rfl, rfl, (.any (.any (.cons (.pO _ _ rfl) (.any (.any (.v (.cons (.pO _ _ rfl) (.v (.a4 (.any (.any (.cons (.tree (by simp only [NIs_cons, NIs_nil, NIr_cons, NIr_nil, NI_v, NI_any, NI_pO, NI_sO, NI_pF, NI_sF, NI_agg, NI_tup, NI_fn, NIh_nil, NIh_live, NIh_dead, NIh_free, NIr_map, NIr_append, NIs_icells, NIs_scells, NIs_bcells, NIs_Val, NIs_Col, NIs_Schema, NIs_PNode, NIs_Src, NIr_Val, NIr_Col, NIr_ints, NIr_PNode]; try simp)) (.v (.v (.v (.v (.cons (.tree (by simp only [NIs_cons, NIs_nil, NIr_cons, NIr_nil, NI_v, NI_any, NI_pO, NI_sO, NI_pF, NI_sF, NI_agg, NI_tup, NI_fn, NIh_nil, NIh_live, NIh_dead, NIh_free, NIr_map, NIr_append, NIs_icells, NIs_scells, NIs_bcells, NIs_Val, NIs_Col, NIs_Schema, NIs_PNode, NIs_Src, NIr_Val, NIr_Col, NIr_ints, NIr_PNode]; try simp)) (.cons (.tree (by simp only [NIs_cons, NIs_nil, NIr_cons, NIr_nil, NI_v, NI_any, NI_pO, NI_sO, NI_pF, NI_sF, NI_agg, NI_tup, NI_fn, NIh_nil, NIh_live, NIh_dead, NIh_free, NIr_map, NIr_append, NIs_icells, NIs_scells, NIs_bcells, NIs_Val, NIs_Col, NIs_Schema, NIs_PNode, NIs_Src, NIr_Val, NIr_Col, NIr_ints, NIr_PNode]; try simp)) (.a9 (.any (.any .nil))))))))))))))))))))), (.cons rfl (.tree (by simp only [NIs_cons, NIs_nil, NIr_cons, NIr_nil, NI_v, NI_any, NI_pO, NI_sO, NI_pF, NI_sF, NI_agg, NI_tup, NI_fn, NIh_nil, NIh_live, NIh_dead, NIh_free, NIr_map, NIr_append, NIs_icells, NIs_scells, NIs_bcells, NIs_Val, NIs_Col, NIs_Schema, NIs_PNode, NIs_Src, NIr_Val, NIr_Col, NIr_ints, NIr_PNode]; try simp)) (.cons rfl (.tree (by simp only [NIs_cons, NIs_nil, NIr_cons, NIr_nil, NI_v, NI_any, NI_pO, NI_sO, NI_pF, NI_sF, NI_agg, NI_tup, NI_fn, NIh_nil, NIh_live, NIh_dead, NIh_free, NIr_map, NIr_append, NIs_icells, NIs_scells, NIs_bcells, NIs_Val, NIs_Col, NIs_Schema, NIs_PNode, NIs_Src, NIr_Val, NIr_Col, NIr_ints, NIr_PNode]; try simp)) .nil))⟩
    refine PV.seq_k fun K13 hK13 => ?_
    refine PV.regionN ?_
    refine PON.runs 2 (by kernel_rfl) ?_
    refine PON.fin rfl (thenA_normal (hK13 _ ?_))
    refine PV.condN ((vCheck (s.columns[k.toNat]!) (row[k.toNat]!)) = 0) (!(decide ((vCheck (s.columns[k.toNat]!) (row[k.toNat]!)) = 0))) (by kernel_rfl) (fun h => bnot_t (decide_eq_true h)) (fun h => bnot_f (decide_eq_false h)) (fun h14 => ?_) (fun h14 => ?_)
    · skip
      refine PV.seq_k fun K15 hK15 => ?_
      refine PV.regionN ?_
      refine PON.runs 2 (by kernel_rfl) ?_
      refine PON.fin rfl (thenA_normal (hK15 _ ?_))
      refine PV.norm ⟨(A :: A :: po 0 :: A :: iv (vCheck (s.columns[k.toNat]!) (row[k.toNat]!)) :: iv k :: po 1 :: iv (vCheck (s.columns[k.toNat]!) (row[k.toNat]!)) :: A4 (A :: A :: .sF 3 (row.map Val.cells) :: iv (row.length : Int) :: iv k :: bv (decide (k < (row.length : Int))) :: iv k :: .pF (Val.cells (row[k.toNat]!)) 0 :: .agg (Val.cells (row[k.toNat]!)) :: A4 ([A, A, A, iv (vCheck (s.columns[k.toNat]!) (row[k.toNat]!)), bv (!(decide ((vCheck (s.columns[k.toNat]!) (row[k.toNat]!)) = 0))), iv (vCheck (s.columns[k.toNat]!) (row[k.toNat]!)), A]))), [.live ⟨2, [(Schema.cells s)], 33⟩, .live ⟨3, [(Val.cells (row[k.toNat]!))], 23⟩]⟩ (by kernel_rfl) ?_
      refine PV.ret (inBlockA_ret (thenA_ret (thenA_ret (inBlockA_ret (thenA_ret (hret .ret _ (iv (vCheck (s.columns[k.toNat]!) (row[k.toNat]!))) (.inr rfl) (by kernel_rfl) ?_))))))
      clear hret hK1 hK2 hK3 hK6 hK7 hK8 hK9 hK11 hK12 hK13 hK15 K0 K1 K2 K3 K6 K7 K8 K9 K11 K12 K13 K15
      show Tof noTau [.live ⟨2, [(Schema.cells s)], 33⟩, .live ⟨3, [(Val.cells (row[k.toNat]!))], 23⟩] (iv (vCheck (s.columns[k.toNat]!) (row[k.toNat]!))) (iv (rowErr s row))
      -- leaf 2
      refine Tof.int ?_
      first | grind [rowErr] | (rw [drop_step _ _ (by omega), errFrom] at hr; grind [rowErr]) | (rw [drop_end _ _ (by omega)] at hr; grind [rowErr, errFrom])
    refine PV.skip (inBlockA_normal (thenA_normal (hK11 _ ?_)))
    refine PV.regionN ?_
    refine PON.ops (aBin_add_in Try.prog [.live ⟨2, [(Schema.cells s)], 33⟩, .live ⟨3, [(Val.cells (row[k.toNat]!))], 23⟩] 3 (.tmp 16) (.const (.int .i64 1)) .i64 k 1 (by rw [wrap64] <;> omega)) (by kernel_rfl) (by kernel_rfl) ?_
    refine PON.runs 1 (by kernel_rfl) ?_
    refine PON.norm ⟨(A :: A :: po 0 :: A :: A :: iv k :: po 1 :: iv (vCheck (s.columns[k.toNat]!) (row[k.toNat]!)) :: A4 (A :: A :: .sF 3 (row.map Val.cells) :: iv (row.length : Int) :: iv (k + 1) :: bv (decide (k < (row.length : Int))) :: iv k :: .pF (Val.cells (row[k.toNat]!)) 0 :: .agg (Val.cells (row[k.toNat]!)) :: A4 ([A, A, A, iv (vCheck (s.columns[k.toNat]!) (row[k.toNat]!)), bv (!(decide ((vCheck (s.columns[k.toNat]!) (row[k.toNat]!)) = 0))), A, iv (k + 1)]))), [.live ⟨2, [(Schema.cells s)], 33⟩, .live ⟨3, [(Val.cells (row[k.toNat]!))], 23⟩]⟩ (by kernel_rfl) ?_
    refine PON.fin rfl (thenA_normal ?_)
    refine ⟨[0], (k + 1), ⟨rfl, rfl, (.any (.any (.cons (.pO _ _ rfl) (.a9 (.any (.any (.cons (.tree (by simp only [NIs_cons, NIs_nil, NIr_cons, NIr_nil, NI_v, NI_any, NI_pO, NI_sO, NI_pF, NI_sF, NI_agg, NI_tup, NI_fn, NIh_nil, NIh_live, NIh_dead, NIh_free, NIr_map, NIr_append, NIs_icells, NIs_scells, NIs_bcells, NIs_Val, NIs_Col, NIs_Schema, NIs_PNode, NIs_Src, NIr_Val, NIr_Col, NIr_ints, NIr_PNode]; try simp)) (.v (.v (.a9 (.a4 (.any (.any .nil))))))))))))), (.cons rfl (.tree (by simp only [NIs_cons, NIs_nil, NIr_cons, NIr_nil, NI_v, NI_any, NI_pO, NI_sO, NI_pF, NI_sF, NI_agg, NI_tup, NI_fn, NIh_nil, NIh_live, NIh_dead, NIh_free, NIr_map, NIr_append, NIs_icells, NIs_scells, NIs_bcells, NIs_Val, NIs_Col, NIs_Schema, NIs_PNode, NIs_Src, NIr_Val, NIr_Col, NIr_ints, NIr_PNode]; try simp)) .nil)⟩, ?_, ?_⟩
    · skip
      clear hret hK1 hK2 hK3 hK6 hK7 hK8 hK9 hK11 hK12 hK13 K0 K1 K2 K3 K6 K7 K8 K9 K11 K12 K13
      refine ⟨?_, ?_⟩
      · skip
        show 0 ≤ (k + 1) ∧ (k + 1) ≤ row.length
        omega
      · skip
        show errFrom (fun i v => vCheck s.columns[i.toNat]! v) 0 row = errFrom (fun i v => vCheck s.columns[i.toNat]! v) (k + 1) (row.drop (k + 1).toNat)
        rw [drop_step _ _ (by omega)] at hr
        rw [hr, errFrom, if_pos (by assumption)]
    · skip
      clear hret hK1 hK2 hK3 hK6 hK7 hK8 hK9 hK11 hK12 hK13 K0 K1 K2 K3 K6 K7 K8 K9 K11 K12 K13
      show ((row.length : Int) - (k + 1)).toNat < ((row.length : Int) - k).toNat
      omega
  refine PV.exit (thenA_exit (thenA_exit (inBlockA_hit (thenA_normal (hK6 _ ?_)))))
  refine PV.seq_k fun K16 hK16 => ?_
  refine PV.regionN ?_
  refine PON.runs 1 (by kernel_rfl) ?_
  refine PON.fin rfl (thenA_normal (hK16 _ ?_))
  refine PV.norm ⟨(A :: A :: po 0 :: A :: iv 0 :: A9 (.sF 3 (row.map Val.cells) :: iv (row.length : Int) :: iv k :: bv (decide (k < (row.length : Int))) :: A9 (A4 ([A])))), [.live ⟨2, [(Schema.cells s)], 33⟩]⟩ (by kernel_rfl) ?_
  refine PV.ret (hret .ret _ (iv 0) (.inr rfl) (by kernel_rfl) ?_)
  clear hret hK1 hK2 hK3 hK6 hK7 hK8 hK9 hK16 K0 K1 K2 K3 K6 K7 K8 K9 K16
  show Tof noTau [.live ⟨2, [(Schema.cells s)], 33⟩] (iv 0) (iv (rowErr s row))
  -- leaf 3
  refine Tof.int ?_
  first | grind [rowErr] | (rw [drop_step _ _ (by omega), errFrom] at hr; grind [rowErr]) | (rw [drop_end _ _ (by omega)] at hr; grind [rowErr, errFrom])
theorem checkRow_ok (s : Schema) (row : (List Val)) (hs : s.columns.length ≤ 12) : PCX Try.prog 36 [.agg (Schema.cells s), .sF 3 (row.map Val.cells)] [] [] (iv (rowErr s row)) :=
  PCX.frame (by simp only [NIs_cons, NIs_nil, NIr_cons, NIr_nil, NI_v, NI_any, NI_pO, NI_sO, NI_pF, NI_sF, NI_agg, NI_tup, NI_fn, NIh_nil, NIh_live, NIh_dead, NIh_free, NIr_map, NIr_append, NIs_icells, NIs_scells, NIs_bcells, NIs_Val, NIs_Col, NIs_Schema, NIs_PNode, NIs_Src, NIr_Val, NIr_Col, NIr_ints, NIr_PNode]; try simp) (checkRow_ok_walk s row hs)

set_option maxHeartbeats 4000000 in
theorem eval_ok_walk (s : Schema) (p : (List PNode)) (row : (List Val)) (hw : ∀ i : Nat, p[i]!.list.length ≤ maxLen) : PC Try.prog 11 [.agg (Schema.cells s), .sF 8 (p.map PNode.cells), .sF 3 (row.map Val.cells)] [] (fun yR kR => Tof noTau kR yR (.tup [iv (evalV s p row), iv (evalE s p row)])) := by
  refine PC.of_bodyV Try.func11 rfl (.agg (Schema.cells s) :: .sF 8 (p.map PNode.cells) :: .sF 3 (row.map Val.cells) :: U9 (U9 (U9 (U9 (U9 (U9 (U9 (U9 (U9 (U9 (U9 ([U])))))))))))) (by kernel_rfl) (fun K0 hret => ?_)
  refine PV.seq_k fun K1 hK1 => ?_
  refine PV.regionN ?_
  refine PON.runs 3 (by kernel_rfl) ?_
  refine PON.fin rfl (thenA_normal (hK1 _ ?_))
  refine PV.seq_k fun K2 hK2 => ?_
  refine PV.seq_k fun K3 hK3 => ?_
  refine PV.regionN ?_
  refine PON.runs 2 (by kernel_rfl) ?_
  refine PON.call 15 [.agg (Schema.cells s), .sF 8 (p.map PNode.cells)] (some 19) (pre := []) (post := []) (x := iv (predErr s p)) _ (by kernel_rfl) (check_ok s p) trivial rfl ?_
  refine PON.runs 1 (by kernel_rfl) ?_
  refine PON.fin rfl (thenA_normal (hK3 _ ?_))
  refine PV.seq_k fun K4 hK4 => ?_
  refine PV.regionN ?_
  refine PON.runs 2 (by kernel_rfl) ?_
  refine PON.fin rfl (thenA_normal (hK4 _ ?_))
  refine PV.condN ((predErr s p) = 0) (!(decide ((predErr s p) = 0))) (by kernel_rfl) (fun h => bnot_t (decide_eq_true h)) (fun h => bnot_f (decide_eq_false h)) (fun h5 => ?_) (fun h5 => ?_)
  · skip
    refine PV.seq_k fun K6 hK6 => ?_
    refine PV.regionN ?_
    refine PON.runs 3 (by kernel_rfl) ?_
    refine PON.fin rfl (thenA_normal (hK6 _ ?_))
    refine PV.norm ⟨(.agg (Schema.cells s) :: .sF 8 (p.map PNode.cells) :: .sF 3 (row.map Val.cells) :: po 0 :: U :: U :: iv 0 :: iv (predErr s p) :: iv (predErr s p) :: U :: U :: U :: U :: U :: U :: U :: U :: .agg (Schema.cells s) :: .sF 8 (p.map PNode.cells) :: iv (predErr s p) :: iv (predErr s p) :: bv (!(decide ((predErr s p) = 0))) :: iv (predErr s p) :: U9 (U9 (U9 (U9 (U9 (U9 (U9 (U9 ([U, U, U, U, U, U, U, U]))))))))), [.live ⟨2, [(Schema.cells s)], 33⟩]⟩ (by kernel_rfl) ?_
    refine PV.ret (thenA_ret (hret .ret _ (.tup [iv 0, iv (predErr s p)]) (.inr rfl) (by kernel_rfl) ?_))
    clear hret hK1 hK2 hK3 hK4 hK6 K0 K1 K2 K3 K4 K6
    show Tof noTau [.live ⟨2, [(Schema.cells s)], 33⟩] (.tup [iv 0, iv (predErr s p)]) (.tup [iv (evalV s p row), iv (evalE s p row)])
    -- leaf 1
    first | (refine Tof.tup (.cons (Tof.int ?_) (.cons (Tof.int ?_) .nil)) <;> first | grind [evalV, evalE, rowErr] | (rw [drop_step _ _ (by omega), errFrom] at hr; grind [evalV, evalE, rowErr]) | grind [evalV, evalE, rowErr, evalT, errFrom])
  have hpe : predErr s p = 0 := by simpa using h5
  obtain ⟨hl64, hp, hse⟩ := pred_len hpe
  have hsl := schema_len hse
  refine PV.skip (thenA_normal (hK2 _ ?_))
  refine PV.seq_k fun K7 hK7 => ?_
  refine PV.seq_k fun K8 hK8 => ?_
  refine PV.regionN ?_
  refine PON.runs 1 (by kernel_rfl) ?_
  refine PON.ops (aLen_map Try.prog [.live ⟨2, [(Schema.cells s)], 33⟩] 24 23 (by kernel_rfl) 3 Val.cells row) (by kernel_rfl) (by kernel_rfl) ?_
  refine PON.runs 2 (by kernel_rfl) ?_
  refine PON.ops (aLen_map Try.prog [.live ⟨2, [(Schema.cells s)], 33⟩] 31 47 (by kernel_rfl) 4 Col.cells s.columns) (by kernel_rfl) (by kernel_rfl) ?_
  refine PON.runs 1 (by kernel_rfl) ?_
  refine PON.fin rfl (thenA_normal (hK8 _ ?_))
  refine PV.condN ((row.length : Int) = (s.columns.length : Int)) (!(decide ((row.length : Int) = (s.columns.length : Int)))) (by kernel_rfl) (fun h => bnot_t (decide_eq_true h)) (fun h => bnot_f (decide_eq_false h)) (fun h9 => ?_) (fun h9 => ?_)
  · skip
    refine PV.seq_k fun K10 hK10 => ?_
    refine PV.regionN ?_
    refine PON.runs 2 (by kernel_rfl) ?_
    refine PON.fin rfl (thenA_normal (hK10 _ ?_))
    refine PV.norm ⟨(.agg (Schema.cells s) :: .sF 8 (p.map PNode.cells) :: .sF 3 (row.map Val.cells) :: po 0 :: U :: U :: iv 0 :: iv 1 :: iv (predErr s p) :: U :: U :: U :: U :: U :: U :: U :: U :: .agg (Schema.cells s) :: .sF 8 (p.map PNode.cells) :: iv (predErr s p) :: iv (predErr s p) :: bv (!(decide ((predErr s p) = 0))) :: U :: .sF 3 (row.map Val.cells) :: iv (row.length : Int) :: po 0 :: .sF 4 (s.columns.map Col.cells) :: iv (s.columns.length : Int) :: bv (!(decide ((row.length : Int) = (s.columns.length : Int)))) :: U9 (U9 (U9 (U9 (U9 (U9 (U9 (U9 ([U, U]))))))))), [.live ⟨2, [(Schema.cells s)], 33⟩]⟩ (by kernel_rfl) ?_
    refine PV.ret (thenA_ret (hret .ret _ (.tup [iv 0, iv 1]) (.inr rfl) (by kernel_rfl) ?_))
    clear hret hK1 hK2 hK3 hK4 hK7 hK8 hK10 K0 K1 K2 K3 K4 K7 K8 K10
    show Tof noTau [.live ⟨2, [(Schema.cells s)], 33⟩] (.tup [iv 0, iv 1]) (.tup [iv (evalV s p row), iv (evalE s p row)])
    -- leaf 2
    first | (refine Tof.tup (.cons (Tof.int ?_) (.cons (Tof.int ?_) .nil)) <;> first | grind [evalV, evalE, rowErr] | (rw [drop_step _ _ (by omega), errFrom] at hr; grind [evalV, evalE, rowErr]) | grind [evalV, evalE, rowErr, evalT, errFrom])
  have hrl : (row.length : Int) = s.columns.length := by simpa using h9
  refine PV.skip (thenA_normal (hK7 _ ?_))
  refine PV.seq_k fun K11 hK11 => ?_
  refine PV.seq_k fun K12 hK12 => ?_
  refine PV.regionN ?_
  refine PON.runs 1 (by kernel_rfl) ?_
  refine PON.ops (aLen_map Try.prog [.live ⟨2, [(Schema.cells s)], 33⟩] 24 23 (by kernel_rfl) 3 Val.cells row) (by kernel_rfl) (by kernel_rfl) ?_
  refine PON.runs 1 (by kernel_rfl) ?_
  refine PON.fin rfl (thenA_normal (hK12 _ ?_))
  refine PV.block ?_
  refine PV.norm ⟨(.agg (Schema.cells s) :: .sF 8 (p.map PNode.cells) :: .sF 3 (row.map Val.cells) :: po 0 :: U :: U :: iv 0 :: iv 0 :: iv (predErr s p) :: U :: U :: U :: U :: U :: U :: U :: U :: .agg (Schema.cells s) :: .sF 8 (p.map PNode.cells) :: iv (predErr s p) :: iv (predErr s p) :: bv (!(decide ((predErr s p) = 0))) :: U :: .sF 3 (row.map Val.cells) :: iv (row.length : Int) :: po 0 :: .sF 4 (s.columns.map Col.cells) :: iv (s.columns.length : Int) :: bv (!(decide ((row.length : Int) = (s.columns.length : Int)))) :: .sF 3 (row.map Val.cells) :: iv (row.length : Int) :: iv 0 :: U9 (U9 (U9 (U9 (U9 (U9 (U9 ([U, U, U, U, U, U, U, U])))))))), [.live ⟨2, [(Schema.cells s)], 33⟩]⟩ (by kernel_rfl) ?_
  refine PV.loopR (α := Int) (fun xL => let k := xL; (⟨(A :: .sF 8 (p.map PNode.cells) :: .sF 3 (row.map Val.cells) :: po 0 :: A9 (A9 (A4 (A :: A :: A :: .sF 3 (row.map Val.cells) :: iv (row.length : Int) :: iv k :: A9 (A9 (A9 (A9 (A9 (A9 (A9 (A4 (A4 ([]))))))))))))), [.live ⟨2, [(Schema.cells s)], 33⟩]⟩ : St)) (fun xL => let k := xL; (0 ≤ k ∧ k ≤ row.length) ∧ (errFrom (fun i v => vCheck s.columns[i.toNat]! v) 0 row = errFrom (fun i v => vCheck s.columns[i.toNat]! v) k (row.drop k.toNat))) (fun xL => let k := xL; ((row.length : Int) - k).toNat) [0] (0 : Int) ⟨rfl, rfl, (.any (.cons (.tree (by simp only [NIs_cons, NIs_nil, NIr_cons, NIr_nil, NI_v, NI_any, NI_pO, NI_sO, NI_pF, NI_sF, NI_agg, NI_tup, NI_fn, NIh_nil, NIh_live, NIh_dead, NIh_free, NIr_map, NIr_append, NIs_icells, NIs_scells, NIs_bcells, NIs_Val, NIs_Col, NIs_Schema, NIs_PNode, NIs_Src, NIr_Val, NIr_Col, NIr_ints, NIr_PNode]; try simp)) (.cons (.tree (by simp only [NIs_cons, NIs_nil, NIr_cons, NIr_nil, NI_v, NI_any, NI_pO, NI_sO, NI_pF, NI_sF, NI_agg, NI_tup, NI_fn, NIh_nil, NIh_live, NIh_dead, NIh_free, NIr_map, NIr_append, NIs_icells, NIs_scells, NIs_bcells, NIs_Val, NIs_Col, NIs_Schema, NIs_PNode, NIs_Src, NIr_Val, NIr_Col, NIr_ints, NIr_PNode]; try simp)) (.cons (.pO _ _ rfl) (.a9 (.a9 (.a4 (.any (.any (.any (.cons (.tree (by simp only [NIs_cons, NIs_nil, NIr_cons, NIr_nil, NI_v, NI_any, NI_pO, NI_sO, NI_pF, NI_sF, NI_agg, NI_tup, NI_fn, NIh_nil, NIh_live, NIh_dead, NIh_free, NIr_map, NIr_append, NIs_icells, NIs_scells, NIs_bcells, NIs_Val, NIs_Col, NIs_Schema, NIs_PNode, NIs_Src, NIr_Val, NIr_Col, NIr_ints, NIr_PNode]; try simp)) (.v (.v (.a9 (.a9 (.a9 (.a9 (.a9 (.a9 (.a9 (.a4 (.a4 .nil)))))))))))))))))))))), (.cons rfl (.tree (by simp only [NIs_cons, NIs_nil, NIr_cons, NIr_nil, NI_v, NI_any, NI_pO, NI_sO, NI_pF, NI_sF, NI_agg, NI_tup, NI_fn, NIh_nil, NIh_live, NIh_dead, NIh_free, NIr_map, NIr_append, NIs_icells, NIs_scells, NIs_bcells, NIs_Val, NIs_Col, NIs_Schema, NIs_PNode, NIs_Src, NIr_Val, NIr_Col, NIr_ints, NIr_PNode]; try simp)) .nil)⟩ ?_ ?_
  · skip
    clear hret hK1 hK2 hK3 hK4 hK7 hK8 hK11 hK12 K0 K1 K2 K3 K4 K7 K8 K11 K12
    refine ⟨?_, ?_⟩
    · skip
      show 0 ≤ (0 : Int) ∧ (0 : Int) ≤ row.length
      simp
    · skip
      show errFrom (fun i v => vCheck s.columns[i.toNat]! v) 0 row = errFrom (fun i v => vCheck s.columns[i.toNat]! v) (0 : Int) (row.drop (0 : Int).toNat)
      simp
  rintro k hJ
  change (0 ≤ k ∧ k ≤ row.length) ∧ (errFrom (fun i v => vCheck s.columns[i.toNat]! v) 0 row = errFrom (fun i v => vCheck s.columns[i.toNat]! v) k (row.drop k.toNat)) at hJ
  obtain ⟨hk, hr⟩ := hJ
  show PV _ Try.prog _ ⟨(A :: .sF 8 (p.map PNode.cells) :: .sF 3 (row.map Val.cells) :: po 0 :: A9 (A9 (A4 (A :: A :: A :: .sF 3 (row.map Val.cells) :: iv (row.length : Int) :: iv k :: A9 (A9 (A9 (A9 (A9 (A9 (A9 (A4 (A4 ([]))))))))))))), [.live ⟨2, [(Schema.cells s)], 33⟩]⟩ _
  refine PV.seq_k fun K13 hK13 => ?_
  refine PV.regionN ?_
  refine PON.runs 1 (by kernel_rfl) ?_
  refine PON.fin rfl (thenA_normal (hK13 _ ?_))
  refine PV.seq_k fun K14 hK14 => ?_
  refine PV.condP (k < (row.length : Int)) (decide (k < (row.length : Int))) (by kernel_rfl) decide_eq_true decide_eq_false (fun h15 => ?_) (fun h15 => ?_)
  · skip
    refine PV.skip (thenA_normal (hK14 _ ?_))
    refine PV.seq_k fun K16 hK16 => ?_
    refine PV.block ?_
    refine PV.seq_k fun K17 hK17 => ?_
    refine PV.regionN ?_
    refine PON.runs 1 (by kernel_rfl) ?_
    refine PON.ops (aIndexAddr_map Try.prog [.live ⟨2, [(Schema.cells s)], 33⟩] 24 23 3 Val.cells (by kernel_rfl) (by kernel_rfl) row .i64 k (by first | omega | grind)) (by kernel_rfl) (by kernel_rfl) ?_
    refine PON.runs 4 (by kernel_rfl) ?_
    refine PON.fin rfl (thenA_normal (hK17 _ ?_))
    refine PV.norm ⟨(A :: .sF 8 (p.map PNode.cells) :: .sF 3 (row.map Val.cells) :: po 0 :: A4 (A :: iv k :: po 1 :: A9 (A9 (.sF 3 (row.map Val.cells) :: iv (row.length : Int) :: iv k :: bv (decide (k < (row.length : Int))) :: iv k :: .pF (Val.cells (row[k.toNat]!)) 0 :: .agg (Val.cells (row[k.toNat]!)) :: A9 (A9 (A9 (A9 (A9 (A9 (A9 (A4 ([])))))))))))), [.live ⟨2, [(Schema.cells s)], 33⟩, .live ⟨3, [(Val.cells (row[k.toNat]!))], 23⟩]⟩ (by kernel_rfl) ?_
    refine PV.seqR [0, 1] ⟨(A :: .sF 8 (p.map PNode.cells) :: .sF 3 (row.map Val.cells) :: po 0 :: A4 (A :: iv k :: po 1 :: iv (vCheck (s.columns[k.toNat]!) (row[k.toNat]!)) :: A9 (A4 (A4 (.sF 3 (row.map Val.cells) :: iv (row.length : Int) :: iv k :: bv (decide (k < (row.length : Int))) :: iv k :: .pF (Val.cells (row[k.toNat]!)) 0 :: .agg (Val.cells (row[k.toNat]!)) :: A9 (A9 (A9 (A9 (A9 (A9 (A9 (A4 ([]))))))))))))), [.live ⟨2, [(Schema.cells s)], 33⟩, .live ⟨3, [(Val.cells (row[k.toNat]!))], 23⟩]⟩ ?_ ?_
    · skip
      refine PV.drawnG mixed (by kernel_rfl) ?_
      refine DRG.runs 3 (by kernel_rfl) ?_
      refine DRG.ops (aIndexAddr_map Try.prog [.live ⟨2, [(Schema.cells s)], 33⟩, .live ⟨3, [(Val.cells (row[k.toNat]!))], 23⟩, .free, .free, .free, .free, .free, .free, .free, .free] 31 47 4 Col.cells (by kernel_rfl) (by kernel_rfl) s.columns .i64 k (by first | omega | grind)) (by kernel_rfl) (by kernel_rfl) ?_
      refine DRG.runs 2 (by kernel_rfl) ?_
      refine DRG.call 26 [.agg (Col.cells (s.columns[k.toNat]!)), .agg (Val.cells (row[k.toNat]!))] (some 42) (pre := []) (post := []) (x := iv (vCheck (s.columns[k.toNat]!) (row[k.toNat]!))) _ (by kernel_rfl) (vCheck_ok (s.columns[k.toNat]!) (row[k.toNat]!)) trivial rfl ?_
      refine DRG.runs 1 (by kernel_rfl) ?_
      refine DRG.norm ⟨(A :: .sF 8 (p.map PNode.cells) :: .sF 3 (row.map Val.cells) :: po 0 :: A4 (A :: iv k :: po 1 :: iv (vCheck (s.columns[k.toNat]!) (row[k.toNat]!)) :: A9 (A4 (A4 (.sF 3 (row.map Val.cells) :: iv (row.length : Int) :: iv k :: bv (decide (k < (row.length : Int))) :: iv k :: .pF (Val.cells (row[k.toNat]!)) 0 :: .agg (Val.cells (row[k.toNat]!)) :: po 0 :: .sF 4 (s.columns.map Col.cells) :: iv k :: .pF (Col.cells (s.columns[k.toNat]!)) 0 :: .agg (Col.cells (s.columns[k.toNat]!)) :: .agg (Val.cells (row[k.toNat]!)) :: iv (vCheck (s.columns[k.toNat]!) (row[k.toNat]!)) :: A9 (A9 (A9 (A9 (A9 (A9 (A4 ([A, A])))))))))))), [.live ⟨2, [(Schema.cells s)], 33⟩, .live ⟨3, [(Val.cells (row[k.toNat]!))], 23⟩, .free, .free, .free, .free, .free, .free, .free, .free]⟩ (by kernel_rfl) ?_
      refine DRG.fin rfl (And.intro (by kernel_rfl) ?_)
      refine id (thenA_normal ?_)
      exact ⟨rfl, rfl, (.any (.cons (.tree (by simp only [NIs_cons, NIs_nil, NIr_cons, NIr_nil, NI_v, NI_any, NI_pO, NI_sO, NI_pF, NI_sF, NI_agg, NI_tup, NI_fn, NIh_nil, NIh_live, NIh_dead, NIh_free, NIr_map, NIr_append, NIs_icells, NIs_scells, NIs_bcells, NIs_Val, NIs_Col, NIs_Schema, NIs_PNode, NIs_Src, NIr_Val, NIr_Col, NIr_ints, NIr_PNode]; try simp)) (.cons (.tree (by simp only [NIs_cons, NIs_nil, NIr_cons, NIr_nil, NI_v, NI_any, NI_pO, NI_sO, NI_pF, NI_sF, NI_agg, NI_tup, NI_fn, NIh_nil, NIh_live, NIh_dead, NIh_free, NIr_map, NIr_append, NIs_icells, NIs_scells, NIs_bcells, NIs_Val, NIs_Col, NIs_Schema, NIs_PNode, NIs_Src, NIr_Val, NIr_Col, NIr_ints, NIr_PNode]; try simp)) (.cons (.pO _ _ rfl) (.a4 (.any (.v (.cons (.pO _ _ rfl) (.v (.a9 (.a4 (.a4 (.cons (.tree (by simp only [NIs_cons, NIs_nil, NIr_cons, NIr_nil, NI_v, NI_any, NI_pO, NI_sO, NI_pF, NI_sF, NI_agg, NI_tup, NI_fn, NIh_nil, NIh_live, NIh_dead, NIh_free, NIr_map, NIr_append, NIs_icells, NIs_scells, NIs_bcells, NIs_Val, NIs_Col, NIs_Schema, NIs_PNode, NIs_Src, NIr_Val, NIr_Col, NIr_ints, NIr_PNode]; try simp)) (.v (.v (.v (.v (.cons (.tree (by simp only [NIs_cons, NIs_nil, NIr_cons, NIr_nil, NI_v, NI_any, NI_pO, NI_sO, NI_pF, NI_sF, NI_agg, NI_tup, NI_fn, NIh_nil, NIh_live, NIh_dead, NIh_free, NIr_map, NIr_append, NIs_icells, NIs_scells, NIs_bcells, NIs_Val, NIs_Col, NIs_Schema, NIs_PNode, NIs_Src, NIr_Val, NIr_Col, NIr_ints, NIr_PNode]; try simp)) (.cons (.tree (by simp only [NIs_cons, NIs_nil, NIr_cons, NIr_nil, NI_v, NI_any, NI_pO, NI_sO, NI_pF, NI_sF, NI_agg, NI_tup, NI_fn, NIh_nil, NIh_live, NIh_dead, NIh_free, NIr_map, NIr_append, NIs_icells, NIs_scells, NIs_bcells, NIs_Val, NIs_Col, NIs_Schema, NIs_PNode, NIs_Src, NIr_Val, NIr_Col, NIr_ints, NIr_PNode]; try simp)) (.a9 (.a9 (.a9 (.a9 (.a9 (.a9 (.a9 (.a4 .nil))))))))))))))))))))))))))), (.cons rfl (.tree (by simp only [NIs_cons, NIs_nil, NIr_cons, NIr_nil, NI_v, NI_any, NI_pO, NI_sO, NI_pF, NI_sF, NI_agg, NI_tup, NI_fn, NIh_nil, NIh_live, NIh_dead, NIh_free, NIr_map, NIr_append, NIs_icells, NIs_scells, NIs_bcells, NIs_Val, NIs_Col, NIs_Schema, NIs_PNode, NIs_Src, NIr_Val, NIr_Col, NIr_ints, NIr_PNode]; try simp)) (.cons rfl (.tree (by simp only [NIs_cons, NIs_nil, NIr_cons, NIr_nil, NI_v, NI_any, NI_pO, NI_sO, NI_pF, NI_sF, NI_agg, NI_tup, NI_fn, NIh_nil, NIh_live, NIh_dead, NIh_free, NIr_map, NIr_append, NIs_icells, NIs_scells, NIs_bcells, NIs_Val, NIs_Col, NIs_Schema, NIs_PNode, NIs_Src, NIr_Val, NIr_Col, NIr_ints, NIr_PNode]; try simp)) .nil))⟩
    refine PV.seq_k fun K18 hK18 => ?_
    refine PV.regionN ?_
    refine PON.runs 2 (by kernel_rfl) ?_
    refine PON.fin rfl (thenA_normal (hK18 _ ?_))
    refine PV.condN ((vCheck (s.columns[k.toNat]!) (row[k.toNat]!)) = 0) (!(decide ((vCheck (s.columns[k.toNat]!) (row[k.toNat]!)) = 0))) (by kernel_rfl) (fun h => bnot_t (decide_eq_true h)) (fun h => bnot_f (decide_eq_false h)) (fun h19 => ?_) (fun h19 => ?_)
    · skip
      refine PV.seq_k fun K20 hK20 => ?_
      refine PV.regionN ?_
      refine PON.runs 3 (by kernel_rfl) ?_
      refine PON.fin rfl (thenA_normal (hK20 _ ?_))
      refine PV.norm ⟨(A :: .sF 8 (p.map PNode.cells) :: .sF 3 (row.map Val.cells) :: po 0 :: A :: A :: iv 0 :: iv (vCheck (s.columns[k.toNat]!) (row[k.toNat]!)) :: A :: iv k :: po 1 :: iv (vCheck (s.columns[k.toNat]!) (row[k.toNat]!)) :: A9 (A4 (A4 (.sF 3 (row.map Val.cells) :: iv (row.length : Int) :: iv k :: bv (decide (k < (row.length : Int))) :: iv k :: .pF (Val.cells (row[k.toNat]!)) 0 :: .agg (Val.cells (row[k.toNat]!)) :: A4 (A :: A :: A :: iv (vCheck (s.columns[k.toNat]!) (row[k.toNat]!)) :: bv (!(decide ((vCheck (s.columns[k.toNat]!) (row[k.toNat]!)) = 0))) :: iv (vCheck (s.columns[k.toNat]!) (row[k.toNat]!)) :: A9 (A9 (A9 (A9 (A9 (A9 ([A, A, A]))))))))))), [.live ⟨2, [(Schema.cells s)], 33⟩, .live ⟨3, [(Val.cells (row[k.toNat]!))], 23⟩]⟩ (by kernel_rfl) ?_
      refine PV.ret (inBlockA_ret (thenA_ret (thenA_ret (inBlockA_ret (thenA_ret (hret .ret _ (.tup [iv 0, iv (vCheck (s.columns[k.toNat]!) (row[k.toNat]!))]) (.inr rfl) (by kernel_rfl) ?_))))))
      clear hret hK1 hK2 hK3 hK4 hK7 hK8 hK11 hK12 hK13 hK14 hK16 hK17 hK18 hK20 K0 K1 K2 K3 K4 K7 K8 K11 K12 K13 K14 K16 K17 K18 K20
      show Tof noTau [.live ⟨2, [(Schema.cells s)], 33⟩, .live ⟨3, [(Val.cells (row[k.toNat]!))], 23⟩] (.tup [iv 0, iv (vCheck (s.columns[k.toNat]!) (row[k.toNat]!))]) (.tup [iv (evalV s p row), iv (evalE s p row)])
      -- leaf 3
      first | (refine Tof.tup (.cons (Tof.int ?_) (.cons (Tof.int ?_) .nil)) <;> first | grind [evalV, evalE, rowErr] | (rw [drop_step _ _ (by omega), errFrom] at hr; grind [evalV, evalE, rowErr]) | grind [evalV, evalE, rowErr, evalT, errFrom])
    refine PV.skip (inBlockA_normal (thenA_normal (hK16 _ ?_)))
    refine PV.regionN ?_
    refine PON.ops (aBin_add_in Try.prog [.live ⟨2, [(Schema.cells s)], 33⟩, .live ⟨3, [(Val.cells (row[k.toNat]!))], 23⟩] 3 (.tmp 31) (.const (.int .i64 1)) .i64 k 1 (by rw [wrap64] <;> omega)) (by kernel_rfl) (by kernel_rfl) ?_
    refine PON.runs 1 (by kernel_rfl) ?_
    refine PON.norm ⟨(A :: .sF 8 (p.map PNode.cells) :: .sF 3 (row.map Val.cells) :: po 0 :: A4 (A :: iv k :: po 1 :: iv (vCheck (s.columns[k.toNat]!) (row[k.toNat]!)) :: A9 (A4 (A4 (.sF 3 (row.map Val.cells) :: iv (row.length : Int) :: iv (k + 1) :: bv (decide (k < (row.length : Int))) :: iv k :: .pF (Val.cells (row[k.toNat]!)) 0 :: .agg (Val.cells (row[k.toNat]!)) :: A4 (A :: A :: A :: iv (vCheck (s.columns[k.toNat]!) (row[k.toNat]!)) :: bv (!(decide ((vCheck (s.columns[k.toNat]!) (row[k.toNat]!)) = 0))) :: A :: iv (k + 1) :: A9 (A9 (A9 (A9 (A9 (A9 ([A, A])))))))))))), [.live ⟨2, [(Schema.cells s)], 33⟩, .live ⟨3, [(Val.cells (row[k.toNat]!))], 23⟩]⟩ (by kernel_rfl) ?_
    refine PON.fin rfl (thenA_normal ?_)
    refine ⟨[0], (k + 1), ⟨rfl, rfl, (.any (.cons (.tree (by simp only [NIs_cons, NIs_nil, NIr_cons, NIr_nil, NI_v, NI_any, NI_pO, NI_sO, NI_pF, NI_sF, NI_agg, NI_tup, NI_fn, NIh_nil, NIh_live, NIh_dead, NIh_free, NIr_map, NIr_append, NIs_icells, NIs_scells, NIs_bcells, NIs_Val, NIs_Col, NIs_Schema, NIs_PNode, NIs_Src, NIr_Val, NIr_Col, NIr_ints, NIr_PNode]; try simp)) (.cons (.tree (by simp only [NIs_cons, NIs_nil, NIr_cons, NIr_nil, NI_v, NI_any, NI_pO, NI_sO, NI_pF, NI_sF, NI_agg, NI_tup, NI_fn, NIh_nil, NIh_live, NIh_dead, NIh_free, NIr_map, NIr_append, NIs_icells, NIs_scells, NIs_bcells, NIs_Val, NIs_Col, NIs_Schema, NIs_PNode, NIs_Src, NIr_Val, NIr_Col, NIr_ints, NIr_PNode]; try simp)) (.cons (.pO _ _ rfl) (.a9 (.a9 (.a4 (.any (.any (.any (.cons (.tree (by simp only [NIs_cons, NIs_nil, NIr_cons, NIr_nil, NI_v, NI_any, NI_pO, NI_sO, NI_pF, NI_sF, NI_agg, NI_tup, NI_fn, NIh_nil, NIh_live, NIh_dead, NIh_free, NIr_map, NIr_append, NIs_icells, NIs_scells, NIs_bcells, NIs_Val, NIs_Col, NIs_Schema, NIs_PNode, NIs_Src, NIr_Val, NIr_Col, NIr_ints, NIr_PNode]; try simp)) (.v (.v (.a9 (.a9 (.a9 (.a9 (.a9 (.a9 (.a9 (.a4 (.a4 .nil)))))))))))))))))))))), (.cons rfl (.tree (by simp only [NIs_cons, NIs_nil, NIr_cons, NIr_nil, NI_v, NI_any, NI_pO, NI_sO, NI_pF, NI_sF, NI_agg, NI_tup, NI_fn, NIh_nil, NIh_live, NIh_dead, NIh_free, NIr_map, NIr_append, NIs_icells, NIs_scells, NIs_bcells, NIs_Val, NIs_Col, NIs_Schema, NIs_PNode, NIs_Src, NIr_Val, NIr_Col, NIr_ints, NIr_PNode]; try simp)) .nil)⟩, ?_, ?_⟩
    · skip
      clear hret hK1 hK2 hK3 hK4 hK7 hK8 hK11 hK12 hK13 hK14 hK16 hK17 hK18 K0 K1 K2 K3 K4 K7 K8 K11 K12 K13 K14 K16 K17 K18
      refine ⟨?_, ?_⟩
      · skip
        show 0 ≤ (k + 1) ∧ (k + 1) ≤ row.length
        omega
      · skip
        show errFrom (fun i v => vCheck s.columns[i.toNat]! v) 0 row = errFrom (fun i v => vCheck s.columns[i.toNat]! v) (k + 1) (row.drop (k + 1).toNat)
        rw [drop_step _ _ (by omega)] at hr
        rw [hr, errFrom, if_pos (by assumption)]
    · skip
      clear hret hK1 hK2 hK3 hK4 hK7 hK8 hK11 hK12 hK13 hK14 hK16 hK17 hK18 K0 K1 K2 K3 K4 K7 K8 K11 K12 K13 K14 K16 K17 K18
      show ((row.length : Int) - (k + 1)).toNat < ((row.length : Int) - k).toNat
      omega
  rw [drop_end _ _ (by omega)] at hr
  refine PV.exit (thenA_exit (thenA_exit (inBlockA_hit (thenA_normal (hK11 _ ?_)))))
  refine PV.seq_k fun K21 hK21 => ?_
  refine PV.regionN ?_
  refine PON.runs 1 (by kernel_rfl) ?_
  refine PON.fin rfl (thenA_normal (hK21 _ ?_))
  refine PV.seq_k fun K22 hK22 => ?_
  refine PV.regionN ?_
  refine PON.runs 1 (by kernel_rfl) ?_
  refine PON.ops (aLen_map Try.prog [.live ⟨2, [(Schema.cells s)], 33⟩] 27 26 (by kernel_rfl) 8 PNode.cells p) (by kernel_rfl) (by kernel_rfl) ?_
  refine PON.ops (aMakeSlice_map Try.prog [.live ⟨2, [(Schema.cells s)], 33⟩] 39 3 1 (icells .i64) 0 8 (by kernel_rfl) (by kernel_rfl) (by kernel_rfl) (by kernel_rfl) (by kernel_rfl) .i64 (p.length : Int) (by omega)) (by kernel_rfl) (by kernel_rfl) ?_
  refine PON.runs 1 (by kernel_rfl) ?_
  refine PON.fin rfl (thenA_normal (hK22 _ ?_))
  refine PV.seq_k fun K23 hK23 => ?_
  refine PV.seq_k fun K24 hK24 => ?_
  refine PV.regionN ?_
  refine PON.runs 1 (by kernel_rfl) ?_
  refine PON.ops (aLen_map Try.prog [.live ⟨2, [(Schema.cells s)], 33⟩, .live ⟨1, ((List.replicate p.length 0).map (icells .i64)), 3⟩] 27 26 (by kernel_rfl) 8 PNode.cells p) (by kernel_rfl) (by kernel_rfl) ?_
  refine PON.runs 1 (by kernel_rfl) ?_
  refine PON.fin rfl (thenA_normal (hK24 _ ?_))
  refine PV.block ?_
  refine PV.norm ⟨(A :: .sF 8 (p.map PNode.cells) :: .sF 3 (row.map Val.cells) :: po 0 :: A4 (A4 (iv 1 :: .sO 1 0 p.length :: A9 (A4 (A :: A :: .sF 3 (row.map Val.cells) :: iv (row.length : Int) :: iv k :: bv (decide (k < (row.length : Int))) :: A9 (A4 (A :: .sF 8 (p.map PNode.cells) :: iv (p.length : Int) :: .sO 1 0 p.length :: .sF 8 (p.map PNode.cells) :: iv (p.length : Int) :: iv 0 :: A9 (A9 (A9 (A9 (A9 (A4 ([A]))))))))))))), [.live ⟨2, [(Schema.cells s)], 33⟩, .live ⟨1, ((List.replicate p.length 0).map (icells .i64)), 3⟩]⟩ (by kernel_rfl) ?_
  refine PV.loopR (α := Int × Int × List Int) (fun xL => let m := xL.1; let o := xL.2.1; let L := xL.2.2; (⟨(A :: A :: .sF 3 (row.map Val.cells) :: po 0 :: A4 (A4 (iv o :: .sO 1 0 p.length :: A9 (A9 (A9 (A9 (.sF 8 (p.map PNode.cells) :: iv (p.length : Int) :: iv m :: A9 (A9 (A9 (A9 (A9 (A4 ([A]))))))))))))), [.live ⟨2, [(Schema.cells s)], 33⟩, .live ⟨1, (L.map (icells .i64)), 3⟩]⟩ : St)) (fun xL => let m := xL.1; let o := xL.2.1; let L := xL.2.2; (0 ≤ m ∧ m ≤ p.length) ∧ (L.length = p.length) ∧ (L.take m.toNat = nodeVals s row (p.take m.toNat)) ∧ (o = (nodeVals s row (p.take m.toNat)).getLastD 1)) (fun xL => let m := xL.1; let o := xL.2.1; let L := xL.2.2; ((p.length : Int) - m).toNat) [0, 1] ((0 : Int), (1 : Int), List.replicate p.length 0) ⟨rfl, rfl, (.any (.any (.cons (.tree (by simp only [NIs_cons, NIs_nil, NIr_cons, NIr_nil, NI_v, NI_any, NI_pO, NI_sO, NI_pF, NI_sF, NI_agg, NI_tup, NI_fn, NIh_nil, NIh_live, NIh_dead, NIh_free, NIr_map, NIr_append, NIs_icells, NIs_scells, NIs_bcells, NIs_Val, NIs_Col, NIs_Schema, NIs_PNode, NIs_Src, NIr_Val, NIr_Col, NIr_ints, NIr_PNode]; try simp)) (.cons (.pO _ _ rfl) (.a4 (.a4 (.v (.cons (.sO _ _ rfl) (.a9 (.a9 (.a9 (.a9 (.cons (.tree (by simp only [NIs_cons, NIs_nil, NIr_cons, NIr_nil, NI_v, NI_any, NI_pO, NI_sO, NI_pF, NI_sF, NI_agg, NI_tup, NI_fn, NIh_nil, NIh_live, NIh_dead, NIh_free, NIr_map, NIr_append, NIs_icells, NIs_scells, NIs_bcells, NIs_Val, NIs_Col, NIs_Schema, NIs_PNode, NIs_Src, NIr_Val, NIr_Col, NIr_ints, NIr_PNode]; try simp)) (.v (.v (.a9 (.a9 (.a9 (.a9 (.a9 (.a4 (.any .nil)))))))))))))))))))))), (.cons rfl (.tree (by simp only [NIs_cons, NIs_nil, NIr_cons, NIr_nil, NI_v, NI_any, NI_pO, NI_sO, NI_pF, NI_sF, NI_agg, NI_tup, NI_fn, NIh_nil, NIh_live, NIh_dead, NIh_free, NIr_map, NIr_append, NIs_icells, NIs_scells, NIs_bcells, NIs_Val, NIs_Col, NIs_Schema, NIs_PNode, NIs_Src, NIr_Val, NIr_Col, NIr_ints, NIr_PNode]; try simp)) (.cons rfl (.tree (by simp only [NIs_cons, NIs_nil, NIr_cons, NIr_nil, NI_v, NI_any, NI_pO, NI_sO, NI_pF, NI_sF, NI_agg, NI_tup, NI_fn, NIh_nil, NIh_live, NIh_dead, NIh_free, NIr_map, NIr_append, NIs_icells, NIs_scells, NIs_bcells, NIs_Val, NIs_Col, NIs_Schema, NIs_PNode, NIs_Src, NIr_Val, NIr_Col, NIr_ints, NIr_PNode]; try simp)) .nil))⟩ ?_ ?_
  · skip
    clear hret hK1 hK2 hK3 hK4 hK7 hK8 hK11 hK12 hK13 hK14 hK21 hK22 hK23 hK24 K0 K1 K2 K3 K4 K7 K8 K11 K12 K13 K14 K21 K22 K23 K24
    refine ⟨?_, ?_, ?_, ?_⟩
    · skip
      show 0 ≤ (0 : Int) ∧ (0 : Int) ≤ p.length
      simp
    · skip
      show (List.replicate p.length 0).length = p.length
      simp
    · skip
      show (List.replicate p.length 0).take (0 : Int).toNat = nodeVals s row (p.take (0 : Int).toNat)
      simp [nodeVals]
    · skip
      show (1 : Int) = (nodeVals s row (p.take (0 : Int).toNat)).getLastD 1
      simp [nodeVals]
  rintro ⟨m, o, L⟩ hJ
  change (0 ≤ m ∧ m ≤ p.length) ∧ (L.length = p.length) ∧ (L.take m.toNat = nodeVals s row (p.take m.toNat)) ∧ (o = (nodeVals s row (p.take m.toNat)).getLastD 1) at hJ
  obtain ⟨hm, hL, hT, ho⟩ := hJ
  show PV _ Try.prog _ ⟨(A :: A :: .sF 3 (row.map Val.cells) :: po 0 :: A4 (A4 (iv o :: .sO 1 0 p.length :: A9 (A9 (A9 (A9 (.sF 8 (p.map PNode.cells) :: iv (p.length : Int) :: iv m :: A9 (A9 (A9 (A9 (A9 (A4 ([A]))))))))))))), [.live ⟨2, [(Schema.cells s)], 33⟩, .live ⟨1, (L.map (icells .i64)), 3⟩]⟩ _
  refine PV.seq_k fun K25 hK25 => ?_
  refine PV.regionN ?_
  refine PON.runs 1 (by kernel_rfl) ?_
  refine PON.fin rfl (thenA_normal (hK25 _ ?_))
  refine PV.seq_k fun K26 hK26 => ?_
  refine PV.condP (m < (p.length : Int)) (decide (m < (p.length : Int))) (by kernel_rfl) decide_eq_true decide_eq_false (fun h27 => ?_) (fun h27 => ?_)
  · skip
    have hn := node_shape (errFrom_zero_int hp m (by omega))
    refine PV.skip (thenA_normal (hK26 _ ?_))
    refine PV.seq_k fun K28 hK28 => ?_
    refine PV.block ?_
    refine PV.seq_k fun K29 hK29 => ?_
    refine PV.regionN ?_
    refine PON.runs 1 (by kernel_rfl) ?_
    refine PON.ops (aIndexAddr_map Try.prog [.live ⟨2, [(Schema.cells s)], 33⟩, .live ⟨1, (L.map (icells .i64)), 3⟩] 27 26 8 PNode.cells (by kernel_rfl) (by kernel_rfl) p .i64 m (by first | omega | grind)) (by kernel_rfl) (by kernel_rfl) ?_
    refine PON.runs 4 (by kernel_rfl) ?_
    refine PON.fin rfl (thenA_normal (hK29 _ ?_))
    refine PV.seq_k fun K30 hK30 => ?_
    refine PV.seq_k fun K31 hK31 => ?_
    refine PV.regionN ?_
    refine PON.runs 3 (by kernel_rfl) ?_
    refine PON.fin rfl (thenA_normal (hK31 _ ?_))
    refine PV.condP (((p[m.toNat]!).op) ≥ 9) (decide (((p[m.toNat]!).op) ≥ 9)) (by kernel_rfl) decide_eq_true decide_eq_false (fun h32 => ?_) (fun h32 => ?_)
    · skip
      refine PV.seq_k fun K33 hK33 => ?_
      refine PV.regionN ?_
      refine PON.runs 1 (by kernel_rfl) ?_
      refine PON.fin rfl (thenA_normal (hK33 _ ?_))
      refine PV.seq_k fun K34 hK34 => ?_
      refine PV.seq_k fun K35 hK35 => ?_
      refine PV.regionN ?_
      refine PON.runs 3 (by kernel_rfl) ?_
      refine PON.fin rfl (thenA_normal (hK35 _ ?_))
      refine PV.condN (((p[m.toNat]!).op) = 11) (!(decide (((p[m.toNat]!).op) = 11))) (by kernel_rfl) (fun h => bnot_t (decide_eq_true h)) (fun h => bnot_f (decide_eq_false h)) (fun h36 => ?_) (fun h36 => ?_)
      · skip
        refine PV.regionN ?_
        refine PON.runs 3 (by kernel_rfl) ?_
        refine PON.ops (aIndexAddr_sO0 Try.prog [.live ⟨2, [(Schema.cells s)], 33⟩, .live ⟨1, (L.map (icells .i64)), 3⟩, .live ⟨8, [(PNode.cells (p[m.toNat]!))], 26⟩] 39 3 1 (by kernel_rfl) (by kernel_rfl) 1 p.length .i64 ((p[m.toNat]!).b) _ rfl rfl (by first | omega | grind)) (by kernel_rfl) (by kernel_rfl) ?_
        refine PON.ops (aLoad_rows Try.prog [.live ⟨2, [(Schema.cells s)], 33⟩, .live ⟨1, (L.map (icells .i64)), 3⟩, .live ⟨8, [(PNode.cells (p[m.toNat]!))], 26⟩] 3 1 (((p[m.toNat]!).b).toNat) 0 1 L (icells .i64) 3 rfl (by first | omega | grind) (iv (L[((p[m.toNat]!).b).toNat]!)) (by kernel_rfl)) (by kernel_rfl) (by kernel_rfl) ?_
        refine PON.runs 1 (by kernel_rfl) ?_
        refine PON.fin rfl (thenA_normal (hK34 _ ?_))
        refine PV.norm ⟨(A :: A :: .sF 3 (row.map Val.cells) :: po 0 :: A4 (A4 (iv o :: .sO 1 0 p.length :: iv m :: po 2 :: iv (L[((p[m.toNat]!).b).toNat]!) :: A9 (A9 (A9 (A4 (A :: A :: .sF 8 (p.map PNode.cells) :: iv (p.length : Int) :: iv m :: bv (decide (m < (p.length : Int))) :: iv m :: .pF (PNode.cells (p[m.toNat]!)) 0 :: .agg (PNode.cells (p[m.toNat]!)) :: po 2 :: iv ((p[m.toNat]!).op) :: bv (decide (((p[m.toNat]!).op) ≥ 9)) :: po 2 :: iv ((p[m.toNat]!).op) :: bv (!(decide (((p[m.toNat]!).op) = 11))) :: .sO 1 0 p.length :: .pO 2 0 7 :: iv ((p[m.toNat]!).b) :: .pO 1 (((p[m.toNat]!).b).toNat) 0 :: iv (L[((p[m.toNat]!).b).toNat]!) :: A9 (A9 (A9 (A4 (A4 ([])))))))))))), [.live ⟨2, [(Schema.cells s)], 33⟩, .live ⟨1, (L.map (icells .i64)), 3⟩, .live ⟨8, [(PNode.cells (p[m.toNat]!))], 26⟩]⟩ (by kernel_rfl) ?_
        refine PV.drawnG mixed (by kernel_rfl) ?_
        refine DRG.runs 7 (by kernel_rfl) ?_
        refine DRG.ops (aIndexAddr_sO0 Try.prog [.live ⟨2, [(Schema.cells s)], 33⟩, .live ⟨1, (L.map (icells .i64)), 3⟩, .live ⟨8, [(PNode.cells (p[m.toNat]!))], 26⟩, .free, .free, .free, .free, .free, .free, .free, .free, .free, .free, .free, .free, .free] 39 3 1 (by kernel_rfl) (by kernel_rfl) 1 p.length .i64 ((p[m.toNat]!).a) _ rfl rfl (by first | omega | grind)) (by kernel_rfl) (by kernel_rfl) ?_
        refine DRG.ops (aLoad_rows Try.prog [.live ⟨2, [(Schema.cells s)], 33⟩, .live ⟨1, (L.map (icells .i64)), 3⟩, .live ⟨8, [(PNode.cells (p[m.toNat]!))], 26⟩, .free, .free, .free, .free, .free, .free, .free, .free, .free, .free, .free, .free, .free] 3 1 (((p[m.toNat]!).a).toNat) 0 1 L (icells .i64) 3 rfl (by first | omega | grind) (iv (L[((p[m.toNat]!).a).toNat]!)) (by kernel_rfl)) (by kernel_rfl) (by kernel_rfl) ?_
        refine DRG.runs 1 (by kernel_rfl) ?_
        refine DRG.call 27 [iv ((p[m.toNat]!).op), iv (L[((p[m.toNat]!).a).toNat]!), iv (L[((p[m.toNat]!).b).toNat]!)] (some 78) (pre := []) (post := []) (x := iv (vCombine ((p[m.toNat]!).op) (L[((p[m.toNat]!).a).toNat]!) (L[((p[m.toNat]!).b).toNat]!))) _ (by kernel_rfl) (combine_ok ((p[m.toNat]!).op) (L[((p[m.toNat]!).a).toNat]!) (L[((p[m.toNat]!).b).toNat]!)) trivial rfl ?_
        refine DRG.ops (aIndexAddr_sO0 Try.prog [.live ⟨2, [(Schema.cells s)], 33⟩, .live ⟨1, (L.map (icells .i64)), 3⟩, .live ⟨8, [(PNode.cells (p[m.toNat]!))], 26⟩, .free, .free, .free, .free, .free, .free, .free, .free, .free, .free, .free, .free, .free] 39 3 1 (by kernel_rfl) (by kernel_rfl) 1 p.length .i64 m _ rfl rfl (by first | omega | grind)) (by kernel_rfl) (by kernel_rfl) ?_
        refine DRG.ops (aStore_rows Try.prog [.live ⟨2, [(Schema.cells s)], 33⟩, .live ⟨1, (L.map (icells .i64)), 3⟩, .live ⟨8, [(PNode.cells (p[m.toNat]!))], 26⟩, .free, .free, .free, .free, .free, .free, .free, .free, .free, .free, .free, .free, .free] 3 1 m.toNat 1 L (icells .i64) 3 (iv (vCombine ((p[m.toNat]!).op) (L[((p[m.toNat]!).a).toNat]!) (L[((p[m.toNat]!).b).toNat]!))) (vCombine ((p[m.toNat]!).op) (L[((p[m.toNat]!).a).toNat]!) (L[((p[m.toNat]!).b).toNat]!)) rfl (by first | omega | grind) (by kernel_rfl) (by kernel_rfl) (by kernel_rfl) (by kernel_rfl) (fun _ => rfl)) (by kernel_rfl) (by kernel_rfl) ?_
        refine DRG.norm ⟨(A :: A :: .sF 3 (row.map Val.cells) :: po 0 :: A4 (A4 (iv o :: .sO 1 0 p.length :: iv m :: po 2 :: iv (L[((p[m.toNat]!).b).toNat]!) :: A9 (A9 (A9 (A4 (A :: A :: .sF 8 (p.map PNode.cells) :: iv (p.length : Int) :: iv m :: bv (decide (m < (p.length : Int))) :: iv m :: .pF (PNode.cells (p[m.toNat]!)) 0 :: .agg (PNode.cells (p[m.toNat]!)) :: po 2 :: iv ((p[m.toNat]!).op) :: bv (decide (((p[m.toNat]!).op) ≥ 9)) :: po 2 :: iv ((p[m.toNat]!).op) :: bv (!(decide (((p[m.toNat]!).op) = 11))) :: .sO 1 0 p.length :: .pO 2 0 7 :: iv ((p[m.toNat]!).b) :: .pO 1 (((p[m.toNat]!).b).toNat) 0 :: iv (L[((p[m.toNat]!).b).toNat]!) :: .sO 1 0 p.length :: iv m :: po 2 :: iv ((p[m.toNat]!).op) :: .sO 1 0 p.length :: .pO 2 0 6 :: iv ((p[m.toNat]!).a) :: .pO 1 (((p[m.toNat]!).a).toNat) 0 :: iv (L[((p[m.toNat]!).a).toNat]!) :: iv (L[((p[m.toNat]!).b).toNat]!) :: iv (vCombine ((p[m.toNat]!).op) (L[((p[m.toNat]!).a).toNat]!) (L[((p[m.toNat]!).b).toNat]!)) :: .pO 1 m.toNat 0 :: A9 (A9 (A4 ([A])))))))))), [.live ⟨2, [(Schema.cells s)], 33⟩, .live ⟨1, ((L.set m.toNat (vCombine ((p[m.toNat]!).op) (L[((p[m.toNat]!).a).toNat]!) (L[((p[m.toNat]!).b).toNat]!))).map (icells .i64)), 3⟩, .live ⟨8, [(PNode.cells (p[m.toNat]!))], 26⟩, .free, .free, .free, .free, .free, .free, .free, .free, .free, .free, .free, .free, .free]⟩ (by kernel_rfl) ?_
        refine DRG.fin rfl (And.intro (by kernel_rfl) ?_)
        refine id (thenA_normal (hK30 _ ?_))
        refine PV.regionN ?_
        refine PON.runs 2 (by kernel_rfl) ?_
        refine PON.ops (aIndexAddr_sO0 Try.prog [.live ⟨2, [(Schema.cells s)], 33⟩, .live ⟨1, ((L.set m.toNat (vCombine ((p[m.toNat]!).op) (L[((p[m.toNat]!).a).toNat]!) (L[((p[m.toNat]!).b).toNat]!))).map (icells .i64)), 3⟩, .live ⟨8, [(PNode.cells (p[m.toNat]!))], 26⟩, .free, .free, .free, .free, .free, .free, .free, .free, .free, .free, .free, .free, .free] 39 3 1 (by kernel_rfl) (by kernel_rfl) 1 p.length .i64 m _ rfl rfl (by first | omega | grind)) (by kernel_rfl) (by kernel_rfl) ?_
        refine PON.ops (aLoad_rows Try.prog [.live ⟨2, [(Schema.cells s)], 33⟩, .live ⟨1, ((L.set m.toNat (vCombine ((p[m.toNat]!).op) (L[((p[m.toNat]!).a).toNat]!) (L[((p[m.toNat]!).b).toNat]!))).map (icells .i64)), 3⟩, .live ⟨8, [(PNode.cells (p[m.toNat]!))], 26⟩, .free, .free, .free, .free, .free, .free, .free, .free, .free, .free, .free, .free, .free] 3 1 m.toNat 0 1 (L.set m.toNat (vCombine ((p[m.toNat]!).op) (L[((p[m.toNat]!).a).toNat]!) (L[((p[m.toNat]!).b).toNat]!))) (icells .i64) 3 rfl (by first | omega | grind) (iv ((L.set m.toNat (vCombine ((p[m.toNat]!).op) (L[((p[m.toNat]!).a).toNat]!) (L[((p[m.toNat]!).b).toNat]!)))[m.toNat]!)) (by kernel_rfl)) (by kernel_rfl) (by kernel_rfl) ?_
        refine PON.runs 1 (by kernel_rfl) ?_
        refine PON.norm ⟨(A :: A :: .sF 3 (row.map Val.cells) :: po 0 :: A4 (A4 (iv ((L.set m.toNat (vCombine ((p[m.toNat]!).op) (L[((p[m.toNat]!).a).toNat]!) (L[((p[m.toNat]!).b).toNat]!)))[m.toNat]!) :: .sO 1 0 p.length :: iv m :: po 2 :: iv (L[((p[m.toNat]!).b).toNat]!) :: A9 (A9 (A9 (A4 (A :: A :: .sF 8 (p.map PNode.cells) :: iv (p.length : Int) :: iv m :: bv (decide (m < (p.length : Int))) :: iv m :: .pF (PNode.cells (p[m.toNat]!)) 0 :: .agg (PNode.cells (p[m.toNat]!)) :: po 2 :: iv ((p[m.toNat]!).op) :: bv (decide (((p[m.toNat]!).op) ≥ 9)) :: po 2 :: iv ((p[m.toNat]!).op) :: bv (!(decide (((p[m.toNat]!).op) = 11))) :: .sO 1 0 p.length :: .pO 2 0 7 :: iv ((p[m.toNat]!).b) :: .pO 1 (((p[m.toNat]!).b).toNat) 0 :: iv (L[((p[m.toNat]!).b).toNat]!) :: .sO 1 0 p.length :: iv m :: po 2 :: iv ((p[m.toNat]!).op) :: .sO 1 0 p.length :: .pO 2 0 6 :: iv ((p[m.toNat]!).a) :: .pO 1 (((p[m.toNat]!).a).toNat) 0 :: iv (L[((p[m.toNat]!).a).toNat]!) :: iv (L[((p[m.toNat]!).b).toNat]!) :: iv (vCombine ((p[m.toNat]!).op) (L[((p[m.toNat]!).a).toNat]!) (L[((p[m.toNat]!).b).toNat]!)) :: .pO 1 m.toNat 0 :: A9 (A4 (A4 ([.sO 1 0 p.length, iv m, .pO 1 m.toNat 0, iv ((L.set m.toNat (vCombine ((p[m.toNat]!).op) (L[((p[m.toNat]!).a).toNat]!) (L[((p[m.toNat]!).b).toNat]!)))[m.toNat]!), A, A])))))))))), [.live ⟨2, [(Schema.cells s)], 33⟩, .live ⟨1, ((L.set m.toNat (vCombine ((p[m.toNat]!).op) (L[((p[m.toNat]!).a).toNat]!) (L[((p[m.toNat]!).b).toNat]!))).map (icells .i64)), 3⟩, .live ⟨8, [(PNode.cells (p[m.toNat]!))], 26⟩, .free, .free, .free, .free, .free, .free, .free, .free, .free, .free, .free, .free, .free]⟩ (by kernel_rfl) ?_
        refine PON.fin rfl (inBlockA_normal (thenA_normal (hK28 _ ?_)))
        refine PV.regionN ?_
        refine PON.ops (aBin_add_in Try.prog [.live ⟨2, [(Schema.cells s)], 33⟩, .live ⟨1, ((L.set m.toNat (vCombine ((p[m.toNat]!).op) (L[((p[m.toNat]!).a).toNat]!) (L[((p[m.toNat]!).b).toNat]!))).map (icells .i64)), 3⟩, .live ⟨8, [(PNode.cells (p[m.toNat]!))], 26⟩, .free, .free, .free, .free, .free, .free, .free, .free, .free, .free, .free, .free, .free] 3 (.tmp 52) (.const (.int .i64 1)) .i64 m 1 (by rw [wrap64] <;> omega)) (by kernel_rfl) (by kernel_rfl) ?_
        refine PON.runs 1 (by kernel_rfl) ?_
        refine PON.norm ⟨(A :: A :: .sF 3 (row.map Val.cells) :: po 0 :: A4 (A4 (iv ((L.set m.toNat (vCombine ((p[m.toNat]!).op) (L[((p[m.toNat]!).a).toNat]!) (L[((p[m.toNat]!).b).toNat]!)))[m.toNat]!) :: .sO 1 0 p.length :: iv m :: po 2 :: iv (L[((p[m.toNat]!).b).toNat]!) :: A9 (A9 (A9 (A4 (A :: A :: .sF 8 (p.map PNode.cells) :: iv (p.length : Int) :: iv (m + 1) :: bv (decide (m < (p.length : Int))) :: iv m :: .pF (PNode.cells (p[m.toNat]!)) 0 :: .agg (PNode.cells (p[m.toNat]!)) :: po 2 :: iv ((p[m.toNat]!).op) :: bv (decide (((p[m.toNat]!).op) ≥ 9)) :: po 2 :: iv ((p[m.toNat]!).op) :: bv (!(decide (((p[m.toNat]!).op) = 11))) :: .sO 1 0 p.length :: .pO 2 0 7 :: iv ((p[m.toNat]!).b) :: .pO 1 (((p[m.toNat]!).b).toNat) 0 :: iv (L[((p[m.toNat]!).b).toNat]!) :: .sO 1 0 p.length :: iv m :: po 2 :: iv ((p[m.toNat]!).op) :: .sO 1 0 p.length :: .pO 2 0 6 :: iv ((p[m.toNat]!).a) :: .pO 1 (((p[m.toNat]!).a).toNat) 0 :: iv (L[((p[m.toNat]!).a).toNat]!) :: iv (L[((p[m.toNat]!).b).toNat]!) :: iv (vCombine ((p[m.toNat]!).op) (L[((p[m.toNat]!).a).toNat]!) (L[((p[m.toNat]!).b).toNat]!)) :: .pO 1 m.toNat 0 :: A9 (A4 (A4 ([.sO 1 0 p.length, iv m, .pO 1 m.toNat 0, iv ((L.set m.toNat (vCombine ((p[m.toNat]!).op) (L[((p[m.toNat]!).a).toNat]!) (L[((p[m.toNat]!).b).toNat]!)))[m.toNat]!), iv (m + 1), A])))))))))), [.live ⟨2, [(Schema.cells s)], 33⟩, .live ⟨1, ((L.set m.toNat (vCombine ((p[m.toNat]!).op) (L[((p[m.toNat]!).a).toNat]!) (L[((p[m.toNat]!).b).toNat]!))).map (icells .i64)), 3⟩, .live ⟨8, [(PNode.cells (p[m.toNat]!))], 26⟩, .free, .free, .free, .free, .free, .free, .free, .free, .free, .free, .free, .free, .free]⟩ (by kernel_rfl) ?_
        refine PON.fin rfl (thenA_normal ?_)
        refine ⟨[0, 1], ((m + 1), ((L.set m.toNat (vCombine ((p[m.toNat]!).op) (L[((p[m.toNat]!).a).toNat]!) (L[((p[m.toNat]!).b).toNat]!)))[m.toNat]!), L.set m.toNat (vCombine ((p[m.toNat]!).op) (L[((p[m.toNat]!).a).toNat]!) (L[((p[m.toNat]!).b).toNat]!))), ⟨rfl, rfl, (.any (.any (.cons (.tree (by simp only [NIs_cons, NIs_nil, NIr_cons, NIr_nil, NI_v, NI_any, NI_pO, NI_sO, NI_pF, NI_sF, NI_agg, NI_tup, NI_fn, NIh_nil, NIh_live, NIh_dead, NIh_free, NIr_map, NIr_append, NIs_icells, NIs_scells, NIs_bcells, NIs_Val, NIs_Col, NIs_Schema, NIs_PNode, NIs_Src, NIr_Val, NIr_Col, NIr_ints, NIr_PNode]; try simp)) (.cons (.pO _ _ rfl) (.a4 (.a4 (.v (.cons (.sO _ _ rfl) (.a9 (.a9 (.a9 (.a9 (.cons (.tree (by simp only [NIs_cons, NIs_nil, NIr_cons, NIr_nil, NI_v, NI_any, NI_pO, NI_sO, NI_pF, NI_sF, NI_agg, NI_tup, NI_fn, NIh_nil, NIh_live, NIh_dead, NIh_free, NIr_map, NIr_append, NIs_icells, NIs_scells, NIs_bcells, NIs_Val, NIs_Col, NIs_Schema, NIs_PNode, NIs_Src, NIr_Val, NIr_Col, NIr_ints, NIr_PNode]; try simp)) (.v (.v (.a9 (.a9 (.a9 (.a9 (.a9 (.a4 (.any .nil)))))))))))))))))))))), (.cons rfl (.tree (by simp only [NIs_cons, NIs_nil, NIr_cons, NIr_nil, NI_v, NI_any, NI_pO, NI_sO, NI_pF, NI_sF, NI_agg, NI_tup, NI_fn, NIh_nil, NIh_live, NIh_dead, NIh_free, NIr_map, NIr_append, NIs_icells, NIs_scells, NIs_bcells, NIs_Val, NIs_Col, NIs_Schema, NIs_PNode, NIs_Src, NIr_Val, NIr_Col, NIr_ints, NIr_PNode]; try simp)) (.cons rfl (.tree (by simp only [NIs_cons, NIs_nil, NIr_cons, NIr_nil, NI_v, NI_any, NI_pO, NI_sO, NI_pF, NI_sF, NI_agg, NI_tup, NI_fn, NIh_nil, NIh_live, NIh_dead, NIh_free, NIr_map, NIr_append, NIs_icells, NIs_scells, NIs_bcells, NIs_Val, NIs_Col, NIs_Schema, NIs_PNode, NIs_Src, NIr_Val, NIr_Col, NIr_ints, NIr_PNode]; try simp)) .nil))⟩, ?_, ?_⟩
        · skip
          clear hret hK1 hK2 hK3 hK4 hK7 hK8 hK11 hK12 hK13 hK14 hK21 hK22 hK23 hK24 hK25 hK26 hK28 hK29 hK30 hK31 hK33 hK34 hK35 K0 K1 K2 K3 K4 K7 K8 K11 K12 K13 K14 K21 K22 K23 K24 K25 K26 K28 K29 K30 K31 K33 K34 K35
          refine ⟨?_, ?_, ?_, ?_⟩
          · skip
            show 0 ≤ (m + 1) ∧ (m + 1) ≤ p.length
            omega
          · skip
            show (L.set m.toNat (vCombine ((p[m.toNat]!).op) (L[((p[m.toNat]!).a).toNat]!) (L[((p[m.toNat]!).b).toNat]!))).length = p.length
            simpa using hL
          · skip
            show (L.set m.toNat (vCombine ((p[m.toNat]!).op) (L[((p[m.toNat]!).a).toNat]!) (L[((p[m.toNat]!).b).toNat]!))).take (m + 1).toNat = nodeVals s row (p.take (m + 1).toNat)
            rw [show (m + 1).toNat = m.toNat + 1 by omega, take_set_succ _ _ _ (by omega), ← show (m + 1).toNat = m.toNat + 1 by omega, take_step p m (by omega), nodeVals_snoc, ← hT]
            refine congrArg (fun z => _ ++ [z]) ?_; grind [nodeVal, getElem!_take]
          · skip
            show ((L.set m.toNat (vCombine ((p[m.toNat]!).op) (L[((p[m.toNat]!).a).toNat]!) (L[((p[m.toNat]!).b).toNat]!)))[m.toNat]!) = (nodeVals s row (p.take (m + 1).toNat)).getLastD 1
            rw [get!_set _ _ _ (by omega), take_step p m (by omega), nodeVals_snoc, ← hT]
            simp only [List.getLastD_concat]
            grind [nodeVal, getElem!_take]
        · skip
          clear hret hK1 hK2 hK3 hK4 hK7 hK8 hK11 hK12 hK13 hK14 hK21 hK22 hK23 hK24 hK25 hK26 hK28 hK29 hK30 hK31 hK33 hK34 hK35 K0 K1 K2 K3 K4 K7 K8 K11 K12 K13 K14 K21 K22 K23 K24 K25 K26 K28 K29 K30 K31 K33 K34 K35
          show ((p.length : Int) - (m + 1)).toNat < ((p.length : Int) - m).toNat
          omega
      refine PV.skip (thenA_normal (hK34 _ ?_))
      refine PV.norm ⟨(A :: A :: .sF 3 (row.map Val.cells) :: po 0 :: A4 (A4 (iv o :: .sO 1 0 p.length :: iv m :: po 2 :: iv 0 :: A9 (A9 (A9 (A4 (A :: A :: .sF 8 (p.map PNode.cells) :: iv (p.length : Int) :: iv m :: bv (decide (m < (p.length : Int))) :: iv m :: .pF (PNode.cells (p[m.toNat]!)) 0 :: .agg (PNode.cells (p[m.toNat]!)) :: po 2 :: iv ((p[m.toNat]!).op) :: bv (decide (((p[m.toNat]!).op) ≥ 9)) :: po 2 :: iv ((p[m.toNat]!).op) :: bv (!(decide (((p[m.toNat]!).op) = 11))) :: A9 (A9 (A9 (A9 (A4 ([])))))))))))), [.live ⟨2, [(Schema.cells s)], 33⟩, .live ⟨1, (L.map (icells .i64)), 3⟩, .live ⟨8, [(PNode.cells (p[m.toNat]!))], 26⟩]⟩ (by kernel_rfl) ?_
      refine PV.drawnG mixed (by kernel_rfl) ?_
      refine DRG.runs 7 (by kernel_rfl) ?_
      refine DRG.ops (aIndexAddr_sO0 Try.prog [.live ⟨2, [(Schema.cells s)], 33⟩, .live ⟨1, (L.map (icells .i64)), 3⟩, .live ⟨8, [(PNode.cells (p[m.toNat]!))], 26⟩, .free, .free, .free, .free, .free, .free, .free, .free, .free, .free, .free, .free, .free] 39 3 1 (by kernel_rfl) (by kernel_rfl) 1 p.length .i64 ((p[m.toNat]!).a) _ rfl rfl (by first | omega | grind)) (by kernel_rfl) (by kernel_rfl) ?_
      refine DRG.ops (aLoad_rows Try.prog [.live ⟨2, [(Schema.cells s)], 33⟩, .live ⟨1, (L.map (icells .i64)), 3⟩, .live ⟨8, [(PNode.cells (p[m.toNat]!))], 26⟩, .free, .free, .free, .free, .free, .free, .free, .free, .free, .free, .free, .free, .free] 3 1 (((p[m.toNat]!).a).toNat) 0 1 L (icells .i64) 3 rfl (by first | omega | grind) (iv (L[((p[m.toNat]!).a).toNat]!)) (by kernel_rfl)) (by kernel_rfl) (by kernel_rfl) ?_
      refine DRG.runs 1 (by kernel_rfl) ?_
      refine DRG.call 27 [iv ((p[m.toNat]!).op), iv (L[((p[m.toNat]!).a).toNat]!), iv 0] (some 78) (pre := []) (post := []) (x := iv (vCombine ((p[m.toNat]!).op) (L[((p[m.toNat]!).a).toNat]!) 0)) _ (by kernel_rfl) (combine_ok ((p[m.toNat]!).op) (L[((p[m.toNat]!).a).toNat]!) 0) trivial rfl ?_
      refine DRG.ops (aIndexAddr_sO0 Try.prog [.live ⟨2, [(Schema.cells s)], 33⟩, .live ⟨1, (L.map (icells .i64)), 3⟩, .live ⟨8, [(PNode.cells (p[m.toNat]!))], 26⟩, .free, .free, .free, .free, .free, .free, .free, .free, .free, .free, .free, .free, .free] 39 3 1 (by kernel_rfl) (by kernel_rfl) 1 p.length .i64 m _ rfl rfl (by first | omega | grind)) (by kernel_rfl) (by kernel_rfl) ?_
      refine DRG.ops (aStore_rows Try.prog [.live ⟨2, [(Schema.cells s)], 33⟩, .live ⟨1, (L.map (icells .i64)), 3⟩, .live ⟨8, [(PNode.cells (p[m.toNat]!))], 26⟩, .free, .free, .free, .free, .free, .free, .free, .free, .free, .free, .free, .free, .free] 3 1 m.toNat 1 L (icells .i64) 3 (iv (vCombine ((p[m.toNat]!).op) (L[((p[m.toNat]!).a).toNat]!) 0)) (vCombine ((p[m.toNat]!).op) (L[((p[m.toNat]!).a).toNat]!) 0) rfl (by first | omega | grind) (by kernel_rfl) (by kernel_rfl) (by kernel_rfl) (by kernel_rfl) (fun _ => rfl)) (by kernel_rfl) (by kernel_rfl) ?_
      refine DRG.norm ⟨(A :: A :: .sF 3 (row.map Val.cells) :: po 0 :: A4 (A4 (iv o :: .sO 1 0 p.length :: iv m :: po 2 :: iv 0 :: A9 (A9 (A9 (A4 (A :: A :: .sF 8 (p.map PNode.cells) :: iv (p.length : Int) :: iv m :: bv (decide (m < (p.length : Int))) :: iv m :: .pF (PNode.cells (p[m.toNat]!)) 0 :: .agg (PNode.cells (p[m.toNat]!)) :: po 2 :: iv ((p[m.toNat]!).op) :: bv (decide (((p[m.toNat]!).op) ≥ 9)) :: po 2 :: iv ((p[m.toNat]!).op) :: bv (!(decide (((p[m.toNat]!).op) = 11))) :: A4 (A :: .sO 1 0 p.length :: iv m :: po 2 :: iv ((p[m.toNat]!).op) :: .sO 1 0 p.length :: .pO 2 0 6 :: iv ((p[m.toNat]!).a) :: .pO 1 (((p[m.toNat]!).a).toNat) 0 :: iv (L[((p[m.toNat]!).a).toNat]!) :: iv 0 :: iv (vCombine ((p[m.toNat]!).op) (L[((p[m.toNat]!).a).toNat]!) 0) :: .pO 1 m.toNat 0 :: A9 (A9 (A4 ([A]))))))))))), [.live ⟨2, [(Schema.cells s)], 33⟩, .live ⟨1, ((L.set m.toNat (vCombine ((p[m.toNat]!).op) (L[((p[m.toNat]!).a).toNat]!) 0)).map (icells .i64)), 3⟩, .live ⟨8, [(PNode.cells (p[m.toNat]!))], 26⟩, .free, .free, .free, .free, .free, .free, .free, .free, .free, .free, .free, .free, .free]⟩ (by kernel_rfl) ?_
      refine DRG.fin rfl (And.intro (by kernel_rfl) ?_)
      refine id (thenA_normal (hK30 _ ?_))
      refine PV.regionN ?_
      refine PON.runs 2 (by kernel_rfl) ?_
      refine PON.ops (aIndexAddr_sO0 Try.prog [.live ⟨2, [(Schema.cells s)], 33⟩, .live ⟨1, ((L.set m.toNat (vCombine ((p[m.toNat]!).op) (L[((p[m.toNat]!).a).toNat]!) 0)).map (icells .i64)), 3⟩, .live ⟨8, [(PNode.cells (p[m.toNat]!))], 26⟩, .free, .free, .free, .free, .free, .free, .free, .free, .free, .free, .free, .free, .free] 39 3 1 (by kernel_rfl) (by kernel_rfl) 1 p.length .i64 m _ rfl rfl (by first | omega | grind)) (by kernel_rfl) (by kernel_rfl) ?_
      refine PON.ops (aLoad_rows Try.prog [.live ⟨2, [(Schema.cells s)], 33⟩, .live ⟨1, ((L.set m.toNat (vCombine ((p[m.toNat]!).op) (L[((p[m.toNat]!).a).toNat]!) 0)).map (icells .i64)), 3⟩, .live ⟨8, [(PNode.cells (p[m.toNat]!))], 26⟩, .free, .free, .free, .free, .free, .free, .free, .free, .free, .free, .free, .free, .free] 3 1 m.toNat 0 1 (L.set m.toNat (vCombine ((p[m.toNat]!).op) (L[((p[m.toNat]!).a).toNat]!) 0)) (icells .i64) 3 rfl (by first | omega | grind) (iv ((L.set m.toNat (vCombine ((p[m.toNat]!).op) (L[((p[m.toNat]!).a).toNat]!) 0))[m.toNat]!)) (by kernel_rfl)) (by kernel_rfl) (by kernel_rfl) ?_
      refine PON.runs 1 (by kernel_rfl) ?_
      refine PON.norm ⟨(A :: A :: .sF 3 (row.map Val.cells) :: po 0 :: A4 (A4 (iv ((L.set m.toNat (vCombine ((p[m.toNat]!).op) (L[((p[m.toNat]!).a).toNat]!) 0))[m.toNat]!) :: .sO 1 0 p.length :: iv m :: po 2 :: iv 0 :: A9 (A9 (A9 (A4 (A :: A :: .sF 8 (p.map PNode.cells) :: iv (p.length : Int) :: iv m :: bv (decide (m < (p.length : Int))) :: iv m :: .pF (PNode.cells (p[m.toNat]!)) 0 :: .agg (PNode.cells (p[m.toNat]!)) :: po 2 :: iv ((p[m.toNat]!).op) :: bv (decide (((p[m.toNat]!).op) ≥ 9)) :: po 2 :: iv ((p[m.toNat]!).op) :: bv (!(decide (((p[m.toNat]!).op) = 11))) :: A4 (A :: .sO 1 0 p.length :: iv m :: po 2 :: iv ((p[m.toNat]!).op) :: .sO 1 0 p.length :: .pO 2 0 6 :: iv ((p[m.toNat]!).a) :: .pO 1 (((p[m.toNat]!).a).toNat) 0 :: iv (L[((p[m.toNat]!).a).toNat]!) :: iv 0 :: iv (vCombine ((p[m.toNat]!).op) (L[((p[m.toNat]!).a).toNat]!) 0) :: .pO 1 m.toNat 0 :: A9 (A4 (A4 ([.sO 1 0 p.length, iv m, .pO 1 m.toNat 0, iv ((L.set m.toNat (vCombine ((p[m.toNat]!).op) (L[((p[m.toNat]!).a).toNat]!) 0))[m.toNat]!), A, A]))))))))))), [.live ⟨2, [(Schema.cells s)], 33⟩, .live ⟨1, ((L.set m.toNat (vCombine ((p[m.toNat]!).op) (L[((p[m.toNat]!).a).toNat]!) 0)).map (icells .i64)), 3⟩, .live ⟨8, [(PNode.cells (p[m.toNat]!))], 26⟩, .free, .free, .free, .free, .free, .free, .free, .free, .free, .free, .free, .free, .free]⟩ (by kernel_rfl) ?_
      refine PON.fin rfl (inBlockA_normal (thenA_normal (hK28 _ ?_)))
      refine PV.regionN ?_
      refine PON.ops (aBin_add_in Try.prog [.live ⟨2, [(Schema.cells s)], 33⟩, .live ⟨1, ((L.set m.toNat (vCombine ((p[m.toNat]!).op) (L[((p[m.toNat]!).a).toNat]!) 0)).map (icells .i64)), 3⟩, .live ⟨8, [(PNode.cells (p[m.toNat]!))], 26⟩, .free, .free, .free, .free, .free, .free, .free, .free, .free, .free, .free, .free, .free] 3 (.tmp 52) (.const (.int .i64 1)) .i64 m 1 (by rw [wrap64] <;> omega)) (by kernel_rfl) (by kernel_rfl) ?_
      refine PON.runs 1 (by kernel_rfl) ?_
      refine PON.norm ⟨(A :: A :: .sF 3 (row.map Val.cells) :: po 0 :: A4 (A4 (iv ((L.set m.toNat (vCombine ((p[m.toNat]!).op) (L[((p[m.toNat]!).a).toNat]!) 0))[m.toNat]!) :: .sO 1 0 p.length :: iv m :: po 2 :: iv 0 :: A9 (A9 (A9 (A4 (A :: A :: .sF 8 (p.map PNode.cells) :: iv (p.length : Int) :: iv (m + 1) :: bv (decide (m < (p.length : Int))) :: iv m :: .pF (PNode.cells (p[m.toNat]!)) 0 :: .agg (PNode.cells (p[m.toNat]!)) :: po 2 :: iv ((p[m.toNat]!).op) :: bv (decide (((p[m.toNat]!).op) ≥ 9)) :: po 2 :: iv ((p[m.toNat]!).op) :: bv (!(decide (((p[m.toNat]!).op) = 11))) :: A4 (A :: .sO 1 0 p.length :: iv m :: po 2 :: iv ((p[m.toNat]!).op) :: .sO 1 0 p.length :: .pO 2 0 6 :: iv ((p[m.toNat]!).a) :: .pO 1 (((p[m.toNat]!).a).toNat) 0 :: iv (L[((p[m.toNat]!).a).toNat]!) :: iv 0 :: iv (vCombine ((p[m.toNat]!).op) (L[((p[m.toNat]!).a).toNat]!) 0) :: .pO 1 m.toNat 0 :: A9 (A4 (A4 ([.sO 1 0 p.length, iv m, .pO 1 m.toNat 0, iv ((L.set m.toNat (vCombine ((p[m.toNat]!).op) (L[((p[m.toNat]!).a).toNat]!) 0))[m.toNat]!), iv (m + 1), A]))))))))))), [.live ⟨2, [(Schema.cells s)], 33⟩, .live ⟨1, ((L.set m.toNat (vCombine ((p[m.toNat]!).op) (L[((p[m.toNat]!).a).toNat]!) 0)).map (icells .i64)), 3⟩, .live ⟨8, [(PNode.cells (p[m.toNat]!))], 26⟩, .free, .free, .free, .free, .free, .free, .free, .free, .free, .free, .free, .free, .free]⟩ (by kernel_rfl) ?_
      refine PON.fin rfl (thenA_normal ?_)
      refine ⟨[0, 1], ((m + 1), ((L.set m.toNat (vCombine ((p[m.toNat]!).op) (L[((p[m.toNat]!).a).toNat]!) 0))[m.toNat]!), L.set m.toNat (vCombine ((p[m.toNat]!).op) (L[((p[m.toNat]!).a).toNat]!) 0)), ⟨rfl, rfl, (.any (.any (.cons (.tree (by simp only [NIs_cons, NIs_nil, NIr_cons, NIr_nil, NI_v, NI_any, NI_pO, NI_sO, NI_pF, NI_sF, NI_agg, NI_tup, NI_fn, NIh_nil, NIh_live, NIh_dead, NIh_free, NIr_map, NIr_append, NIs_icells, NIs_scells, NIs_bcells, NIs_Val, NIs_Col, NIs_Schema, NIs_PNode, NIs_Src, NIr_Val, NIr_Col, NIr_ints, NIr_PNode]; try simp)) (.cons (.pO _ _ rfl) (.a4 (.a4 (.v (.cons (.sO _ _ rfl) (.a9 (.a9 (.a9 (.a9 (.cons (.tree (by simp only [NIs_cons, NIs_nil, NIr_cons, NIr_nil, NI_v, NI_any, NI_pO, NI_sO, NI_pF, NI_sF, NI_agg, NI_tup, NI_fn, NIh_nil, NIh_live, NIh_dead, NIh_free, NIr_map, NIr_append, NIs_icells, NIs_scells, NIs_bcells, NIs_Val, NIs_Col, NIs_Schema, NIs_PNode, NIs_Src, NIr_Val, NIr_Col, NIr_ints, NIr_PNode]; try simp)) (.v (.v (.a9 (.a9 (.a9 (.a9 (.a9 (.a4 (.any .nil)))))))))))))))))))))), (.cons rfl (.tree (by simp only [NIs_cons, NIs_nil, NIr_cons, NIr_nil, NI_v, NI_any, NI_pO, NI_sO, NI_pF, NI_sF, NI_agg, NI_tup, NI_fn, NIh_nil, NIh_live, NIh_dead, NIh_free, NIr_map, NIr_append, NIs_icells, NIs_scells, NIs_bcells, NIs_Val, NIs_Col, NIs_Schema, NIs_PNode, NIs_Src, NIr_Val, NIr_Col, NIr_ints, NIr_PNode]; try simp)) (.cons rfl (.tree (by simp only [NIs_cons, NIs_nil, NIr_cons, NIr_nil, NI_v, NI_any, NI_pO, NI_sO, NI_pF, NI_sF, NI_agg, NI_tup, NI_fn, NIh_nil, NIh_live, NIh_dead, NIh_free, NIr_map, NIr_append, NIs_icells, NIs_scells, NIs_bcells, NIs_Val, NIs_Col, NIs_Schema, NIs_PNode, NIs_Src, NIr_Val, NIr_Col, NIr_ints, NIr_PNode]; try simp)) .nil))⟩, ?_, ?_⟩
      · skip
        clear hret hK1 hK2 hK3 hK4 hK7 hK8 hK11 hK12 hK13 hK14 hK21 hK22 hK23 hK24 hK25 hK26 hK28 hK29 hK30 hK31 hK33 hK34 hK35 K0 K1 K2 K3 K4 K7 K8 K11 K12 K13 K14 K21 K22 K23 K24 K25 K26 K28 K29 K30 K31 K33 K34 K35
        refine ⟨?_, ?_, ?_, ?_⟩
        · skip
          show 0 ≤ (m + 1) ∧ (m + 1) ≤ p.length
          omega
        · skip
          show (L.set m.toNat (vCombine ((p[m.toNat]!).op) (L[((p[m.toNat]!).a).toNat]!) 0)).length = p.length
          simpa using hL
        · skip
          show (L.set m.toNat (vCombine ((p[m.toNat]!).op) (L[((p[m.toNat]!).a).toNat]!) 0)).take (m + 1).toNat = nodeVals s row (p.take (m + 1).toNat)
          rw [show (m + 1).toNat = m.toNat + 1 by omega, take_set_succ _ _ _ (by omega), ← show (m + 1).toNat = m.toNat + 1 by omega, take_step p m (by omega), nodeVals_snoc, ← hT]
          refine congrArg (fun z => _ ++ [z]) ?_; grind [nodeVal, getElem!_take]
        · skip
          show ((L.set m.toNat (vCombine ((p[m.toNat]!).op) (L[((p[m.toNat]!).a).toNat]!) 0))[m.toNat]!) = (nodeVals s row (p.take (m + 1).toNat)).getLastD 1
          rw [get!_set _ _ _ (by omega), take_step p m (by omega), nodeVals_snoc, ← hT]
          simp only [List.getLastD_concat]
          grind [nodeVal, getElem!_take]
      · skip
        clear hret hK1 hK2 hK3 hK4 hK7 hK8 hK11 hK12 hK13 hK14 hK21 hK22 hK23 hK24 hK25 hK26 hK28 hK29 hK30 hK31 hK33 hK34 hK35 K0 K1 K2 K3 K4 K7 K8 K11 K12 K13 K14 K21 K22 K23 K24 K25 K26 K28 K29 K30 K31 K33 K34 K35
        show ((p.length : Int) - (m + 1)).toNat < ((p.length : Int) - m).toNat
        omega
    refine PV.norm ⟨(A :: A :: .sF 3 (row.map Val.cells) :: po 0 :: A4 (A4 (iv o :: .sO 1 0 p.length :: iv m :: po 2 :: A9 (A9 (A9 (A4 (A :: A :: A :: .sF 8 (p.map PNode.cells) :: iv (p.length : Int) :: iv m :: bv (decide (m < (p.length : Int))) :: iv m :: .pF (PNode.cells (p[m.toNat]!)) 0 :: .agg (PNode.cells (p[m.toNat]!)) :: po 2 :: iv ((p[m.toNat]!).op) :: bv (decide (((p[m.toNat]!).op) ≥ 9)) :: A9 (A9 (A9 (A9 (A4 ([A, A, A])))))))))))), [.live ⟨2, [(Schema.cells s)], 33⟩, .live ⟨1, (L.map (icells .i64)), 3⟩, .live ⟨8, [(PNode.cells (p[m.toNat]!))], 26⟩]⟩ (by kernel_rfl) ?_
    refine PV.drawnG mixed (by kernel_rfl) ?_
    refine DRG.runs 6 (by kernel_rfl) ?_
    refine DRG.ops (aIndexAddr_map Try.prog [.live ⟨2, [(Schema.cells s)], 33⟩, .live ⟨1, (L.map (icells .i64)), 3⟩, .live ⟨8, [(PNode.cells (p[m.toNat]!))], 26⟩, .free, .free, .free, .free, .free, .free, .free, .free, .free, .free, .free, .free, .free, .free, .free, .free, .free, .free] 31 47 4 Col.cells (by kernel_rfl) (by kernel_rfl) s.columns .i64 ((p[m.toNat]!).column) (by first | omega | grind)) (by kernel_rfl) (by kernel_rfl) ?_
    refine DRG.runs 6 (by kernel_rfl) ?_
    refine DRG.ops (aIndexAddr_map Try.prog [.live ⟨2, [(Schema.cells s)], 33⟩, .live ⟨1, (L.map (icells .i64)), 3⟩, .live ⟨8, [(PNode.cells (p[m.toNat]!))], 26⟩, .free, .free, .free, .free, .free, .free, .free, .free, .free, .free, .free, .free, .free, .free, .free, .free, .free, .free] 24 23 3 Val.cells (by kernel_rfl) (by kernel_rfl) row .i64 ((p[m.toNat]!).column) (by first | omega | grind)) (by kernel_rfl) (by kernel_rfl) ?_
    refine DRG.runs 1 (by kernel_rfl) ?_
    refine DRG.call 28 [iv ((s.columns[((p[m.toNat]!).column).toNat]!).type), .agg (PNode.cells (p[m.toNat]!)), .agg (Val.cells (row[((p[m.toNat]!).column).toNat]!))] (some 95) (pre := []) (post := []) (x := iv (vTest ((s.columns[((p[m.toNat]!).column).toNat]!).type) (p[m.toNat]!) (row[((p[m.toNat]!).column).toNat]!))) _ (by kernel_rfl) (test_ok ((s.columns[((p[m.toNat]!).column).toNat]!).type) (p[m.toNat]!) (row[((p[m.toNat]!).column).toNat]!) (hw _)) trivial rfl ?_
    refine DRG.ops (aIndexAddr_sO0 Try.prog [.live ⟨2, [(Schema.cells s)], 33⟩, .live ⟨1, (L.map (icells .i64)), 3⟩, .live ⟨8, [(PNode.cells (p[m.toNat]!))], 26⟩, .free, .free, .free, .free, .free, .free, .free, .free, .free, .free, .free, .free, .free, .free, .free, .free, .free, .free] 39 3 1 (by kernel_rfl) (by kernel_rfl) 1 p.length .i64 m _ rfl rfl (by first | omega | grind)) (by kernel_rfl) (by kernel_rfl) ?_
    refine DRG.ops (aStore_rows Try.prog [.live ⟨2, [(Schema.cells s)], 33⟩, .live ⟨1, (L.map (icells .i64)), 3⟩, .live ⟨8, [(PNode.cells (p[m.toNat]!))], 26⟩, .free, .free, .free, .free, .free, .free, .free, .free, .free, .free, .free, .free, .free, .free, .free, .free, .free, .free] 3 1 m.toNat 1 L (icells .i64) 3 (iv (vTest ((s.columns[((p[m.toNat]!).column).toNat]!).type) (p[m.toNat]!) (row[((p[m.toNat]!).column).toNat]!))) (vTest ((s.columns[((p[m.toNat]!).column).toNat]!).type) (p[m.toNat]!) (row[((p[m.toNat]!).column).toNat]!)) rfl (by first | omega | grind) (by kernel_rfl) (by kernel_rfl) (by kernel_rfl) (by kernel_rfl) (fun _ => rfl)) (by kernel_rfl) (by kernel_rfl) ?_
    refine DRG.norm ⟨(A :: A :: .sF 3 (row.map Val.cells) :: po 0 :: A4 (A4 (iv o :: .sO 1 0 p.length :: iv m :: po 2 :: A9 (A9 (A9 (A4 (A :: A :: A :: .sF 8 (p.map PNode.cells) :: iv (p.length : Int) :: iv m :: bv (decide (m < (p.length : Int))) :: iv m :: .pF (PNode.cells (p[m.toNat]!)) 0 :: .agg (PNode.cells (p[m.toNat]!)) :: po 2 :: iv ((p[m.toNat]!).op) :: bv (decide (((p[m.toNat]!).op) ≥ 9)) :: A9 (A9 (A :: A :: .sO 1 0 p.length :: iv m :: po 0 :: .sF 4 (s.columns.map Col.cells) :: .pO 2 0 1 :: iv ((p[m.toNat]!).column) :: .pF (Col.cells (s.columns[((p[m.toNat]!).column).toNat]!)) 0 :: .pF (Col.cells (s.columns[((p[m.toNat]!).column).toNat]!)) 1 :: iv ((s.columns[((p[m.toNat]!).column).toNat]!).type) :: .agg (PNode.cells (p[m.toNat]!)) :: .sF 3 (row.map Val.cells) :: .pO 2 0 1 :: iv ((p[m.toNat]!).column) :: .pF (Val.cells (row[((p[m.toNat]!).column).toNat]!)) 0 :: .agg (Val.cells (row[((p[m.toNat]!).column).toNat]!)) :: iv (vTest ((s.columns[((p[m.toNat]!).column).toNat]!).type) (p[m.toNat]!) (row[((p[m.toNat]!).column).toNat]!)) :: .pO 1 m.toNat 0 :: A4 ([A, A])))))))))), [.live ⟨2, [(Schema.cells s)], 33⟩, .live ⟨1, ((L.set m.toNat (vTest ((s.columns[((p[m.toNat]!).column).toNat]!).type) (p[m.toNat]!) (row[((p[m.toNat]!).column).toNat]!))).map (icells .i64)), 3⟩, .live ⟨8, [(PNode.cells (p[m.toNat]!))], 26⟩, .free, .free, .free, .free, .free, .free, .free, .free, .free, .free, .free, .free, .free, .free, .free, .free, .free, .free]⟩ (by kernel_rfl) ?_
    refine DRG.fin rfl (And.intro (by kernel_rfl) ?_)
    refine id (thenA_normal (hK30 _ ?_))
    refine PV.regionN ?_
    refine PON.runs 2 (by kernel_rfl) ?_
    refine PON.ops (aIndexAddr_sO0 Try.prog [.live ⟨2, [(Schema.cells s)], 33⟩, .live ⟨1, ((L.set m.toNat (vTest ((s.columns[((p[m.toNat]!).column).toNat]!).type) (p[m.toNat]!) (row[((p[m.toNat]!).column).toNat]!))).map (icells .i64)), 3⟩, .live ⟨8, [(PNode.cells (p[m.toNat]!))], 26⟩, .free, .free, .free, .free, .free, .free, .free, .free, .free, .free, .free, .free, .free, .free, .free, .free, .free, .free] 39 3 1 (by kernel_rfl) (by kernel_rfl) 1 p.length .i64 m _ rfl rfl (by first | omega | grind)) (by kernel_rfl) (by kernel_rfl) ?_
    refine PON.ops (aLoad_rows Try.prog [.live ⟨2, [(Schema.cells s)], 33⟩, .live ⟨1, ((L.set m.toNat (vTest ((s.columns[((p[m.toNat]!).column).toNat]!).type) (p[m.toNat]!) (row[((p[m.toNat]!).column).toNat]!))).map (icells .i64)), 3⟩, .live ⟨8, [(PNode.cells (p[m.toNat]!))], 26⟩, .free, .free, .free, .free, .free, .free, .free, .free, .free, .free, .free, .free, .free, .free, .free, .free, .free, .free] 3 1 m.toNat 0 1 (L.set m.toNat (vTest ((s.columns[((p[m.toNat]!).column).toNat]!).type) (p[m.toNat]!) (row[((p[m.toNat]!).column).toNat]!))) (icells .i64) 3 rfl (by first | omega | grind) (iv ((L.set m.toNat (vTest ((s.columns[((p[m.toNat]!).column).toNat]!).type) (p[m.toNat]!) (row[((p[m.toNat]!).column).toNat]!)))[m.toNat]!)) (by kernel_rfl)) (by kernel_rfl) (by kernel_rfl) ?_
    refine PON.runs 1 (by kernel_rfl) ?_
    refine PON.norm ⟨(A :: A :: .sF 3 (row.map Val.cells) :: po 0 :: A4 (A4 (iv ((L.set m.toNat (vTest ((s.columns[((p[m.toNat]!).column).toNat]!).type) (p[m.toNat]!) (row[((p[m.toNat]!).column).toNat]!)))[m.toNat]!) :: .sO 1 0 p.length :: iv m :: po 2 :: A9 (A9 (A9 (A4 (A :: A :: A :: .sF 8 (p.map PNode.cells) :: iv (p.length : Int) :: iv m :: bv (decide (m < (p.length : Int))) :: iv m :: .pF (PNode.cells (p[m.toNat]!)) 0 :: .agg (PNode.cells (p[m.toNat]!)) :: po 2 :: iv ((p[m.toNat]!).op) :: bv (decide (((p[m.toNat]!).op) ≥ 9)) :: A9 (A9 ([A, A, .sO 1 0 p.length, iv m, po 0, .sF 4 (s.columns.map Col.cells), .pO 2 0 1, iv ((p[m.toNat]!).column), .pF (Col.cells (s.columns[((p[m.toNat]!).column).toNat]!)) 0, .pF (Col.cells (s.columns[((p[m.toNat]!).column).toNat]!)) 1, iv ((s.columns[((p[m.toNat]!).column).toNat]!).type), .agg (PNode.cells (p[m.toNat]!)), .sF 3 (row.map Val.cells), .pO 2 0 1, iv ((p[m.toNat]!).column), .pF (Val.cells (row[((p[m.toNat]!).column).toNat]!)) 0, .agg (Val.cells (row[((p[m.toNat]!).column).toNat]!)), iv (vTest ((s.columns[((p[m.toNat]!).column).toNat]!).type) (p[m.toNat]!) (row[((p[m.toNat]!).column).toNat]!)), .pO 1 m.toNat 0, .sO 1 0 p.length, iv m, .pO 1 m.toNat 0, iv ((L.set m.toNat (vTest ((s.columns[((p[m.toNat]!).column).toNat]!).type) (p[m.toNat]!) (row[((p[m.toNat]!).column).toNat]!)))[m.toNat]!), A, A]))))))))), [.live ⟨2, [(Schema.cells s)], 33⟩, .live ⟨1, ((L.set m.toNat (vTest ((s.columns[((p[m.toNat]!).column).toNat]!).type) (p[m.toNat]!) (row[((p[m.toNat]!).column).toNat]!))).map (icells .i64)), 3⟩, .live ⟨8, [(PNode.cells (p[m.toNat]!))], 26⟩, .free, .free, .free, .free, .free, .free, .free, .free, .free, .free, .free, .free, .free, .free, .free, .free, .free, .free]⟩ (by kernel_rfl) ?_
    refine PON.fin rfl (inBlockA_normal (thenA_normal (hK28 _ ?_)))
    refine PV.regionN ?_
    refine PON.ops (aBin_add_in Try.prog [.live ⟨2, [(Schema.cells s)], 33⟩, .live ⟨1, ((L.set m.toNat (vTest ((s.columns[((p[m.toNat]!).column).toNat]!).type) (p[m.toNat]!) (row[((p[m.toNat]!).column).toNat]!))).map (icells .i64)), 3⟩, .live ⟨8, [(PNode.cells (p[m.toNat]!))], 26⟩, .free, .free, .free, .free, .free, .free, .free, .free, .free, .free, .free, .free, .free, .free, .free, .free, .free, .free] 3 (.tmp 52) (.const (.int .i64 1)) .i64 m 1 (by rw [wrap64] <;> omega)) (by kernel_rfl) (by kernel_rfl) ?_
    refine PON.runs 1 (by kernel_rfl) ?_
    refine PON.norm ⟨(A :: A :: .sF 3 (row.map Val.cells) :: po 0 :: A4 (A4 (iv ((L.set m.toNat (vTest ((s.columns[((p[m.toNat]!).column).toNat]!).type) (p[m.toNat]!) (row[((p[m.toNat]!).column).toNat]!)))[m.toNat]!) :: .sO 1 0 p.length :: iv m :: po 2 :: A9 (A9 (A9 (A4 (A :: A :: A :: .sF 8 (p.map PNode.cells) :: iv (p.length : Int) :: iv (m + 1) :: bv (decide (m < (p.length : Int))) :: iv m :: .pF (PNode.cells (p[m.toNat]!)) 0 :: .agg (PNode.cells (p[m.toNat]!)) :: po 2 :: iv ((p[m.toNat]!).op) :: bv (decide (((p[m.toNat]!).op) ≥ 9)) :: A9 (A9 ([A, A, .sO 1 0 p.length, iv m, po 0, .sF 4 (s.columns.map Col.cells), .pO 2 0 1, iv ((p[m.toNat]!).column), .pF (Col.cells (s.columns[((p[m.toNat]!).column).toNat]!)) 0, .pF (Col.cells (s.columns[((p[m.toNat]!).column).toNat]!)) 1, iv ((s.columns[((p[m.toNat]!).column).toNat]!).type), .agg (PNode.cells (p[m.toNat]!)), .sF 3 (row.map Val.cells), .pO 2 0 1, iv ((p[m.toNat]!).column), .pF (Val.cells (row[((p[m.toNat]!).column).toNat]!)) 0, .agg (Val.cells (row[((p[m.toNat]!).column).toNat]!)), iv (vTest ((s.columns[((p[m.toNat]!).column).toNat]!).type) (p[m.toNat]!) (row[((p[m.toNat]!).column).toNat]!)), .pO 1 m.toNat 0, .sO 1 0 p.length, iv m, .pO 1 m.toNat 0, iv ((L.set m.toNat (vTest ((s.columns[((p[m.toNat]!).column).toNat]!).type) (p[m.toNat]!) (row[((p[m.toNat]!).column).toNat]!)))[m.toNat]!), iv (m + 1), A]))))))))), [.live ⟨2, [(Schema.cells s)], 33⟩, .live ⟨1, ((L.set m.toNat (vTest ((s.columns[((p[m.toNat]!).column).toNat]!).type) (p[m.toNat]!) (row[((p[m.toNat]!).column).toNat]!))).map (icells .i64)), 3⟩, .live ⟨8, [(PNode.cells (p[m.toNat]!))], 26⟩, .free, .free, .free, .free, .free, .free, .free, .free, .free, .free, .free, .free, .free, .free, .free, .free, .free, .free]⟩ (by kernel_rfl) ?_
    refine PON.fin rfl (thenA_normal ?_)
    refine ⟨[0, 1], ((m + 1), ((L.set m.toNat (vTest ((s.columns[((p[m.toNat]!).column).toNat]!).type) (p[m.toNat]!) (row[((p[m.toNat]!).column).toNat]!)))[m.toNat]!), L.set m.toNat (vTest ((s.columns[((p[m.toNat]!).column).toNat]!).type) (p[m.toNat]!) (row[((p[m.toNat]!).column).toNat]!))), ⟨rfl, rfl, (.any (.any (.cons (.tree (by simp only [NIs_cons, NIs_nil, NIr_cons, NIr_nil, NI_v, NI_any, NI_pO, NI_sO, NI_pF, NI_sF, NI_agg, NI_tup, NI_fn, NIh_nil, NIh_live, NIh_dead, NIh_free, NIr_map, NIr_append, NIs_icells, NIs_scells, NIs_bcells, NIs_Val, NIs_Col, NIs_Schema, NIs_PNode, NIs_Src, NIr_Val, NIr_Col, NIr_ints, NIr_PNode]; try simp)) (.cons (.pO _ _ rfl) (.a4 (.a4 (.v (.cons (.sO _ _ rfl) (.a9 (.a9 (.a9 (.a9 (.cons (.tree (by simp only [NIs_cons, NIs_nil, NIr_cons, NIr_nil, NI_v, NI_any, NI_pO, NI_sO, NI_pF, NI_sF, NI_agg, NI_tup, NI_fn, NIh_nil, NIh_live, NIh_dead, NIh_free, NIr_map, NIr_append, NIs_icells, NIs_scells, NIs_bcells, NIs_Val, NIs_Col, NIs_Schema, NIs_PNode, NIs_Src, NIr_Val, NIr_Col, NIr_ints, NIr_PNode]; try simp)) (.v (.v (.a9 (.a9 (.a9 (.a9 (.a9 (.a4 (.any .nil)))))))))))))))))))))), (.cons rfl (.tree (by simp only [NIs_cons, NIs_nil, NIr_cons, NIr_nil, NI_v, NI_any, NI_pO, NI_sO, NI_pF, NI_sF, NI_agg, NI_tup, NI_fn, NIh_nil, NIh_live, NIh_dead, NIh_free, NIr_map, NIr_append, NIs_icells, NIs_scells, NIs_bcells, NIs_Val, NIs_Col, NIs_Schema, NIs_PNode, NIs_Src, NIr_Val, NIr_Col, NIr_ints, NIr_PNode]; try simp)) (.cons rfl (.tree (by simp only [NIs_cons, NIs_nil, NIr_cons, NIr_nil, NI_v, NI_any, NI_pO, NI_sO, NI_pF, NI_sF, NI_agg, NI_tup, NI_fn, NIh_nil, NIh_live, NIh_dead, NIh_free, NIr_map, NIr_append, NIs_icells, NIs_scells, NIs_bcells, NIs_Val, NIs_Col, NIs_Schema, NIs_PNode, NIs_Src, NIr_Val, NIr_Col, NIr_ints, NIr_PNode]; try simp)) .nil))⟩, ?_, ?_⟩
    · skip
      clear hret hK1 hK2 hK3 hK4 hK7 hK8 hK11 hK12 hK13 hK14 hK21 hK22 hK23 hK24 hK25 hK26 hK28 hK29 hK30 hK31 K0 K1 K2 K3 K4 K7 K8 K11 K12 K13 K14 K21 K22 K23 K24 K25 K26 K28 K29 K30 K31
      refine ⟨?_, ?_, ?_, ?_⟩
      · skip
        show 0 ≤ (m + 1) ∧ (m + 1) ≤ p.length
        omega
      · skip
        show (L.set m.toNat (vTest ((s.columns[((p[m.toNat]!).column).toNat]!).type) (p[m.toNat]!) (row[((p[m.toNat]!).column).toNat]!))).length = p.length
        simpa using hL
      · skip
        show (L.set m.toNat (vTest ((s.columns[((p[m.toNat]!).column).toNat]!).type) (p[m.toNat]!) (row[((p[m.toNat]!).column).toNat]!))).take (m + 1).toNat = nodeVals s row (p.take (m + 1).toNat)
        rw [show (m + 1).toNat = m.toNat + 1 by omega, take_set_succ _ _ _ (by omega), ← show (m + 1).toNat = m.toNat + 1 by omega, take_step p m (by omega), nodeVals_snoc, ← hT]
        refine congrArg (fun z => _ ++ [z]) ?_; grind [nodeVal, getElem!_take]
      · skip
        show ((L.set m.toNat (vTest ((s.columns[((p[m.toNat]!).column).toNat]!).type) (p[m.toNat]!) (row[((p[m.toNat]!).column).toNat]!)))[m.toNat]!) = (nodeVals s row (p.take (m + 1).toNat)).getLastD 1
        rw [get!_set _ _ _ (by omega), take_step p m (by omega), nodeVals_snoc, ← hT]
        simp only [List.getLastD_concat]
        grind [nodeVal, getElem!_take]
    · skip
      clear hret hK1 hK2 hK3 hK4 hK7 hK8 hK11 hK12 hK13 hK14 hK21 hK22 hK23 hK24 hK25 hK26 hK28 hK29 hK30 hK31 K0 K1 K2 K3 K4 K7 K8 K11 K12 K13 K14 K21 K22 K23 K24 K25 K26 K28 K29 K30 K31
      show ((p.length : Int) - (m + 1)).toNat < ((p.length : Int) - m).toNat
      omega
  rw [take_end _ _ (by omega)] at ho
  refine PV.exit (thenA_exit (thenA_exit (inBlockA_hit (thenA_normal (hK23 _ ?_)))))
  refine PV.seq_k fun K37 hK37 => ?_
  refine PV.regionN ?_
  refine PON.runs 3 (by kernel_rfl) ?_
  refine PON.fin rfl (thenA_normal (hK37 _ ?_))
  refine PV.norm ⟨(A :: A :: .sF 3 (row.map Val.cells) :: po 0 :: A :: A :: iv o :: iv 0 :: A4 (iv o :: .sO 1 0 p.length :: A9 (A9 (A9 (A9 (.sF 8 (p.map PNode.cells) :: iv (p.length : Int) :: iv m :: bv (decide (m < (p.length : Int))) :: A9 (A9 (A9 (A9 (A9 ([A, A, A, iv o]))))))))))), [.live ⟨2, [(Schema.cells s)], 33⟩, .live ⟨1, (L.map (icells .i64)), 3⟩]⟩ (by kernel_rfl) ?_
  refine PV.ret (hret .ret _ (.tup [iv o, iv 0]) (.inr rfl) (by kernel_rfl) ?_)
  clear hret hK1 hK2 hK3 hK4 hK7 hK8 hK11 hK12 hK13 hK14 hK21 hK22 hK23 hK24 hK25 hK26 hK37 K0 K1 K2 K3 K4 K7 K8 K11 K12 K13 K14 K21 K22 K23 K24 K25 K26 K37
  show Tof noTau [.live ⟨2, [(Schema.cells s)], 33⟩, .live ⟨1, (L.map (icells .i64)), 3⟩] (.tup [iv o, iv 0]) (.tup [iv (evalV s p row), iv (evalE s p row)])
  -- leaf 4
  first | (refine Tof.tup (.cons (Tof.int ?_) (.cons (Tof.int ?_) .nil)) <;> first | grind [evalV, evalE, rowErr] | (rw [drop_step _ _ (by omega), errFrom] at hr; grind [evalV, evalE, rowErr]) | grind [evalV, evalE, rowErr, evalT, errFrom])
theorem eval_ok (s : Schema) (p : (List PNode)) (row : (List Val)) (hw : ∀ i : Nat, p[i]!.list.length ≤ maxLen) : PCX Try.prog 11 [.agg (Schema.cells s), .sF 8 (p.map PNode.cells), .sF 3 (row.map Val.cells)] [] [] (.tup [iv (evalV s p row), iv (evalE s p row)]) :=
  PCX.frame (by simp only [NIs_cons, NIs_nil, NIr_cons, NIr_nil, NI_v, NI_any, NI_pO, NI_sO, NI_pF, NI_sF, NI_agg, NI_tup, NI_fn, NIh_nil, NIh_live, NIh_dead, NIh_free, NIr_map, NIr_append, NIs_icells, NIs_scells, NIs_bcells, NIs_Val, NIs_Col, NIs_Schema, NIs_PNode, NIs_Src, NIr_Val, NIr_Col, NIr_ints, NIr_PNode]; try simp) (eval_ok_walk s p row hw)

end Go.Proofs.Ytinehkfcploeiaa
