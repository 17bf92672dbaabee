/- Contracts of the helpers of the statements. -/
import Derived.Test.YtinehkfcploeiaaRows
import Derived.Test.YtinehkfcploeiaaAbsX
namespace Go.Proofs.Ytinehkfcploeiaa
open Go.Abs
set_option linter.unusedVariables false
set_option linter.unusedSimpArgs false

theorem mixed : Try.prog.follows .mixedOrders = true := by kernel_rfl

def vKnown (t : Int) : Bool := decide (1 ≤ t) && decide (t ≤ 5)
def vPermitted (t : Int) (v : Val) : Bool :=
  if t = 2 then decide (v.n = 0) || decide (v.n = 1) else if t = 4 then decide (-719162 ≤ v.n) && decide (v.n ≤ 2932896)
  else if t = 5 then decide (-999999999999999999 ≤ v.n) && decide (v.n ≤ 999999999999999999) else if t = 3 then decide (v.s.size ≤ 64) else true
def vCheck (c : Col) (v : Val) : Int :=
  if vKnown c.type = false then 1 else if (v.null = true ∨ c.type ≠ 3) ∧ v.s ≠ ByteArray.empty then 11 else if (v.null = true ∨ c.type = 3) ∧ v.n ≠ 0 then 11
  else if v.null = true ∧ c.nullable = false then 12 else if v.null = false ∧ vPermitted c.type v = false then 4 else 0
def intCmp (a b : Int) : Int := if a < b then -1 else if a > b then 1 else 0
def strCmp (a b : ByteArray) : Int := if strLt a b then -1 else if a = b then 0 else 1
def vCompare (t : Int) (a b : Val) : Int :=
  if a.null = true ∧ b.null = true then 0 else if a.null = true then -1 else if b.null = true then 1 else if t = 3 then strCmp a.s b.s else intCmp a.n b.n

theorem size_pos_of_ne {s : ByteArray} (h : ¬ s = ByteArray.empty) : 1 ≤ s.size := by
  rcases Nat.eq_zero_or_pos s.size with q | q
  · exfalso; apply h
    apply ByteArray.ext
    exact Array.eq_empty_of_size_eq_zero q
  · exact q
theorem bytesLess_irrefl : ∀ l : List UInt8, Op.bytesLess l l = false
  | [] => rfl
  | a :: x => by simp [Op.bytesLess, bytesLess_irrefl x]
theorem bytesLess_asymm : ∀ a b : List UInt8, Op.bytesLess a b = true → Op.bytesLess b a = false
  | [], [], _ => rfl
  | [], _ :: _, _ => rfl
  | _ :: _, [], h => by simp [Op.bytesLess] at h
  | a :: x, b :: y, h => by
    simp only [Op.bytesLess, Bool.or_eq_true, Bool.and_eq_true, decide_eq_true_eq, beq_iff_eq] at h
    simp only [Op.bytesLess, Bool.or_eq_false_iff, Bool.and_eq_false_iff, decide_eq_false_iff_not]
    rcases h with h | ⟨rfl, h⟩
    · exact ⟨fun q => absurd (UInt8.lt_trans h q) (UInt8.lt_irrefl _), .inl (by simpa using fun e => UInt8.lt_irrefl _ (by rw [e] at h; exact h))⟩
    · exact ⟨UInt8.lt_irrefl _, .inr (bytesLess_asymm x y h)⟩
theorem bytesLess_total : ∀ a b : List UInt8, Op.bytesLess a b = false → Op.bytesLess b a = false → a = b
  | [], [], _, _ => rfl
  | [], _ :: _, h, _ => by simp [Op.bytesLess] at h
  | _ :: _, [], _, h => by simp [Op.bytesLess] at h
  | a :: x, b :: y, h1, h2 => by
    simp only [Op.bytesLess, Bool.or_eq_false_iff, Bool.and_eq_false_iff, decide_eq_false_iff_not] at h1 h2
    have e : a = b := UInt8.le_antisymm (UInt8.not_lt.1 h2.1) (UInt8.not_lt.1 h1.1)
    subst e
    rw [bytesLess_total x y (by simpa using h1.2) (by simpa using h2.2)]
theorem strLt_irrefl (a : ByteArray) : strLt a a = false := bytesLess_irrefl _
theorem strCmp_alt (a b : ByteArray) : strCmp a b = if strLt a b then -1 else if strLt b a then 1 else 0 := by
  unfold strCmp
  by_cases h : strLt a b = true
  · simp [h]
  · by_cases e : a = b
    · subst e; simp [strLt_irrefl]
    · have h2 : strLt b a = true := by
        cases q : strLt b a with
        | true => rfl
        | false => exact absurd (str_inj (bytesLess_total _ _ (by simpa [strLt] using h) (by simpa [strLt] using q))) e
      simp [h, e, h2]

set_option maxHeartbeats 4000000 in
theorem known_ok_walk (t : Int) : PC Try.prog 42 [iv t] [] (fun yR kR => Tof noTau kR yR (bv (vKnown t))) := by
  refine PC.of_bodyV Try.func42 rfl [iv t, U, U, U, U, U, U, U, U] (by kernel_rfl) (fun K0 hret => ?_)
  refine PV.seq_k fun K1 hK1 => ?_
  refine PV.regionN ?_
  refine PON.runs 1 (by kernel_rfl) ?_
  refine PON.fin rfl (thenA_normal (hK1 _ ?_))
  refine PV.norm ⟨[iv t, U, bv false, U, U, U, U, U, U], []⟩ (by kernel_rfl) ?_
  refine PV.seqR [] ⟨(iv t :: U :: bv (decide ((t ≥ 1) ∧ (t ≤ 5))) :: A4 ([A, A])), []⟩ ?_ ?_
  · skip
    refine PV.regionN ?_
    refine PON.runs 3 (by kernel_rfl) ?_
    refine PON.norm ⟨[iv t, U, bv false, iv t, bv (decide (t ≥ 1)), bv (decide (t ≥ 1)), U, U, U], []⟩ (by kernel_rfl) ?_
    refine PON.splitP (t ≥ 1) 5 (decide (t ≥ 1)) [iv t, U, bv false, iv t, bv (decide (t ≥ 1)), bv true, U, U, U] [iv t, U, bv false, iv t, bv (decide (t ≥ 1)), bv false, U, U, U] (by kernel_rfl) decide_eq_true decide_eq_false (by kernel_rfl) (by kernel_rfl) (fun h2 => ?_) (fun h2 => ?_)
    · skip
      refine PON.runs 4 (by kernel_rfl) ?_
      refine PON.norm ⟨[iv t, U, bv (decide (t ≤ 5)), iv t, bv (decide (t ≥ 1)), bv true, iv t, bv (decide (t ≤ 5)), bv (decide (t ≤ 5))], []⟩ (by kernel_rfl) ?_
      refine PON.fin rfl (thenA_normal ?_)
      exact ⟨rfl, rfl, (.v (.v (.cons (.eq (.v _) (v_bool (by clear hret hK1 K0 K1; (try simp only [strEq_dec]); grind))) (.a4 (.any (.any .nil)))))), .nil⟩
    refine PON.runs 4 (by kernel_rfl) ?_
    refine PON.norm ⟨[iv t, U, bv false, iv t, bv (decide (t ≥ 1)), bv false, U, U, bv false], []⟩ (by kernel_rfl) ?_
    refine PON.fin rfl (thenA_normal ?_)
    exact ⟨rfl, rfl, (.v (.v (.cons (.eq (.v _) (v_bool (by clear hret hK1 K0 K1; (try simp only [strEq_dec]); grind))) (.a4 (.any (.any .nil)))))), .nil⟩
  refine PV.ret (hret .ret _ (bv (decide ((t ≥ 1) ∧ (t ≤ 5)))) (.inr rfl) (by kernel_rfl) ?_)
  clear hret hK1 K0 K1
  show Tof noTau [] (bv (decide ((t ≥ 1) ∧ (t ≤ 5)))) (bv (vKnown t))
  -- leaf 1
  refine Tof.bool ?_
  grind [vKnown, vPermitted]
theorem known_ok (t : Int) : PCX Try.prog 42 [iv t] [] [] (bv (vKnown t)) :=
  PCX.frame (by simp only [NIs_cons, NIs_nil, NIr_cons, NIr_nil, NI_v, NI_any, NI_pO, NI_sO, NI_pF, NI_sF, NI_agg, NI_tup, NI_fn, NIh_nil, NIh_live, NIh_dead, NIh_free, NIr_map, NIr_append, NIs_icells, NIs_scells, NIs_bcells, NIs_Val, NIs_Col, NIs_Schema, NIs_PNode, NIs_Src, NIr_Val, NIr_Col, NIr_ints, NIr_PNode]; try simp) (known_ok_walk t)

set_option maxHeartbeats 4000000 in
theorem permitted_ok_walk (t : Int) (v : Val) : PC Try.prog 43 [iv t, .agg (Val.cells v)] [] (fun yR kR => Tof noTau kR yR (bv (vPermitted t v))) := by
  refine PC.of_bodyV Try.func43 rfl (iv t :: .agg (Val.cells v) :: U9 (U9 (U9 (U9 ([U, U, U, U]))))) (by kernel_rfl) (fun K0 hret => ?_)
  refine PV.seq_k fun K1 hK1 => ?_
  refine PV.regionN ?_
  refine PON.runs 2 (by kernel_rfl) ?_
  refine PON.fin rfl (thenA_normal (hK1 _ ?_))
  refine PV.seq_k fun K2 hK2 => ?_
  refine PV.seq_k fun K3 hK3 => ?_
  refine PV.regionN ?_
  refine PON.runs 1 (by kernel_rfl) ?_
  refine PON.fin rfl (thenA_normal (hK3 _ ?_))
  refine PV.block ?_
  refine PV.seq_k fun K4 hK4 => ?_
  refine PV.regionN ?_
  refine PON.runs 2 (by kernel_rfl) ?_
  refine PON.fin rfl (thenA_normal (hK4 _ ?_))
  refine PV.condP (t = 2) (decide (t = 2)) (by kernel_rfl) decide_eq_true decide_eq_false (fun h5 => ?_) (fun h5 => ?_)
  · skip
    refine PV.norm ⟨(iv t :: .agg (Val.cells v) :: U :: po 0 :: bv false :: iv t :: bv (decide (t = 2)) :: bv (decide (t = 2)) :: U9 (U9 (U9 ([U, U, U, U, U, U, U])))), [.live ⟨3, [(Val.cells v)], 23⟩]⟩ (by kernel_rfl) ?_
    refine PV.seqR [0] ⟨(iv t :: .agg (Val.cells v) :: U :: po 0 :: bv (decide ((v.n = 0) ∨ (v.n = 1))) :: iv t :: bv (decide (t = 2)) :: bv (decide (t = 2)) :: A4 (A4 (U9 (U9 ([U, U, U, U, U, U, U, U]))))), [.live ⟨3, [(Val.cells v)], 23⟩]⟩ ?_ ?_
    · skip
      refine PV.regionN ?_
      refine PON.runs 4 (by kernel_rfl) ?_
      refine PON.norm ⟨(iv t :: .agg (Val.cells v) :: U :: po 0 :: bv false :: iv t :: bv (decide (t = 2)) :: bv (decide (t = 2)) :: .pO 0 0 1 :: iv v.n :: bv (decide (v.n = 0)) :: bv (decide (v.n = 0)) :: U9 (U9 (U9 ([U, U, U])))), [.live ⟨3, [(Val.cells v)], 23⟩]⟩ (by kernel_rfl) ?_
      refine PON.splitP (v.n = 0) 11 (decide (v.n = 0)) (iv t :: .agg (Val.cells v) :: U :: po 0 :: bv false :: iv t :: bv (decide (t = 2)) :: bv (decide (t = 2)) :: .pO 0 0 1 :: iv v.n :: bv (decide (v.n = 0)) :: bv true :: U9 (U9 (U9 ([U, U, U])))) (iv t :: .agg (Val.cells v) :: U :: po 0 :: bv false :: iv t :: bv (decide (t = 2)) :: bv (decide (t = 2)) :: .pO 0 0 1 :: iv v.n :: bv (decide (v.n = 0)) :: bv false :: U9 (U9 (U9 ([U, U, U])))) (by kernel_rfl) decide_eq_true decide_eq_false (by kernel_rfl) (by kernel_rfl) (fun h6 => ?_) (fun h6 => ?_)
      · skip
        refine PON.runs 5 (by kernel_rfl) ?_
        refine PON.norm ⟨(iv t :: .agg (Val.cells v) :: U :: po 0 :: bv true :: iv t :: bv (decide (t = 2)) :: bv (decide (t = 2)) :: .pO 0 0 1 :: iv v.n :: bv (decide (v.n = 0)) :: bv true :: U :: U :: U :: bv true :: U9 (U9 ([U, U, U, U, U, U, U, U]))), [.live ⟨3, [(Val.cells v)], 23⟩]⟩ (by kernel_rfl) ?_
        refine PON.fin rfl (thenA_normal ?_)
        exact ⟨rfl, rfl, (.v (.cons (.tree (by simp only [NIs_cons, NIs_nil, NIr_cons, NIr_nil, NI_v, NI_any, NI_pO, NI_sO, NI_pF, NI_sF, NI_agg, NI_tup, NI_fn, NIh_nil, NIh_live, NIh_dead, NIh_free, NIr_map, NIr_append, NIs_icells, NIs_scells, NIs_bcells, NIs_Val, NIs_Col, NIs_Schema, NIs_PNode, NIs_Src, NIr_Val, NIr_Col, NIr_ints, NIr_PNode]; try simp)) (.v (.cons (.pO _ _ rfl) (.cons (.eq (.v _) (v_bool (by clear hret hK1 hK2 hK3 hK4 K0 K1 K2 K3 K4; (try simp only [strEq_dec]); grind))) (.v (.v (.v (.a4 (.a4 (.v (.v (.v (.v (.v (.v (.v (.v (.v (.v (.v (.v (.v (.v (.v (.v (.v (.v (.v (.v (.v (.v (.v (.v (.v (.v .nil)))))))))))))))))))))))))))))))))))), (.cons rfl (.tree (by simp only [NIs_cons, NIs_nil, NIr_cons, NIr_nil, NI_v, NI_any, NI_pO, NI_sO, NI_pF, NI_sF, NI_agg, NI_tup, NI_fn, NIh_nil, NIh_live, NIh_dead, NIh_free, NIr_map, NIr_append, NIs_icells, NIs_scells, NIs_bcells, NIs_Val, NIs_Col, NIs_Schema, NIs_PNode, NIs_Src, NIr_Val, NIr_Col, NIr_ints, NIr_PNode]; try simp)) .nil)⟩
      refine PON.runs 5 (by kernel_rfl) ?_
      refine PON.norm ⟨(iv t :: .agg (Val.cells v) :: U :: po 0 :: bv (decide (v.n = 1)) :: iv t :: bv (decide (t = 2)) :: bv (decide (t = 2)) :: .pO 0 0 1 :: iv v.n :: bv (decide (v.n = 0)) :: bv false :: .pO 0 0 1 :: iv v.n :: bv (decide (v.n = 1)) :: bv (decide (v.n = 1)) :: U9 (U9 ([U, U, U, U, U, U, U, U]))), [.live ⟨3, [(Val.cells v)], 23⟩]⟩ (by kernel_rfl) ?_
      refine PON.fin rfl (thenA_normal ?_)
      exact ⟨rfl, rfl, (.v (.cons (.tree (by simp only [NIs_cons, NIs_nil, NIr_cons, NIr_nil, NI_v, NI_any, NI_pO, NI_sO, NI_pF, NI_sF, NI_agg, NI_tup, NI_fn, NIh_nil, NIh_live, NIh_dead, NIh_free, NIr_map, NIr_append, NIs_icells, NIs_scells, NIs_bcells, NIs_Val, NIs_Col, NIs_Schema, NIs_PNode, NIs_Src, NIr_Val, NIr_Col, NIr_ints, NIr_PNode]; try simp)) (.v (.cons (.pO _ _ rfl) (.cons (.eq (.v _) (v_bool (by clear hret hK1 hK2 hK3 hK4 K0 K1 K2 K3 K4; (try simp only [strEq_dec]); grind))) (.v (.v (.v (.a4 (.a4 (.v (.v (.v (.v (.v (.v (.v (.v (.v (.v (.v (.v (.v (.v (.v (.v (.v (.v (.v (.v (.v (.v (.v (.v (.v (.v .nil)))))))))))))))))))))))))))))))))))), (.cons rfl (.tree (by simp only [NIs_cons, NIs_nil, NIr_cons, NIr_nil, NI_v, NI_any, NI_pO, NI_sO, NI_pF, NI_sF, NI_agg, NI_tup, NI_fn, NIh_nil, NIh_live, NIh_dead, NIh_free, NIr_map, NIr_append, NIs_icells, NIs_scells, NIs_bcells, NIs_Val, NIs_Col, NIs_Schema, NIs_PNode, NIs_Src, NIr_Val, NIr_Col, NIr_ints, NIr_PNode]; try simp)) .nil)⟩
    refine PV.ret (inBlockA_ret (thenA_ret (hret .ret _ (bv (decide ((v.n = 0) ∨ (v.n = 1)))) (.inr rfl) (by kernel_rfl) ?_)))
    clear hret hK1 hK2 hK3 hK4 K0 K1 K2 K3 K4
    show Tof noTau [.live ⟨3, [(Val.cells v)], 23⟩] (bv (decide ((v.n = 0) ∨ (v.n = 1)))) (bv (vPermitted t v))
    -- leaf 1
    refine Tof.bool ?_
    grind [vKnown, vPermitted]
  refine PV.seq_k fun K7 hK7 => ?_
  refine PV.regionN ?_
  refine PON.runs 2 (by kernel_rfl) ?_
  refine PON.fin rfl (thenA_normal (hK7 _ ?_))
  refine PV.condP (t = 4) (decide (t = 4)) (by kernel_rfl) decide_eq_true decide_eq_false (fun h8 => ?_) (fun h8 => ?_)
  · skip
    refine PV.norm ⟨(iv t :: .agg (Val.cells v) :: U :: po 0 :: bv false :: iv t :: bv (decide (t = 2)) :: bv (decide (t = 2)) :: U :: U :: U :: U :: U :: U :: U :: U :: bv (decide (t = 4)) :: bv (decide (t = 4)) :: U9 (U9 ([U, U, U, U, U, U]))), [.live ⟨3, [(Val.cells v)], 23⟩]⟩ (by kernel_rfl) ?_
    refine PV.seqR [0] ⟨(iv t :: .agg (Val.cells v) :: U :: po 0 :: bv (decide ((v.n ≥ (-719162)) ∧ (v.n ≤ 2932896))) :: iv t :: bv (decide (t = 2)) :: bv (decide (t = 2)) :: U :: U :: U :: U :: U :: U :: U :: U :: bv (decide (t = 4)) :: bv (decide (t = 4)) :: A4 (A4 (U9 ([U, U, U, U, U, U, U])))), [.live ⟨3, [(Val.cells v)], 23⟩]⟩ ?_ ?_
    · skip
      refine PV.regionN ?_
      refine PON.runs 4 (by kernel_rfl) ?_
      refine PON.norm ⟨(iv t :: .agg (Val.cells v) :: U :: po 0 :: bv false :: iv t :: bv (decide (t = 2)) :: bv (decide (t = 2)) :: U :: U :: U :: U :: U :: U :: U :: U :: bv (decide (t = 4)) :: bv (decide (t = 4)) :: .pO 0 0 1 :: iv v.n :: bv (decide (v.n ≥ (-719162))) :: bv (decide (v.n ≥ (-719162))) :: U9 (U9 ([U, U]))), [.live ⟨3, [(Val.cells v)], 23⟩]⟩ (by kernel_rfl) ?_
      refine PON.splitP (v.n ≥ (-719162)) 21 (decide (v.n ≥ (-719162))) (iv t :: .agg (Val.cells v) :: U :: po 0 :: bv false :: iv t :: bv (decide (t = 2)) :: bv (decide (t = 2)) :: U :: U :: U :: U :: U :: U :: U :: U :: bv (decide (t = 4)) :: bv (decide (t = 4)) :: .pO 0 0 1 :: iv v.n :: bv (decide (v.n ≥ (-719162))) :: bv true :: U9 (U9 ([U, U]))) (iv t :: .agg (Val.cells v) :: U :: po 0 :: bv false :: iv t :: bv (decide (t = 2)) :: bv (decide (t = 2)) :: U :: U :: U :: U :: U :: U :: U :: U :: bv (decide (t = 4)) :: bv (decide (t = 4)) :: .pO 0 0 1 :: iv v.n :: bv (decide (v.n ≥ (-719162))) :: bv false :: U9 (U9 ([U, U]))) (by kernel_rfl) decide_eq_true decide_eq_false (by kernel_rfl) (by kernel_rfl) (fun h9 => ?_) (fun h9 => ?_)
      · skip
        refine PON.runs 5 (by kernel_rfl) ?_
        refine PON.norm ⟨(iv t :: .agg (Val.cells v) :: U :: po 0 :: bv (decide (v.n ≤ 2932896)) :: iv t :: bv (decide (t = 2)) :: bv (decide (t = 2)) :: U :: U :: U :: U :: U :: U :: U :: U :: bv (decide (t = 4)) :: bv (decide (t = 4)) :: .pO 0 0 1 :: iv v.n :: bv (decide (v.n ≥ (-719162))) :: bv true :: .pO 0 0 1 :: iv v.n :: bv (decide (v.n ≤ 2932896)) :: bv (decide (v.n ≤ 2932896)) :: U9 ([U, U, U, U, U, U, U])), [.live ⟨3, [(Val.cells v)], 23⟩]⟩ (by kernel_rfl) ?_
        refine PON.fin rfl (thenA_normal ?_)
        exact ⟨rfl, rfl, (.v (.cons (.tree (by simp only [NIs_cons, NIs_nil, NIr_cons, NIr_nil, NI_v, NI_any, NI_pO, NI_sO, NI_pF, NI_sF, NI_agg, NI_tup, NI_fn, NIh_nil, NIh_live, NIh_dead, NIh_free, NIr_map, NIr_append, NIs_icells, NIs_scells, NIs_bcells, NIs_Val, NIs_Col, NIs_Schema, NIs_PNode, NIs_Src, NIr_Val, NIr_Col, NIr_ints, NIr_PNode]; try simp)) (.v (.cons (.pO _ _ rfl) (.cons (.eq (.v _) (v_bool (by clear hret hK1 hK2 hK3 hK4 hK7 K0 K1 K2 K3 K4 K7; (try simp only [strEq_dec]); grind))) (.v (.v (.v (.v (.v (.v (.v (.v (.v (.v (.v (.v (.v (.a4 (.a4 (.v (.v (.v (.v (.v (.v (.v (.v (.v (.v (.v (.v (.v (.v (.v (.v .nil)))))))))))))))))))))))))))))))))))), (.cons rfl (.tree (by simp only [NIs_cons, NIs_nil, NIr_cons, NIr_nil, NI_v, NI_any, NI_pO, NI_sO, NI_pF, NI_sF, NI_agg, NI_tup, NI_fn, NIh_nil, NIh_live, NIh_dead, NIh_free, NIr_map, NIr_append, NIs_icells, NIs_scells, NIs_bcells, NIs_Val, NIs_Col, NIs_Schema, NIs_PNode, NIs_Src, NIr_Val, NIr_Col, NIr_ints, NIr_PNode]; try simp)) .nil)⟩
      refine PON.runs 5 (by kernel_rfl) ?_
      refine PON.norm ⟨(iv t :: .agg (Val.cells v) :: U :: po 0 :: bv false :: iv t :: bv (decide (t = 2)) :: bv (decide (t = 2)) :: U :: U :: U :: U :: U :: U :: U :: U :: bv (decide (t = 4)) :: bv (decide (t = 4)) :: .pO 0 0 1 :: iv v.n :: bv (decide (v.n ≥ (-719162))) :: bv false :: U :: U :: U :: bv false :: U9 ([U, U, U, U, U, U, U])), [.live ⟨3, [(Val.cells v)], 23⟩]⟩ (by kernel_rfl) ?_
      refine PON.fin rfl (thenA_normal ?_)
      exact ⟨rfl, rfl, (.v (.cons (.tree (by simp only [NIs_cons, NIs_nil, NIr_cons, NIr_nil, NI_v, NI_any, NI_pO, NI_sO, NI_pF, NI_sF, NI_agg, NI_tup, NI_fn, NIh_nil, NIh_live, NIh_dead, NIh_free, NIr_map, NIr_append, NIs_icells, NIs_scells, NIs_bcells, NIs_Val, NIs_Col, NIs_Schema, NIs_PNode, NIs_Src, NIr_Val, NIr_Col, NIr_ints, NIr_PNode]; try simp)) (.v (.cons (.pO _ _ rfl) (.cons (.eq (.v _) (v_bool (by clear hret hK1 hK2 hK3 hK4 hK7 K0 K1 K2 K3 K4 K7; (try simp only [strEq_dec]); grind))) (.v (.v (.v (.v (.v (.v (.v (.v (.v (.v (.v (.v (.v (.a4 (.a4 (.v (.v (.v (.v (.v (.v (.v (.v (.v (.v (.v (.v (.v (.v (.v (.v .nil)))))))))))))))))))))))))))))))))))), (.cons rfl (.tree (by simp only [NIs_cons, NIs_nil, NIr_cons, NIr_nil, NI_v, NI_any, NI_pO, NI_sO, NI_pF, NI_sF, NI_agg, NI_tup, NI_fn, NIh_nil, NIh_live, NIh_dead, NIh_free, NIr_map, NIr_append, NIs_icells, NIs_scells, NIs_bcells, NIs_Val, NIs_Col, NIs_Schema, NIs_PNode, NIs_Src, NIr_Val, NIr_Col, NIr_ints, NIr_PNode]; try simp)) .nil)⟩
    refine PV.ret (inBlockA_ret (thenA_ret (hret .ret _ (bv (decide ((v.n ≥ (-719162)) ∧ (v.n ≤ 2932896)))) (.inr rfl) (by kernel_rfl) ?_)))
    clear hret hK1 hK2 hK3 hK4 hK7 K0 K1 K2 K3 K4 K7
    show Tof noTau [.live ⟨3, [(Val.cells v)], 23⟩] (bv (decide ((v.n ≥ (-719162)) ∧ (v.n ≤ 2932896)))) (bv (vPermitted t v))
    -- leaf 2
    refine Tof.bool ?_
    grind [vKnown, vPermitted]
  refine PV.seq_k fun K10 hK10 => ?_
  refine PV.regionN ?_
  refine PON.runs 2 (by kernel_rfl) ?_
  refine PON.fin rfl (thenA_normal (hK10 _ ?_))
  refine PV.condP (t = 5) (decide (t = 5)) (by kernel_rfl) decide_eq_true decide_eq_false (fun h11 => ?_) (fun h11 => ?_)
  · skip
    refine PV.norm ⟨(iv t :: .agg (Val.cells v) :: U :: po 0 :: bv false :: iv t :: bv (decide (t = 2)) :: bv (decide (t = 2)) :: U :: U :: U :: U :: U :: U :: U :: U :: bv (decide (t = 4)) :: bv (decide (t = 4)) :: U :: U :: U :: U :: U :: U :: U :: U :: bv (decide (t = 5)) :: bv (decide (t = 5)) :: U9 ([U, U, U, U, U])), [.live ⟨3, [(Val.cells v)], 23⟩]⟩ (by kernel_rfl) ?_
    refine PV.seqR [0] ⟨(iv t :: .agg (Val.cells v) :: U :: po 0 :: bv (decide ((v.n ≥ (-999999999999999999)) ∧ (v.n ≤ 999999999999999999))) :: iv t :: bv (decide (t = 2)) :: bv (decide (t = 2)) :: U :: U :: U :: U :: U :: U :: U :: U :: bv (decide (t = 4)) :: bv (decide (t = 4)) :: U :: U :: U :: U :: U :: U :: U :: U :: bv (decide (t = 5)) :: bv (decide (t = 5)) :: A4 (A4 ([U, U, U, U, U, U]))), [.live ⟨3, [(Val.cells v)], 23⟩]⟩ ?_ ?_
    · skip
      refine PV.regionN ?_
      refine PON.runs 4 (by kernel_rfl) ?_
      refine PON.norm ⟨(iv t :: .agg (Val.cells v) :: U :: po 0 :: bv false :: iv t :: bv (decide (t = 2)) :: bv (decide (t = 2)) :: U :: U :: U :: U :: U :: U :: U :: U :: bv (decide (t = 4)) :: bv (decide (t = 4)) :: U :: U :: U :: U :: U :: U :: U :: U :: bv (decide (t = 5)) :: bv (decide (t = 5)) :: .pO 0 0 1 :: iv v.n :: bv (decide (v.n ≥ (-999999999999999999))) :: bv (decide (v.n ≥ (-999999999999999999))) :: U9 ([U])), [.live ⟨3, [(Val.cells v)], 23⟩]⟩ (by kernel_rfl) ?_
      refine PON.splitP (v.n ≥ (-999999999999999999)) 31 (decide (v.n ≥ (-999999999999999999))) (iv t :: .agg (Val.cells v) :: U :: po 0 :: bv false :: iv t :: bv (decide (t = 2)) :: bv (decide (t = 2)) :: U :: U :: U :: U :: U :: U :: U :: U :: bv (decide (t = 4)) :: bv (decide (t = 4)) :: U :: U :: U :: U :: U :: U :: U :: U :: bv (decide (t = 5)) :: bv (decide (t = 5)) :: .pO 0 0 1 :: iv v.n :: bv (decide (v.n ≥ (-999999999999999999))) :: bv true :: U9 ([U])) (iv t :: .agg (Val.cells v) :: U :: po 0 :: bv false :: iv t :: bv (decide (t = 2)) :: bv (decide (t = 2)) :: U :: U :: U :: U :: U :: U :: U :: U :: bv (decide (t = 4)) :: bv (decide (t = 4)) :: U :: U :: U :: U :: U :: U :: U :: U :: bv (decide (t = 5)) :: bv (decide (t = 5)) :: .pO 0 0 1 :: iv v.n :: bv (decide (v.n ≥ (-999999999999999999))) :: bv false :: U9 ([U])) (by kernel_rfl) decide_eq_true decide_eq_false (by kernel_rfl) (by kernel_rfl) (fun h12 => ?_) (fun h12 => ?_)
      · skip
        refine PON.runs 5 (by kernel_rfl) ?_
        refine PON.norm ⟨[iv t, .agg (Val.cells v), U, po 0, bv (decide (v.n ≤ 999999999999999999)), iv t, bv (decide (t = 2)), bv (decide (t = 2)), U, U, U, U, U, U, U, U, bv (decide (t = 4)), bv (decide (t = 4)), U, U, U, U, U, U, U, U, bv (decide (t = 5)), bv (decide (t = 5)), .pO 0 0 1, iv v.n, bv (decide (v.n ≥ (-999999999999999999))), bv true, .pO 0 0 1, iv v.n, bv (decide (v.n ≤ 999999999999999999)), bv (decide (v.n ≤ 999999999999999999)), U, U, U, U, U, U], [.live ⟨3, [(Val.cells v)], 23⟩]⟩ (by kernel_rfl) ?_
        refine PON.fin rfl (thenA_normal ?_)
        exact ⟨rfl, rfl, (.v (.cons (.tree (by simp only [NIs_cons, NIs_nil, NIr_cons, NIr_nil, NI_v, NI_any, NI_pO, NI_sO, NI_pF, NI_sF, NI_agg, NI_tup, NI_fn, NIh_nil, NIh_live, NIh_dead, NIh_free, NIr_map, NIr_append, NIs_icells, NIs_scells, NIs_bcells, NIs_Val, NIs_Col, NIs_Schema, NIs_PNode, NIs_Src, NIr_Val, NIr_Col, NIr_ints, NIr_PNode]; try simp)) (.v (.cons (.pO _ _ rfl) (.cons (.eq (.v _) (v_bool (by clear hret hK1 hK2 hK3 hK4 hK7 hK10 K0 K1 K2 K3 K4 K7 K10; (try simp only [strEq_dec]); grind))) (.v (.v (.v (.v (.v (.v (.v (.v (.v (.v (.v (.v (.v (.v (.v (.v (.v (.v (.v (.v (.v (.v (.v (.a4 (.a4 (.v (.v (.v (.v (.v (.v .nil)))))))))))))))))))))))))))))))))))), (.cons rfl (.tree (by simp only [NIs_cons, NIs_nil, NIr_cons, NIr_nil, NI_v, NI_any, NI_pO, NI_sO, NI_pF, NI_sF, NI_agg, NI_tup, NI_fn, NIh_nil, NIh_live, NIh_dead, NIh_free, NIr_map, NIr_append, NIs_icells, NIs_scells, NIs_bcells, NIs_Val, NIs_Col, NIs_Schema, NIs_PNode, NIs_Src, NIr_Val, NIr_Col, NIr_ints, NIr_PNode]; try simp)) .nil)⟩
      refine PON.runs 5 (by kernel_rfl) ?_
      refine PON.norm ⟨[iv t, .agg (Val.cells v), U, po 0, bv false, iv t, bv (decide (t = 2)), bv (decide (t = 2)), U, U, U, U, U, U, U, U, bv (decide (t = 4)), bv (decide (t = 4)), U, U, U, U, U, U, U, U, bv (decide (t = 5)), bv (decide (t = 5)), .pO 0 0 1, iv v.n, bv (decide (v.n ≥ (-999999999999999999))), bv false, U, U, U, bv false, U, U, U, U, U, U], [.live ⟨3, [(Val.cells v)], 23⟩]⟩ (by kernel_rfl) ?_
      refine PON.fin rfl (thenA_normal ?_)
      exact ⟨rfl, rfl, (.v (.cons (.tree (by simp only [NIs_cons, NIs_nil, NIr_cons, NIr_nil, NI_v, NI_any, NI_pO, NI_sO, NI_pF, NI_sF, NI_agg, NI_tup, NI_fn, NIh_nil, NIh_live, NIh_dead, NIh_free, NIr_map, NIr_append, NIs_icells, NIs_scells, NIs_bcells, NIs_Val, NIs_Col, NIs_Schema, NIs_PNode, NIs_Src, NIr_Val, NIr_Col, NIr_ints, NIr_PNode]; try simp)) (.v (.cons (.pO _ _ rfl) (.cons (.eq (.v _) (v_bool (by clear hret hK1 hK2 hK3 hK4 hK7 hK10 K0 K1 K2 K3 K4 K7 K10; (try simp only [strEq_dec]); grind))) (.v (.v (.v (.v (.v (.v (.v (.v (.v (.v (.v (.v (.v (.v (.v (.v (.v (.v (.v (.v (.v (.v (.v (.a4 (.a4 (.v (.v (.v (.v (.v (.v .nil)))))))))))))))))))))))))))))))))))), (.cons rfl (.tree (by simp only [NIs_cons, NIs_nil, NIr_cons, NIr_nil, NI_v, NI_any, NI_pO, NI_sO, NI_pF, NI_sF, NI_agg, NI_tup, NI_fn, NIh_nil, NIh_live, NIh_dead, NIh_free, NIr_map, NIr_append, NIs_icells, NIs_scells, NIs_bcells, NIs_Val, NIs_Col, NIs_Schema, NIs_PNode, NIs_Src, NIr_Val, NIr_Col, NIr_ints, NIr_PNode]; try simp)) .nil)⟩
    refine PV.ret (inBlockA_ret (thenA_ret (hret .ret _ (bv (decide ((v.n ≥ (-999999999999999999)) ∧ (v.n ≤ 999999999999999999)))) (.inr rfl) (by kernel_rfl) ?_)))
    clear hret hK1 hK2 hK3 hK4 hK7 hK10 K0 K1 K2 K3 K4 K7 K10
    show Tof noTau [.live ⟨3, [(Val.cells v)], 23⟩] (bv (decide ((v.n ≥ (-999999999999999999)) ∧ (v.n ≤ 999999999999999999)))) (bv (vPermitted t v))
    -- leaf 3
    refine Tof.bool ?_
    grind [vKnown, vPermitted]
  refine PV.seq_k fun K13 hK13 => ?_
  refine PV.regionN ?_
  refine PON.runs 2 (by kernel_rfl) ?_
  refine PON.fin rfl (thenA_normal (hK13 _ ?_))
  refine PV.condP (t = 3) (decide (t = 3)) (by kernel_rfl) decide_eq_true decide_eq_false (fun h14 => ?_) (fun h14 => ?_)
  · skip
    refine PV.seq_k fun K15 hK15 => ?_
    refine PV.regionN ?_
    refine PON.runs 5 (by kernel_rfl) ?_
    refine PON.fin rfl (thenA_normal (hK15 _ ?_))
    refine PV.norm ⟨[iv t, .agg (Val.cells v), U, po 0, bv (decide ((v.s.size : Int) ≤ 64)), iv t, bv (decide (t = 2)), bv (decide (t = 2)), U, U, U, U, U, U, U, U, bv (decide (t = 4)), bv (decide (t = 4)), U, U, U, U, U, U, U, U, bv (decide (t = 5)), bv (decide (t = 5)), U, U, U, U, U, U, U, U, bv (decide (t = 3)), bv (decide (t = 3)), .pO 0 0 2, sv v.s, iv (v.s.size : Int), bv (decide ((v.s.size : Int) ≤ 64))], [.live ⟨3, [(Val.cells v)], 23⟩]⟩ (by kernel_rfl) ?_
    refine PV.ret (inBlockA_ret (thenA_ret (hret .ret _ (bv (decide ((v.s.size : Int) ≤ 64))) (.inr rfl) (by kernel_rfl) ?_)))
    clear hret hK1 hK2 hK3 hK4 hK7 hK10 hK13 hK15 K0 K1 K2 K3 K4 K7 K10 K13 K15
    show Tof noTau [.live ⟨3, [(Val.cells v)], 23⟩] (bv (decide ((v.s.size : Int) ≤ 64))) (bv (vPermitted t v))
    -- leaf 4
    refine Tof.bool ?_
    grind [vKnown, vPermitted]
  refine PV.skip (inBlockA_normal (thenA_normal (hK2 _ ?_)))
  refine PV.seq_k fun K16 hK16 => ?_
  refine PV.regionN ?_
  refine PON.runs 1 (by kernel_rfl) ?_
  refine PON.fin rfl (thenA_normal (hK16 _ ?_))
  refine PV.norm ⟨[iv t, .agg (Val.cells v), U, po 0, bv true, iv t, bv (decide (t = 2)), bv (decide (t = 2)), U, U, U, U, U, U, U, U, bv (decide (t = 4)), bv (decide (t = 4)), U, U, U, U, U, U, U, U, bv (decide (t = 5)), bv (decide (t = 5)), U, U, U, U, U, U, U, U, bv (decide (t = 3)), bv (decide (t = 3)), U, U, U, U], [.live ⟨3, [(Val.cells v)], 23⟩]⟩ (by kernel_rfl) ?_
  refine PV.ret (hret .ret _ (bv true) (.inr rfl) (by kernel_rfl) ?_)
  clear hret hK1 hK2 hK3 hK4 hK7 hK10 hK13 hK16 K0 K1 K2 K3 K4 K7 K10 K13 K16
  show Tof noTau [.live ⟨3, [(Val.cells v)], 23⟩] (bv true) (bv (vPermitted t v))
  -- leaf 5
  refine Tof.bool ?_
  grind [vKnown, vPermitted]
theorem permitted_ok (t : Int) (v : Val) : PCX Try.prog 43 [iv t, .agg (Val.cells v)] [] [] (bv (vPermitted t v)) :=
  PCX.frame (by simp only [NIs_cons, NIs_nil, NIr_cons, NIr_nil, NI_v, NI_any, NI_pO, NI_sO, NI_pF, NI_sF, NI_agg, NI_tup, NI_fn, NIh_nil, NIh_live, NIh_dead, NIh_free, NIr_map, NIr_append, NIs_icells, NIs_scells, NIs_bcells, NIs_Val, NIs_Col, NIs_Schema, NIs_PNode, NIs_Src, NIr_Val, NIr_Col, NIr_ints, NIr_PNode]; try simp) (permitted_ok_walk t v)

set_option maxHeartbeats 4000000 in
theorem vCheck_ok_walk (c : Col) (v : Val) : PC Try.prog 26 [.agg (Col.cells c), .agg (Val.cells v)] [] (fun yR kR => Tof noTau kR yR (iv (vCheck c v))) := by
  refine PC.of_bodyV Try.func26 rfl (.agg (Col.cells c) :: .agg (Val.cells v) :: U9 (U9 (U9 (U9 (U9 ([U, U, U, U, U, U, U, U])))))) (by kernel_rfl) (fun K0 hret => ?_)
  refine PV.seq_k fun K1 hK1 => ?_
  refine PV.regionN ?_
  refine PON.runs 3 (by kernel_rfl) ?_
  refine PON.fin rfl (thenA_normal (hK1 _ ?_))
  refine PV.seq_k fun K2 hK2 => ?_
  refine PV.block ?_
  refine PV.seq_k fun K3 hK3 => ?_
  refine PV.regionN ?_
  refine PON.runs 2 (by kernel_rfl) ?_
  refine PON.call 42 [iv c.type] (some 8) (pre := []) (post := []) (x := bv (vKnown c.type)) _ (by kernel_rfl) (known_ok c.type) trivial rfl ?_
  refine PON.runs 2 (by kernel_rfl) ?_
  refine PON.fin rfl (thenA_normal (hK3 _ ?_))
  refine PV.condN ((vKnown c.type) = true) (!(vKnown c.type)) (by kernel_rfl) (fun h => bnot_t ((fun h => h) h)) (fun h => bnot_f (bool_ff h)) (fun h4 => ?_) (fun h4 => ?_)
  · skip
    refine PV.seq_k fun K5 hK5 => ?_
    refine PV.regionN ?_
    refine PON.runs 1 (by kernel_rfl) ?_
    refine PON.fin rfl (thenA_normal (hK5 _ ?_))
    refine PV.norm ⟨(.agg (Col.cells c) :: .agg (Val.cells v) :: po 0 :: po 1 :: iv 1 :: bv (!(vKnown c.type)) :: .pO 0 0 1 :: iv c.type :: bv (vKnown c.type) :: bv (!(vKnown c.type)) :: U9 (U9 (U9 (U9 (U9 ([])))))), [.live ⟨4, [(Col.cells c)], 47⟩, .live ⟨3, [(Val.cells v)], 23⟩]⟩ (by kernel_rfl) ?_
    refine PV.ret (inBlockA_ret (thenA_ret (hret .ret _ (iv 1) (.inr rfl) (by kernel_rfl) ?_)))
    clear hret hK1 hK2 hK3 hK5 K0 K1 K2 K3 K5
    show Tof noTau [.live ⟨4, [(Col.cells c)], 47⟩, .live ⟨3, [(Val.cells v)], 23⟩] (iv 1) (iv (vCheck c v))
    -- leaf 1
    refine Tof.int ?_
    grind [vCheck, vKnown, vPermitted, vCompare, intCmp]
  refine PV.norm ⟨(.agg (Col.cells c) :: .agg (Val.cells v) :: po 0 :: po 1 :: iv 0 :: bv (!(vKnown c.type)) :: .pO 0 0 1 :: iv c.type :: bv (vKnown c.type) :: bv (!(vKnown c.type)) :: U9 (U9 (U9 (U9 (U9 ([])))))), [.live ⟨4, [(Col.cells c)], 47⟩, .live ⟨3, [(Val.cells v)], 23⟩]⟩ (by kernel_rfl) ?_
  refine PV.seqR [0, 1] ⟨(.agg (Col.cells c) :: .agg (Val.cells v) :: po 0 :: po 1 :: iv 0 :: bv (!(vKnown c.type)) :: .pO 0 0 1 :: iv c.type :: bv (vKnown c.type) :: bv (!(vKnown c.type)) :: bv (decide (((v.null = true) ∧ (¬(v.s = ByteArray.empty))) ∨ (¬(v.null = true) ∧ (¬(c.type = 3) ∧ (¬(v.s = ByteArray.empty)))))) :: A9 (A :: A :: A :: U9 (U9 (U9 ([U, U, U, U, U]))))), [.live ⟨4, [(Col.cells c)], 47⟩, .live ⟨3, [(Val.cells v)], 23⟩]⟩ ?_ ?_
  · skip
    refine PV.regionN ?_
    refine PON.runs 3 (by kernel_rfl) ?_
    refine PON.norm ⟨(.agg (Col.cells c) :: .agg (Val.cells v) :: po 0 :: po 1 :: iv 0 :: bv (!(vKnown c.type)) :: .pO 0 0 1 :: iv c.type :: bv (vKnown c.type) :: bv (!(vKnown c.type)) :: U :: po 1 :: bv v.null :: bv v.null :: U9 (U9 (U9 (U9 ([U, U, U, U, U]))))), [.live ⟨4, [(Col.cells c)], 47⟩, .live ⟨3, [(Val.cells v)], 23⟩]⟩ (by kernel_rfl) ?_
    refine PON.splitP (v.null = true) 13 v.null (.agg (Col.cells c) :: .agg (Val.cells v) :: po 0 :: po 1 :: iv 0 :: bv (!(vKnown c.type)) :: .pO 0 0 1 :: iv c.type :: bv (vKnown c.type) :: bv (!(vKnown c.type)) :: U :: po 1 :: bv v.null :: bv true :: U9 (U9 (U9 (U9 ([U, U, U, U, U]))))) (.agg (Col.cells c) :: .agg (Val.cells v) :: po 0 :: po 1 :: iv 0 :: bv (!(vKnown c.type)) :: .pO 0 0 1 :: iv c.type :: bv (vKnown c.type) :: bv (!(vKnown c.type)) :: U :: po 1 :: bv v.null :: bv false :: U9 (U9 (U9 (U9 ([U, U, U, U, U]))))) (by kernel_rfl) (fun h => h) bool_ff (by kernel_rfl) (by kernel_rfl) (fun h6 => ?_) (fun h6 => ?_)
    · skip
      refine PON.runs 10 (by kernel_rfl) ?_
      refine PON.norm ⟨(.agg (Col.cells c) :: .agg (Val.cells v) :: po 0 :: po 1 :: iv 0 :: bv (!(vKnown c.type)) :: .pO 0 0 1 :: iv c.type :: bv (vKnown c.type) :: bv (!(vKnown c.type)) :: bv (!(strEq v.s ByteArray.empty)) :: po 1 :: bv v.null :: bv true :: U :: U :: U :: bv true :: bv true :: .pO 1 0 2 :: sv v.s :: bv (!(strEq v.s ByteArray.empty)) :: bv (!(strEq v.s ByteArray.empty)) :: U9 (U9 (U9 ([U, U, U, U, U])))), [.live ⟨4, [(Col.cells c)], 47⟩, .live ⟨3, [(Val.cells v)], 23⟩]⟩ (by kernel_rfl) ?_
      refine PON.fin rfl (thenA_normal ?_)
      exact ⟨rfl, rfl, (.cons (.tree (by simp only [NIs_cons, NIs_nil, NIr_cons, NIr_nil, NI_v, NI_any, NI_pO, NI_sO, NI_pF, NI_sF, NI_agg, NI_tup, NI_fn, NIh_nil, NIh_live, NIh_dead, NIh_free, NIr_map, NIr_append, NIs_icells, NIs_scells, NIs_bcells, NIs_Val, NIs_Col, NIs_Schema, NIs_PNode, NIs_Src, NIr_Val, NIr_Col, NIr_ints, NIr_PNode]; try simp)) (.cons (.tree (by simp only [NIs_cons, NIs_nil, NIr_cons, NIr_nil, NI_v, NI_any, NI_pO, NI_sO, NI_pF, NI_sF, NI_agg, NI_tup, NI_fn, NIh_nil, NIh_live, NIh_dead, NIh_free, NIr_map, NIr_append, NIs_icells, NIs_scells, NIs_bcells, NIs_Val, NIs_Col, NIs_Schema, NIs_PNode, NIs_Src, NIr_Val, NIr_Col, NIr_ints, NIr_PNode]; try simp)) (.cons (.pO _ _ rfl) (.cons (.pO _ _ rfl) (.v (.v (.cons (.pO _ _ rfl) (.v (.v (.v (.cons (.eq (.v _) (v_bool (by clear hret hK1 hK2 hK3 K0 K1 K2 K3; (try simp only [strEq_dec]); grind))) (.a9 (.any (.any (.any (.v (.v (.v (.v (.v (.v (.v (.v (.v (.v (.v (.v (.v (.v (.v (.v (.v (.v (.v (.v (.v (.v (.v (.v (.v (.v (.v (.v (.v (.v (.v (.v .nil))))))))))))))))))))))))))))))))))))))))))))))), (.cons rfl (.tree (by simp only [NIs_cons, NIs_nil, NIr_cons, NIr_nil, NI_v, NI_any, NI_pO, NI_sO, NI_pF, NI_sF, NI_agg, NI_tup, NI_fn, NIh_nil, NIh_live, NIh_dead, NIh_free, NIr_map, NIr_append, NIs_icells, NIs_scells, NIs_bcells, NIs_Val, NIs_Col, NIs_Schema, NIs_PNode, NIs_Src, NIr_Val, NIr_Col, NIr_ints, NIr_PNode]; try simp)) (.cons rfl (.tree (by simp only [NIs_cons, NIs_nil, NIr_cons, NIr_nil, NI_v, NI_any, NI_pO, NI_sO, NI_pF, NI_sF, NI_agg, NI_tup, NI_fn, NIh_nil, NIh_live, NIh_dead, NIh_free, NIr_map, NIr_append, NIs_icells, NIs_scells, NIs_bcells, NIs_Val, NIs_Col, NIs_Schema, NIs_PNode, NIs_Src, NIr_Val, NIr_Col, NIr_ints, NIr_PNode]; try simp)) .nil))⟩
    refine PON.runs 5 (by kernel_rfl) ?_
    refine PON.norm ⟨(.agg (Col.cells c) :: .agg (Val.cells v) :: po 0 :: po 1 :: iv 0 :: bv (!(vKnown c.type)) :: .pO 0 0 1 :: iv c.type :: bv (vKnown c.type) :: bv (!(vKnown c.type)) :: U :: po 1 :: bv v.null :: bv false :: .pO 0 0 1 :: iv c.type :: bv (!(decide (c.type = 3))) :: bv (!(decide (c.type = 3))) :: bv (!(decide (c.type = 3))) :: U9 (U9 (U9 (U9 ([]))))), [.live ⟨4, [(Col.cells c)], 47⟩, .live ⟨3, [(Val.cells v)], 23⟩]⟩ (by kernel_rfl) ?_
    refine PON.splitN (c.type = 3) 18 (!(decide (c.type = 3))) (.agg (Col.cells c) :: .agg (Val.cells v) :: po 0 :: po 1 :: iv 0 :: bv (!(vKnown c.type)) :: .pO 0 0 1 :: iv c.type :: bv (vKnown c.type) :: bv (!(vKnown c.type)) :: U :: po 1 :: bv v.null :: bv false :: .pO 0 0 1 :: iv c.type :: bv (!(decide (c.type = 3))) :: bv (!(decide (c.type = 3))) :: bv false :: U9 (U9 (U9 (U9 ([]))))) (.agg (Col.cells c) :: .agg (Val.cells v) :: po 0 :: po 1 :: iv 0 :: bv (!(vKnown c.type)) :: .pO 0 0 1 :: iv c.type :: bv (vKnown c.type) :: bv (!(vKnown c.type)) :: U :: po 1 :: bv v.null :: bv false :: .pO 0 0 1 :: iv c.type :: bv (!(decide (c.type = 3))) :: bv (!(decide (c.type = 3))) :: bv true :: U9 (U9 (U9 (U9 ([]))))) (by kernel_rfl) (fun h => bnot_t (decide_eq_true h)) (fun h => bnot_f (decide_eq_false h)) (by kernel_rfl) (by kernel_rfl) (fun h7 => ?_) (fun h7 => ?_)
    · skip
      refine PON.runs 5 (by kernel_rfl) ?_
      refine PON.norm ⟨(.agg (Col.cells c) :: .agg (Val.cells v) :: po 0 :: po 1 :: iv 0 :: bv (!(vKnown c.type)) :: .pO 0 0 1 :: iv c.type :: bv (vKnown c.type) :: bv (!(vKnown c.type)) :: bv false :: po 1 :: bv v.null :: bv false :: .pO 0 0 1 :: iv c.type :: bv (!(decide (c.type = 3))) :: bv (!(decide (c.type = 3))) :: bv false :: U :: U :: U :: bv false :: U9 (U9 (U9 ([U, U, U, U, U])))), [.live ⟨4, [(Col.cells c)], 47⟩, .live ⟨3, [(Val.cells v)], 23⟩]⟩ (by kernel_rfl) ?_
      refine PON.fin rfl (thenA_normal ?_)
      exact ⟨rfl, rfl, (.cons (.tree (by simp only [NIs_cons, NIs_nil, NIr_cons, NIr_nil, NI_v, NI_any, NI_pO, NI_sO, NI_pF, NI_sF, NI_agg, NI_tup, NI_fn, NIh_nil, NIh_live, NIh_dead, NIh_free, NIr_map, NIr_append, NIs_icells, NIs_scells, NIs_bcells, NIs_Val, NIs_Col, NIs_Schema, NIs_PNode, NIs_Src, NIr_Val, NIr_Col, NIr_ints, NIr_PNode]; try simp)) (.cons (.tree (by simp only [NIs_cons, NIs_nil, NIr_cons, NIr_nil, NI_v, NI_any, NI_pO, NI_sO, NI_pF, NI_sF, NI_agg, NI_tup, NI_fn, NIh_nil, NIh_live, NIh_dead, NIh_free, NIr_map, NIr_append, NIs_icells, NIs_scells, NIs_bcells, NIs_Val, NIs_Col, NIs_Schema, NIs_PNode, NIs_Src, NIr_Val, NIr_Col, NIr_ints, NIr_PNode]; try simp)) (.cons (.pO _ _ rfl) (.cons (.pO _ _ rfl) (.v (.v (.cons (.pO _ _ rfl) (.v (.v (.v (.cons (.eq (.v _) (v_bool (by clear hret hK1 hK2 hK3 K0 K1 K2 K3; (try simp only [strEq_dec]); grind))) (.a9 (.any (.any (.any (.v (.v (.v (.v (.v (.v (.v (.v (.v (.v (.v (.v (.v (.v (.v (.v (.v (.v (.v (.v (.v (.v (.v (.v (.v (.v (.v (.v (.v (.v (.v (.v .nil))))))))))))))))))))))))))))))))))))))))))))))), (.cons rfl (.tree (by simp only [NIs_cons, NIs_nil, NIr_cons, NIr_nil, NI_v, NI_any, NI_pO, NI_sO, NI_pF, NI_sF, NI_agg, NI_tup, NI_fn, NIh_nil, NIh_live, NIh_dead, NIh_free, NIr_map, NIr_append, NIs_icells, NIs_scells, NIs_bcells, NIs_Val, NIs_Col, NIs_Schema, NIs_PNode, NIs_Src, NIr_Val, NIr_Col, NIr_ints, NIr_PNode]; try simp)) (.cons rfl (.tree (by simp only [NIs_cons, NIs_nil, NIr_cons, NIr_nil, NI_v, NI_any, NI_pO, NI_sO, NI_pF, NI_sF, NI_agg, NI_tup, NI_fn, NIh_nil, NIh_live, NIh_dead, NIh_free, NIr_map, NIr_append, NIs_icells, NIs_scells, NIs_bcells, NIs_Val, NIs_Col, NIs_Schema, NIs_PNode, NIs_Src, NIr_Val, NIr_Col, NIr_ints, NIr_PNode]; try simp)) .nil))⟩
    refine PON.runs 5 (by kernel_rfl) ?_
    refine PON.norm ⟨(.agg (Col.cells c) :: .agg (Val.cells v) :: po 0 :: po 1 :: iv 0 :: bv (!(vKnown c.type)) :: .pO 0 0 1 :: iv c.type :: bv (vKnown c.type) :: bv (!(vKnown c.type)) :: bv (!(strEq v.s ByteArray.empty)) :: po 1 :: bv v.null :: bv false :: .pO 0 0 1 :: iv c.type :: bv (!(decide (c.type = 3))) :: bv (!(decide (c.type = 3))) :: bv true :: .pO 1 0 2 :: sv v.s :: bv (!(strEq v.s ByteArray.empty)) :: bv (!(strEq v.s ByteArray.empty)) :: U9 (U9 (U9 ([U, U, U, U, U])))), [.live ⟨4, [(Col.cells c)], 47⟩, .live ⟨3, [(Val.cells v)], 23⟩]⟩ (by kernel_rfl) ?_
    refine PON.fin rfl (thenA_normal ?_)
    exact ⟨rfl, rfl, (.cons (.tree (by simp only [NIs_cons, NIs_nil, NIr_cons, NIr_nil, NI_v, NI_any, NI_pO, NI_sO, NI_pF, NI_sF, NI_agg, NI_tup, NI_fn, NIh_nil, NIh_live, NIh_dead, NIh_free, NIr_map, NIr_append, NIs_icells, NIs_scells, NIs_bcells, NIs_Val, NIs_Col, NIs_Schema, NIs_PNode, NIs_Src, NIr_Val, NIr_Col, NIr_ints, NIr_PNode]; try simp)) (.cons (.tree (by simp only [NIs_cons, NIs_nil, NIr_cons, NIr_nil, NI_v, NI_any, NI_pO, NI_sO, NI_pF, NI_sF, NI_agg, NI_tup, NI_fn, NIh_nil, NIh_live, NIh_dead, NIh_free, NIr_map, NIr_append, NIs_icells, NIs_scells, NIs_bcells, NIs_Val, NIs_Col, NIs_Schema, NIs_PNode, NIs_Src, NIr_Val, NIr_Col, NIr_ints, NIr_PNode]; try simp)) (.cons (.pO _ _ rfl) (.cons (.pO _ _ rfl) (.v (.v (.cons (.pO _ _ rfl) (.v (.v (.v (.cons (.eq (.v _) (v_bool (by clear hret hK1 hK2 hK3 K0 K1 K2 K3; (try simp only [strEq_dec]); grind))) (.a9 (.any (.any (.any (.v (.v (.v (.v (.v (.v (.v (.v (.v (.v (.v (.v (.v (.v (.v (.v (.v (.v (.v (.v (.v (.v (.v (.v (.v (.v (.v (.v (.v (.v (.v (.v .nil))))))))))))))))))))))))))))))))))))))))))))))), (.cons rfl (.tree (by simp only [NIs_cons, NIs_nil, NIr_cons, NIr_nil, NI_v, NI_any, NI_pO, NI_sO, NI_pF, NI_sF, NI_agg, NI_tup, NI_fn, NIh_nil, NIh_live, NIh_dead, NIh_free, NIr_map, NIr_append, NIs_icells, NIs_scells, NIs_bcells, NIs_Val, NIs_Col, NIs_Schema, NIs_PNode, NIs_Src, NIr_Val, NIr_Col, NIr_ints, NIr_PNode]; try simp)) (.cons rfl (.tree (by simp only [NIs_cons, NIs_nil, NIr_cons, NIr_nil, NI_v, NI_any, NI_pO, NI_sO, NI_pF, NI_sF, NI_agg, NI_tup, NI_fn, NIh_nil, NIh_live, NIh_dead, NIh_free, NIr_map, NIr_append, NIs_icells, NIs_scells, NIs_bcells, NIs_Val, NIs_Col, NIs_Schema, NIs_PNode, NIs_Src, NIr_Val, NIr_Col, NIr_ints, NIr_PNode]; try simp)) .nil))⟩
  refine PV.condP (((v.null = true) ∧ (¬(v.s = ByteArray.empty))) ∨ (¬(v.null = true) ∧ (¬(c.type = 3) ∧ (¬(v.s = ByteArray.empty))))) (decide (((v.null = true) ∧ (¬(v.s = ByteArray.empty))) ∨ (¬(v.null = true) ∧ (¬(c.type = 3) ∧ (¬(v.s = ByteArray.empty)))))) (by kernel_rfl) decide_eq_true decide_eq_false (fun h8 => ?_) (fun h8 => ?_)
  · skip
    refine PV.seq_k fun K9 hK9 => ?_
    refine PV.regionN ?_
    refine PON.runs 1 (by kernel_rfl) ?_
    refine PON.fin rfl (thenA_normal (hK9 _ ?_))
    refine PV.norm ⟨(.agg (Col.cells c) :: .agg (Val.cells v) :: po 0 :: po 1 :: iv 11 :: bv (!(vKnown c.type)) :: .pO 0 0 1 :: iv c.type :: bv (vKnown c.type) :: bv (!(vKnown c.type)) :: bv (decide (((v.null = true) ∧ (¬(v.s = ByteArray.empty))) ∨ (¬(v.null = true) ∧ (¬(c.type = 3) ∧ (¬(v.s = ByteArray.empty)))))) :: A9 (A :: A :: A :: U9 (U9 (U9 ([U, U, U, U, U]))))), [.live ⟨4, [(Col.cells c)], 47⟩, .live ⟨3, [(Val.cells v)], 23⟩]⟩ (by kernel_rfl) ?_
    refine PV.ret (inBlockA_ret (thenA_ret (hret .ret _ (iv 11) (.inr rfl) (by kernel_rfl) ?_)))
    clear hret hK1 hK2 hK3 hK9 K0 K1 K2 K3 K9
    show Tof noTau [.live ⟨4, [(Col.cells c)], 47⟩, .live ⟨3, [(Val.cells v)], 23⟩] (iv 11) (iv (vCheck c v))
    -- leaf 2
    refine Tof.int ?_
    grind [vCheck, vKnown, vPermitted, vCompare, intCmp]
  refine PV.seqR [0, 1] ⟨(.agg (Col.cells c) :: .agg (Val.cells v) :: po 0 :: po 1 :: iv 0 :: bv (!(vKnown c.type)) :: .pO 0 0 1 :: iv c.type :: bv (vKnown c.type) :: bv (!(vKnown c.type)) :: bv (decide (((v.null = true) ∧ (¬(v.s = ByteArray.empty))) ∨ (¬(v.null = true) ∧ (¬(c.type = 3) ∧ (¬(v.s = ByteArray.empty)))))) :: A9 (A :: A :: A :: bv (decide (((v.null = true) ∧ (¬(v.n = 0))) ∨ (¬(v.null = true) ∧ ((c.type = 3) ∧ (¬(v.n = 0)))))) :: A9 (A :: A :: A :: U9 (U9 ([U]))))), [.live ⟨4, [(Col.cells c)], 47⟩, .live ⟨3, [(Val.cells v)], 23⟩]⟩ ?_ ?_
  · skip
    refine PV.regionN ?_
    refine PON.runs 3 (by kernel_rfl) ?_
    refine PON.norm ⟨(.agg (Col.cells c) :: .agg (Val.cells v) :: po 0 :: po 1 :: iv 0 :: bv (!(vKnown c.type)) :: .pO 0 0 1 :: iv c.type :: bv (vKnown c.type) :: bv (!(vKnown c.type)) :: bv (decide (((v.null = true) ∧ (¬(v.s = ByteArray.empty))) ∨ (¬(v.null = true) ∧ (¬(c.type = 3) ∧ (¬(v.s = ByteArray.empty)))))) :: A9 (A :: A :: A :: U :: po 1 :: bv v.null :: bv v.null :: U9 (U9 (U9 ([U]))))), [.live ⟨4, [(Col.cells c)], 47⟩, .live ⟨3, [(Val.cells v)], 23⟩]⟩ (by kernel_rfl) ?_
    refine PON.splitP (v.null = true) 26 v.null (.agg (Col.cells c) :: .agg (Val.cells v) :: po 0 :: po 1 :: iv 0 :: bv (!(vKnown c.type)) :: .pO 0 0 1 :: iv c.type :: bv (vKnown c.type) :: bv (!(vKnown c.type)) :: bv (decide (((v.null = true) ∧ (¬(v.s = ByteArray.empty))) ∨ (¬(v.null = true) ∧ (¬(c.type = 3) ∧ (¬(v.s = ByteArray.empty)))))) :: A9 (A :: A :: A :: U :: po 1 :: bv v.null :: bv true :: U9 (U9 (U9 ([U]))))) (.agg (Col.cells c) :: .agg (Val.cells v) :: po 0 :: po 1 :: iv 0 :: bv (!(vKnown c.type)) :: .pO 0 0 1 :: iv c.type :: bv (vKnown c.type) :: bv (!(vKnown c.type)) :: bv (decide (((v.null = true) ∧ (¬(v.s = ByteArray.empty))) ∨ (¬(v.null = true) ∧ (¬(c.type = 3) ∧ (¬(v.s = ByteArray.empty)))))) :: A9 (A :: A :: A :: U :: po 1 :: bv v.null :: bv false :: U9 (U9 (U9 ([U]))))) (by kernel_rfl) (fun h => h) bool_ff (by kernel_rfl) (by kernel_rfl) (fun h10 => ?_) (fun h10 => ?_)
    · skip
      refine PON.runs 10 (by kernel_rfl) ?_
      refine PON.norm ⟨(.agg (Col.cells c) :: .agg (Val.cells v) :: po 0 :: po 1 :: iv 0 :: bv (!(vKnown c.type)) :: .pO 0 0 1 :: iv c.type :: bv (vKnown c.type) :: bv (!(vKnown c.type)) :: bv (decide (((v.null = true) ∧ (¬(v.s = ByteArray.empty))) ∨ (¬(v.null = true) ∧ (¬(c.type = 3) ∧ (¬(v.s = ByteArray.empty)))))) :: A9 (A :: A :: A :: bv (!(decide (v.n = 0))) :: po 1 :: bv v.null :: bv true :: U :: U :: U :: bv true :: bv true :: .pO 1 0 1 :: iv v.n :: bv (!(decide (v.n = 0))) :: bv (!(decide (v.n = 0))) :: U9 (U9 ([U])))), [.live ⟨4, [(Col.cells c)], 47⟩, .live ⟨3, [(Val.cells v)], 23⟩]⟩ (by kernel_rfl) ?_
      refine PON.fin rfl (thenA_normal ?_)
      exact ⟨rfl, rfl, (.cons (.tree (by simp only [NIs_cons, NIs_nil, NIr_cons, NIr_nil, NI_v, NI_any, NI_pO, NI_sO, NI_pF, NI_sF, NI_agg, NI_tup, NI_fn, NIh_nil, NIh_live, NIh_dead, NIh_free, NIr_map, NIr_append, NIs_icells, NIs_scells, NIs_bcells, NIs_Val, NIs_Col, NIs_Schema, NIs_PNode, NIs_Src, NIr_Val, NIr_Col, NIr_ints, NIr_PNode]; try simp)) (.cons (.tree (by simp only [NIs_cons, NIs_nil, NIr_cons, NIr_nil, NI_v, NI_any, NI_pO, NI_sO, NI_pF, NI_sF, NI_agg, NI_tup, NI_fn, NIh_nil, NIh_live, NIh_dead, NIh_free, NIr_map, NIr_append, NIs_icells, NIs_scells, NIs_bcells, NIs_Val, NIs_Col, NIs_Schema, NIs_PNode, NIs_Src, NIr_Val, NIr_Col, NIr_ints, NIr_PNode]; try simp)) (.cons (.pO _ _ rfl) (.cons (.pO _ _ rfl) (.v (.v (.cons (.pO _ _ rfl) (.v (.v (.v (.v (.a9 (.any (.any (.any (.cons (.eq (.v _) (v_bool (by clear hret hK1 hK2 hK3 K0 K1 K2 K3; (try simp only [strEq_dec]); grind))) (.a9 (.any (.any (.any (.v (.v (.v (.v (.v (.v (.v (.v (.v (.v (.v (.v (.v (.v (.v (.v (.v (.v (.v .nil))))))))))))))))))))))))))))))))))))))), (.cons rfl (.tree (by simp only [NIs_cons, NIs_nil, NIr_cons, NIr_nil, NI_v, NI_any, NI_pO, NI_sO, NI_pF, NI_sF, NI_agg, NI_tup, NI_fn, NIh_nil, NIh_live, NIh_dead, NIh_free, NIr_map, NIr_append, NIs_icells, NIs_scells, NIs_bcells, NIs_Val, NIs_Col, NIs_Schema, NIs_PNode, NIs_Src, NIr_Val, NIr_Col, NIr_ints, NIr_PNode]; try simp)) (.cons rfl (.tree (by simp only [NIs_cons, NIs_nil, NIr_cons, NIr_nil, NI_v, NI_any, NI_pO, NI_sO, NI_pF, NI_sF, NI_agg, NI_tup, NI_fn, NIh_nil, NIh_live, NIh_dead, NIh_free, NIr_map, NIr_append, NIs_icells, NIs_scells, NIs_bcells, NIs_Val, NIs_Col, NIs_Schema, NIs_PNode, NIs_Src, NIr_Val, NIr_Col, NIr_ints, NIr_PNode]; try simp)) .nil))⟩
    refine PON.runs 5 (by kernel_rfl) ?_
    refine PON.norm ⟨(.agg (Col.cells c) :: .agg (Val.cells v) :: po 0 :: po 1 :: iv 0 :: bv (!(vKnown c.type)) :: .pO 0 0 1 :: iv c.type :: bv (vKnown c.type) :: bv (!(vKnown c.type)) :: bv (decide (((v.null = true) ∧ (¬(v.s = ByteArray.empty))) ∨ (¬(v.null = true) ∧ (¬(c.type = 3) ∧ (¬(v.s = ByteArray.empty)))))) :: A9 (A :: A :: A :: U :: po 1 :: bv v.null :: bv false :: .pO 0 0 1 :: iv c.type :: bv (decide (c.type = 3)) :: bv (decide (c.type = 3)) :: bv (decide (c.type = 3)) :: U9 (U9 ([U, U, U, U, U])))), [.live ⟨4, [(Col.cells c)], 47⟩, .live ⟨3, [(Val.cells v)], 23⟩]⟩ (by kernel_rfl) ?_
    refine PON.splitP (c.type = 3) 31 (decide (c.type = 3)) (.agg (Col.cells c) :: .agg (Val.cells v) :: po 0 :: po 1 :: iv 0 :: bv (!(vKnown c.type)) :: .pO 0 0 1 :: iv c.type :: bv (vKnown c.type) :: bv (!(vKnown c.type)) :: bv (decide (((v.null = true) ∧ (¬(v.s = ByteArray.empty))) ∨ (¬(v.null = true) ∧ (¬(c.type = 3) ∧ (¬(v.s = ByteArray.empty)))))) :: A9 (A :: A :: A :: U :: po 1 :: bv v.null :: bv false :: .pO 0 0 1 :: iv c.type :: bv (decide (c.type = 3)) :: bv (decide (c.type = 3)) :: bv true :: U9 (U9 ([U, U, U, U, U])))) (.agg (Col.cells c) :: .agg (Val.cells v) :: po 0 :: po 1 :: iv 0 :: bv (!(vKnown c.type)) :: .pO 0 0 1 :: iv c.type :: bv (vKnown c.type) :: bv (!(vKnown c.type)) :: bv (decide (((v.null = true) ∧ (¬(v.s = ByteArray.empty))) ∨ (¬(v.null = true) ∧ (¬(c.type = 3) ∧ (¬(v.s = ByteArray.empty)))))) :: A9 (A :: A :: A :: U :: po 1 :: bv v.null :: bv false :: .pO 0 0 1 :: iv c.type :: bv (decide (c.type = 3)) :: bv (decide (c.type = 3)) :: bv false :: U9 (U9 ([U, U, U, U, U])))) (by kernel_rfl) decide_eq_true decide_eq_false (by kernel_rfl) (by kernel_rfl) (fun h11 => ?_) (fun h11 => ?_)
    · skip
      refine PON.runs 5 (by kernel_rfl) ?_
      refine PON.norm ⟨(.agg (Col.cells c) :: .agg (Val.cells v) :: po 0 :: po 1 :: iv 0 :: bv (!(vKnown c.type)) :: .pO 0 0 1 :: iv c.type :: bv (vKnown c.type) :: bv (!(vKnown c.type)) :: bv (decide (((v.null = true) ∧ (¬(v.s = ByteArray.empty))) ∨ (¬(v.null = true) ∧ (¬(c.type = 3) ∧ (¬(v.s = ByteArray.empty)))))) :: A9 (A :: A :: A :: bv (!(decide (v.n = 0))) :: po 1 :: bv v.null :: bv false :: .pO 0 0 1 :: iv c.type :: bv (decide (c.type = 3)) :: bv (decide (c.type = 3)) :: bv true :: .pO 1 0 1 :: iv v.n :: bv (!(decide (v.n = 0))) :: bv (!(decide (v.n = 0))) :: U9 (U9 ([U])))), [.live ⟨4, [(Col.cells c)], 47⟩, .live ⟨3, [(Val.cells v)], 23⟩]⟩ (by kernel_rfl) ?_
      refine PON.fin rfl (thenA_normal ?_)
      exact ⟨rfl, rfl, (.cons (.tree (by simp only [NIs_cons, NIs_nil, NIr_cons, NIr_nil, NI_v, NI_any, NI_pO, NI_sO, NI_pF, NI_sF, NI_agg, NI_tup, NI_fn, NIh_nil, NIh_live, NIh_dead, NIh_free, NIr_map, NIr_append, NIs_icells, NIs_scells, NIs_bcells, NIs_Val, NIs_Col, NIs_Schema, NIs_PNode, NIs_Src, NIr_Val, NIr_Col, NIr_ints, NIr_PNode]; try simp)) (.cons (.tree (by simp only [NIs_cons, NIs_nil, NIr_cons, NIr_nil, NI_v, NI_any, NI_pO, NI_sO, NI_pF, NI_sF, NI_agg, NI_tup, NI_fn, NIh_nil, NIh_live, NIh_dead, NIh_free, NIr_map, NIr_append, NIs_icells, NIs_scells, NIs_bcells, NIs_Val, NIs_Col, NIs_Schema, NIs_PNode, NIs_Src, NIr_Val, NIr_Col, NIr_ints, NIr_PNode]; try simp)) (.cons (.pO _ _ rfl) (.cons (.pO _ _ rfl) (.v (.v (.cons (.pO _ _ rfl) (.v (.v (.v (.v (.a9 (.any (.any (.any (.cons (.eq (.v _) (v_bool (by clear hret hK1 hK2 hK3 K0 K1 K2 K3; (try simp only [strEq_dec]); grind))) (.a9 (.any (.any (.any (.v (.v (.v (.v (.v (.v (.v (.v (.v (.v (.v (.v (.v (.v (.v (.v (.v (.v (.v .nil))))))))))))))))))))))))))))))))))))))), (.cons rfl (.tree (by simp only [NIs_cons, NIs_nil, NIr_cons, NIr_nil, NI_v, NI_any, NI_pO, NI_sO, NI_pF, NI_sF, NI_agg, NI_tup, NI_fn, NIh_nil, NIh_live, NIh_dead, NIh_free, NIr_map, NIr_append, NIs_icells, NIs_scells, NIs_bcells, NIs_Val, NIs_Col, NIs_Schema, NIs_PNode, NIs_Src, NIr_Val, NIr_Col, NIr_ints, NIr_PNode]; try simp)) (.cons rfl (.tree (by simp only [NIs_cons, NIs_nil, NIr_cons, NIr_nil, NI_v, NI_any, NI_pO, NI_sO, NI_pF, NI_sF, NI_agg, NI_tup, NI_fn, NIh_nil, NIh_live, NIh_dead, NIh_free, NIr_map, NIr_append, NIs_icells, NIs_scells, NIs_bcells, NIs_Val, NIs_Col, NIs_Schema, NIs_PNode, NIs_Src, NIr_Val, NIr_Col, NIr_ints, NIr_PNode]; try simp)) .nil))⟩
    refine PON.runs 5 (by kernel_rfl) ?_
    refine PON.norm ⟨(.agg (Col.cells c) :: .agg (Val.cells v) :: po 0 :: po 1 :: iv 0 :: bv (!(vKnown c.type)) :: .pO 0 0 1 :: iv c.type :: bv (vKnown c.type) :: bv (!(vKnown c.type)) :: bv (decide (((v.null = true) ∧ (¬(v.s = ByteArray.empty))) ∨ (¬(v.null = true) ∧ (¬(c.type = 3) ∧ (¬(v.s = ByteArray.empty)))))) :: A9 (A :: A :: A :: bv false :: po 1 :: bv v.null :: bv false :: .pO 0 0 1 :: iv c.type :: bv (decide (c.type = 3)) :: bv (decide (c.type = 3)) :: bv false :: U :: U :: U :: bv false :: U9 (U9 ([U])))), [.live ⟨4, [(Col.cells c)], 47⟩, .live ⟨3, [(Val.cells v)], 23⟩]⟩ (by kernel_rfl) ?_
    refine PON.fin rfl (thenA_normal ?_)
    exact ⟨rfl, rfl, (.cons (.tree (by simp only [NIs_cons, NIs_nil, NIr_cons, NIr_nil, NI_v, NI_any, NI_pO, NI_sO, NI_pF, NI_sF, NI_agg, NI_tup, NI_fn, NIh_nil, NIh_live, NIh_dead, NIh_free, NIr_map, NIr_append, NIs_icells, NIs_scells, NIs_bcells, NIs_Val, NIs_Col, NIs_Schema, NIs_PNode, NIs_Src, NIr_Val, NIr_Col, NIr_ints, NIr_PNode]; try simp)) (.cons (.tree (by simp only [NIs_cons, NIs_nil, NIr_cons, NIr_nil, NI_v, NI_any, NI_pO, NI_sO, NI_pF, NI_sF, NI_agg, NI_tup, NI_fn, NIh_nil, NIh_live, NIh_dead, NIh_free, NIr_map, NIr_append, NIs_icells, NIs_scells, NIs_bcells, NIs_Val, NIs_Col, NIs_Schema, NIs_PNode, NIs_Src, NIr_Val, NIr_Col, NIr_ints, NIr_PNode]; try simp)) (.cons (.pO _ _ rfl) (.cons (.pO _ _ rfl) (.v (.v (.cons (.pO _ _ rfl) (.v (.v (.v (.v (.a9 (.any (.any (.any (.cons (.eq (.v _) (v_bool (by clear hret hK1 hK2 hK3 K0 K1 K2 K3; (try simp only [strEq_dec]); grind))) (.a9 (.any (.any (.any (.v (.v (.v (.v (.v (.v (.v (.v (.v (.v (.v (.v (.v (.v (.v (.v (.v (.v (.v .nil))))))))))))))))))))))))))))))))))))))), (.cons rfl (.tree (by simp only [NIs_cons, NIs_nil, NIr_cons, NIr_nil, NI_v, NI_any, NI_pO, NI_sO, NI_pF, NI_sF, NI_agg, NI_tup, NI_fn, NIh_nil, NIh_live, NIh_dead, NIh_free, NIr_map, NIr_append, NIs_icells, NIs_scells, NIs_bcells, NIs_Val, NIs_Col, NIs_Schema, NIs_PNode, NIs_Src, NIr_Val, NIr_Col, NIr_ints, NIr_PNode]; try simp)) (.cons rfl (.tree (by simp only [NIs_cons, NIs_nil, NIr_cons, NIr_nil, NI_v, NI_any, NI_pO, NI_sO, NI_pF, NI_sF, NI_agg, NI_tup, NI_fn, NIh_nil, NIh_live, NIh_dead, NIh_free, NIr_map, NIr_append, NIs_icells, NIs_scells, NIs_bcells, NIs_Val, NIs_Col, NIs_Schema, NIs_PNode, NIs_Src, NIr_Val, NIr_Col, NIr_ints, NIr_PNode]; try simp)) .nil))⟩
  refine PV.condP (((v.null = true) ∧ (¬(v.n = 0))) ∨ (¬(v.null = true) ∧ ((c.type = 3) ∧ (¬(v.n = 0))))) (decide (((v.null = true) ∧ (¬(v.n = 0))) ∨ (¬(v.null = true) ∧ ((c.type = 3) ∧ (¬(v.n = 0)))))) (by kernel_rfl) decide_eq_true decide_eq_false (fun h12 => ?_) (fun h12 => ?_)
  · skip
    refine PV.seq_k fun K13 hK13 => ?_
    refine PV.regionN ?_
    refine PON.runs 1 (by kernel_rfl) ?_
    refine PON.fin rfl (thenA_normal (hK13 _ ?_))
    refine PV.norm ⟨(.agg (Col.cells c) :: .agg (Val.cells v) :: po 0 :: po 1 :: iv 11 :: bv (!(vKnown c.type)) :: .pO 0 0 1 :: iv c.type :: bv (vKnown c.type) :: bv (!(vKnown c.type)) :: bv (decide (((v.null = true) ∧ (¬(v.s = ByteArray.empty))) ∨ (¬(v.null = true) ∧ (¬(c.type = 3) ∧ (¬(v.s = ByteArray.empty)))))) :: A9 (A :: A :: A :: bv (decide (((v.null = true) ∧ (¬(v.n = 0))) ∨ (¬(v.null = true) ∧ ((c.type = 3) ∧ (¬(v.n = 0)))))) :: A9 (A :: A :: A :: U9 (U9 ([U]))))), [.live ⟨4, [(Col.cells c)], 47⟩, .live ⟨3, [(Val.cells v)], 23⟩]⟩ (by kernel_rfl) ?_
    refine PV.ret (inBlockA_ret (thenA_ret (hret .ret _ (iv 11) (.inr rfl) (by kernel_rfl) ?_)))
    clear hret hK1 hK2 hK3 hK13 K0 K1 K2 K3 K13
    show Tof noTau [.live ⟨4, [(Col.cells c)], 47⟩, .live ⟨3, [(Val.cells v)], 23⟩] (iv 11) (iv (vCheck c v))
    -- leaf 3
    refine Tof.int ?_
    grind [vCheck, vKnown, vPermitted, vCompare, intCmp]
  refine PV.seqR [0, 1] ⟨(.agg (Col.cells c) :: .agg (Val.cells v) :: po 0 :: po 1 :: iv 0 :: bv (!(vKnown c.type)) :: .pO 0 0 1 :: iv c.type :: bv (vKnown c.type) :: bv (!(vKnown c.type)) :: bv (decide (((v.null = true) ∧ (¬(v.s = ByteArray.empty))) ∨ (¬(v.null = true) ∧ (¬(c.type = 3) ∧ (¬(v.s = ByteArray.empty)))))) :: A9 (A :: A :: A :: bv (decide (((v.null = true) ∧ (¬(v.n = 0))) ∨ (¬(v.null = true) ∧ ((c.type = 3) ∧ (¬(v.n = 0)))))) :: A9 (A :: A :: A :: bv (decide ((v.null = true) ∧ (¬(c.nullable = true)))) :: A4 (A :: A :: A :: U9 ([U, U]))))), [.live ⟨4, [(Col.cells c)], 47⟩, .live ⟨3, [(Val.cells v)], 23⟩]⟩ ?_ ?_
  · skip
    refine PV.regionN ?_
    refine PON.runs 3 (by kernel_rfl) ?_
    refine PON.norm ⟨(.agg (Col.cells c) :: .agg (Val.cells v) :: po 0 :: po 1 :: iv 0 :: bv (!(vKnown c.type)) :: .pO 0 0 1 :: iv c.type :: bv (vKnown c.type) :: bv (!(vKnown c.type)) :: bv (decide (((v.null = true) ∧ (¬(v.s = ByteArray.empty))) ∨ (¬(v.null = true) ∧ (¬(c.type = 3) ∧ (¬(v.s = ByteArray.empty)))))) :: A9 (A :: A :: A :: bv (decide (((v.null = true) ∧ (¬(v.n = 0))) ∨ (¬(v.null = true) ∧ ((c.type = 3) ∧ (¬(v.n = 0)))))) :: A9 (A :: A :: A :: U :: po 1 :: bv v.null :: bv v.null :: U9 ([U, U, U, U, U, U])))), [.live ⟨4, [(Col.cells c)], 47⟩, .live ⟨3, [(Val.cells v)], 23⟩]⟩ (by kernel_rfl) ?_
    refine PON.splitP (v.null = true) 39 v.null (.agg (Col.cells c) :: .agg (Val.cells v) :: po 0 :: po 1 :: iv 0 :: bv (!(vKnown c.type)) :: .pO 0 0 1 :: iv c.type :: bv (vKnown c.type) :: bv (!(vKnown c.type)) :: bv (decide (((v.null = true) ∧ (¬(v.s = ByteArray.empty))) ∨ (¬(v.null = true) ∧ (¬(c.type = 3) ∧ (¬(v.s = ByteArray.empty)))))) :: A9 (A :: A :: A :: bv (decide (((v.null = true) ∧ (¬(v.n = 0))) ∨ (¬(v.null = true) ∧ ((c.type = 3) ∧ (¬(v.n = 0)))))) :: A9 (A :: A :: A :: U :: po 1 :: bv v.null :: bv true :: U9 ([U, U, U, U, U, U])))) (.agg (Col.cells c) :: .agg (Val.cells v) :: po 0 :: po 1 :: iv 0 :: bv (!(vKnown c.type)) :: .pO 0 0 1 :: iv c.type :: bv (vKnown c.type) :: bv (!(vKnown c.type)) :: bv (decide (((v.null = true) ∧ (¬(v.s = ByteArray.empty))) ∨ (¬(v.null = true) ∧ (¬(c.type = 3) ∧ (¬(v.s = ByteArray.empty)))))) :: A9 (A :: A :: A :: bv (decide (((v.null = true) ∧ (¬(v.n = 0))) ∨ (¬(v.null = true) ∧ ((c.type = 3) ∧ (¬(v.n = 0)))))) :: A9 (A :: A :: A :: U :: po 1 :: bv v.null :: bv false :: U9 ([U, U, U, U, U, U])))) (by kernel_rfl) (fun h => h) bool_ff (by kernel_rfl) (by kernel_rfl) (fun h14 => ?_) (fun h14 => ?_)
    · skip
      refine PON.runs 5 (by kernel_rfl) ?_
      refine PON.norm ⟨(.agg (Col.cells c) :: .agg (Val.cells v) :: po 0 :: po 1 :: iv 0 :: bv (!(vKnown c.type)) :: .pO 0 0 1 :: iv c.type :: bv (vKnown c.type) :: bv (!(vKnown c.type)) :: bv (decide (((v.null = true) ∧ (¬(v.s = ByteArray.empty))) ∨ (¬(v.null = true) ∧ (¬(c.type = 3) ∧ (¬(v.s = ByteArray.empty)))))) :: A9 (A :: A :: A :: bv (decide (((v.null = true) ∧ (¬(v.n = 0))) ∨ (¬(v.null = true) ∧ ((c.type = 3) ∧ (¬(v.n = 0)))))) :: A9 (A :: A :: A :: bv (!c.nullable) :: po 1 :: bv v.null :: bv true :: .pO 0 0 3 :: bv c.nullable :: bv (!c.nullable) :: bv (!c.nullable) :: U9 ([U, U])))), [.live ⟨4, [(Col.cells c)], 47⟩, .live ⟨3, [(Val.cells v)], 23⟩]⟩ (by kernel_rfl) ?_
      refine PON.fin rfl (thenA_normal ?_)
      exact ⟨rfl, rfl, (.cons (.tree (by simp only [NIs_cons, NIs_nil, NIr_cons, NIr_nil, NI_v, NI_any, NI_pO, NI_sO, NI_pF, NI_sF, NI_agg, NI_tup, NI_fn, NIh_nil, NIh_live, NIh_dead, NIh_free, NIr_map, NIr_append, NIs_icells, NIs_scells, NIs_bcells, NIs_Val, NIs_Col, NIs_Schema, NIs_PNode, NIs_Src, NIr_Val, NIr_Col, NIr_ints, NIr_PNode]; try simp)) (.cons (.tree (by simp only [NIs_cons, NIs_nil, NIr_cons, NIr_nil, NI_v, NI_any, NI_pO, NI_sO, NI_pF, NI_sF, NI_agg, NI_tup, NI_fn, NIh_nil, NIh_live, NIh_dead, NIh_free, NIr_map, NIr_append, NIs_icells, NIs_scells, NIs_bcells, NIs_Val, NIs_Col, NIs_Schema, NIs_PNode, NIs_Src, NIr_Val, NIr_Col, NIr_ints, NIr_PNode]; try simp)) (.cons (.pO _ _ rfl) (.cons (.pO _ _ rfl) (.v (.v (.cons (.pO _ _ rfl) (.v (.v (.v (.v (.a9 (.any (.any (.any (.v (.a9 (.any (.any (.any (.cons (.eq (.v _) (v_bool (by clear hret hK1 hK2 hK3 K0 K1 K2 K3; (try simp only [strEq_dec]); grind))) (.a4 (.any (.any (.any (.v (.v (.v (.v (.v (.v (.v (.v (.v (.v (.v .nil)))))))))))))))))))))))))))))))))))), (.cons rfl (.tree (by simp only [NIs_cons, NIs_nil, NIr_cons, NIr_nil, NI_v, NI_any, NI_pO, NI_sO, NI_pF, NI_sF, NI_agg, NI_tup, NI_fn, NIh_nil, NIh_live, NIh_dead, NIh_free, NIr_map, NIr_append, NIs_icells, NIs_scells, NIs_bcells, NIs_Val, NIs_Col, NIs_Schema, NIs_PNode, NIs_Src, NIr_Val, NIr_Col, NIr_ints, NIr_PNode]; try simp)) (.cons rfl (.tree (by simp only [NIs_cons, NIs_nil, NIr_cons, NIr_nil, NI_v, NI_any, NI_pO, NI_sO, NI_pF, NI_sF, NI_agg, NI_tup, NI_fn, NIh_nil, NIh_live, NIh_dead, NIh_free, NIr_map, NIr_append, NIs_icells, NIs_scells, NIs_bcells, NIs_Val, NIs_Col, NIs_Schema, NIs_PNode, NIs_Src, NIr_Val, NIr_Col, NIr_ints, NIr_PNode]; try simp)) .nil))⟩
    refine PON.runs 5 (by kernel_rfl) ?_
    refine PON.norm ⟨(.agg (Col.cells c) :: .agg (Val.cells v) :: po 0 :: po 1 :: iv 0 :: bv (!(vKnown c.type)) :: .pO 0 0 1 :: iv c.type :: bv (vKnown c.type) :: bv (!(vKnown c.type)) :: bv (decide (((v.null = true) ∧ (¬(v.s = ByteArray.empty))) ∨ (¬(v.null = true) ∧ (¬(c.type = 3) ∧ (¬(v.s = ByteArray.empty)))))) :: A9 (A :: A :: A :: bv (decide (((v.null = true) ∧ (¬(v.n = 0))) ∨ (¬(v.null = true) ∧ ((c.type = 3) ∧ (¬(v.n = 0)))))) :: A9 (A :: A :: A :: bv false :: po 1 :: bv v.null :: bv false :: U :: U :: U :: bv false :: U9 ([U, U])))), [.live ⟨4, [(Col.cells c)], 47⟩, .live ⟨3, [(Val.cells v)], 23⟩]⟩ (by kernel_rfl) ?_
    refine PON.fin rfl (thenA_normal ?_)
    exact ⟨rfl, rfl, (.cons (.tree (by simp only [NIs_cons, NIs_nil, NIr_cons, NIr_nil, NI_v, NI_any, NI_pO, NI_sO, NI_pF, NI_sF, NI_agg, NI_tup, NI_fn, NIh_nil, NIh_live, NIh_dead, NIh_free, NIr_map, NIr_append, NIs_icells, NIs_scells, NIs_bcells, NIs_Val, NIs_Col, NIs_Schema, NIs_PNode, NIs_Src, NIr_Val, NIr_Col, NIr_ints, NIr_PNode]; try simp)) (.cons (.tree (by simp only [NIs_cons, NIs_nil, NIr_cons, NIr_nil, NI_v, NI_any, NI_pO, NI_sO, NI_pF, NI_sF, NI_agg, NI_tup, NI_fn, NIh_nil, NIh_live, NIh_dead, NIh_free, NIr_map, NIr_append, NIs_icells, NIs_scells, NIs_bcells, NIs_Val, NIs_Col, NIs_Schema, NIs_PNode, NIs_Src, NIr_Val, NIr_Col, NIr_ints, NIr_PNode]; try simp)) (.cons (.pO _ _ rfl) (.cons (.pO _ _ rfl) (.v (.v (.cons (.pO _ _ rfl) (.v (.v (.v (.v (.a9 (.any (.any (.any (.v (.a9 (.any (.any (.any (.cons (.eq (.v _) (v_bool (by clear hret hK1 hK2 hK3 K0 K1 K2 K3; (try simp only [strEq_dec]); grind))) (.a4 (.any (.any (.any (.v (.v (.v (.v (.v (.v (.v (.v (.v (.v (.v .nil)))))))))))))))))))))))))))))))))))), (.cons rfl (.tree (by simp only [NIs_cons, NIs_nil, NIr_cons, NIr_nil, NI_v, NI_any, NI_pO, NI_sO, NI_pF, NI_sF, NI_agg, NI_tup, NI_fn, NIh_nil, NIh_live, NIh_dead, NIh_free, NIr_map, NIr_append, NIs_icells, NIs_scells, NIs_bcells, NIs_Val, NIs_Col, NIs_Schema, NIs_PNode, NIs_Src, NIr_Val, NIr_Col, NIr_ints, NIr_PNode]; try simp)) (.cons rfl (.tree (by simp only [NIs_cons, NIs_nil, NIr_cons, NIr_nil, NI_v, NI_any, NI_pO, NI_sO, NI_pF, NI_sF, NI_agg, NI_tup, NI_fn, NIh_nil, NIh_live, NIh_dead, NIh_free, NIr_map, NIr_append, NIs_icells, NIs_scells, NIs_bcells, NIs_Val, NIs_Col, NIs_Schema, NIs_PNode, NIs_Src, NIr_Val, NIr_Col, NIr_ints, NIr_PNode]; try simp)) .nil))⟩
  refine PV.condP ((v.null = true) ∧ (¬(c.nullable = true))) (decide ((v.null = true) ∧ (¬(c.nullable = true)))) (by kernel_rfl) decide_eq_true decide_eq_false (fun h15 => ?_) (fun h15 => ?_)
  · skip
    refine PV.seq_k fun K16 hK16 => ?_
    refine PV.regionN ?_
    refine PON.runs 1 (by kernel_rfl) ?_
    refine PON.fin rfl (thenA_normal (hK16 _ ?_))
    refine PV.norm ⟨(.agg (Col.cells c) :: .agg (Val.cells v) :: po 0 :: po 1 :: iv 12 :: bv (!(vKnown c.type)) :: .pO 0 0 1 :: iv c.type :: bv (vKnown c.type) :: bv (!(vKnown c.type)) :: bv (decide (((v.null = true) ∧ (¬(v.s = ByteArray.empty))) ∨ (¬(v.null = true) ∧ (¬(c.type = 3) ∧ (¬(v.s = ByteArray.empty)))))) :: A9 (A :: A :: A :: bv (decide (((v.null = true) ∧ (¬(v.n = 0))) ∨ (¬(v.null = true) ∧ ((c.type = 3) ∧ (¬(v.n = 0)))))) :: A9 (A :: A :: A :: bv (decide ((v.null = true) ∧ (¬(c.nullable = true)))) :: A4 (A :: A :: A :: U9 ([U, U]))))), [.live ⟨4, [(Col.cells c)], 47⟩, .live ⟨3, [(Val.cells v)], 23⟩]⟩ (by kernel_rfl) ?_
    refine PV.ret (inBlockA_ret (thenA_ret (hret .ret _ (iv 12) (.inr rfl) (by kernel_rfl) ?_)))
    clear hret hK1 hK2 hK3 hK16 K0 K1 K2 K3 K16
    show Tof noTau [.live ⟨4, [(Col.cells c)], 47⟩, .live ⟨3, [(Val.cells v)], 23⟩] (iv 12) (iv (vCheck c v))
    -- leaf 4
    refine Tof.int ?_
    grind [vCheck, vKnown, vPermitted, vCompare, intCmp]
  refine PV.seqR [0, 1] ⟨(.agg (Col.cells c) :: .agg (Val.cells v) :: po 0 :: po 1 :: iv 0 :: bv (!(vKnown c.type)) :: .pO 0 0 1 :: iv c.type :: bv (vKnown c.type) :: bv (!(vKnown c.type)) :: bv (decide (((v.null = true) ∧ (¬(v.s = ByteArray.empty))) ∨ (¬(v.null = true) ∧ (¬(c.type = 3) ∧ (¬(v.s = ByteArray.empty)))))) :: A9 (A :: A :: A :: bv (decide (((v.null = true) ∧ (¬(v.n = 0))) ∨ (¬(v.null = true) ∧ ((c.type = 3) ∧ (¬(v.n = 0)))))) :: A9 (A :: A :: A :: bv (decide ((v.null = true) ∧ (¬(c.nullable = true)))) :: A4 (A :: A :: A :: bv (decide (¬(v.null = true) ∧ (¬((vPermitted c.type v) = true)))) :: A9 ([A]))))), [.live ⟨4, [(Col.cells c)], 47⟩, .live ⟨3, [(Val.cells v)], 23⟩]⟩ ?_ ?_
  · skip
    refine PV.regionN ?_
    refine PON.runs 4 (by kernel_rfl) ?_
    refine PON.norm ⟨(.agg (Col.cells c) :: .agg (Val.cells v) :: po 0 :: po 1 :: iv 0 :: bv (!(vKnown c.type)) :: .pO 0 0 1 :: iv c.type :: bv (vKnown c.type) :: bv (!(vKnown c.type)) :: bv (decide (((v.null = true) ∧ (¬(v.s = ByteArray.empty))) ∨ (¬(v.null = true) ∧ (¬(c.type = 3) ∧ (¬(v.s = ByteArray.empty)))))) :: A9 (A :: A :: A :: bv (decide (((v.null = true) ∧ (¬(v.n = 0))) ∨ (¬(v.null = true) ∧ ((c.type = 3) ∧ (¬(v.n = 0)))))) :: A9 (A :: A :: A :: bv (decide ((v.null = true) ∧ (¬(c.nullable = true)))) :: A4 ([A, A, A, U, po 1, bv v.null, bv (!v.null), bv (!v.null), U, U, U, U, U, U])))), [.live ⟨4, [(Col.cells c)], 47⟩, .live ⟨3, [(Val.cells v)], 23⟩]⟩ (by kernel_rfl) ?_
    refine PON.splitN (v.null = true) 48 (!v.null) (.agg (Col.cells c) :: .agg (Val.cells v) :: po 0 :: po 1 :: iv 0 :: bv (!(vKnown c.type)) :: .pO 0 0 1 :: iv c.type :: bv (vKnown c.type) :: bv (!(vKnown c.type)) :: bv (decide (((v.null = true) ∧ (¬(v.s = ByteArray.empty))) ∨ (¬(v.null = true) ∧ (¬(c.type = 3) ∧ (¬(v.s = ByteArray.empty)))))) :: A9 (A :: A :: A :: bv (decide (((v.null = true) ∧ (¬(v.n = 0))) ∨ (¬(v.null = true) ∧ ((c.type = 3) ∧ (¬(v.n = 0)))))) :: A9 (A :: A :: A :: bv (decide ((v.null = true) ∧ (¬(c.nullable = true)))) :: A4 ([A, A, A, U, po 1, bv v.null, bv (!v.null), bv false, U, U, U, U, U, U])))) (.agg (Col.cells c) :: .agg (Val.cells v) :: po 0 :: po 1 :: iv 0 :: bv (!(vKnown c.type)) :: .pO 0 0 1 :: iv c.type :: bv (vKnown c.type) :: bv (!(vKnown c.type)) :: bv (decide (((v.null = true) ∧ (¬(v.s = ByteArray.empty))) ∨ (¬(v.null = true) ∧ (¬(c.type = 3) ∧ (¬(v.s = ByteArray.empty)))))) :: A9 (A :: A :: A :: bv (decide (((v.null = true) ∧ (¬(v.n = 0))) ∨ (¬(v.null = true) ∧ ((c.type = 3) ∧ (¬(v.n = 0)))))) :: A9 (A :: A :: A :: bv (decide ((v.null = true) ∧ (¬(c.nullable = true)))) :: A4 ([A, A, A, U, po 1, bv v.null, bv (!v.null), bv true, U, U, U, U, U, U])))) (by kernel_rfl) (fun h => bnot_t ((fun h => h) h)) (fun h => bnot_f (bool_ff h)) (by kernel_rfl) (by kernel_rfl) (fun h17 => ?_) (fun h17 => ?_)
    · skip
      refine PON.runs 7 (by kernel_rfl) ?_
      refine PON.norm ⟨(.agg (Col.cells c) :: .agg (Val.cells v) :: po 0 :: po 1 :: iv 0 :: bv (!(vKnown c.type)) :: .pO 0 0 1 :: iv c.type :: bv (vKnown c.type) :: bv (!(vKnown c.type)) :: bv (decide (((v.null = true) ∧ (¬(v.s = ByteArray.empty))) ∨ (¬(v.null = true) ∧ (¬(c.type = 3) ∧ (¬(v.s = ByteArray.empty)))))) :: A9 (A :: A :: A :: bv (decide (((v.null = true) ∧ (¬(v.n = 0))) ∨ (¬(v.null = true) ∧ ((c.type = 3) ∧ (¬(v.n = 0)))))) :: A9 (A :: A :: A :: bv (decide ((v.null = true) ∧ (¬(c.nullable = true)))) :: A4 ([A, A, A, bv false, po 1, bv v.null, bv (!v.null), bv false, U, U, U, U, U, bv false])))), [.live ⟨4, [(Col.cells c)], 47⟩, .live ⟨3, [(Val.cells v)], 23⟩]⟩ (by kernel_rfl) ?_
      refine PON.fin rfl (thenA_normal ?_)
      exact ⟨rfl, rfl, (.cons (.tree (by simp only [NIs_cons, NIs_nil, NIr_cons, NIr_nil, NI_v, NI_any, NI_pO, NI_sO, NI_pF, NI_sF, NI_agg, NI_tup, NI_fn, NIh_nil, NIh_live, NIh_dead, NIh_free, NIr_map, NIr_append, NIs_icells, NIs_scells, NIs_bcells, NIs_Val, NIs_Col, NIs_Schema, NIs_PNode, NIs_Src, NIr_Val, NIr_Col, NIr_ints, NIr_PNode]; try simp)) (.cons (.tree (by simp only [NIs_cons, NIs_nil, NIr_cons, NIr_nil, NI_v, NI_any, NI_pO, NI_sO, NI_pF, NI_sF, NI_agg, NI_tup, NI_fn, NIh_nil, NIh_live, NIh_dead, NIh_free, NIr_map, NIr_append, NIs_icells, NIs_scells, NIs_bcells, NIs_Val, NIs_Col, NIs_Schema, NIs_PNode, NIs_Src, NIr_Val, NIr_Col, NIr_ints, NIr_PNode]; try simp)) (.cons (.pO _ _ rfl) (.cons (.pO _ _ rfl) (.v (.v (.cons (.pO _ _ rfl) (.v (.v (.v (.v (.a9 (.any (.any (.any (.v (.a9 (.any (.any (.any (.v (.a4 (.any (.any (.any (.cons (.eq (.v _) (v_bool (by clear hret hK1 hK2 hK3 K0 K1 K2 K3; (try simp only [strEq_dec]); grind))) (.a9 (.any .nil)))))))))))))))))))))))))))), (.cons rfl (.tree (by simp only [NIs_cons, NIs_nil, NIr_cons, NIr_nil, NI_v, NI_any, NI_pO, NI_sO, NI_pF, NI_sF, NI_agg, NI_tup, NI_fn, NIh_nil, NIh_live, NIh_dead, NIh_free, NIr_map, NIr_append, NIs_icells, NIs_scells, NIs_bcells, NIs_Val, NIs_Col, NIs_Schema, NIs_PNode, NIs_Src, NIr_Val, NIr_Col, NIr_ints, NIr_PNode]; try simp)) (.cons rfl (.tree (by simp only [NIs_cons, NIs_nil, NIr_cons, NIr_nil, NI_v, NI_any, NI_pO, NI_sO, NI_pF, NI_sF, NI_agg, NI_tup, NI_fn, NIh_nil, NIh_live, NIh_dead, NIh_free, NIr_map, NIr_append, NIs_icells, NIs_scells, NIs_bcells, NIs_Val, NIs_Col, NIs_Schema, NIs_PNode, NIs_Src, NIr_Val, NIr_Col, NIr_ints, NIr_PNode]; try simp)) .nil))⟩
    refine PON.runs 3 (by kernel_rfl) ?_
    refine PON.call 43 [iv c.type, .agg (Val.cells v)] (some 52) (pre := []) (post := []) (x := bv (vPermitted c.type v)) _ (by kernel_rfl) (permitted_ok c.type v) trivial rfl ?_
    refine PON.runs 3 (by kernel_rfl) ?_
    refine PON.norm ⟨(.agg (Col.cells c) :: .agg (Val.cells v) :: po 0 :: po 1 :: iv 0 :: bv (!(vKnown c.type)) :: .pO 0 0 1 :: iv c.type :: bv (vKnown c.type) :: bv (!(vKnown c.type)) :: bv (decide (((v.null = true) ∧ (¬(v.s = ByteArray.empty))) ∨ (¬(v.null = true) ∧ (¬(c.type = 3) ∧ (¬(v.s = ByteArray.empty)))))) :: A9 (A :: A :: A :: bv (decide (((v.null = true) ∧ (¬(v.n = 0))) ∨ (¬(v.null = true) ∧ ((c.type = 3) ∧ (¬(v.n = 0)))))) :: A9 (A :: A :: A :: bv (decide ((v.null = true) ∧ (¬(c.nullable = true)))) :: A4 ([A, A, A, bv (!(vPermitted c.type v)), po 1, bv v.null, bv (!v.null), bv true, .pO 0 0 1, iv c.type, .agg (Val.cells v), bv (vPermitted c.type v), bv (!(vPermitted c.type v)), bv (!(vPermitted c.type v))])))), [.live ⟨4, [(Col.cells c)], 47⟩, .live ⟨3, [(Val.cells v)], 23⟩]⟩ (by kernel_rfl) ?_
    refine PON.fin rfl (thenA_normal ?_)
    exact ⟨rfl, rfl, (.cons (.tree (by simp only [NIs_cons, NIs_nil, NIr_cons, NIr_nil, NI_v, NI_any, NI_pO, NI_sO, NI_pF, NI_sF, NI_agg, NI_tup, NI_fn, NIh_nil, NIh_live, NIh_dead, NIh_free, NIr_map, NIr_append, NIs_icells, NIs_scells, NIs_bcells, NIs_Val, NIs_Col, NIs_Schema, NIs_PNode, NIs_Src, NIr_Val, NIr_Col, NIr_ints, NIr_PNode]; try simp)) (.cons (.tree (by simp only [NIs_cons, NIs_nil, NIr_cons, NIr_nil, NI_v, NI_any, NI_pO, NI_sO, NI_pF, NI_sF, NI_agg, NI_tup, NI_fn, NIh_nil, NIh_live, NIh_dead, NIh_free, NIr_map, NIr_append, NIs_icells, NIs_scells, NIs_bcells, NIs_Val, NIs_Col, NIs_Schema, NIs_PNode, NIs_Src, NIr_Val, NIr_Col, NIr_ints, NIr_PNode]; try simp)) (.cons (.pO _ _ rfl) (.cons (.pO _ _ rfl) (.v (.v (.cons (.pO _ _ rfl) (.v (.v (.v (.v (.a9 (.any (.any (.any (.v (.a9 (.any (.any (.any (.v (.a4 (.any (.any (.any (.cons (.eq (.v _) (v_bool (by clear hret hK1 hK2 hK3 K0 K1 K2 K3; (try simp only [strEq_dec]); grind))) (.a9 (.any .nil)))))))))))))))))))))))))))), (.cons rfl (.tree (by simp only [NIs_cons, NIs_nil, NIr_cons, NIr_nil, NI_v, NI_any, NI_pO, NI_sO, NI_pF, NI_sF, NI_agg, NI_tup, NI_fn, NIh_nil, NIh_live, NIh_dead, NIh_free, NIr_map, NIr_append, NIs_icells, NIs_scells, NIs_bcells, NIs_Val, NIs_Col, NIs_Schema, NIs_PNode, NIs_Src, NIr_Val, NIr_Col, NIr_ints, NIr_PNode]; try simp)) (.cons rfl (.tree (by simp only [NIs_cons, NIs_nil, NIr_cons, NIr_nil, NI_v, NI_any, NI_pO, NI_sO, NI_pF, NI_sF, NI_agg, NI_tup, NI_fn, NIh_nil, NIh_live, NIh_dead, NIh_free, NIr_map, NIr_append, NIs_icells, NIs_scells, NIs_bcells, NIs_Val, NIs_Col, NIs_Schema, NIs_PNode, NIs_Src, NIr_Val, NIr_Col, NIr_ints, NIr_PNode]; try simp)) .nil))⟩
  refine PV.condP (¬(v.null = true) ∧ (¬((vPermitted c.type v) = true))) (decide (¬(v.null = true) ∧ (¬((vPermitted c.type v) = true)))) (by kernel_rfl) decide_eq_true decide_eq_false (fun h18 => ?_) (fun h18 => ?_)
  · skip
    refine PV.seq_k fun K19 hK19 => ?_
    refine PV.regionN ?_
    refine PON.runs 1 (by kernel_rfl) ?_
    refine PON.fin rfl (thenA_normal (hK19 _ ?_))
    refine PV.norm ⟨(.agg (Col.cells c) :: .agg (Val.cells v) :: po 0 :: po 1 :: iv 4 :: bv (!(vKnown c.type)) :: .pO 0 0 1 :: iv c.type :: bv (vKnown c.type) :: bv (!(vKnown c.type)) :: bv (decide (((v.null = true) ∧ (¬(v.s = ByteArray.empty))) ∨ (¬(v.null = true) ∧ (¬(c.type = 3) ∧ (¬(v.s = ByteArray.empty)))))) :: A9 (A :: A :: A :: bv (decide (((v.null = true) ∧ (¬(v.n = 0))) ∨ (¬(v.null = true) ∧ ((c.type = 3) ∧ (¬(v.n = 0)))))) :: A9 (A :: A :: A :: bv (decide ((v.null = true) ∧ (¬(c.nullable = true)))) :: A4 (A :: A :: A :: bv (decide (¬(v.null = true) ∧ (¬((vPermitted c.type v) = true)))) :: A9 ([A]))))), [.live ⟨4, [(Col.cells c)], 47⟩, .live ⟨3, [(Val.cells v)], 23⟩]⟩ (by kernel_rfl) ?_
    refine PV.ret (inBlockA_ret (thenA_ret (hret .ret _ (iv 4) (.inr rfl) (by kernel_rfl) ?_)))
    clear hret hK1 hK2 hK3 hK19 K0 K1 K2 K3 K19
    show Tof noTau [.live ⟨4, [(Col.cells c)], 47⟩, .live ⟨3, [(Val.cells v)], 23⟩] (iv 4) (iv (vCheck c v))
    -- leaf 5
    refine Tof.int ?_
    grind [vCheck, vKnown, vPermitted, vCompare, intCmp]
  refine PV.skip (inBlockA_normal (thenA_normal (hK2 _ ?_)))
  refine PV.seq_k fun K20 hK20 => ?_
  refine PV.regionN ?_
  refine PON.runs 1 (by kernel_rfl) ?_
  refine PON.fin rfl (thenA_normal (hK20 _ ?_))
  refine PV.norm ⟨(.agg (Col.cells c) :: .agg (Val.cells v) :: po 0 :: po 1 :: iv 0 :: bv (!(vKnown c.type)) :: .pO 0 0 1 :: iv c.type :: bv (vKnown c.type) :: bv (!(vKnown c.type)) :: bv (decide (((v.null = true) ∧ (¬(v.s = ByteArray.empty))) ∨ (¬(v.null = true) ∧ (¬(c.type = 3) ∧ (¬(v.s = ByteArray.empty)))))) :: A9 (A :: A :: A :: bv (decide (((v.null = true) ∧ (¬(v.n = 0))) ∨ (¬(v.null = true) ∧ ((c.type = 3) ∧ (¬(v.n = 0)))))) :: A9 (A :: A :: A :: bv (decide ((v.null = true) ∧ (¬(c.nullable = true)))) :: A4 (A :: A :: A :: bv (decide (¬(v.null = true) ∧ (¬((vPermitted c.type v) = true)))) :: A9 ([A]))))), [.live ⟨4, [(Col.cells c)], 47⟩, .live ⟨3, [(Val.cells v)], 23⟩]⟩ (by kernel_rfl) ?_
  refine PV.ret (hret .ret _ (iv 0) (.inr rfl) (by kernel_rfl) ?_)
  clear hret hK1 hK2 hK3 hK20 K0 K1 K2 K3 K20
  show Tof noTau [.live ⟨4, [(Col.cells c)], 47⟩, .live ⟨3, [(Val.cells v)], 23⟩] (iv 0) (iv (vCheck c v))
  -- leaf 6
  refine Tof.int ?_
  grind [vCheck, vKnown, vPermitted, vCompare, intCmp]
theorem vCheck_ok (c : Col) (v : Val) : PCX Try.prog 26 [.agg (Col.cells c), .agg (Val.cells v)] [] [] (iv (vCheck c v)) :=
  PCX.frame (by simp only [NIs_cons, NIs_nil, NIr_cons, NIr_nil, NI_v, NI_any, NI_pO, NI_sO, NI_pF, NI_sF, NI_agg, NI_tup, NI_fn, NIh_nil, NIh_live, NIh_dead, NIh_free, NIr_map, NIr_append, NIs_icells, NIs_scells, NIs_bcells, NIs_Val, NIs_Col, NIs_Schema, NIs_PNode, NIs_Src, NIr_Val, NIr_Col, NIr_ints, NIr_PNode]; try simp) (vCheck_ok_walk c v)

set_option maxHeartbeats 4000000 in
theorem isNaNs_ok_walk (a : ByteArray) : PC Try.prog 82 [sv a] [] (fun yR kR => Tof noTau kR yR (bv false)) := by
  refine PC.of_bodyV Try.func82 rfl [sv a, U, U, U, U, U] (by kernel_rfl) (fun K0 hret => ?_)
  refine PV.seq_k fun K1 hK1 => ?_
  refine PV.regionN ?_
  refine PON.runs 1 (by kernel_rfl) ?_
  refine PON.fin rfl (thenA_normal (hK1 _ ?_))
  refine PV.seq_k fun K2 hK2 => ?_
  refine PV.regionN ?_
  refine PON.runs 4 (by kernel_rfl) ?_
  refine PON.fin rfl (thenA_normal (hK2 _ ?_))
  refine PV.norm ⟨[sv a, U, bv (!(strEq a a)), sv a, sv a, bv (!(strEq a a))], []⟩ (by kernel_rfl) ?_
  refine PV.ret (hret .ret _ (bv (!(strEq a a))) (.inr rfl) (by kernel_rfl) ?_)
  clear hret hK1 hK2 K0 K1 K2
  show Tof noTau [] (bv (!(strEq a a))) (bv false)
  -- leaf 1
  exact Tof.bool (by simp [strEq_dec])
theorem isNaNs_ok (a : ByteArray) : PCX Try.prog 82 [sv a] [] [] (bv false) :=
  PCX.frame (by simp only [NIs_cons, NIs_nil, NIr_cons, NIr_nil, NI_v, NI_any, NI_pO, NI_sO, NI_pF, NI_sF, NI_agg, NI_tup, NI_fn, NIh_nil, NIh_live, NIh_dead, NIh_free, NIr_map, NIr_append, NIs_icells, NIs_scells, NIs_bcells, NIs_Val, NIs_Col, NIs_Schema, NIs_PNode, NIs_Src, NIr_Val, NIr_Col, NIr_ints, NIr_PNode]; try simp) (isNaNs_ok_walk a)

set_option maxHeartbeats 4000000 in
theorem isNaN64_ok_walk (a : Int) : PC Try.prog 83 [iv a] [] (fun yR kR => Tof noTau kR yR (bv false)) := by
  refine PC.of_bodyV Try.func83 rfl [iv a, U, U, U, U, U] (by kernel_rfl) (fun K0 hret => ?_)
  refine PV.seq_k fun K1 hK1 => ?_
  refine PV.regionN ?_
  refine PON.runs 1 (by kernel_rfl) ?_
  refine PON.fin rfl (thenA_normal (hK1 _ ?_))
  refine PV.seq_k fun K2 hK2 => ?_
  refine PV.regionN ?_
  refine PON.runs 4 (by kernel_rfl) ?_
  refine PON.fin rfl (thenA_normal (hK2 _ ?_))
  refine PV.norm ⟨[iv a, U, bv (!(decide (a = a))), iv a, iv a, bv (!(decide (a = a)))], []⟩ (by kernel_rfl) ?_
  refine PV.ret (hret .ret _ (bv (!(decide (a = a)))) (.inr rfl) (by kernel_rfl) ?_)
  clear hret hK1 hK2 K0 K1 K2
  show Tof noTau [] (bv (!(decide (a = a)))) (bv false)
  -- leaf 1
  exact Tof.bool (by simp)
theorem isNaN64_ok (a : Int) : PCX Try.prog 83 [iv a] [] [] (bv false) :=
  PCX.frame (by simp only [NIs_cons, NIs_nil, NIr_cons, NIr_nil, NI_v, NI_any, NI_pO, NI_sO, NI_pF, NI_sF, NI_agg, NI_tup, NI_fn, NIh_nil, NIh_live, NIh_dead, NIh_free, NIr_map, NIr_append, NIs_icells, NIs_scells, NIs_bcells, NIs_Val, NIs_Col, NIs_Schema, NIs_PNode, NIs_Src, NIr_Val, NIr_Col, NIr_ints, NIr_PNode]; try simp) (isNaN64_ok_walk a)

set_option maxHeartbeats 4000000 in
theorem cmp64_ok_walk (a : Int) (b : Int) : PC Try.prog 63 [iv a, iv b] [] (fun yR kR => Tof noTau kR yR (iv (intCmp a b))) := by
  refine PC.of_bodyV Try.func63 rfl (iv a :: iv b :: U9 (U9 ([]))) (by kernel_rfl) (fun K0 hret => ?_)
  refine PV.seq_k fun K1 hK1 => ?_
  refine PV.regionN ?_
  refine PON.runs 1 (by kernel_rfl) ?_
  refine PON.fin rfl (thenA_normal (hK1 _ ?_))
  refine PV.seq_k fun K2 hK2 => ?_
  refine PV.regionN ?_
  refine PON.runs 1 (by kernel_rfl) ?_
  refine PON.call 83 [iv a] (some 8) (pre := []) (post := []) (x := bv false) _ (by kernel_rfl) (isNaN64_ok a) trivial rfl ?_
  refine PON.runs 1 (by kernel_rfl) ?_
  refine PON.fin rfl (thenA_normal (hK2 _ ?_))
  refine PV.seq_k fun K3 hK3 => ?_
  refine PV.regionN ?_
  refine PON.runs 1 (by kernel_rfl) ?_
  refine PON.call 83 [iv b] (some 10) (pre := []) (post := []) (x := bv false) _ (by kernel_rfl) (isNaN64_ok b) trivial rfl ?_
  refine PON.runs 1 (by kernel_rfl) ?_
  refine PON.fin rfl (thenA_normal (hK3 _ ?_))
  refine PV.seq_k fun K4 hK4 => ?_
  refine PV.seq_k fun K5 hK5 => ?_
  refine PV.regionN ?_
  refine PON.runs 1 (by kernel_rfl) ?_
  refine PON.fin rfl (thenA_normal (hK5 _ ?_))
  refine PV.cond_false (by kernel_rfl) ?_
  refine PV.skip (thenA_normal (hK4 _ ?_))
  refine PV.seq_k fun K6 hK6 => ?_
  refine PV.seq_k fun K7 hK7 => ?_
  refine PV.regionN ?_
  refine PON.runs 1 (by kernel_rfl) ?_
  refine PON.fin rfl (thenA_normal (hK7 _ ?_))
  refine PV.cond_false (by kernel_rfl) ?_
  refine PV.skip (thenA_normal (hK6 _ ?_))
  refine PV.seq_k fun K8 hK8 => ?_
  refine PV.seq_k fun K9 hK9 => ?_
  refine PV.regionN ?_
  refine PON.runs 3 (by kernel_rfl) ?_
  refine PON.fin rfl (thenA_normal (hK9 _ ?_))
  refine PV.condP (a < b) (decide (a < b)) (by kernel_rfl) decide_eq_true decide_eq_false (fun h10 => ?_) (fun h10 => ?_)
  · skip
    refine PV.seq_k fun K11 hK11 => ?_
    refine PV.regionN ?_
    refine PON.runs 1 (by kernel_rfl) ?_
    refine PON.fin rfl (thenA_normal (hK11 _ ?_))
    refine PV.norm ⟨[iv a, iv b, U, U, iv (-1), bv false, bv false, iv a, bv false, iv b, bv false, bv false, U, bv false, iv a, iv b, bv (decide (a < b)), U, U, U], []⟩ (by kernel_rfl) ?_
    refine PV.ret (thenA_ret (hret .ret _ (iv (-1)) (.inr rfl) (by kernel_rfl) ?_))
    clear hret hK1 hK2 hK3 hK4 hK5 hK6 hK7 hK8 hK9 hK11 K0 K1 K2 K3 K4 K5 K6 K7 K8 K9 K11
    show Tof noTau [] (iv (-1)) (iv (intCmp a b))
    -- leaf 1
    refine Tof.int ?_
    grind [vCheck, vKnown, vPermitted, vCompare, intCmp]
  refine PV.skip (thenA_normal (hK8 _ ?_))
  refine PV.seq_k fun K12 hK12 => ?_
  refine PV.seq_k fun K13 hK13 => ?_
  refine PV.regionN ?_
  refine PON.runs 3 (by kernel_rfl) ?_
  refine PON.fin rfl (thenA_normal (hK13 _ ?_))
  refine PV.condP (a > b) (decide (a > b)) (by kernel_rfl) decide_eq_true decide_eq_false (fun h14 => ?_) (fun h14 => ?_)
  · skip
    refine PV.seq_k fun K15 hK15 => ?_
    refine PV.regionN ?_
    refine PON.runs 1 (by kernel_rfl) ?_
    refine PON.fin rfl (thenA_normal (hK15 _ ?_))
    refine PV.norm ⟨[iv a, iv b, U, U, iv 1, bv false, bv false, iv a, bv false, iv b, bv false, bv false, U, bv false, iv a, iv b, bv (decide (a < b)), iv a, iv b, bv (decide (a > b))], []⟩ (by kernel_rfl) ?_
    refine PV.ret (thenA_ret (hret .ret _ (iv 1) (.inr rfl) (by kernel_rfl) ?_))
    clear hret hK1 hK2 hK3 hK4 hK5 hK6 hK7 hK8 hK9 hK12 hK13 hK15 K0 K1 K2 K3 K4 K5 K6 K7 K8 K9 K12 K13 K15
    show Tof noTau [] (iv 1) (iv (intCmp a b))
    -- leaf 2
    refine Tof.int ?_
    grind [vCheck, vKnown, vPermitted, vCompare, intCmp]
  refine PV.skip (thenA_normal (hK12 _ ?_))
  refine PV.seq_k fun K16 hK16 => ?_
  refine PV.regionN ?_
  refine PON.runs 1 (by kernel_rfl) ?_
  refine PON.fin rfl (thenA_normal (hK16 _ ?_))
  refine PV.norm ⟨[iv a, iv b, U, U, iv 0, bv false, bv false, iv a, bv false, iv b, bv false, bv false, U, bv false, iv a, iv b, bv (decide (a < b)), iv a, iv b, bv (decide (a > b))], []⟩ (by kernel_rfl) ?_
  refine PV.ret (hret .ret _ (iv 0) (.inr rfl) (by kernel_rfl) ?_)
  clear hret hK1 hK2 hK3 hK4 hK5 hK6 hK7 hK8 hK9 hK12 hK13 hK16 K0 K1 K2 K3 K4 K5 K6 K7 K8 K9 K12 K13 K16
  show Tof noTau [] (iv 0) (iv (intCmp a b))
  -- leaf 3
  refine Tof.int ?_
  grind [vCheck, vKnown, vPermitted, vCompare, intCmp]
theorem cmp64_ok (a : Int) (b : Int) : PCX Try.prog 63 [iv a, iv b] [] [] (iv (intCmp a b)) :=
  PCX.frame (by simp only [NIs_cons, NIs_nil, NIr_cons, NIr_nil, NI_v, NI_any, NI_pO, NI_sO, NI_pF, NI_sF, NI_agg, NI_tup, NI_fn, NIh_nil, NIh_live, NIh_dead, NIh_free, NIr_map, NIr_append, NIs_icells, NIs_scells, NIs_bcells, NIs_Val, NIs_Col, NIs_Schema, NIs_PNode, NIs_Src, NIr_Val, NIr_Col, NIr_ints, NIr_PNode]; try simp) (cmp64_ok_walk a b)

set_option maxHeartbeats 4000000 in
theorem cmpS_ok_walk (a : ByteArray) (b : ByteArray) : PC Try.prog 62 [sv a, sv b] [] (fun yR kR => Tof noTau kR yR (iv (strCmp a b))) := by
  refine PC.of_bodyV Try.func62 rfl (sv a :: sv b :: U9 (U9 ([]))) (by kernel_rfl) (fun K0 hret => ?_)
  refine PV.seq_k fun K1 hK1 => ?_
  refine PV.regionN ?_
  refine PON.runs 1 (by kernel_rfl) ?_
  refine PON.fin rfl (thenA_normal (hK1 _ ?_))
  refine PV.seq_k fun K2 hK2 => ?_
  refine PV.regionN ?_
  refine PON.runs 1 (by kernel_rfl) ?_
  refine PON.call 82 [sv a] (some 8) (pre := []) (post := []) (x := bv false) _ (by kernel_rfl) (isNaNs_ok a) trivial rfl ?_
  refine PON.runs 1 (by kernel_rfl) ?_
  refine PON.fin rfl (thenA_normal (hK2 _ ?_))
  refine PV.seq_k fun K3 hK3 => ?_
  refine PV.regionN ?_
  refine PON.runs 1 (by kernel_rfl) ?_
  refine PON.call 82 [sv b] (some 10) (pre := []) (post := []) (x := bv false) _ (by kernel_rfl) (isNaNs_ok b) trivial rfl ?_
  refine PON.runs 1 (by kernel_rfl) ?_
  refine PON.fin rfl (thenA_normal (hK3 _ ?_))
  refine PV.seq_k fun K4 hK4 => ?_
  refine PV.seq_k fun K5 hK5 => ?_
  refine PV.regionN ?_
  refine PON.runs 1 (by kernel_rfl) ?_
  refine PON.fin rfl (thenA_normal (hK5 _ ?_))
  refine PV.cond_false (by kernel_rfl) ?_
  refine PV.skip (thenA_normal (hK4 _ ?_))
  refine PV.seq_k fun K6 hK6 => ?_
  refine PV.seq_k fun K7 hK7 => ?_
  refine PV.regionN ?_
  refine PON.runs 1 (by kernel_rfl) ?_
  refine PON.fin rfl (thenA_normal (hK7 _ ?_))
  refine PV.cond_false (by kernel_rfl) ?_
  refine PV.skip (thenA_normal (hK6 _ ?_))
  refine PV.seq_k fun K8 hK8 => ?_
  refine PV.seq_k fun K9 hK9 => ?_
  refine PV.regionN ?_
  refine PON.runs 3 (by kernel_rfl) ?_
  refine PON.fin rfl (thenA_normal (hK9 _ ?_))
  refine PV.condP ((strLt a b) = true) (strLt a b) (by kernel_rfl) (fun h => h) bool_ff (fun h10 => ?_) (fun h10 => ?_)
  · skip
    refine PV.seq_k fun K11 hK11 => ?_
    refine PV.regionN ?_
    refine PON.runs 1 (by kernel_rfl) ?_
    refine PON.fin rfl (thenA_normal (hK11 _ ?_))
    refine PV.norm ⟨[sv a, sv b, U, U, iv (-1), bv false, bv false, sv a, bv false, sv b, bv false, bv false, U, bv false, sv a, sv b, bv (strLt a b), U, U, U], []⟩ (by kernel_rfl) ?_
    refine PV.ret (thenA_ret (hret .ret _ (iv (-1)) (.inr rfl) (by kernel_rfl) ?_))
    clear hret hK1 hK2 hK3 hK4 hK5 hK6 hK7 hK8 hK9 hK11 K0 K1 K2 K3 K4 K5 K6 K7 K8 K9 K11
    show Tof noTau [] (iv (-1)) (iv (strCmp a b))
    -- leaf 1
    refine Tof.int ?_
    grind [strCmp, strEq_dec]
  refine PV.skip (thenA_normal (hK8 _ ?_))
  refine PV.seq_k fun K12 hK12 => ?_
  refine PV.seq_k fun K13 hK13 => ?_
  refine PV.regionN ?_
  refine PON.runs 3 (by kernel_rfl) ?_
  refine PON.fin rfl (thenA_normal (hK13 _ ?_))
  refine PV.condN (((strLt a b) || (strEq a b)) = true) (!((strLt a b) || (strEq a b))) (by kernel_rfl) (fun h => bnot_t ((fun h => h) h)) (fun h => bnot_f (bool_ff h)) (fun h14 => ?_) (fun h14 => ?_)
  · skip
    refine PV.seq_k fun K15 hK15 => ?_
    refine PV.regionN ?_
    refine PON.runs 1 (by kernel_rfl) ?_
    refine PON.fin rfl (thenA_normal (hK15 _ ?_))
    refine PV.norm ⟨[sv a, sv b, U, U, iv 1, bv false, bv false, sv a, bv false, sv b, bv false, bv false, U, bv false, sv a, sv b, bv (strLt a b), sv a, sv b, bv (!((strLt a b) || (strEq a b)))], []⟩ (by kernel_rfl) ?_
    refine PV.ret (thenA_ret (hret .ret _ (iv 1) (.inr rfl) (by kernel_rfl) ?_))
    clear hret hK1 hK2 hK3 hK4 hK5 hK6 hK7 hK8 hK9 hK12 hK13 hK15 K0 K1 K2 K3 K4 K5 K6 K7 K8 K9 K12 K13 K15
    show Tof noTau [] (iv 1) (iv (strCmp a b))
    -- leaf 2
    refine Tof.int ?_
    grind [strCmp, strEq_dec]
  refine PV.skip (thenA_normal (hK12 _ ?_))
  refine PV.seq_k fun K16 hK16 => ?_
  refine PV.regionN ?_
  refine PON.runs 1 (by kernel_rfl) ?_
  refine PON.fin rfl (thenA_normal (hK16 _ ?_))
  refine PV.norm ⟨[sv a, sv b, U, U, iv 0, bv false, bv false, sv a, bv false, sv b, bv false, bv false, U, bv false, sv a, sv b, bv (strLt a b), sv a, sv b, bv (!((strLt a b) || (strEq a b)))], []⟩ (by kernel_rfl) ?_
  refine PV.ret (hret .ret _ (iv 0) (.inr rfl) (by kernel_rfl) ?_)
  clear hret hK1 hK2 hK3 hK4 hK5 hK6 hK7 hK8 hK9 hK12 hK13 hK16 K0 K1 K2 K3 K4 K5 K6 K7 K8 K9 K12 K13 K16
  show Tof noTau [] (iv 0) (iv (strCmp a b))
  -- leaf 3
  refine Tof.int ?_
  grind [strCmp, strEq_dec]
theorem cmpS_ok (a : ByteArray) (b : ByteArray) : PCX Try.prog 62 [sv a, sv b] [] [] (iv (strCmp a b)) :=
  PCX.frame (by simp only [NIs_cons, NIs_nil, NIr_cons, NIr_nil, NI_v, NI_any, NI_pO, NI_sO, NI_pF, NI_sF, NI_agg, NI_tup, NI_fn, NIh_nil, NIh_live, NIh_dead, NIh_free, NIr_map, NIr_append, NIs_icells, NIs_scells, NIs_bcells, NIs_Val, NIs_Col, NIs_Schema, NIs_PNode, NIs_Src, NIr_Val, NIr_Col, NIr_ints, NIr_PNode]; try simp) (cmpS_ok_walk a b)

set_option maxHeartbeats 4000000 in
theorem vCompare_ok_walk (t : Int) (a : Val) (b : Val) : PC Try.prog 45 [iv t, .agg (Val.cells a), .agg (Val.cells b)] [] (fun yR kR => Tof noTau kR yR (iv (vCompare t a b))) := by
  refine PC.of_bodyV Try.func45 rfl (iv t :: .agg (Val.cells a) :: .agg (Val.cells b) :: U9 (U9 (U9 ([U, U, U])))) (by kernel_rfl) (fun K0 hret => ?_)
  refine PV.seq_k fun K1 hK1 => ?_
  refine PV.regionN ?_
  refine PON.runs 3 (by kernel_rfl) ?_
  refine PON.fin rfl (thenA_normal (hK1 _ ?_))
  refine PV.seq_k fun K2 hK2 => ?_
  refine PV.block ?_
  refine PV.norm ⟨(iv t :: .agg (Val.cells a) :: .agg (Val.cells b) :: U :: po 0 :: po 1 :: iv 0 :: U9 (U9 ([U, U, U, U, U, U, U, U]))), [.live ⟨3, [(Val.cells a)], 23⟩, .live ⟨3, [(Val.cells b)], 23⟩]⟩ (by kernel_rfl) ?_
  refine PV.seqR [0, 1] ⟨(iv t :: .agg (Val.cells a) :: .agg (Val.cells b) :: U :: po 0 :: po 1 :: iv 0 :: bv (decide ((a.null = true) ∧ (b.null = true))) :: A4 (A :: A :: U9 (U9 ([U])))), [.live ⟨3, [(Val.cells a)], 23⟩, .live ⟨3, [(Val.cells b)], 23⟩]⟩ ?_ ?_
  · skip
    refine PV.regionN ?_
    refine PON.runs 3 (by kernel_rfl) ?_
    refine PON.norm ⟨(iv t :: .agg (Val.cells a) :: .agg (Val.cells b) :: U :: po 0 :: po 1 :: iv 0 :: U :: po 0 :: bv a.null :: bv a.null :: U9 (U9 ([U, U, U, U]))), [.live ⟨3, [(Val.cells a)], 23⟩, .live ⟨3, [(Val.cells b)], 23⟩]⟩ (by kernel_rfl) ?_
    refine PON.splitP (a.null = true) 10 a.null (iv t :: .agg (Val.cells a) :: .agg (Val.cells b) :: U :: po 0 :: po 1 :: iv 0 :: U :: po 0 :: bv a.null :: bv true :: U9 (U9 ([U, U, U, U]))) (iv t :: .agg (Val.cells a) :: .agg (Val.cells b) :: U :: po 0 :: po 1 :: iv 0 :: U :: po 0 :: bv a.null :: bv false :: U9 (U9 ([U, U, U, U]))) (by kernel_rfl) (fun h => h) bool_ff (by kernel_rfl) (by kernel_rfl) (fun h3 => ?_) (fun h3 => ?_)
    · skip
      refine PON.runs 4 (by kernel_rfl) ?_
      refine PON.norm ⟨(iv t :: .agg (Val.cells a) :: .agg (Val.cells b) :: U :: po 0 :: po 1 :: iv 0 :: bv b.null :: po 0 :: bv a.null :: bv true :: po 1 :: bv b.null :: bv b.null :: U9 (U9 ([U]))), [.live ⟨3, [(Val.cells a)], 23⟩, .live ⟨3, [(Val.cells b)], 23⟩]⟩ (by kernel_rfl) ?_
      refine PON.fin rfl (thenA_normal ?_)
      exact ⟨rfl, rfl, (.v (.cons (.tree (by simp only [NIs_cons, NIs_nil, NIr_cons, NIr_nil, NI_v, NI_any, NI_pO, NI_sO, NI_pF, NI_sF, NI_agg, NI_tup, NI_fn, NIh_nil, NIh_live, NIh_dead, NIh_free, NIr_map, NIr_append, NIs_icells, NIs_scells, NIs_bcells, NIs_Val, NIs_Col, NIs_Schema, NIs_PNode, NIs_Src, NIr_Val, NIr_Col, NIr_ints, NIr_PNode]; try simp)) (.cons (.tree (by simp only [NIs_cons, NIs_nil, NIr_cons, NIr_nil, NI_v, NI_any, NI_pO, NI_sO, NI_pF, NI_sF, NI_agg, NI_tup, NI_fn, NIh_nil, NIh_live, NIh_dead, NIh_free, NIr_map, NIr_append, NIs_icells, NIs_scells, NIs_bcells, NIs_Val, NIs_Col, NIs_Schema, NIs_PNode, NIs_Src, NIr_Val, NIr_Col, NIr_ints, NIr_PNode]; try simp)) (.v (.cons (.pO _ _ rfl) (.cons (.pO _ _ rfl) (.v (.cons (.eq (.v _) (v_bool (by clear hret hK1 hK2 K0 K1 K2; (try simp only [strEq_dec]); grind))) (.a4 (.any (.any (.v (.v (.v (.v (.v (.v (.v (.v (.v (.v (.v (.v (.v (.v (.v (.v (.v (.v (.v .nil)))))))))))))))))))))))))))))), (.cons rfl (.tree (by simp only [NIs_cons, NIs_nil, NIr_cons, NIr_nil, NI_v, NI_any, NI_pO, NI_sO, NI_pF, NI_sF, NI_agg, NI_tup, NI_fn, NIh_nil, NIh_live, NIh_dead, NIh_free, NIr_map, NIr_append, NIs_icells, NIs_scells, NIs_bcells, NIs_Val, NIs_Col, NIs_Schema, NIs_PNode, NIs_Src, NIr_Val, NIr_Col, NIr_ints, NIr_PNode]; try simp)) (.cons rfl (.tree (by simp only [NIs_cons, NIs_nil, NIr_cons, NIr_nil, NI_v, NI_any, NI_pO, NI_sO, NI_pF, NI_sF, NI_agg, NI_tup, NI_fn, NIh_nil, NIh_live, NIh_dead, NIh_free, NIr_map, NIr_append, NIs_icells, NIs_scells, NIs_bcells, NIs_Val, NIs_Col, NIs_Schema, NIs_PNode, NIs_Src, NIr_Val, NIr_Col, NIr_ints, NIr_PNode]; try simp)) .nil))⟩
    refine PON.runs 4 (by kernel_rfl) ?_
    refine PON.norm ⟨(iv t :: .agg (Val.cells a) :: .agg (Val.cells b) :: U :: po 0 :: po 1 :: iv 0 :: bv false :: po 0 :: bv a.null :: bv false :: U :: U :: bv false :: U9 (U9 ([U]))), [.live ⟨3, [(Val.cells a)], 23⟩, .live ⟨3, [(Val.cells b)], 23⟩]⟩ (by kernel_rfl) ?_
    refine PON.fin rfl (thenA_normal ?_)
    exact ⟨rfl, rfl, (.v (.cons (.tree (by simp only [NIs_cons, NIs_nil, NIr_cons, NIr_nil, NI_v, NI_any, NI_pO, NI_sO, NI_pF, NI_sF, NI_agg, NI_tup, NI_fn, NIh_nil, NIh_live, NIh_dead, NIh_free, NIr_map, NIr_append, NIs_icells, NIs_scells, NIs_bcells, NIs_Val, NIs_Col, NIs_Schema, NIs_PNode, NIs_Src, NIr_Val, NIr_Col, NIr_ints, NIr_PNode]; try simp)) (.cons (.tree (by simp only [NIs_cons, NIs_nil, NIr_cons, NIr_nil, NI_v, NI_any, NI_pO, NI_sO, NI_pF, NI_sF, NI_agg, NI_tup, NI_fn, NIh_nil, NIh_live, NIh_dead, NIh_free, NIr_map, NIr_append, NIs_icells, NIs_scells, NIs_bcells, NIs_Val, NIs_Col, NIs_Schema, NIs_PNode, NIs_Src, NIr_Val, NIr_Col, NIr_ints, NIr_PNode]; try simp)) (.v (.cons (.pO _ _ rfl) (.cons (.pO _ _ rfl) (.v (.cons (.eq (.v _) (v_bool (by clear hret hK1 hK2 K0 K1 K2; (try simp only [strEq_dec]); grind))) (.a4 (.any (.any (.v (.v (.v (.v (.v (.v (.v (.v (.v (.v (.v (.v (.v (.v (.v (.v (.v (.v (.v .nil)))))))))))))))))))))))))))))), (.cons rfl (.tree (by simp only [NIs_cons, NIs_nil, NIr_cons, NIr_nil, NI_v, NI_any, NI_pO, NI_sO, NI_pF, NI_sF, NI_agg, NI_tup, NI_fn, NIh_nil, NIh_live, NIh_dead, NIh_free, NIr_map, NIr_append, NIs_icells, NIs_scells, NIs_bcells, NIs_Val, NIs_Col, NIs_Schema, NIs_PNode, NIs_Src, NIr_Val, NIr_Col, NIr_ints, NIr_PNode]; try simp)) (.cons rfl (.tree (by simp only [NIs_cons, NIs_nil, NIr_cons, NIr_nil, NI_v, NI_any, NI_pO, NI_sO, NI_pF, NI_sF, NI_agg, NI_tup, NI_fn, NIh_nil, NIh_live, NIh_dead, NIh_free, NIr_map, NIr_append, NIs_icells, NIs_scells, NIs_bcells, NIs_Val, NIs_Col, NIs_Schema, NIs_PNode, NIs_Src, NIr_Val, NIr_Col, NIr_ints, NIr_PNode]; try simp)) .nil))⟩
  refine PV.condP ((a.null = true) ∧ (b.null = true)) (decide ((a.null = true) ∧ (b.null = true))) (by kernel_rfl) decide_eq_true decide_eq_false (fun h4 => ?_) (fun h4 => ?_)
  · skip
    refine PV.seq_k fun K5 hK5 => ?_
    refine PV.regionN ?_
    refine PON.runs 1 (by kernel_rfl) ?_
    refine PON.fin rfl (thenA_normal (hK5 _ ?_))
    refine PV.norm ⟨(iv t :: .agg (Val.cells a) :: .agg (Val.cells b) :: U :: po 0 :: po 1 :: iv 0 :: bv (decide ((a.null = true) ∧ (b.null = true))) :: A4 (A :: A :: U9 (U9 ([U])))), [.live ⟨3, [(Val.cells a)], 23⟩, .live ⟨3, [(Val.cells b)], 23⟩]⟩ (by kernel_rfl) ?_
    refine PV.ret (inBlockA_ret (thenA_ret (hret .ret _ (iv 0) (.inr rfl) (by kernel_rfl) ?_)))
    clear hret hK1 hK2 hK5 K0 K1 K2 K5
    show Tof noTau [.live ⟨3, [(Val.cells a)], 23⟩, .live ⟨3, [(Val.cells b)], 23⟩] (iv 0) (iv (vCompare t a b))
    -- leaf 1
    refine Tof.int ?_
    grind [vCheck, vKnown, vPermitted, vCompare, intCmp]
  refine PV.seq_k fun K6 hK6 => ?_
  refine PV.regionN ?_
  refine PON.runs 3 (by kernel_rfl) ?_
  refine PON.fin rfl (thenA_normal (hK6 _ ?_))
  refine PV.condP (a.null = true) a.null (by kernel_rfl) (fun h => h) bool_ff (fun h7 => ?_) (fun h7 => ?_)
  · skip
    refine PV.seq_k fun K8 hK8 => ?_
    refine PV.regionN ?_
    refine PON.runs 1 (by kernel_rfl) ?_
    refine PON.fin rfl (thenA_normal (hK8 _ ?_))
    refine PV.norm ⟨(iv t :: .agg (Val.cells a) :: .agg (Val.cells b) :: U :: po 0 :: po 1 :: iv (-1) :: bv (decide ((a.null = true) ∧ (b.null = true))) :: A4 (A :: A :: bv a.null :: po 0 :: bv a.null :: U9 ([U, U, U, U, U, U, U]))), [.live ⟨3, [(Val.cells a)], 23⟩, .live ⟨3, [(Val.cells b)], 23⟩]⟩ (by kernel_rfl) ?_
    refine PV.ret (inBlockA_ret (thenA_ret (hret .ret _ (iv (-1)) (.inr rfl) (by kernel_rfl) ?_)))
    clear hret hK1 hK2 hK6 hK8 K0 K1 K2 K6 K8
    show Tof noTau [.live ⟨3, [(Val.cells a)], 23⟩, .live ⟨3, [(Val.cells b)], 23⟩] (iv (-1)) (iv (vCompare t a b))
    -- leaf 2
    refine Tof.int ?_
    grind [vCheck, vKnown, vPermitted, vCompare, intCmp]
  refine PV.seq_k fun K9 hK9 => ?_
  refine PV.regionN ?_
  refine PON.runs 3 (by kernel_rfl) ?_
  refine PON.fin rfl (thenA_normal (hK9 _ ?_))
  refine PV.condP (b.null = true) b.null (by kernel_rfl) (fun h => h) bool_ff (fun h10 => ?_) (fun h10 => ?_)
  · skip
    refine PV.seq_k fun K11 hK11 => ?_
    refine PV.regionN ?_
    refine PON.runs 1 (by kernel_rfl) ?_
    refine PON.fin rfl (thenA_normal (hK11 _ ?_))
    refine PV.norm ⟨(iv t :: .agg (Val.cells a) :: .agg (Val.cells b) :: U :: po 0 :: po 1 :: iv 1 :: bv (decide ((a.null = true) ∧ (b.null = true))) :: A4 (A :: A :: bv a.null :: po 0 :: bv a.null :: bv b.null :: po 1 :: bv b.null :: U9 ([U, U, U, U]))), [.live ⟨3, [(Val.cells a)], 23⟩, .live ⟨3, [(Val.cells b)], 23⟩]⟩ (by kernel_rfl) ?_
    refine PV.ret (inBlockA_ret (thenA_ret (hret .ret _ (iv 1) (.inr rfl) (by kernel_rfl) ?_)))
    clear hret hK1 hK2 hK6 hK9 hK11 K0 K1 K2 K6 K9 K11
    show Tof noTau [.live ⟨3, [(Val.cells a)], 23⟩, .live ⟨3, [(Val.cells b)], 23⟩] (iv 1) (iv (vCompare t a b))
    -- leaf 3
    refine Tof.int ?_
    grind [vCheck, vKnown, vPermitted, vCompare, intCmp]
  refine PV.seq_k fun K12 hK12 => ?_
  refine PV.regionN ?_
  refine PON.runs 3 (by kernel_rfl) ?_
  refine PON.fin rfl (thenA_normal (hK12 _ ?_))
  refine PV.condP (t = 3) (decide (t = 3)) (by kernel_rfl) decide_eq_true decide_eq_false (fun h13 => ?_) (fun h13 => ?_)
  · skip
    refine PV.seq_k fun K14 hK14 => ?_
    refine PV.regionN ?_
    refine PON.runs 4 (by kernel_rfl) ?_
    refine PON.call 62 [sv a.s, sv b.s] (some 27) (pre := []) (post := []) (x := iv (strCmp a.s b.s)) _ (by kernel_rfl) (cmpS_ok a.s b.s) trivial rfl ?_
    refine PON.runs 1 (by kernel_rfl) ?_
    refine PON.fin rfl (thenA_normal (hK14 _ ?_))
    refine PV.norm ⟨(iv t :: .agg (Val.cells a) :: .agg (Val.cells b) :: U :: po 0 :: po 1 :: iv (strCmp a.s b.s) :: bv (decide ((a.null = true) ∧ (b.null = true))) :: A4 ([A, A, bv a.null, po 0, bv a.null, bv b.null, po 1, bv b.null, bv (decide (t = 3)), iv t, bv (decide (t = 3)), .pO 0 0 2, sv a.s, .pO 1 0 2, sv b.s, iv (strCmp a.s b.s), U, U, U, U, U])), [.live ⟨3, [(Val.cells a)], 23⟩, .live ⟨3, [(Val.cells b)], 23⟩]⟩ (by kernel_rfl) ?_
    refine PV.ret (inBlockA_ret (thenA_ret (hret .ret _ (iv (strCmp a.s b.s)) (.inr rfl) (by kernel_rfl) ?_)))
    clear hret hK1 hK2 hK6 hK9 hK12 hK14 K0 K1 K2 K6 K9 K12 K14
    show Tof noTau [.live ⟨3, [(Val.cells a)], 23⟩, .live ⟨3, [(Val.cells b)], 23⟩] (iv (strCmp a.s b.s)) (iv (vCompare t a b))
    -- leaf 4
    refine Tof.int ?_
    grind [vCheck, vKnown, vPermitted, vCompare, intCmp]
  refine PV.skip (inBlockA_normal (thenA_normal (hK2 _ ?_)))
  refine PV.seq_k fun K15 hK15 => ?_
  refine PV.regionN ?_
  refine PON.runs 4 (by kernel_rfl) ?_
  refine PON.call 63 [iv a.n, iv b.n] (some 32) (pre := []) (post := []) (x := iv (intCmp a.n b.n)) _ (by kernel_rfl) (cmp64_ok a.n b.n) trivial rfl ?_
  refine PON.runs 1 (by kernel_rfl) ?_
  refine PON.fin rfl (thenA_normal (hK15 _ ?_))
  refine PV.norm ⟨(iv t :: .agg (Val.cells a) :: .agg (Val.cells b) :: U :: po 0 :: po 1 :: iv (intCmp a.n b.n) :: bv (decide ((a.null = true) ∧ (b.null = true))) :: A4 ([A, A, bv a.null, po 0, bv a.null, bv b.null, po 1, bv b.null, bv (decide (t = 3)), iv t, bv (decide (t = 3)), U, U, U, U, U, .pO 0 0 1, iv a.n, .pO 1 0 1, iv b.n, iv (intCmp a.n b.n)])), [.live ⟨3, [(Val.cells a)], 23⟩, .live ⟨3, [(Val.cells b)], 23⟩]⟩ (by kernel_rfl) ?_
  refine PV.ret (hret .ret _ (iv (intCmp a.n b.n)) (.inr rfl) (by kernel_rfl) ?_)
  clear hret hK1 hK2 hK6 hK9 hK12 hK15 K0 K1 K2 K6 K9 K12 K15
  show Tof noTau [.live ⟨3, [(Val.cells a)], 23⟩, .live ⟨3, [(Val.cells b)], 23⟩] (iv (intCmp a.n b.n)) (iv (vCompare t a b))
  -- leaf 5
  refine Tof.int ?_
  grind [vCheck, vKnown, vPermitted, vCompare, intCmp]
theorem vCompare_ok (t : Int) (a : Val) (b : Val) : PCX Try.prog 45 [iv t, .agg (Val.cells a), .agg (Val.cells b)] [] [] (iv (vCompare t a b)) :=
  PCX.frame (by simp only [NIs_cons, NIs_nil, NIr_cons, NIr_nil, NI_v, NI_any, NI_pO, NI_sO, NI_pF, NI_sF, NI_agg, NI_tup, NI_fn, NIh_nil, NIh_live, NIh_dead, NIh_free, NIr_map, NIr_append, NIs_icells, NIs_scells, NIs_bcells, NIs_Val, NIs_Col, NIs_Schema, NIs_PNode, NIs_Src, NIr_Val, NIr_Col, NIr_ints, NIr_PNode]; try simp) (vCompare_ok_walk t a b)

set_option maxHeartbeats 4000000 in
theorem typed_ok_walk (t : Int) : PC Try.prog 51 [iv t] [] (fun yR kR => Tof noTau kR yR (bv (vKnown t))) := by
  refine PC.of_bodyV Try.func51 rfl [iv t, U, U, U, U, U, U, U, U] (by kernel_rfl) (fun K0 hret => ?_)
  refine PV.seq_k fun K1 hK1 => ?_
  refine PV.regionN ?_
  refine PON.runs 1 (by kernel_rfl) ?_
  refine PON.fin rfl (thenA_normal (hK1 _ ?_))
  refine PV.norm ⟨[iv t, U, bv false, U, U, U, U, U, U], []⟩ (by kernel_rfl) ?_
  refine PV.seqR [] ⟨(iv t :: U :: bv (decide ((t ≥ 1) ∧ (t ≤ 5))) :: A4 ([A, A])), []⟩ ?_ ?_
  · skip
    refine PV.regionN ?_
    refine PON.runs 3 (by kernel_rfl) ?_
    refine PON.norm ⟨[iv t, U, bv false, iv t, bv (decide (t ≥ 1)), bv (decide (t ≥ 1)), U, U, U], []⟩ (by kernel_rfl) ?_
    refine PON.splitP (t ≥ 1) 5 (decide (t ≥ 1)) [iv t, U, bv false, iv t, bv (decide (t ≥ 1)), bv true, U, U, U] [iv t, U, bv false, iv t, bv (decide (t ≥ 1)), bv false, U, U, U] (by kernel_rfl) decide_eq_true decide_eq_false (by kernel_rfl) (by kernel_rfl) (fun h2 => ?_) (fun h2 => ?_)
    · skip
      refine PON.runs 4 (by kernel_rfl) ?_
      refine PON.norm ⟨[iv t, U, bv (decide (t ≤ 5)), iv t, bv (decide (t ≥ 1)), bv true, iv t, bv (decide (t ≤ 5)), bv (decide (t ≤ 5))], []⟩ (by kernel_rfl) ?_
      refine PON.fin rfl (thenA_normal ?_)
      exact ⟨rfl, rfl, (.v (.v (.cons (.eq (.v _) (v_bool (by clear hret hK1 K0 K1; (try simp only [strEq_dec]); grind))) (.a4 (.any (.any .nil)))))), .nil⟩
    refine PON.runs 4 (by kernel_rfl) ?_
    refine PON.norm ⟨[iv t, U, bv false, iv t, bv (decide (t ≥ 1)), bv false, U, U, bv false], []⟩ (by kernel_rfl) ?_
    refine PON.fin rfl (thenA_normal ?_)
    exact ⟨rfl, rfl, (.v (.v (.cons (.eq (.v _) (v_bool (by clear hret hK1 K0 K1; (try simp only [strEq_dec]); grind))) (.a4 (.any (.any .nil)))))), .nil⟩
  refine PV.ret (hret .ret _ (bv (decide ((t ≥ 1) ∧ (t ≤ 5)))) (.inr rfl) (by kernel_rfl) ?_)
  clear hret hK1 K0 K1
  show Tof noTau [] (bv (decide ((t ≥ 1) ∧ (t ≤ 5)))) (bv (vKnown t))
  -- leaf 1
  refine Tof.bool ?_
  grind [vKnown, vPermitted]
theorem typed_ok (t : Int) : PCX Try.prog 51 [iv t] [] [] (bv (vKnown t)) :=
  PCX.frame (by simp only [NIs_cons, NIs_nil, NIr_cons, NIr_nil, NI_v, NI_any, NI_pO, NI_sO, NI_pF, NI_sF, NI_agg, NI_tup, NI_fn, NIh_nil, NIh_live, NIh_dead, NIh_free, NIr_map, NIr_append, NIs_icells, NIs_scells, NIs_bcells, NIs_Val, NIs_Col, NIs_Schema, NIs_PNode, NIs_Src, NIr_Val, NIr_Col, NIr_ints, NIr_PNode]; try simp) (typed_ok_walk t)

set_option maxHeartbeats 4000000 in
theorem rCheck_ok_walk (c : Col) (v : Val) : PC Try.prog 53 [.agg (Col.cells c), .agg (Val.cells v)] [] (fun yR kR => Tof noTau kR yR (iv (vCheck c v))) := by
  refine PC.of_bodyV Try.func53 rfl (.agg (Col.cells c) :: .agg (Val.cells v) :: U9 (U9 (U9 (U9 (U9 (U9 (U9 (U9 ([U, U, U, U, U, U, U]))))))))) (by kernel_rfl) (fun K0 hret => ?_)
  refine PV.seq_k fun K1 hK1 => ?_
  refine PV.regionN ?_
  refine PON.runs 3 (by kernel_rfl) ?_
  refine PON.fin rfl (thenA_normal (hK1 _ ?_))
  refine PV.seq_k fun K2 hK2 => ?_
  refine PV.seq_k fun K3 hK3 => ?_
  refine PV.regionN ?_
  refine PON.runs 2 (by kernel_rfl) ?_
  refine PON.call 51 [iv c.type] (some 8) (pre := []) (post := []) (x := bv (vKnown c.type)) _ (by kernel_rfl) (typed_ok c.type) trivial rfl ?_
  refine PON.runs 1 (by kernel_rfl) ?_
  refine PON.fin rfl (thenA_normal (hK3 _ ?_))
  refine PV.condN ((vKnown c.type) = true) (!(vKnown c.type)) (by kernel_rfl) (fun h => bnot_t ((fun h => h) h)) (fun h => bnot_f (bool_ff h)) (fun h4 => ?_) (fun h4 => ?_)
  · skip
    refine PV.seq_k fun K5 hK5 => ?_
    refine PV.regionN ?_
    refine PON.runs 1 (by kernel_rfl) ?_
    refine PON.fin rfl (thenA_normal (hK5 _ ?_))
    refine PV.norm ⟨(.agg (Col.cells c) :: .agg (Val.cells v) :: po 0 :: po 1 :: iv 1 :: U :: .pO 0 0 1 :: iv c.type :: bv (vKnown c.type) :: bv (!(vKnown c.type)) :: U9 (U9 (U9 (U9 (U9 (U9 (U9 ([U, U, U, U, U, U, U, U])))))))), [.live ⟨4, [(Col.cells c)], 47⟩, .live ⟨3, [(Val.cells v)], 23⟩]⟩ (by kernel_rfl) ?_
    refine PV.ret (thenA_ret (hret .ret _ (iv 1) (.inr rfl) (by kernel_rfl) ?_))
    clear hret hK1 hK2 hK3 hK5 K0 K1 K2 K3 K5
    show Tof noTau [.live ⟨4, [(Col.cells c)], 47⟩, .live ⟨3, [(Val.cells v)], 23⟩] (iv 1) (iv (vCheck c v))
    -- leaf 1
    refine Tof.int ?_
    grind [vCheck, vKnown, vPermitted, vCompare, intCmp]
  refine PV.skip (thenA_normal (hK2 _ ?_))
  refine PV.seq_k fun K6 hK6 => ?_
  refine PV.seq_k fun K7 hK7 => ?_
  refine PV.regionN ?_
  refine PON.runs 2 (by kernel_rfl) ?_
  refine PON.fin rfl (thenA_normal (hK7 _ ?_))
  refine PV.condP (v.null = true) v.null (by kernel_rfl) (fun h => h) bool_ff (fun h8 => ?_) (fun h8 => ?_)
  · skip
    refine PV.seq_k fun K9 hK9 => ?_
    refine PV.norm ⟨(.agg (Col.cells c) :: .agg (Val.cells v) :: po 0 :: po 1 :: iv 0 :: U :: .pO 0 0 1 :: iv c.type :: bv (vKnown c.type) :: bv (!(vKnown c.type)) :: po 1 :: bv v.null :: U9 (U9 (U9 (U9 (U9 (U9 (U9 ([U, U, U, U, U, U])))))))), [.live ⟨4, [(Col.cells c)], 47⟩, .live ⟨3, [(Val.cells v)], 23⟩]⟩ (by kernel_rfl) ?_
    refine PV.seqR [0, 1] ⟨(.agg (Col.cells c) :: .agg (Val.cells v) :: po 0 :: po 1 :: iv 0 :: U :: .pO 0 0 1 :: iv c.type :: bv (vKnown c.type) :: bv (!(vKnown c.type)) :: po 1 :: bv v.null :: A4 (A :: A :: A :: bv (decide ((v.n = 0) → (¬(v.s = ByteArray.empty)))) :: U9 (U9 (U9 (U9 (U9 (U9 ([U, U, U, U, U, U, U])))))))), [.live ⟨4, [(Col.cells c)], 47⟩, .live ⟨3, [(Val.cells v)], 23⟩]⟩ ?_ ?_
    · skip
      refine PV.regionN ?_
      refine PON.runs 4 (by kernel_rfl) ?_
      refine PON.norm ⟨(.agg (Col.cells c) :: .agg (Val.cells v) :: po 0 :: po 1 :: iv 0 :: U :: .pO 0 0 1 :: iv c.type :: bv (vKnown c.type) :: bv (!(vKnown c.type)) :: po 1 :: bv v.null :: .pO 1 0 1 :: iv v.n :: bv (!(decide (v.n = 0))) :: bv (!(decide (v.n = 0))) :: U9 (U9 (U9 (U9 (U9 (U9 (U9 ([U, U])))))))), [.live ⟨4, [(Col.cells c)], 47⟩, .live ⟨3, [(Val.cells v)], 23⟩]⟩ (by kernel_rfl) ?_
      refine PON.splitN (v.n = 0) 15 (!(decide (v.n = 0))) (.agg (Col.cells c) :: .agg (Val.cells v) :: po 0 :: po 1 :: iv 0 :: U :: .pO 0 0 1 :: iv c.type :: bv (vKnown c.type) :: bv (!(vKnown c.type)) :: po 1 :: bv v.null :: .pO 1 0 1 :: iv v.n :: bv (!(decide (v.n = 0))) :: bv false :: U9 (U9 (U9 (U9 (U9 (U9 (U9 ([U, U])))))))) (.agg (Col.cells c) :: .agg (Val.cells v) :: po 0 :: po 1 :: iv 0 :: U :: .pO 0 0 1 :: iv c.type :: bv (vKnown c.type) :: bv (!(vKnown c.type)) :: po 1 :: bv v.null :: .pO 1 0 1 :: iv v.n :: bv (!(decide (v.n = 0))) :: bv true :: U9 (U9 (U9 (U9 (U9 (U9 (U9 ([U, U])))))))) (by kernel_rfl) (fun h => bnot_t (decide_eq_true h)) (fun h => bnot_f (decide_eq_false h)) (by kernel_rfl) (by kernel_rfl) (fun h10 => ?_) (fun h10 => ?_)
      · skip
        refine PON.runs 4 (by kernel_rfl) ?_
        refine PON.norm ⟨(.agg (Col.cells c) :: .agg (Val.cells v) :: po 0 :: po 1 :: iv 0 :: U :: .pO 0 0 1 :: iv c.type :: bv (vKnown c.type) :: bv (!(vKnown c.type)) :: po 1 :: bv v.null :: .pO 1 0 1 :: iv v.n :: bv (!(decide (v.n = 0))) :: bv false :: .pO 1 0 2 :: sv v.s :: bv (!(strEq v.s ByteArray.empty)) :: bv (!(strEq v.s ByteArray.empty)) :: U9 (U9 (U9 (U9 (U9 (U9 ([U, U, U, U, U, U, U]))))))), [.live ⟨4, [(Col.cells c)], 47⟩, .live ⟨3, [(Val.cells v)], 23⟩]⟩ (by kernel_rfl) ?_
        refine PON.fin rfl (thenA_normal ?_)
        exact ⟨rfl, rfl, (.cons (.tree (by simp only [NIs_cons, NIs_nil, NIr_cons, NIr_nil, NI_v, NI_any, NI_pO, NI_sO, NI_pF, NI_sF, NI_agg, NI_tup, NI_fn, NIh_nil, NIh_live, NIh_dead, NIh_free, NIr_map, NIr_append, NIs_icells, NIs_scells, NIs_bcells, NIs_Val, NIs_Col, NIs_Schema, NIs_PNode, NIs_Src, NIr_Val, NIr_Col, NIr_ints, NIr_PNode]; try simp)) (.cons (.tree (by simp only [NIs_cons, NIs_nil, NIr_cons, NIr_nil, NI_v, NI_any, NI_pO, NI_sO, NI_pF, NI_sF, NI_agg, NI_tup, NI_fn, NIh_nil, NIh_live, NIh_dead, NIh_free, NIr_map, NIr_append, NIs_icells, NIs_scells, NIs_bcells, NIs_Val, NIs_Col, NIs_Schema, NIs_PNode, NIs_Src, NIr_Val, NIr_Col, NIr_ints, NIr_PNode]; try simp)) (.cons (.pO _ _ rfl) (.cons (.pO _ _ rfl) (.v (.v (.cons (.pO _ _ rfl) (.v (.v (.v (.cons (.pO _ _ rfl) (.v (.a4 (.any (.any (.any (.cons (.eq (.v _) (v_bool (by clear hret hK1 hK2 hK3 hK6 hK7 hK9 K0 K1 K2 K3 K6 K7 K9; (try simp only [strEq_dec]); grind))) (.v (.v (.v (.v (.v (.v (.v (.v (.v (.v (.v (.v (.v (.v (.v (.v (.v (.v (.v (.v (.v (.v (.v (.v (.v (.v (.v (.v (.v (.v (.v (.v (.v (.v (.v (.v (.v (.v (.v (.v (.v (.v (.v (.v (.v (.v (.v (.v (.v (.v (.v (.v (.v (.v (.v (.v (.v (.v (.v (.v (.v .nil)))))))))))))))))))))))))))))))))))))))))))))))))))))))))))))))))))))))))))))), (.cons rfl (.tree (by simp only [NIs_cons, NIs_nil, NIr_cons, NIr_nil, NI_v, NI_any, NI_pO, NI_sO, NI_pF, NI_sF, NI_agg, NI_tup, NI_fn, NIh_nil, NIh_live, NIh_dead, NIh_free, NIr_map, NIr_append, NIs_icells, NIs_scells, NIs_bcells, NIs_Val, NIs_Col, NIs_Schema, NIs_PNode, NIs_Src, NIr_Val, NIr_Col, NIr_ints, NIr_PNode]; try simp)) (.cons rfl (.tree (by simp only [NIs_cons, NIs_nil, NIr_cons, NIr_nil, NI_v, NI_any, NI_pO, NI_sO, NI_pF, NI_sF, NI_agg, NI_tup, NI_fn, NIh_nil, NIh_live, NIh_dead, NIh_free, NIr_map, NIr_append, NIs_icells, NIs_scells, NIs_bcells, NIs_Val, NIs_Col, NIs_Schema, NIs_PNode, NIs_Src, NIr_Val, NIr_Col, NIr_ints, NIr_PNode]; try simp)) .nil))⟩
      refine PON.runs 4 (by kernel_rfl) ?_
      refine PON.norm ⟨(.agg (Col.cells c) :: .agg (Val.cells v) :: po 0 :: po 1 :: iv 0 :: U :: .pO 0 0 1 :: iv c.type :: bv (vKnown c.type) :: bv (!(vKnown c.type)) :: po 1 :: bv v.null :: .pO 1 0 1 :: iv v.n :: bv (!(decide (v.n = 0))) :: bv true :: U :: U :: U :: bv true :: U9 (U9 (U9 (U9 (U9 (U9 ([U, U, U, U, U, U, U]))))))), [.live ⟨4, [(Col.cells c)], 47⟩, .live ⟨3, [(Val.cells v)], 23⟩]⟩ (by kernel_rfl) ?_
      refine PON.fin rfl (thenA_normal ?_)
      exact ⟨rfl, rfl, (.cons (.tree (by simp only [NIs_cons, NIs_nil, NIr_cons, NIr_nil, NI_v, NI_any, NI_pO, NI_sO, NI_pF, NI_sF, NI_agg, NI_tup, NI_fn, NIh_nil, NIh_live, NIh_dead, NIh_free, NIr_map, NIr_append, NIs_icells, NIs_scells, NIs_bcells, NIs_Val, NIs_Col, NIs_Schema, NIs_PNode, NIs_Src, NIr_Val, NIr_Col, NIr_ints, NIr_PNode]; try simp)) (.cons (.tree (by simp only [NIs_cons, NIs_nil, NIr_cons, NIr_nil, NI_v, NI_any, NI_pO, NI_sO, NI_pF, NI_sF, NI_agg, NI_tup, NI_fn, NIh_nil, NIh_live, NIh_dead, NIh_free, NIr_map, NIr_append, NIs_icells, NIs_scells, NIs_bcells, NIs_Val, NIs_Col, NIs_Schema, NIs_PNode, NIs_Src, NIr_Val, NIr_Col, NIr_ints, NIr_PNode]; try simp)) (.cons (.pO _ _ rfl) (.cons (.pO _ _ rfl) (.v (.v (.cons (.pO _ _ rfl) (.v (.v (.v (.cons (.pO _ _ rfl) (.v (.a4 (.any (.any (.any (.cons (.eq (.v _) (v_bool (by clear hret hK1 hK2 hK3 hK6 hK7 hK9 K0 K1 K2 K3 K6 K7 K9; (try simp only [strEq_dec]); grind))) (.v (.v (.v (.v (.v (.v (.v (.v (.v (.v (.v (.v (.v (.v (.v (.v (.v (.v (.v (.v (.v (.v (.v (.v (.v (.v (.v (.v (.v (.v (.v (.v (.v (.v (.v (.v (.v (.v (.v (.v (.v (.v (.v (.v (.v (.v (.v (.v (.v (.v (.v (.v (.v (.v (.v (.v (.v (.v (.v (.v (.v .nil)))))))))))))))))))))))))))))))))))))))))))))))))))))))))))))))))))))))))))))), (.cons rfl (.tree (by simp only [NIs_cons, NIs_nil, NIr_cons, NIr_nil, NI_v, NI_any, NI_pO, NI_sO, NI_pF, NI_sF, NI_agg, NI_tup, NI_fn, NIh_nil, NIh_live, NIh_dead, NIh_free, NIr_map, NIr_append, NIs_icells, NIs_scells, NIs_bcells, NIs_Val, NIs_Col, NIs_Schema, NIs_PNode, NIs_Src, NIr_Val, NIr_Col, NIr_ints, NIr_PNode]; try simp)) (.cons rfl (.tree (by simp only [NIs_cons, NIs_nil, NIr_cons, NIr_nil, NI_v, NI_any, NI_pO, NI_sO, NI_pF, NI_sF, NI_agg, NI_tup, NI_fn, NIh_nil, NIh_live, NIh_dead, NIh_free, NIr_map, NIr_append, NIs_icells, NIs_scells, NIs_bcells, NIs_Val, NIs_Col, NIs_Schema, NIs_PNode, NIs_Src, NIr_Val, NIr_Col, NIr_ints, NIr_PNode]; try simp)) .nil))⟩
    refine PV.condP ((v.n = 0) → (¬(v.s = ByteArray.empty))) (decide ((v.n = 0) → (¬(v.s = ByteArray.empty)))) (by kernel_rfl) decide_eq_true decide_eq_false (fun h11 => ?_) (fun h11 => ?_)
    · skip
      refine PV.seq_k fun K12 hK12 => ?_
      refine PV.regionN ?_
      refine PON.runs 1 (by kernel_rfl) ?_
      refine PON.fin rfl (thenA_normal (hK12 _ ?_))
      refine PV.norm ⟨(.agg (Col.cells c) :: .agg (Val.cells v) :: po 0 :: po 1 :: iv 11 :: U :: .pO 0 0 1 :: iv c.type :: bv (vKnown c.type) :: bv (!(vKnown c.type)) :: po 1 :: bv v.null :: A4 (A :: A :: A :: bv (decide ((v.n = 0) → (¬(v.s = ByteArray.empty)))) :: U9 (U9 (U9 (U9 (U9 (U9 ([U, U, U, U, U, U, U])))))))), [.live ⟨4, [(Col.cells c)], 47⟩, .live ⟨3, [(Val.cells v)], 23⟩]⟩ (by kernel_rfl) ?_
      refine PV.ret (thenA_ret (thenA_ret (hret .ret _ (iv 11) (.inr rfl) (by kernel_rfl) ?_)))
      clear hret hK1 hK2 hK3 hK6 hK7 hK9 hK12 K0 K1 K2 K3 K6 K7 K9 K12
      show Tof noTau [.live ⟨4, [(Col.cells c)], 47⟩, .live ⟨3, [(Val.cells v)], 23⟩] (iv 11) (iv (vCheck c v))
      -- leaf 2
      refine Tof.int ?_
      grind [vCheck, vKnown, vPermitted, vCompare, intCmp]
    refine PV.skip (thenA_normal (hK9 _ ?_))
    refine PV.seq_k fun K13 hK13 => ?_
    refine PV.seq_k fun K14 hK14 => ?_
    refine PV.regionN ?_
    refine PON.runs 3 (by kernel_rfl) ?_
    refine PON.fin rfl (thenA_normal (hK14 _ ?_))
    refine PV.condN (c.nullable = true) (!c.nullable) (by kernel_rfl) (fun h => bnot_t ((fun h => h) h)) (fun h => bnot_f (bool_ff h)) (fun h15 => ?_) (fun h15 => ?_)
    · skip
      refine PV.seq_k fun K16 hK16 => ?_
      refine PV.regionN ?_
      refine PON.runs 1 (by kernel_rfl) ?_
      refine PON.fin rfl (thenA_normal (hK16 _ ?_))
      refine PV.norm ⟨(.agg (Col.cells c) :: .agg (Val.cells v) :: po 0 :: po 1 :: iv 12 :: U :: .pO 0 0 1 :: iv c.type :: bv (vKnown c.type) :: bv (!(vKnown c.type)) :: po 1 :: bv v.null :: A4 (A :: A :: A :: bv (decide ((v.n = 0) → (¬(v.s = ByteArray.empty)))) :: .pO 0 0 3 :: bv c.nullable :: bv (!c.nullable) :: U9 (U9 (U9 (U9 (U9 (U9 ([U, U, U, U])))))))), [.live ⟨4, [(Col.cells c)], 47⟩, .live ⟨3, [(Val.cells v)], 23⟩]⟩ (by kernel_rfl) ?_
      refine PV.ret (thenA_ret (thenA_ret (hret .ret _ (iv 12) (.inr rfl) (by kernel_rfl) ?_)))
      clear hret hK1 hK2 hK3 hK6 hK7 hK9 hK13 hK14 hK16 K0 K1 K2 K3 K6 K7 K9 K13 K14 K16
      show Tof noTau [.live ⟨4, [(Col.cells c)], 47⟩, .live ⟨3, [(Val.cells v)], 23⟩] (iv 12) (iv (vCheck c v))
      -- leaf 3
      refine Tof.int ?_
      grind [vCheck, vKnown, vPermitted, vCompare, intCmp]
    refine PV.skip (thenA_normal (hK13 _ ?_))
    refine PV.seq_k fun K17 hK17 => ?_
    refine PV.regionN ?_
    refine PON.runs 1 (by kernel_rfl) ?_
    refine PON.fin rfl (thenA_normal (hK17 _ ?_))
    refine PV.norm ⟨(.agg (Col.cells c) :: .agg (Val.cells v) :: po 0 :: po 1 :: iv 0 :: U :: .pO 0 0 1 :: iv c.type :: bv (vKnown c.type) :: bv (!(vKnown c.type)) :: po 1 :: bv v.null :: A4 (A :: A :: A :: bv (decide ((v.n = 0) → (¬(v.s = ByteArray.empty)))) :: .pO 0 0 3 :: bv c.nullable :: bv (!c.nullable) :: U9 (U9 (U9 (U9 (U9 (U9 ([U, U, U, U])))))))), [.live ⟨4, [(Col.cells c)], 47⟩, .live ⟨3, [(Val.cells v)], 23⟩]⟩ (by kernel_rfl) ?_
    refine PV.ret (thenA_ret (hret .ret _ (iv 0) (.inr rfl) (by kernel_rfl) ?_))
    clear hret hK1 hK2 hK3 hK6 hK7 hK9 hK13 hK14 hK17 K0 K1 K2 K3 K6 K7 K9 K13 K14 K17
    show Tof noTau [.live ⟨4, [(Col.cells c)], 47⟩, .live ⟨3, [(Val.cells v)], 23⟩] (iv 0) (iv (vCheck c v))
    -- leaf 4
    refine Tof.int ?_
    grind [vCheck, vKnown, vPermitted, vCompare, intCmp]
  refine PV.skip (thenA_normal (hK6 _ ?_))
  refine PV.seq_k fun K18 hK18 => ?_
  refine PV.norm ⟨(.agg (Col.cells c) :: .agg (Val.cells v) :: po 0 :: po 1 :: iv 0 :: U :: .pO 0 0 1 :: iv c.type :: bv (vKnown c.type) :: bv (!(vKnown c.type)) :: po 1 :: bv v.null :: U9 (U9 (U9 (U9 (U9 (U9 (U9 ([U, U, U, U, U, U])))))))), [.live ⟨4, [(Col.cells c)], 47⟩, .live ⟨3, [(Val.cells v)], 23⟩]⟩ (by kernel_rfl) ?_
  refine PV.seqR [0, 1] ⟨(.agg (Col.cells c) :: .agg (Val.cells v) :: po 0 :: po 1 :: iv 0 :: U :: .pO 0 0 1 :: iv c.type :: bv (vKnown c.type) :: bv (!(vKnown c.type)) :: po 1 :: bv v.null :: U9 (U :: U :: A9 (A4 (A4 (bv (decide (((c.type = 3) ∧ ((c.type = 3) ∧ (¬(v.n = 0)))) ∨ (¬(c.type = 3) ∧ ((v.s = ByteArray.empty) → ((c.type = 3) ∧ (¬(v.n = 0))))))) :: U9 (U9 (U9 (U9 ([U, U, U, U]))))))))), [.live ⟨4, [(Col.cells c)], 47⟩, .live ⟨3, [(Val.cells v)], 23⟩]⟩ ?_ ?_
  · skip
    refine PV.regionN ?_
    refine PON.runs 4 (by kernel_rfl) ?_
    refine PON.norm ⟨(.agg (Col.cells c) :: .agg (Val.cells v) :: po 0 :: po 1 :: iv 0 :: U :: .pO 0 0 1 :: iv c.type :: bv (vKnown c.type) :: bv (!(vKnown c.type)) :: po 1 :: bv v.null :: U9 (U :: U :: .pO 0 0 1 :: iv c.type :: bv (!(decide (c.type = 3))) :: bv (!(decide (c.type = 3))) :: U9 (U9 (U9 (U9 (U9 (U9 ([])))))))), [.live ⟨4, [(Col.cells c)], 47⟩, .live ⟨3, [(Val.cells v)], 23⟩]⟩ (by kernel_rfl) ?_
    refine PON.splitN (c.type = 3) 26 (!(decide (c.type = 3))) (.agg (Col.cells c) :: .agg (Val.cells v) :: po 0 :: po 1 :: iv 0 :: U :: .pO 0 0 1 :: iv c.type :: bv (vKnown c.type) :: bv (!(vKnown c.type)) :: po 1 :: bv v.null :: U9 (U :: U :: .pO 0 0 1 :: iv c.type :: bv (!(decide (c.type = 3))) :: bv false :: U9 (U9 (U9 (U9 (U9 (U9 ([])))))))) (.agg (Col.cells c) :: .agg (Val.cells v) :: po 0 :: po 1 :: iv 0 :: U :: .pO 0 0 1 :: iv c.type :: bv (vKnown c.type) :: bv (!(vKnown c.type)) :: po 1 :: bv v.null :: U9 (U :: U :: .pO 0 0 1 :: iv c.type :: bv (!(decide (c.type = 3))) :: bv true :: U9 (U9 (U9 (U9 (U9 (U9 ([])))))))) (by kernel_rfl) (fun h => bnot_t (decide_eq_true h)) (fun h => bnot_f (decide_eq_false h)) (by kernel_rfl) (by kernel_rfl) (fun h19 => ?_) (fun h19 => ?_)
    · skip
      refine PON.runs 9 (by kernel_rfl) ?_
      refine PON.norm ⟨(.agg (Col.cells c) :: .agg (Val.cells v) :: po 0 :: po 1 :: iv 0 :: U :: .pO 0 0 1 :: iv c.type :: bv (vKnown c.type) :: bv (!(vKnown c.type)) :: po 1 :: bv v.null :: U9 (U :: U :: .pO 0 0 1 :: iv c.type :: bv (!(decide (c.type = 3))) :: bv false :: U :: U :: U :: bv false :: bv false :: .pO 0 0 1 :: iv c.type :: bv (decide (c.type = 3)) :: bv (decide (c.type = 3)) :: U9 (U9 (U9 (U9 (U9 ([]))))))), [.live ⟨4, [(Col.cells c)], 47⟩, .live ⟨3, [(Val.cells v)], 23⟩]⟩ (by kernel_rfl) ?_
      refine PON.splitP (c.type = 3) 35 (decide (c.type = 3)) (.agg (Col.cells c) :: .agg (Val.cells v) :: po 0 :: po 1 :: iv 0 :: U :: .pO 0 0 1 :: iv c.type :: bv (vKnown c.type) :: bv (!(vKnown c.type)) :: po 1 :: bv v.null :: U9 (U :: U :: .pO 0 0 1 :: iv c.type :: bv (!(decide (c.type = 3))) :: bv false :: U :: U :: U :: bv false :: bv false :: .pO 0 0 1 :: iv c.type :: bv (decide (c.type = 3)) :: bv true :: U9 (U9 (U9 (U9 (U9 ([]))))))) (.agg (Col.cells c) :: .agg (Val.cells v) :: po 0 :: po 1 :: iv 0 :: U :: .pO 0 0 1 :: iv c.type :: bv (vKnown c.type) :: bv (!(vKnown c.type)) :: po 1 :: bv v.null :: U9 (U :: U :: .pO 0 0 1 :: iv c.type :: bv (!(decide (c.type = 3))) :: bv false :: U :: U :: U :: bv false :: bv false :: .pO 0 0 1 :: iv c.type :: bv (decide (c.type = 3)) :: bv false :: U9 (U9 (U9 (U9 (U9 ([]))))))) (by kernel_rfl) decide_eq_true decide_eq_false (by kernel_rfl) (by kernel_rfl) (fun h20 => ?_) (fun h20 => ?_)
      · skip
        refine PON.runs 5 (by kernel_rfl) ?_
        refine PON.norm ⟨(.agg (Col.cells c) :: .agg (Val.cells v) :: po 0 :: po 1 :: iv 0 :: U :: .pO 0 0 1 :: iv c.type :: bv (vKnown c.type) :: bv (!(vKnown c.type)) :: po 1 :: bv v.null :: U9 (U :: U :: .pO 0 0 1 :: iv c.type :: bv (!(decide (c.type = 3))) :: bv false :: U :: U :: U :: bv false :: bv false :: .pO 0 0 1 :: iv c.type :: bv (decide (c.type = 3)) :: bv true :: .pO 1 0 1 :: iv v.n :: bv (!(decide (v.n = 0))) :: bv (!(decide (v.n = 0))) :: bv (!(decide (v.n = 0))) :: U9 (U9 (U9 (U9 ([U, U, U, U])))))), [.live ⟨4, [(Col.cells c)], 47⟩, .live ⟨3, [(Val.cells v)], 23⟩]⟩ (by kernel_rfl) ?_
        refine PON.fin rfl (thenA_normal ?_)
        exact ⟨rfl, rfl, (.cons (.tree (by simp only [NIs_cons, NIs_nil, NIr_cons, NIr_nil, NI_v, NI_any, NI_pO, NI_sO, NI_pF, NI_sF, NI_agg, NI_tup, NI_fn, NIh_nil, NIh_live, NIh_dead, NIh_free, NIr_map, NIr_append, NIs_icells, NIs_scells, NIs_bcells, NIs_Val, NIs_Col, NIs_Schema, NIs_PNode, NIs_Src, NIr_Val, NIr_Col, NIr_ints, NIr_PNode]; try simp)) (.cons (.tree (by simp only [NIs_cons, NIs_nil, NIr_cons, NIr_nil, NI_v, NI_any, NI_pO, NI_sO, NI_pF, NI_sF, NI_agg, NI_tup, NI_fn, NIh_nil, NIh_live, NIh_dead, NIh_free, NIr_map, NIr_append, NIs_icells, NIs_scells, NIs_bcells, NIs_Val, NIs_Col, NIs_Schema, NIs_PNode, NIs_Src, NIr_Val, NIr_Col, NIr_ints, NIr_PNode]; try simp)) (.cons (.pO _ _ rfl) (.cons (.pO _ _ rfl) (.v (.v (.cons (.pO _ _ rfl) (.v (.v (.v (.cons (.pO _ _ rfl) (.v (.v (.v (.v (.v (.v (.v (.v (.v (.v (.v (.v (.a9 (.a4 (.a4 (.cons (.eq (.v _) (v_bool (by clear hret hK1 hK2 hK3 hK6 hK7 hK18 K0 K1 K2 K3 K6 K7 K18; (try simp only [strEq_dec]); grind))) (.v (.v (.v (.v (.v (.v (.v (.v (.v (.v (.v (.v (.v (.v (.v (.v (.v (.v (.v (.v (.v (.v (.v (.v (.v (.v (.v (.v (.v (.v (.v (.v (.v (.v (.v (.v (.v (.v (.v (.v .nil))))))))))))))))))))))))))))))))))))))))))))))))))))))))))))))))))), (.cons rfl (.tree (by simp only [NIs_cons, NIs_nil, NIr_cons, NIr_nil, NI_v, NI_any, NI_pO, NI_sO, NI_pF, NI_sF, NI_agg, NI_tup, NI_fn, NIh_nil, NIh_live, NIh_dead, NIh_free, NIr_map, NIr_append, NIs_icells, NIs_scells, NIs_bcells, NIs_Val, NIs_Col, NIs_Schema, NIs_PNode, NIs_Src, NIr_Val, NIr_Col, NIr_ints, NIr_PNode]; try simp)) (.cons rfl (.tree (by simp only [NIs_cons, NIs_nil, NIr_cons, NIr_nil, NI_v, NI_any, NI_pO, NI_sO, NI_pF, NI_sF, NI_agg, NI_tup, NI_fn, NIh_nil, NIh_live, NIh_dead, NIh_free, NIr_map, NIr_append, NIs_icells, NIs_scells, NIs_bcells, NIs_Val, NIs_Col, NIs_Schema, NIs_PNode, NIs_Src, NIr_Val, NIr_Col, NIr_ints, NIr_PNode]; try simp)) .nil))⟩
      refine PON.runs 5 (by kernel_rfl) ?_
      refine PON.norm ⟨(.agg (Col.cells c) :: .agg (Val.cells v) :: po 0 :: po 1 :: iv 0 :: U :: .pO 0 0 1 :: iv c.type :: bv (vKnown c.type) :: bv (!(vKnown c.type)) :: po 1 :: bv v.null :: U9 (U :: U :: .pO 0 0 1 :: iv c.type :: bv (!(decide (c.type = 3))) :: bv false :: U :: U :: U :: bv false :: bv false :: .pO 0 0 1 :: iv c.type :: bv (decide (c.type = 3)) :: bv false :: U :: U :: U :: bv false :: bv false :: U9 (U9 (U9 (U9 ([U, U, U, U])))))), [.live ⟨4, [(Col.cells c)], 47⟩, .live ⟨3, [(Val.cells v)], 23⟩]⟩ (by kernel_rfl) ?_
      refine PON.fin rfl (thenA_normal ?_)
      exact ⟨rfl, rfl, (.cons (.tree (by simp only [NIs_cons, NIs_nil, NIr_cons, NIr_nil, NI_v, NI_any, NI_pO, NI_sO, NI_pF, NI_sF, NI_agg, NI_tup, NI_fn, NIh_nil, NIh_live, NIh_dead, NIh_free, NIr_map, NIr_append, NIs_icells, NIs_scells, NIs_bcells, NIs_Val, NIs_Col, NIs_Schema, NIs_PNode, NIs_Src, NIr_Val, NIr_Col, NIr_ints, NIr_PNode]; try simp)) (.cons (.tree (by simp only [NIs_cons, NIs_nil, NIr_cons, NIr_nil, NI_v, NI_any, NI_pO, NI_sO, NI_pF, NI_sF, NI_agg, NI_tup, NI_fn, NIh_nil, NIh_live, NIh_dead, NIh_free, NIr_map, NIr_append, NIs_icells, NIs_scells, NIs_bcells, NIs_Val, NIs_Col, NIs_Schema, NIs_PNode, NIs_Src, NIr_Val, NIr_Col, NIr_ints, NIr_PNode]; try simp)) (.cons (.pO _ _ rfl) (.cons (.pO _ _ rfl) (.v (.v (.cons (.pO _ _ rfl) (.v (.v (.v (.cons (.pO _ _ rfl) (.v (.v (.v (.v (.v (.v (.v (.v (.v (.v (.v (.v (.a9 (.a4 (.a4 (.cons (.eq (.v _) (v_bool (by clear hret hK1 hK2 hK3 hK6 hK7 hK18 K0 K1 K2 K3 K6 K7 K18; (try simp only [strEq_dec]); grind))) (.v (.v (.v (.v (.v (.v (.v (.v (.v (.v (.v (.v (.v (.v (.v (.v (.v (.v (.v (.v (.v (.v (.v (.v (.v (.v (.v (.v (.v (.v (.v (.v (.v (.v (.v (.v (.v (.v (.v (.v .nil))))))))))))))))))))))))))))))))))))))))))))))))))))))))))))))))))), (.cons rfl (.tree (by simp only [NIs_cons, NIs_nil, NIr_cons, NIr_nil, NI_v, NI_any, NI_pO, NI_sO, NI_pF, NI_sF, NI_agg, NI_tup, NI_fn, NIh_nil, NIh_live, NIh_dead, NIh_free, NIr_map, NIr_append, NIs_icells, NIs_scells, NIs_bcells, NIs_Val, NIs_Col, NIs_Schema, NIs_PNode, NIs_Src, NIr_Val, NIr_Col, NIr_ints, NIr_PNode]; try simp)) (.cons rfl (.tree (by simp only [NIs_cons, NIs_nil, NIr_cons, NIr_nil, NI_v, NI_any, NI_pO, NI_sO, NI_pF, NI_sF, NI_agg, NI_tup, NI_fn, NIh_nil, NIh_live, NIh_dead, NIh_free, NIr_map, NIr_append, NIs_icells, NIs_scells, NIs_bcells, NIs_Val, NIs_Col, NIs_Schema, NIs_PNode, NIs_Src, NIr_Val, NIr_Col, NIr_ints, NIr_PNode]; try simp)) .nil))⟩
    refine PON.runs 5 (by kernel_rfl) ?_
    refine PON.norm ⟨(.agg (Col.cells c) :: .agg (Val.cells v) :: po 0 :: po 1 :: iv 0 :: U :: .pO 0 0 1 :: iv c.type :: bv (vKnown c.type) :: bv (!(vKnown c.type)) :: po 1 :: bv v.null :: U9 (U :: U :: .pO 0 0 1 :: iv c.type :: bv (!(decide (c.type = 3))) :: bv true :: .pO 1 0 2 :: sv v.s :: bv (!(strEq v.s ByteArray.empty)) :: bv (!(strEq v.s ByteArray.empty)) :: bv (!(strEq v.s ByteArray.empty)) :: U9 (U9 (U9 (U9 (U9 ([U, U, U, U]))))))), [.live ⟨4, [(Col.cells c)], 47⟩, .live ⟨3, [(Val.cells v)], 23⟩]⟩ (by kernel_rfl) ?_
    refine PON.splitN (v.s = ByteArray.empty) 31 (!(strEq v.s ByteArray.empty)) (.agg (Col.cells c) :: .agg (Val.cells v) :: po 0 :: po 1 :: iv 0 :: U :: .pO 0 0 1 :: iv c.type :: bv (vKnown c.type) :: bv (!(vKnown c.type)) :: po 1 :: bv v.null :: U9 (U :: U :: .pO 0 0 1 :: iv c.type :: bv (!(decide (c.type = 3))) :: bv true :: .pO 1 0 2 :: sv v.s :: bv (!(strEq v.s ByteArray.empty)) :: bv (!(strEq v.s ByteArray.empty)) :: bv false :: U9 (U9 (U9 (U9 (U9 ([U, U, U, U]))))))) (.agg (Col.cells c) :: .agg (Val.cells v) :: po 0 :: po 1 :: iv 0 :: U :: .pO 0 0 1 :: iv c.type :: bv (vKnown c.type) :: bv (!(vKnown c.type)) :: po 1 :: bv v.null :: U9 (U :: U :: .pO 0 0 1 :: iv c.type :: bv (!(decide (c.type = 3))) :: bv true :: .pO 1 0 2 :: sv v.s :: bv (!(strEq v.s ByteArray.empty)) :: bv (!(strEq v.s ByteArray.empty)) :: bv true :: U9 (U9 (U9 (U9 (U9 ([U, U, U, U]))))))) (by kernel_rfl) (fun h => bnot_t (str_tt h)) (fun h => bnot_f (str_ff h)) (by kernel_rfl) (by kernel_rfl) (fun h21 => ?_) (fun h21 => ?_)
    · skip
      refine PON.runs 4 (by kernel_rfl) ?_
      refine PON.norm ⟨(.agg (Col.cells c) :: .agg (Val.cells v) :: po 0 :: po 1 :: iv 0 :: U :: .pO 0 0 1 :: iv c.type :: bv (vKnown c.type) :: bv (!(vKnown c.type)) :: po 1 :: bv v.null :: U9 (U :: U :: .pO 0 0 1 :: iv c.type :: bv (!(decide (c.type = 3))) :: bv true :: .pO 1 0 2 :: sv v.s :: bv (!(strEq v.s ByteArray.empty)) :: bv (!(strEq v.s ByteArray.empty)) :: bv false :: .pO 0 0 1 :: iv c.type :: bv (decide (c.type = 3)) :: bv (decide (c.type = 3)) :: U9 (U9 (U9 (U9 (U9 ([]))))))), [.live ⟨4, [(Col.cells c)], 47⟩, .live ⟨3, [(Val.cells v)], 23⟩]⟩ (by kernel_rfl) ?_
      refine PON.splitP (c.type = 3) 35 (decide (c.type = 3)) (.agg (Col.cells c) :: .agg (Val.cells v) :: po 0 :: po 1 :: iv 0 :: U :: .pO 0 0 1 :: iv c.type :: bv (vKnown c.type) :: bv (!(vKnown c.type)) :: po 1 :: bv v.null :: U9 (U :: U :: .pO 0 0 1 :: iv c.type :: bv (!(decide (c.type = 3))) :: bv true :: .pO 1 0 2 :: sv v.s :: bv (!(strEq v.s ByteArray.empty)) :: bv (!(strEq v.s ByteArray.empty)) :: bv false :: .pO 0 0 1 :: iv c.type :: bv (decide (c.type = 3)) :: bv true :: U9 (U9 (U9 (U9 (U9 ([]))))))) (.agg (Col.cells c) :: .agg (Val.cells v) :: po 0 :: po 1 :: iv 0 :: U :: .pO 0 0 1 :: iv c.type :: bv (vKnown c.type) :: bv (!(vKnown c.type)) :: po 1 :: bv v.null :: U9 (U :: U :: .pO 0 0 1 :: iv c.type :: bv (!(decide (c.type = 3))) :: bv true :: .pO 1 0 2 :: sv v.s :: bv (!(strEq v.s ByteArray.empty)) :: bv (!(strEq v.s ByteArray.empty)) :: bv false :: .pO 0 0 1 :: iv c.type :: bv (decide (c.type = 3)) :: bv false :: U9 (U9 (U9 (U9 (U9 ([]))))))) (by kernel_rfl) decide_eq_true decide_eq_false (by kernel_rfl) (by kernel_rfl) (fun h22 => ?_) (fun h22 => ?_)
      · skip
        refine PON.runs 5 (by kernel_rfl) ?_
        refine PON.norm ⟨(.agg (Col.cells c) :: .agg (Val.cells v) :: po 0 :: po 1 :: iv 0 :: U :: .pO 0 0 1 :: iv c.type :: bv (vKnown c.type) :: bv (!(vKnown c.type)) :: po 1 :: bv v.null :: U9 (U :: U :: .pO 0 0 1 :: iv c.type :: bv (!(decide (c.type = 3))) :: bv true :: .pO 1 0 2 :: sv v.s :: bv (!(strEq v.s ByteArray.empty)) :: bv (!(strEq v.s ByteArray.empty)) :: bv false :: .pO 0 0 1 :: iv c.type :: bv (decide (c.type = 3)) :: bv true :: .pO 1 0 1 :: iv v.n :: bv (!(decide (v.n = 0))) :: bv (!(decide (v.n = 0))) :: bv (!(decide (v.n = 0))) :: U9 (U9 (U9 (U9 ([U, U, U, U])))))), [.live ⟨4, [(Col.cells c)], 47⟩, .live ⟨3, [(Val.cells v)], 23⟩]⟩ (by kernel_rfl) ?_
        refine PON.fin rfl (thenA_normal ?_)
        exact ⟨rfl, rfl, (.cons (.tree (by simp only [NIs_cons, NIs_nil, NIr_cons, NIr_nil, NI_v, NI_any, NI_pO, NI_sO, NI_pF, NI_sF, NI_agg, NI_tup, NI_fn, NIh_nil, NIh_live, NIh_dead, NIh_free, NIr_map, NIr_append, NIs_icells, NIs_scells, NIs_bcells, NIs_Val, NIs_Col, NIs_Schema, NIs_PNode, NIs_Src, NIr_Val, NIr_Col, NIr_ints, NIr_PNode]; try simp)) (.cons (.tree (by simp only [NIs_cons, NIs_nil, NIr_cons, NIr_nil, NI_v, NI_any, NI_pO, NI_sO, NI_pF, NI_sF, NI_agg, NI_tup, NI_fn, NIh_nil, NIh_live, NIh_dead, NIh_free, NIr_map, NIr_append, NIs_icells, NIs_scells, NIs_bcells, NIs_Val, NIs_Col, NIs_Schema, NIs_PNode, NIs_Src, NIr_Val, NIr_Col, NIr_ints, NIr_PNode]; try simp)) (.cons (.pO _ _ rfl) (.cons (.pO _ _ rfl) (.v (.v (.cons (.pO _ _ rfl) (.v (.v (.v (.cons (.pO _ _ rfl) (.v (.v (.v (.v (.v (.v (.v (.v (.v (.v (.v (.v (.a9 (.a4 (.a4 (.cons (.eq (.v _) (v_bool (by clear hret hK1 hK2 hK3 hK6 hK7 hK18 K0 K1 K2 K3 K6 K7 K18; (try simp only [strEq_dec]); grind))) (.v (.v (.v (.v (.v (.v (.v (.v (.v (.v (.v (.v (.v (.v (.v (.v (.v (.v (.v (.v (.v (.v (.v (.v (.v (.v (.v (.v (.v (.v (.v (.v (.v (.v (.v (.v (.v (.v (.v (.v .nil))))))))))))))))))))))))))))))))))))))))))))))))))))))))))))))))))), (.cons rfl (.tree (by simp only [NIs_cons, NIs_nil, NIr_cons, NIr_nil, NI_v, NI_any, NI_pO, NI_sO, NI_pF, NI_sF, NI_agg, NI_tup, NI_fn, NIh_nil, NIh_live, NIh_dead, NIh_free, NIr_map, NIr_append, NIs_icells, NIs_scells, NIs_bcells, NIs_Val, NIs_Col, NIs_Schema, NIs_PNode, NIs_Src, NIr_Val, NIr_Col, NIr_ints, NIr_PNode]; try simp)) (.cons rfl (.tree (by simp only [NIs_cons, NIs_nil, NIr_cons, NIr_nil, NI_v, NI_any, NI_pO, NI_sO, NI_pF, NI_sF, NI_agg, NI_tup, NI_fn, NIh_nil, NIh_live, NIh_dead, NIh_free, NIr_map, NIr_append, NIs_icells, NIs_scells, NIs_bcells, NIs_Val, NIs_Col, NIs_Schema, NIs_PNode, NIs_Src, NIr_Val, NIr_Col, NIr_ints, NIr_PNode]; try simp)) .nil))⟩
      refine PON.runs 5 (by kernel_rfl) ?_
      refine PON.norm ⟨(.agg (Col.cells c) :: .agg (Val.cells v) :: po 0 :: po 1 :: iv 0 :: U :: .pO 0 0 1 :: iv c.type :: bv (vKnown c.type) :: bv (!(vKnown c.type)) :: po 1 :: bv v.null :: U9 (U :: U :: .pO 0 0 1 :: iv c.type :: bv (!(decide (c.type = 3))) :: bv true :: .pO 1 0 2 :: sv v.s :: bv (!(strEq v.s ByteArray.empty)) :: bv (!(strEq v.s ByteArray.empty)) :: bv false :: .pO 0 0 1 :: iv c.type :: bv (decide (c.type = 3)) :: bv false :: U :: U :: U :: bv false :: bv false :: U9 (U9 (U9 (U9 ([U, U, U, U])))))), [.live ⟨4, [(Col.cells c)], 47⟩, .live ⟨3, [(Val.cells v)], 23⟩]⟩ (by kernel_rfl) ?_
      refine PON.fin rfl (thenA_normal ?_)
      exact ⟨rfl, rfl, (.cons (.tree (by simp only [NIs_cons, NIs_nil, NIr_cons, NIr_nil, NI_v, NI_any, NI_pO, NI_sO, NI_pF, NI_sF, NI_agg, NI_tup, NI_fn, NIh_nil, NIh_live, NIh_dead, NIh_free, NIr_map, NIr_append, NIs_icells, NIs_scells, NIs_bcells, NIs_Val, NIs_Col, NIs_Schema, NIs_PNode, NIs_Src, NIr_Val, NIr_Col, NIr_ints, NIr_PNode]; try simp)) (.cons (.tree (by simp only [NIs_cons, NIs_nil, NIr_cons, NIr_nil, NI_v, NI_any, NI_pO, NI_sO, NI_pF, NI_sF, NI_agg, NI_tup, NI_fn, NIh_nil, NIh_live, NIh_dead, NIh_free, NIr_map, NIr_append, NIs_icells, NIs_scells, NIs_bcells, NIs_Val, NIs_Col, NIs_Schema, NIs_PNode, NIs_Src, NIr_Val, NIr_Col, NIr_ints, NIr_PNode]; try simp)) (.cons (.pO _ _ rfl) (.cons (.pO _ _ rfl) (.v (.v (.cons (.pO _ _ rfl) (.v (.v (.v (.cons (.pO _ _ rfl) (.v (.v (.v (.v (.v (.v (.v (.v (.v (.v (.v (.v (.a9 (.a4 (.a4 (.cons (.eq (.v _) (v_bool (by clear hret hK1 hK2 hK3 hK6 hK7 hK18 K0 K1 K2 K3 K6 K7 K18; (try simp only [strEq_dec]); grind))) (.v (.v (.v (.v (.v (.v (.v (.v (.v (.v (.v (.v (.v (.v (.v (.v (.v (.v (.v (.v (.v (.v (.v (.v (.v (.v (.v (.v (.v (.v (.v (.v (.v (.v (.v (.v (.v (.v (.v (.v .nil))))))))))))))))))))))))))))))))))))))))))))))))))))))))))))))))))), (.cons rfl (.tree (by simp only [NIs_cons, NIs_nil, NIr_cons, NIr_nil, NI_v, NI_any, NI_pO, NI_sO, NI_pF, NI_sF, NI_agg, NI_tup, NI_fn, NIh_nil, NIh_live, NIh_dead, NIh_free, NIr_map, NIr_append, NIs_icells, NIs_scells, NIs_bcells, NIs_Val, NIs_Col, NIs_Schema, NIs_PNode, NIs_Src, NIr_Val, NIr_Col, NIr_ints, NIr_PNode]; try simp)) (.cons rfl (.tree (by simp only [NIs_cons, NIs_nil, NIr_cons, NIr_nil, NI_v, NI_any, NI_pO, NI_sO, NI_pF, NI_sF, NI_agg, NI_tup, NI_fn, NIh_nil, NIh_live, NIh_dead, NIh_free, NIr_map, NIr_append, NIs_icells, NIs_scells, NIs_bcells, NIs_Val, NIs_Col, NIs_Schema, NIs_PNode, NIs_Src, NIr_Val, NIr_Col, NIr_ints, NIr_PNode]; try simp)) .nil))⟩
    refine PON.runs 9 (by kernel_rfl) ?_
    refine PON.norm ⟨(.agg (Col.cells c) :: .agg (Val.cells v) :: po 0 :: po 1 :: iv 0 :: U :: .pO 0 0 1 :: iv c.type :: bv (vKnown c.type) :: bv (!(vKnown c.type)) :: po 1 :: bv v.null :: U9 (U :: U :: .pO 0 0 1 :: iv c.type :: bv (!(decide (c.type = 3))) :: bv true :: .pO 1 0 2 :: sv v.s :: bv (!(strEq v.s ByteArray.empty)) :: bv (!(strEq v.s ByteArray.empty)) :: bv true :: U :: U :: U :: U :: U :: U :: U :: U :: bv true :: U9 (U9 (U9 (U9 ([U, U, U, U])))))), [.live ⟨4, [(Col.cells c)], 47⟩, .live ⟨3, [(Val.cells v)], 23⟩]⟩ (by kernel_rfl) ?_
    refine PON.fin rfl (thenA_normal ?_)
    exact ⟨rfl, rfl, (.cons (.tree (by simp only [NIs_cons, NIs_nil, NIr_cons, NIr_nil, NI_v, NI_any, NI_pO, NI_sO, NI_pF, NI_sF, NI_agg, NI_tup, NI_fn, NIh_nil, NIh_live, NIh_dead, NIh_free, NIr_map, NIr_append, NIs_icells, NIs_scells, NIs_bcells, NIs_Val, NIs_Col, NIs_Schema, NIs_PNode, NIs_Src, NIr_Val, NIr_Col, NIr_ints, NIr_PNode]; try simp)) (.cons (.tree (by simp only [NIs_cons, NIs_nil, NIr_cons, NIr_nil, NI_v, NI_any, NI_pO, NI_sO, NI_pF, NI_sF, NI_agg, NI_tup, NI_fn, NIh_nil, NIh_live, NIh_dead, NIh_free, NIr_map, NIr_append, NIs_icells, NIs_scells, NIs_bcells, NIs_Val, NIs_Col, NIs_Schema, NIs_PNode, NIs_Src, NIr_Val, NIr_Col, NIr_ints, NIr_PNode]; try simp)) (.cons (.pO _ _ rfl) (.cons (.pO _ _ rfl) (.v (.v (.cons (.pO _ _ rfl) (.v (.v (.v (.cons (.pO _ _ rfl) (.v (.v (.v (.v (.v (.v (.v (.v (.v (.v (.v (.v (.a9 (.a4 (.a4 (.cons (.eq (.v _) (v_bool (by clear hret hK1 hK2 hK3 hK6 hK7 hK18 K0 K1 K2 K3 K6 K7 K18; (try simp only [strEq_dec]); grind))) (.v (.v (.v (.v (.v (.v (.v (.v (.v (.v (.v (.v (.v (.v (.v (.v (.v (.v (.v (.v (.v (.v (.v (.v (.v (.v (.v (.v (.v (.v (.v (.v (.v (.v (.v (.v (.v (.v (.v (.v .nil))))))))))))))))))))))))))))))))))))))))))))))))))))))))))))))))))), (.cons rfl (.tree (by simp only [NIs_cons, NIs_nil, NIr_cons, NIr_nil, NI_v, NI_any, NI_pO, NI_sO, NI_pF, NI_sF, NI_agg, NI_tup, NI_fn, NIh_nil, NIh_live, NIh_dead, NIh_free, NIr_map, NIr_append, NIs_icells, NIs_scells, NIs_bcells, NIs_Val, NIs_Col, NIs_Schema, NIs_PNode, NIs_Src, NIr_Val, NIr_Col, NIr_ints, NIr_PNode]; try simp)) (.cons rfl (.tree (by simp only [NIs_cons, NIs_nil, NIr_cons, NIr_nil, NI_v, NI_any, NI_pO, NI_sO, NI_pF, NI_sF, NI_agg, NI_tup, NI_fn, NIh_nil, NIh_live, NIh_dead, NIh_free, NIr_map, NIr_append, NIs_icells, NIs_scells, NIs_bcells, NIs_Val, NIs_Col, NIs_Schema, NIs_PNode, NIs_Src, NIr_Val, NIr_Col, NIr_ints, NIr_PNode]; try simp)) .nil))⟩
  refine PV.condP (((c.type = 3) ∧ ((c.type = 3) ∧ (¬(v.n = 0)))) ∨ (¬(c.type = 3) ∧ ((v.s = ByteArray.empty) → ((c.type = 3) ∧ (¬(v.n = 0)))))) (decide (((c.type = 3) ∧ ((c.type = 3) ∧ (¬(v.n = 0)))) ∨ (¬(c.type = 3) ∧ ((v.s = ByteArray.empty) → ((c.type = 3) ∧ (¬(v.n = 0))))))) (by kernel_rfl) decide_eq_true decide_eq_false (fun h23 => ?_) (fun h23 => ?_)
  · skip
    refine PV.seq_k fun K24 hK24 => ?_
    refine PV.regionN ?_
    refine PON.runs 1 (by kernel_rfl) ?_
    refine PON.fin rfl (thenA_normal (hK24 _ ?_))
    refine PV.norm ⟨(.agg (Col.cells c) :: .agg (Val.cells v) :: po 0 :: po 1 :: iv 11 :: U :: .pO 0 0 1 :: iv c.type :: bv (vKnown c.type) :: bv (!(vKnown c.type)) :: po 1 :: bv v.null :: U9 (U :: U :: A9 (A4 (A4 (bv (decide (((c.type = 3) ∧ ((c.type = 3) ∧ (¬(v.n = 0)))) ∨ (¬(c.type = 3) ∧ ((v.s = ByteArray.empty) → ((c.type = 3) ∧ (¬(v.n = 0))))))) :: U9 (U9 (U9 (U9 ([U, U, U, U]))))))))), [.live ⟨4, [(Col.cells c)], 47⟩, .live ⟨3, [(Val.cells v)], 23⟩]⟩ (by kernel_rfl) ?_
    refine PV.ret (thenA_ret (hret .ret _ (iv 11) (.inr rfl) (by kernel_rfl) ?_))
    clear hret hK1 hK2 hK3 hK6 hK7 hK18 hK24 K0 K1 K2 K3 K6 K7 K18 K24
    show Tof noTau [.live ⟨4, [(Col.cells c)], 47⟩, .live ⟨3, [(Val.cells v)], 23⟩] (iv 11) (iv (vCheck c v))
    -- leaf 5
    refine Tof.int ?_
    grind [vCheck, vKnown, vPermitted, vCompare, intCmp]
  refine PV.skip (thenA_normal (hK18 _ ?_))
  refine PV.seq_k fun K25 hK25 => ?_
  refine PV.regionN ?_
  refine PON.runs 1 (by kernel_rfl) ?_
  refine PON.fin rfl (thenA_normal (hK25 _ ?_))
  refine PV.seq_k fun K26 hK26 => ?_
  refine PV.seq_k fun K27 hK27 => ?_
  refine PV.regionN ?_
  refine PON.runs 2 (by kernel_rfl) ?_
  refine PON.fin rfl (thenA_normal (hK27 _ ?_))
  refine PV.block ?_
  refine PV.seq_k fun K28 hK28 => ?_
  refine PV.regionN ?_
  refine PON.runs 2 (by kernel_rfl) ?_
  refine PON.fin rfl (thenA_normal (hK28 _ ?_))
  refine PV.condP (c.type = 2) (decide (c.type = 2)) (by kernel_rfl) decide_eq_true decide_eq_false (fun h29 => ?_) (fun h29 => ?_)
  · skip
    refine PV.regionN ?_
    refine PON.runs 4 (by kernel_rfl) ?_
    refine PON.norm ⟨(.agg (Col.cells c) :: .agg (Val.cells v) :: po 0 :: po 1 :: iv 0 :: bv true :: .pO 0 0 1 :: iv c.type :: bv (vKnown c.type) :: bv (!(vKnown c.type)) :: po 1 :: bv v.null :: U9 (U :: U :: A9 (A4 (A4 (bv (decide (((c.type = 3) ∧ ((c.type = 3) ∧ (¬(v.n = 0)))) ∨ (¬(c.type = 3) ∧ ((v.s = ByteArray.empty) → ((c.type = 3) ∧ (¬(v.n = 0))))))) :: .pO 0 0 1 :: iv c.type :: bv (decide (c.type = 2)) :: bv (decide (c.type = 2)) :: .pO 1 0 1 :: iv v.n :: bv (decide (v.n = 0)) :: bv (decide (v.n = 0)) :: U9 (U9 (U9 ([U, U, U, U, U])))))))), [.live ⟨4, [(Col.cells c)], 47⟩, .live ⟨3, [(Val.cells v)], 23⟩]⟩ (by kernel_rfl) ?_
    refine PON.splitP (v.n = 0) 48 (decide (v.n = 0)) (.agg (Col.cells c) :: .agg (Val.cells v) :: po 0 :: po 1 :: iv 0 :: bv true :: .pO 0 0 1 :: iv c.type :: bv (vKnown c.type) :: bv (!(vKnown c.type)) :: po 1 :: bv v.null :: U9 (U :: U :: A9 (A4 (A4 (bv (decide (((c.type = 3) ∧ ((c.type = 3) ∧ (¬(v.n = 0)))) ∨ (¬(c.type = 3) ∧ ((v.s = ByteArray.empty) → ((c.type = 3) ∧ (¬(v.n = 0))))))) :: .pO 0 0 1 :: iv c.type :: bv (decide (c.type = 2)) :: bv (decide (c.type = 2)) :: .pO 1 0 1 :: iv v.n :: bv (decide (v.n = 0)) :: bv true :: U9 (U9 (U9 ([U, U, U, U, U])))))))) (.agg (Col.cells c) :: .agg (Val.cells v) :: po 0 :: po 1 :: iv 0 :: bv true :: .pO 0 0 1 :: iv c.type :: bv (vKnown c.type) :: bv (!(vKnown c.type)) :: po 1 :: bv v.null :: U9 (U :: U :: A9 (A4 (A4 (bv (decide (((c.type = 3) ∧ ((c.type = 3) ∧ (¬(v.n = 0)))) ∨ (¬(c.type = 3) ∧ ((v.s = ByteArray.empty) → ((c.type = 3) ∧ (¬(v.n = 0))))))) :: .pO 0 0 1 :: iv c.type :: bv (decide (c.type = 2)) :: bv (decide (c.type = 2)) :: .pO 1 0 1 :: iv v.n :: bv (decide (v.n = 0)) :: bv false :: U9 (U9 (U9 ([U, U, U, U, U])))))))) (by kernel_rfl) decide_eq_true decide_eq_false (by kernel_rfl) (by kernel_rfl) (fun h30 => ?_) (fun h30 => ?_)
    · skip
      refine PON.runs 5 (by kernel_rfl) ?_
      refine PON.norm ⟨(.agg (Col.cells c) :: .agg (Val.cells v) :: po 0 :: po 1 :: iv 0 :: bv true :: .pO 0 0 1 :: iv c.type :: bv (vKnown c.type) :: bv (!(vKnown c.type)) :: po 1 :: bv v.null :: U9 (U :: U :: A9 (A4 (A4 (bv (decide (((c.type = 3) ∧ ((c.type = 3) ∧ (¬(v.n = 0)))) ∨ (¬(c.type = 3) ∧ ((v.s = ByteArray.empty) → ((c.type = 3) ∧ (¬(v.n = 0))))))) :: .pO 0 0 1 :: iv c.type :: bv (decide (c.type = 2)) :: bv (decide (c.type = 2)) :: .pO 1 0 1 :: iv v.n :: bv (decide (v.n = 0)) :: bv true :: U :: U :: U :: bv true :: U9 (U9 (U9 ([U])))))))), [.live ⟨4, [(Col.cells c)], 47⟩, .live ⟨3, [(Val.cells v)], 23⟩]⟩ (by kernel_rfl) ?_
      refine PON.fin rfl (inBlockA_normal (thenA_normal (hK26 _ ?_)))
      refine PV.seq_k fun K31 hK31 => ?_
      refine PV.seq_k fun K32 hK32 => ?_
      refine PV.regionN ?_
      refine PON.runs 2 (by kernel_rfl) ?_
      refine PON.fin rfl (thenA_normal (hK32 _ ?_))
      refine PV.cond_false (by kernel_rfl) ?_
      refine PV.skip (thenA_normal (hK31 _ ?_))
      refine PV.seq_k fun K33 hK33 => ?_
      refine PV.regionN ?_
      refine PON.runs 1 (by kernel_rfl) ?_
      refine PON.fin rfl (thenA_normal (hK33 _ ?_))
      refine PV.norm ⟨(.agg (Col.cells c) :: .agg (Val.cells v) :: po 0 :: po 1 :: iv 0 :: bv true :: .pO 0 0 1 :: iv c.type :: bv (vKnown c.type) :: bv (!(vKnown c.type)) :: po 1 :: bv v.null :: U9 (U :: U :: A9 (A4 (A4 (bv (decide (((c.type = 3) ∧ ((c.type = 3) ∧ (¬(v.n = 0)))) ∨ (¬(c.type = 3) ∧ ((v.s = ByteArray.empty) → ((c.type = 3) ∧ (¬(v.n = 0))))))) :: .pO 0 0 1 :: iv c.type :: bv (decide (c.type = 2)) :: bv (decide (c.type = 2)) :: .pO 1 0 1 :: iv v.n :: bv (decide (v.n = 0)) :: bv true :: U :: U :: U :: bv true :: U9 (U9 ([U, U, U, U, U, U, U, U, bv true, bv false]))))))), [.live ⟨4, [(Col.cells c)], 47⟩, .live ⟨3, [(Val.cells v)], 23⟩]⟩ (by kernel_rfl) ?_
      refine PV.ret (hret .ret _ (iv 0) (.inr rfl) (by kernel_rfl) ?_)
      clear hret hK1 hK2 hK3 hK6 hK7 hK18 hK25 hK26 hK27 hK28 hK31 hK32 hK33 K0 K1 K2 K3 K6 K7 K18 K25 K26 K27 K28 K31 K32 K33
      show Tof noTau [.live ⟨4, [(Col.cells c)], 47⟩, .live ⟨3, [(Val.cells v)], 23⟩] (iv 0) (iv (vCheck c v))
      -- leaf 6
      refine Tof.int ?_
      grind [vCheck, vKnown, vPermitted, vCompare, intCmp]
    refine PON.runs 5 (by kernel_rfl) ?_
    refine PON.norm ⟨(.agg (Col.cells c) :: .agg (Val.cells v) :: po 0 :: po 1 :: iv 0 :: bv (decide (v.n = 1)) :: .pO 0 0 1 :: iv c.type :: bv (vKnown c.type) :: bv (!(vKnown c.type)) :: po 1 :: bv v.null :: U9 (U :: U :: A9 (A4 (A4 (bv (decide (((c.type = 3) ∧ ((c.type = 3) ∧ (¬(v.n = 0)))) ∨ (¬(c.type = 3) ∧ ((v.s = ByteArray.empty) → ((c.type = 3) ∧ (¬(v.n = 0))))))) :: .pO 0 0 1 :: iv c.type :: bv (decide (c.type = 2)) :: bv (decide (c.type = 2)) :: .pO 1 0 1 :: iv v.n :: bv (decide (v.n = 0)) :: bv false :: .pO 1 0 1 :: iv v.n :: bv (decide (v.n = 1)) :: bv (decide (v.n = 1)) :: U9 (U9 (U9 ([U])))))))), [.live ⟨4, [(Col.cells c)], 47⟩, .live ⟨3, [(Val.cells v)], 23⟩]⟩ (by kernel_rfl) ?_
    refine PON.fin rfl (inBlockA_normal (thenA_normal (hK26 _ ?_)))
    refine PV.seq_k fun K34 hK34 => ?_
    refine PV.seq_k fun K35 hK35 => ?_
    refine PV.regionN ?_
    refine PON.runs 2 (by kernel_rfl) ?_
    refine PON.fin rfl (thenA_normal (hK35 _ ?_))
    refine PV.condN (v.n = 1) (!(decide (v.n = 1))) (by kernel_rfl) (fun h => bnot_t (decide_eq_true h)) (fun h => bnot_f (decide_eq_false h)) (fun h36 => ?_) (fun h36 => ?_)
    · skip
      refine PV.seq_k fun K37 hK37 => ?_
      refine PV.regionN ?_
      refine PON.runs 1 (by kernel_rfl) ?_
      refine PON.fin rfl (thenA_normal (hK37 _ ?_))
      refine PV.norm ⟨(.agg (Col.cells c) :: .agg (Val.cells v) :: po 0 :: po 1 :: iv 4 :: bv (decide (v.n = 1)) :: .pO 0 0 1 :: iv c.type :: bv (vKnown c.type) :: bv (!(vKnown c.type)) :: po 1 :: bv v.null :: U9 (U :: U :: A9 (A4 (A4 (bv (decide (((c.type = 3) ∧ ((c.type = 3) ∧ (¬(v.n = 0)))) ∨ (¬(c.type = 3) ∧ ((v.s = ByteArray.empty) → ((c.type = 3) ∧ (¬(v.n = 0))))))) :: .pO 0 0 1 :: iv c.type :: bv (decide (c.type = 2)) :: bv (decide (c.type = 2)) :: .pO 1 0 1 :: iv v.n :: bv (decide (v.n = 0)) :: bv false :: .pO 1 0 1 :: iv v.n :: bv (decide (v.n = 1)) :: bv (decide (v.n = 1)) :: U9 (U9 ([U, U, U, U, U, U, U, U, bv (decide (v.n = 1)), bv (!(decide (v.n = 1)))]))))))), [.live ⟨4, [(Col.cells c)], 47⟩, .live ⟨3, [(Val.cells v)], 23⟩]⟩ (by kernel_rfl) ?_
      refine PV.ret (thenA_ret (hret .ret _ (iv 4) (.inr rfl) (by kernel_rfl) ?_))
      clear hret hK1 hK2 hK3 hK6 hK7 hK18 hK25 hK26 hK27 hK28 hK34 hK35 hK37 K0 K1 K2 K3 K6 K7 K18 K25 K26 K27 K28 K34 K35 K37
      show Tof noTau [.live ⟨4, [(Col.cells c)], 47⟩, .live ⟨3, [(Val.cells v)], 23⟩] (iv 4) (iv (vCheck c v))
      -- leaf 7
      refine Tof.int ?_
      grind [vCheck, vKnown, vPermitted, vCompare, intCmp]
    refine PV.skip (thenA_normal (hK34 _ ?_))
    refine PV.seq_k fun K38 hK38 => ?_
    refine PV.regionN ?_
    refine PON.runs 1 (by kernel_rfl) ?_
    refine PON.fin rfl (thenA_normal (hK38 _ ?_))
    refine PV.norm ⟨(.agg (Col.cells c) :: .agg (Val.cells v) :: po 0 :: po 1 :: iv 0 :: bv (decide (v.n = 1)) :: .pO 0 0 1 :: iv c.type :: bv (vKnown c.type) :: bv (!(vKnown c.type)) :: po 1 :: bv v.null :: U9 (U :: U :: A9 (A4 (A4 (bv (decide (((c.type = 3) ∧ ((c.type = 3) ∧ (¬(v.n = 0)))) ∨ (¬(c.type = 3) ∧ ((v.s = ByteArray.empty) → ((c.type = 3) ∧ (¬(v.n = 0))))))) :: .pO 0 0 1 :: iv c.type :: bv (decide (c.type = 2)) :: bv (decide (c.type = 2)) :: .pO 1 0 1 :: iv v.n :: bv (decide (v.n = 0)) :: bv false :: .pO 1 0 1 :: iv v.n :: bv (decide (v.n = 1)) :: bv (decide (v.n = 1)) :: U9 (U9 ([U, U, U, U, U, U, U, U, bv (decide (v.n = 1)), bv (!(decide (v.n = 1)))]))))))), [.live ⟨4, [(Col.cells c)], 47⟩, .live ⟨3, [(Val.cells v)], 23⟩]⟩ (by kernel_rfl) ?_
    refine PV.ret (hret .ret _ (iv 0) (.inr rfl) (by kernel_rfl) ?_)
    clear hret hK1 hK2 hK3 hK6 hK7 hK18 hK25 hK26 hK27 hK28 hK34 hK35 hK38 K0 K1 K2 K3 K6 K7 K18 K25 K26 K27 K28 K34 K35 K38
    show Tof noTau [.live ⟨4, [(Col.cells c)], 47⟩, .live ⟨3, [(Val.cells v)], 23⟩] (iv 0) (iv (vCheck c v))
    -- leaf 8
    refine Tof.int ?_
    grind [vCheck, vKnown, vPermitted, vCompare, intCmp]
  refine PV.seq_k fun K39 hK39 => ?_
  refine PV.regionN ?_
  refine PON.runs 2 (by kernel_rfl) ?_
  refine PON.fin rfl (thenA_normal (hK39 _ ?_))
  refine PV.condP (c.type = 4) (decide (c.type = 4)) (by kernel_rfl) decide_eq_true decide_eq_false (fun h40 => ?_) (fun h40 => ?_)
  · skip
    refine PV.regionN ?_
    refine PON.runs 4 (by kernel_rfl) ?_
    refine PON.norm ⟨(.agg (Col.cells c) :: .agg (Val.cells v) :: po 0 :: po 1 :: iv 0 :: bv true :: .pO 0 0 1 :: iv c.type :: bv (vKnown c.type) :: bv (!(vKnown c.type)) :: po 1 :: bv v.null :: U9 (U :: U :: A9 (A4 (A4 (bv (decide (((c.type = 3) ∧ ((c.type = 3) ∧ (¬(v.n = 0)))) ∨ (¬(c.type = 3) ∧ ((v.s = ByteArray.empty) → ((c.type = 3) ∧ (¬(v.n = 0))))))) :: .pO 0 0 1 :: iv c.type :: bv (decide (c.type = 2)) :: bv (decide (c.type = 2)) :: U :: U :: U :: U :: U :: U :: U :: U :: bv (decide (c.type = 4)) :: bv (decide (c.type = 4)) :: .pO 1 0 1 :: iv v.n :: bv (decide (v.n ≥ (-719162))) :: bv (decide (v.n ≥ (-719162))) :: U9 (U9 ([U, U, U, U]))))))), [.live ⟨4, [(Col.cells c)], 47⟩, .live ⟨3, [(Val.cells v)], 23⟩]⟩ (by kernel_rfl) ?_
    refine PON.splitP (v.n ≥ (-719162)) 58 (decide (v.n ≥ (-719162))) (.agg (Col.cells c) :: .agg (Val.cells v) :: po 0 :: po 1 :: iv 0 :: bv true :: .pO 0 0 1 :: iv c.type :: bv (vKnown c.type) :: bv (!(vKnown c.type)) :: po 1 :: bv v.null :: U9 (U :: U :: A9 (A4 (A4 (bv (decide (((c.type = 3) ∧ ((c.type = 3) ∧ (¬(v.n = 0)))) ∨ (¬(c.type = 3) ∧ ((v.s = ByteArray.empty) → ((c.type = 3) ∧ (¬(v.n = 0))))))) :: .pO 0 0 1 :: iv c.type :: bv (decide (c.type = 2)) :: bv (decide (c.type = 2)) :: U :: U :: U :: U :: U :: U :: U :: U :: bv (decide (c.type = 4)) :: bv (decide (c.type = 4)) :: .pO 1 0 1 :: iv v.n :: bv (decide (v.n ≥ (-719162))) :: bv true :: U9 (U9 ([U, U, U, U]))))))) (.agg (Col.cells c) :: .agg (Val.cells v) :: po 0 :: po 1 :: iv 0 :: bv true :: .pO 0 0 1 :: iv c.type :: bv (vKnown c.type) :: bv (!(vKnown c.type)) :: po 1 :: bv v.null :: U9 (U :: U :: A9 (A4 (A4 (bv (decide (((c.type = 3) ∧ ((c.type = 3) ∧ (¬(v.n = 0)))) ∨ (¬(c.type = 3) ∧ ((v.s = ByteArray.empty) → ((c.type = 3) ∧ (¬(v.n = 0))))))) :: .pO 0 0 1 :: iv c.type :: bv (decide (c.type = 2)) :: bv (decide (c.type = 2)) :: U :: U :: U :: U :: U :: U :: U :: U :: bv (decide (c.type = 4)) :: bv (decide (c.type = 4)) :: .pO 1 0 1 :: iv v.n :: bv (decide (v.n ≥ (-719162))) :: bv false :: U9 (U9 ([U, U, U, U]))))))) (by kernel_rfl) decide_eq_true decide_eq_false (by kernel_rfl) (by kernel_rfl) (fun h41 => ?_) (fun h41 => ?_)
    · skip
      refine PON.runs 5 (by kernel_rfl) ?_
      refine PON.norm ⟨(.agg (Col.cells c) :: .agg (Val.cells v) :: po 0 :: po 1 :: iv 0 :: bv (decide (v.n ≤ 2932896)) :: .pO 0 0 1 :: iv c.type :: bv (vKnown c.type) :: bv (!(vKnown c.type)) :: po 1 :: bv v.null :: U9 (U :: U :: A9 (A4 (A4 (bv (decide (((c.type = 3) ∧ ((c.type = 3) ∧ (¬(v.n = 0)))) ∨ (¬(c.type = 3) ∧ ((v.s = ByteArray.empty) → ((c.type = 3) ∧ (¬(v.n = 0))))))) :: .pO 0 0 1 :: iv c.type :: bv (decide (c.type = 2)) :: bv (decide (c.type = 2)) :: U :: U :: U :: U :: U :: U :: U :: U :: bv (decide (c.type = 4)) :: bv (decide (c.type = 4)) :: .pO 1 0 1 :: iv v.n :: bv (decide (v.n ≥ (-719162))) :: bv true :: .pO 1 0 1 :: iv v.n :: bv (decide (v.n ≤ 2932896)) :: bv (decide (v.n ≤ 2932896)) :: U9 (U9 ([]))))))), [.live ⟨4, [(Col.cells c)], 47⟩, .live ⟨3, [(Val.cells v)], 23⟩]⟩ (by kernel_rfl) ?_
      refine PON.fin rfl (inBlockA_normal (thenA_normal (hK26 _ ?_)))
      refine PV.seq_k fun K42 hK42 => ?_
      refine PV.seq_k fun K43 hK43 => ?_
      refine PV.regionN ?_
      refine PON.runs 2 (by kernel_rfl) ?_
      refine PON.fin rfl (thenA_normal (hK43 _ ?_))
      refine PV.condN (v.n ≤ 2932896) (!(decide (v.n ≤ 2932896))) (by kernel_rfl) (fun h => bnot_t (decide_eq_true h)) (fun h => bnot_f (decide_eq_false h)) (fun h44 => ?_) (fun h44 => ?_)
      · skip
        refine PV.seq_k fun K45 hK45 => ?_
        refine PV.regionN ?_
        refine PON.runs 1 (by kernel_rfl) ?_
        refine PON.fin rfl (thenA_normal (hK45 _ ?_))
        refine PV.norm ⟨(.agg (Col.cells c) :: .agg (Val.cells v) :: po 0 :: po 1 :: iv 4 :: bv (decide (v.n ≤ 2932896)) :: .pO 0 0 1 :: iv c.type :: bv (vKnown c.type) :: bv (!(vKnown c.type)) :: po 1 :: bv v.null :: U9 (U :: U :: A9 (A4 (A4 (bv (decide (((c.type = 3) ∧ ((c.type = 3) ∧ (¬(v.n = 0)))) ∨ (¬(c.type = 3) ∧ ((v.s = ByteArray.empty) → ((c.type = 3) ∧ (¬(v.n = 0))))))) :: .pO 0 0 1 :: iv c.type :: bv (decide (c.type = 2)) :: bv (decide (c.type = 2)) :: U :: U :: U :: U :: U :: U :: U :: U :: bv (decide (c.type = 4)) :: bv (decide (c.type = 4)) :: .pO 1 0 1 :: iv v.n :: bv (decide (v.n ≥ (-719162))) :: bv true :: .pO 1 0 1 :: iv v.n :: bv (decide (v.n ≤ 2932896)) :: bv (decide (v.n ≤ 2932896)) :: U9 ([U, U, U, U, U, U, U, bv (decide (v.n ≤ 2932896)), bv (!(decide (v.n ≤ 2932896)))])))))), [.live ⟨4, [(Col.cells c)], 47⟩, .live ⟨3, [(Val.cells v)], 23⟩]⟩ (by kernel_rfl) ?_
        refine PV.ret (thenA_ret (hret .ret _ (iv 4) (.inr rfl) (by kernel_rfl) ?_))
        clear hret hK1 hK2 hK3 hK6 hK7 hK18 hK25 hK26 hK27 hK28 hK39 hK42 hK43 hK45 K0 K1 K2 K3 K6 K7 K18 K25 K26 K27 K28 K39 K42 K43 K45
        show Tof noTau [.live ⟨4, [(Col.cells c)], 47⟩, .live ⟨3, [(Val.cells v)], 23⟩] (iv 4) (iv (vCheck c v))
        -- leaf 9
        refine Tof.int ?_
        grind [vCheck, vKnown, vPermitted, vCompare, intCmp]
      refine PV.skip (thenA_normal (hK42 _ ?_))
      refine PV.seq_k fun K46 hK46 => ?_
      refine PV.regionN ?_
      refine PON.runs 1 (by kernel_rfl) ?_
      refine PON.fin rfl (thenA_normal (hK46 _ ?_))
      refine PV.norm ⟨(.agg (Col.cells c) :: .agg (Val.cells v) :: po 0 :: po 1 :: iv 0 :: bv (decide (v.n ≤ 2932896)) :: .pO 0 0 1 :: iv c.type :: bv (vKnown c.type) :: bv (!(vKnown c.type)) :: po 1 :: bv v.null :: U9 (U :: U :: A9 (A4 (A4 (bv (decide (((c.type = 3) ∧ ((c.type = 3) ∧ (¬(v.n = 0)))) ∨ (¬(c.type = 3) ∧ ((v.s = ByteArray.empty) → ((c.type = 3) ∧ (¬(v.n = 0))))))) :: .pO 0 0 1 :: iv c.type :: bv (decide (c.type = 2)) :: bv (decide (c.type = 2)) :: U :: U :: U :: U :: U :: U :: U :: U :: bv (decide (c.type = 4)) :: bv (decide (c.type = 4)) :: .pO 1 0 1 :: iv v.n :: bv (decide (v.n ≥ (-719162))) :: bv true :: .pO 1 0 1 :: iv v.n :: bv (decide (v.n ≤ 2932896)) :: bv (decide (v.n ≤ 2932896)) :: U9 ([U, U, U, U, U, U, U, bv (decide (v.n ≤ 2932896)), bv (!(decide (v.n ≤ 2932896)))])))))), [.live ⟨4, [(Col.cells c)], 47⟩, .live ⟨3, [(Val.cells v)], 23⟩]⟩ (by kernel_rfl) ?_
      refine PV.ret (hret .ret _ (iv 0) (.inr rfl) (by kernel_rfl) ?_)
      clear hret hK1 hK2 hK3 hK6 hK7 hK18 hK25 hK26 hK27 hK28 hK39 hK42 hK43 hK46 K0 K1 K2 K3 K6 K7 K18 K25 K26 K27 K28 K39 K42 K43 K46
      show Tof noTau [.live ⟨4, [(Col.cells c)], 47⟩, .live ⟨3, [(Val.cells v)], 23⟩] (iv 0) (iv (vCheck c v))
      -- leaf 10
      refine Tof.int ?_
      grind [vCheck, vKnown, vPermitted, vCompare, intCmp]
    refine PON.runs 5 (by kernel_rfl) ?_
    refine PON.norm ⟨(.agg (Col.cells c) :: .agg (Val.cells v) :: po 0 :: po 1 :: iv 0 :: bv false :: .pO 0 0 1 :: iv c.type :: bv (vKnown c.type) :: bv (!(vKnown c.type)) :: po 1 :: bv v.null :: U9 (U :: U :: A9 (A4 (A4 (bv (decide (((c.type = 3) ∧ ((c.type = 3) ∧ (¬(v.n = 0)))) ∨ (¬(c.type = 3) ∧ ((v.s = ByteArray.empty) → ((c.type = 3) ∧ (¬(v.n = 0))))))) :: .pO 0 0 1 :: iv c.type :: bv (decide (c.type = 2)) :: bv (decide (c.type = 2)) :: U :: U :: U :: U :: U :: U :: U :: U :: bv (decide (c.type = 4)) :: bv (decide (c.type = 4)) :: .pO 1 0 1 :: iv v.n :: bv (decide (v.n ≥ (-719162))) :: bv false :: U :: U :: U :: bv false :: U9 (U9 ([]))))))), [.live ⟨4, [(Col.cells c)], 47⟩, .live ⟨3, [(Val.cells v)], 23⟩]⟩ (by kernel_rfl) ?_
    refine PON.fin rfl (inBlockA_normal (thenA_normal (hK26 _ ?_)))
    refine PV.seq_k fun K47 hK47 => ?_
    refine PV.seq_k fun K48 hK48 => ?_
    refine PV.regionN ?_
    refine PON.runs 2 (by kernel_rfl) ?_
    refine PON.fin rfl (thenA_normal (hK48 _ ?_))
    refine PV.cond_true (by kernel_rfl) ?_
    refine PV.seq_k fun K49 hK49 => ?_
    refine PV.regionN ?_
    refine PON.runs 1 (by kernel_rfl) ?_
    refine PON.fin rfl (thenA_normal (hK49 _ ?_))
    refine PV.norm ⟨(.agg (Col.cells c) :: .agg (Val.cells v) :: po 0 :: po 1 :: iv 4 :: bv false :: .pO 0 0 1 :: iv c.type :: bv (vKnown c.type) :: bv (!(vKnown c.type)) :: po 1 :: bv v.null :: U9 (U :: U :: A9 (A4 (A4 (bv (decide (((c.type = 3) ∧ ((c.type = 3) ∧ (¬(v.n = 0)))) ∨ (¬(c.type = 3) ∧ ((v.s = ByteArray.empty) → ((c.type = 3) ∧ (¬(v.n = 0))))))) :: .pO 0 0 1 :: iv c.type :: bv (decide (c.type = 2)) :: bv (decide (c.type = 2)) :: U :: U :: U :: U :: U :: U :: U :: U :: bv (decide (c.type = 4)) :: bv (decide (c.type = 4)) :: .pO 1 0 1 :: iv v.n :: bv (decide (v.n ≥ (-719162))) :: bv false :: U :: U :: U :: bv false :: U9 ([U, U, U, U, U, U, U, bv false, bv true])))))), [.live ⟨4, [(Col.cells c)], 47⟩, .live ⟨3, [(Val.cells v)], 23⟩]⟩ (by kernel_rfl) ?_
    refine PV.ret (thenA_ret (hret .ret _ (iv 4) (.inr rfl) (by kernel_rfl) ?_))
    clear hret hK1 hK2 hK3 hK6 hK7 hK18 hK25 hK26 hK27 hK28 hK39 hK47 hK48 hK49 K0 K1 K2 K3 K6 K7 K18 K25 K26 K27 K28 K39 K47 K48 K49
    show Tof noTau [.live ⟨4, [(Col.cells c)], 47⟩, .live ⟨3, [(Val.cells v)], 23⟩] (iv 4) (iv (vCheck c v))
    -- leaf 11
    refine Tof.int ?_
    grind [vCheck, vKnown, vPermitted, vCompare, intCmp]
  refine PV.seq_k fun K50 hK50 => ?_
  refine PV.regionN ?_
  refine PON.runs 2 (by kernel_rfl) ?_
  refine PON.fin rfl (thenA_normal (hK50 _ ?_))
  refine PV.condP (c.type = 5) (decide (c.type = 5)) (by kernel_rfl) decide_eq_true decide_eq_false (fun h51 => ?_) (fun h51 => ?_)
  · skip
    refine PV.regionN ?_
    refine PON.runs 4 (by kernel_rfl) ?_
    refine PON.norm ⟨(.agg (Col.cells c) :: .agg (Val.cells v) :: po 0 :: po 1 :: iv 0 :: bv true :: .pO 0 0 1 :: iv c.type :: bv (vKnown c.type) :: bv (!(vKnown c.type)) :: po 1 :: bv v.null :: U9 (U :: U :: A9 (A4 (A4 (bv (decide (((c.type = 3) ∧ ((c.type = 3) ∧ (¬(v.n = 0)))) ∨ (¬(c.type = 3) ∧ ((v.s = ByteArray.empty) → ((c.type = 3) ∧ (¬(v.n = 0))))))) :: .pO 0 0 1 :: iv c.type :: bv (decide (c.type = 2)) :: bv (decide (c.type = 2)) :: U :: U :: U :: U :: U :: U :: U :: U :: bv (decide (c.type = 4)) :: bv (decide (c.type = 4)) :: U :: U :: U :: U :: U :: U :: U :: U :: bv (decide (c.type = 5)) :: bv (decide (c.type = 5)) :: .pO 1 0 1 :: iv v.n :: bv (decide (v.n ≥ (-999999999999999999))) :: bv (decide (v.n ≥ (-999999999999999999))) :: U9 ([U, U, U])))))), [.live ⟨4, [(Col.cells c)], 47⟩, .live ⟨3, [(Val.cells v)], 23⟩]⟩ (by kernel_rfl) ?_
    refine PON.splitP (v.n ≥ (-999999999999999999)) 68 (decide (v.n ≥ (-999999999999999999))) (.agg (Col.cells c) :: .agg (Val.cells v) :: po 0 :: po 1 :: iv 0 :: bv true :: .pO 0 0 1 :: iv c.type :: bv (vKnown c.type) :: bv (!(vKnown c.type)) :: po 1 :: bv v.null :: U9 (U :: U :: A9 (A4 (A4 (bv (decide (((c.type = 3) ∧ ((c.type = 3) ∧ (¬(v.n = 0)))) ∨ (¬(c.type = 3) ∧ ((v.s = ByteArray.empty) → ((c.type = 3) ∧ (¬(v.n = 0))))))) :: .pO 0 0 1 :: iv c.type :: bv (decide (c.type = 2)) :: bv (decide (c.type = 2)) :: U :: U :: U :: U :: U :: U :: U :: U :: bv (decide (c.type = 4)) :: bv (decide (c.type = 4)) :: U :: U :: U :: U :: U :: U :: U :: U :: bv (decide (c.type = 5)) :: bv (decide (c.type = 5)) :: .pO 1 0 1 :: iv v.n :: bv (decide (v.n ≥ (-999999999999999999))) :: bv true :: U9 ([U, U, U])))))) (.agg (Col.cells c) :: .agg (Val.cells v) :: po 0 :: po 1 :: iv 0 :: bv true :: .pO 0 0 1 :: iv c.type :: bv (vKnown c.type) :: bv (!(vKnown c.type)) :: po 1 :: bv v.null :: U9 (U :: U :: A9 (A4 (A4 (bv (decide (((c.type = 3) ∧ ((c.type = 3) ∧ (¬(v.n = 0)))) ∨ (¬(c.type = 3) ∧ ((v.s = ByteArray.empty) → ((c.type = 3) ∧ (¬(v.n = 0))))))) :: .pO 0 0 1 :: iv c.type :: bv (decide (c.type = 2)) :: bv (decide (c.type = 2)) :: U :: U :: U :: U :: U :: U :: U :: U :: bv (decide (c.type = 4)) :: bv (decide (c.type = 4)) :: U :: U :: U :: U :: U :: U :: U :: U :: bv (decide (c.type = 5)) :: bv (decide (c.type = 5)) :: .pO 1 0 1 :: iv v.n :: bv (decide (v.n ≥ (-999999999999999999))) :: bv false :: U9 ([U, U, U])))))) (by kernel_rfl) decide_eq_true decide_eq_false (by kernel_rfl) (by kernel_rfl) (fun h52 => ?_) (fun h52 => ?_)
    · skip
      refine PON.runs 5 (by kernel_rfl) ?_
      refine PON.norm ⟨(.agg (Col.cells c) :: .agg (Val.cells v) :: po 0 :: po 1 :: iv 0 :: bv (decide (v.n ≤ 999999999999999999)) :: .pO 0 0 1 :: iv c.type :: bv (vKnown c.type) :: bv (!(vKnown c.type)) :: po 1 :: bv v.null :: U9 (U :: U :: A9 (A4 (A4 ([bv (decide (((c.type = 3) ∧ ((c.type = 3) ∧ (¬(v.n = 0)))) ∨ (¬(c.type = 3) ∧ ((v.s = ByteArray.empty) → ((c.type = 3) ∧ (¬(v.n = 0))))))), .pO 0 0 1, iv c.type, bv (decide (c.type = 2)), bv (decide (c.type = 2)), U, U, U, U, U, U, U, U, bv (decide (c.type = 4)), bv (decide (c.type = 4)), U, U, U, U, U, U, U, U, bv (decide (c.type = 5)), bv (decide (c.type = 5)), .pO 1 0 1, iv v.n, bv (decide (v.n ≥ (-999999999999999999))), bv true, .pO 1 0 1, iv v.n, bv (decide (v.n ≤ 999999999999999999)), bv (decide (v.n ≤ 999999999999999999)), U, U, U, U, U, U, U, U]))))), [.live ⟨4, [(Col.cells c)], 47⟩, .live ⟨3, [(Val.cells v)], 23⟩]⟩ (by kernel_rfl) ?_
      refine PON.fin rfl (inBlockA_normal (thenA_normal (hK26 _ ?_)))
      refine PV.seq_k fun K53 hK53 => ?_
      refine PV.seq_k fun K54 hK54 => ?_
      refine PV.regionN ?_
      refine PON.runs 2 (by kernel_rfl) ?_
      refine PON.fin rfl (thenA_normal (hK54 _ ?_))
      refine PV.condN (v.n ≤ 999999999999999999) (!(decide (v.n ≤ 999999999999999999))) (by kernel_rfl) (fun h => bnot_t (decide_eq_true h)) (fun h => bnot_f (decide_eq_false h)) (fun h55 => ?_) (fun h55 => ?_)
      · skip
        refine PV.seq_k fun K56 hK56 => ?_
        refine PV.regionN ?_
        refine PON.runs 1 (by kernel_rfl) ?_
        refine PON.fin rfl (thenA_normal (hK56 _ ?_))
        refine PV.norm ⟨(.agg (Col.cells c) :: .agg (Val.cells v) :: po 0 :: po 1 :: iv 4 :: bv (decide (v.n ≤ 999999999999999999)) :: .pO 0 0 1 :: iv c.type :: bv (vKnown c.type) :: bv (!(vKnown c.type)) :: po 1 :: bv v.null :: U9 (U :: U :: A9 (A4 (A4 ([bv (decide (((c.type = 3) ∧ ((c.type = 3) ∧ (¬(v.n = 0)))) ∨ (¬(c.type = 3) ∧ ((v.s = ByteArray.empty) → ((c.type = 3) ∧ (¬(v.n = 0))))))), .pO 0 0 1, iv c.type, bv (decide (c.type = 2)), bv (decide (c.type = 2)), U, U, U, U, U, U, U, U, bv (decide (c.type = 4)), bv (decide (c.type = 4)), U, U, U, U, U, U, U, U, bv (decide (c.type = 5)), bv (decide (c.type = 5)), .pO 1 0 1, iv v.n, bv (decide (v.n ≥ (-999999999999999999))), bv true, .pO 1 0 1, iv v.n, bv (decide (v.n ≤ 999999999999999999)), bv (decide (v.n ≤ 999999999999999999)), U, U, U, U, U, U, bv (decide (v.n ≤ 999999999999999999)), bv (!(decide (v.n ≤ 999999999999999999)))]))))), [.live ⟨4, [(Col.cells c)], 47⟩, .live ⟨3, [(Val.cells v)], 23⟩]⟩ (by kernel_rfl) ?_
        refine PV.ret (thenA_ret (hret .ret _ (iv 4) (.inr rfl) (by kernel_rfl) ?_))
        clear hret hK1 hK2 hK3 hK6 hK7 hK18 hK25 hK26 hK27 hK28 hK39 hK50 hK53 hK54 hK56 K0 K1 K2 K3 K6 K7 K18 K25 K26 K27 K28 K39 K50 K53 K54 K56
        show Tof noTau [.live ⟨4, [(Col.cells c)], 47⟩, .live ⟨3, [(Val.cells v)], 23⟩] (iv 4) (iv (vCheck c v))
        -- leaf 12
        refine Tof.int ?_
        grind [vCheck, vKnown, vPermitted, vCompare, intCmp]
      refine PV.skip (thenA_normal (hK53 _ ?_))
      refine PV.seq_k fun K57 hK57 => ?_
      refine PV.regionN ?_
      refine PON.runs 1 (by kernel_rfl) ?_
      refine PON.fin rfl (thenA_normal (hK57 _ ?_))
      refine PV.norm ⟨(.agg (Col.cells c) :: .agg (Val.cells v) :: po 0 :: po 1 :: iv 0 :: bv (decide (v.n ≤ 999999999999999999)) :: .pO 0 0 1 :: iv c.type :: bv (vKnown c.type) :: bv (!(vKnown c.type)) :: po 1 :: bv v.null :: U9 (U :: U :: A9 (A4 (A4 ([bv (decide (((c.type = 3) ∧ ((c.type = 3) ∧ (¬(v.n = 0)))) ∨ (¬(c.type = 3) ∧ ((v.s = ByteArray.empty) → ((c.type = 3) ∧ (¬(v.n = 0))))))), .pO 0 0 1, iv c.type, bv (decide (c.type = 2)), bv (decide (c.type = 2)), U, U, U, U, U, U, U, U, bv (decide (c.type = 4)), bv (decide (c.type = 4)), U, U, U, U, U, U, U, U, bv (decide (c.type = 5)), bv (decide (c.type = 5)), .pO 1 0 1, iv v.n, bv (decide (v.n ≥ (-999999999999999999))), bv true, .pO 1 0 1, iv v.n, bv (decide (v.n ≤ 999999999999999999)), bv (decide (v.n ≤ 999999999999999999)), U, U, U, U, U, U, bv (decide (v.n ≤ 999999999999999999)), bv (!(decide (v.n ≤ 999999999999999999)))]))))), [.live ⟨4, [(Col.cells c)], 47⟩, .live ⟨3, [(Val.cells v)], 23⟩]⟩ (by kernel_rfl) ?_
      refine PV.ret (hret .ret _ (iv 0) (.inr rfl) (by kernel_rfl) ?_)
      clear hret hK1 hK2 hK3 hK6 hK7 hK18 hK25 hK26 hK27 hK28 hK39 hK50 hK53 hK54 hK57 K0 K1 K2 K3 K6 K7 K18 K25 K26 K27 K28 K39 K50 K53 K54 K57
      show Tof noTau [.live ⟨4, [(Col.cells c)], 47⟩, .live ⟨3, [(Val.cells v)], 23⟩] (iv 0) (iv (vCheck c v))
      -- leaf 13
      refine Tof.int ?_
      grind [vCheck, vKnown, vPermitted, vCompare, intCmp]
    refine PON.runs 5 (by kernel_rfl) ?_
    refine PON.norm ⟨(.agg (Col.cells c) :: .agg (Val.cells v) :: po 0 :: po 1 :: iv 0 :: bv false :: .pO 0 0 1 :: iv c.type :: bv (vKnown c.type) :: bv (!(vKnown c.type)) :: po 1 :: bv v.null :: U9 (U :: U :: A9 (A4 (A4 ([bv (decide (((c.type = 3) ∧ ((c.type = 3) ∧ (¬(v.n = 0)))) ∨ (¬(c.type = 3) ∧ ((v.s = ByteArray.empty) → ((c.type = 3) ∧ (¬(v.n = 0))))))), .pO 0 0 1, iv c.type, bv (decide (c.type = 2)), bv (decide (c.type = 2)), U, U, U, U, U, U, U, U, bv (decide (c.type = 4)), bv (decide (c.type = 4)), U, U, U, U, U, U, U, U, bv (decide (c.type = 5)), bv (decide (c.type = 5)), .pO 1 0 1, iv v.n, bv (decide (v.n ≥ (-999999999999999999))), bv false, U, U, U, bv false, U, U, U, U, U, U, U, U]))))), [.live ⟨4, [(Col.cells c)], 47⟩, .live ⟨3, [(Val.cells v)], 23⟩]⟩ (by kernel_rfl) ?_
    refine PON.fin rfl (inBlockA_normal (thenA_normal (hK26 _ ?_)))
    refine PV.seq_k fun K58 hK58 => ?_
    refine PV.seq_k fun K59 hK59 => ?_
    refine PV.regionN ?_
    refine PON.runs 2 (by kernel_rfl) ?_
    refine PON.fin rfl (thenA_normal (hK59 _ ?_))
    refine PV.cond_true (by kernel_rfl) ?_
    refine PV.seq_k fun K60 hK60 => ?_
    refine PV.regionN ?_
    refine PON.runs 1 (by kernel_rfl) ?_
    refine PON.fin rfl (thenA_normal (hK60 _ ?_))
    refine PV.norm ⟨(.agg (Col.cells c) :: .agg (Val.cells v) :: po 0 :: po 1 :: iv 4 :: bv false :: .pO 0 0 1 :: iv c.type :: bv (vKnown c.type) :: bv (!(vKnown c.type)) :: po 1 :: bv v.null :: U9 (U :: U :: A9 (A4 (A4 ([bv (decide (((c.type = 3) ∧ ((c.type = 3) ∧ (¬(v.n = 0)))) ∨ (¬(c.type = 3) ∧ ((v.s = ByteArray.empty) → ((c.type = 3) ∧ (¬(v.n = 0))))))), .pO 0 0 1, iv c.type, bv (decide (c.type = 2)), bv (decide (c.type = 2)), U, U, U, U, U, U, U, U, bv (decide (c.type = 4)), bv (decide (c.type = 4)), U, U, U, U, U, U, U, U, bv (decide (c.type = 5)), bv (decide (c.type = 5)), .pO 1 0 1, iv v.n, bv (decide (v.n ≥ (-999999999999999999))), bv false, U, U, U, bv false, U, U, U, U, U, U, bv false, bv true]))))), [.live ⟨4, [(Col.cells c)], 47⟩, .live ⟨3, [(Val.cells v)], 23⟩]⟩ (by kernel_rfl) ?_
    refine PV.ret (thenA_ret (hret .ret _ (iv 4) (.inr rfl) (by kernel_rfl) ?_))
    clear hret hK1 hK2 hK3 hK6 hK7 hK18 hK25 hK26 hK27 hK28 hK39 hK50 hK58 hK59 hK60 K0 K1 K2 K3 K6 K7 K18 K25 K26 K27 K28 K39 K50 K58 K59 K60
    show Tof noTau [.live ⟨4, [(Col.cells c)], 47⟩, .live ⟨3, [(Val.cells v)], 23⟩] (iv 4) (iv (vCheck c v))
    -- leaf 14
    refine Tof.int ?_
    grind [vCheck, vKnown, vPermitted, vCompare, intCmp]
  refine PV.seq_k fun K61 hK61 => ?_
  refine PV.regionN ?_
  refine PON.runs 2 (by kernel_rfl) ?_
  refine PON.fin rfl (thenA_normal (hK61 _ ?_))
  refine PV.condP (c.type = 3) (decide (c.type = 3)) (by kernel_rfl) decide_eq_true decide_eq_false (fun h62 => ?_) (fun h62 => ?_)
  · skip
    refine PV.regionN ?_
    refine PON.runs 5 (by kernel_rfl) ?_
    refine PON.norm ⟨(.agg (Col.cells c) :: .agg (Val.cells v) :: po 0 :: po 1 :: iv 0 :: bv (decide ((v.s.size : Int) ≤ 64)) :: .pO 0 0 1 :: iv c.type :: bv (vKnown c.type) :: bv (!(vKnown c.type)) :: po 1 :: bv v.null :: U9 (U :: U :: A9 (A4 (A4 ([bv (decide (((c.type = 3) ∧ ((c.type = 3) ∧ (¬(v.n = 0)))) ∨ (¬(c.type = 3) ∧ ((v.s = ByteArray.empty) → ((c.type = 3) ∧ (¬(v.n = 0))))))), .pO 0 0 1, iv c.type, bv (decide (c.type = 2)), bv (decide (c.type = 2)), U, U, U, U, U, U, U, U, bv (decide (c.type = 4)), bv (decide (c.type = 4)), U, U, U, U, U, U, U, U, bv (decide (c.type = 5)), bv (decide (c.type = 5)), U, U, U, U, U, U, U, U, bv (decide (c.type = 3)), bv (decide (c.type = 3)), .pO 1 0 2, sv v.s, iv (v.s.size : Int), bv (decide ((v.s.size : Int) ≤ 64)), U, U]))))), [.live ⟨4, [(Col.cells c)], 47⟩, .live ⟨3, [(Val.cells v)], 23⟩]⟩ (by kernel_rfl) ?_
    refine PON.fin rfl (inBlockA_normal (thenA_normal (hK26 _ ?_)))
    refine PV.seq_k fun K63 hK63 => ?_
    refine PV.seq_k fun K64 hK64 => ?_
    refine PV.regionN ?_
    refine PON.runs 2 (by kernel_rfl) ?_
    refine PON.fin rfl (thenA_normal (hK64 _ ?_))
    refine PV.condN ((v.s.size : Int) ≤ 64) (!(decide ((v.s.size : Int) ≤ 64))) (by kernel_rfl) (fun h => bnot_t (decide_eq_true h)) (fun h => bnot_f (decide_eq_false h)) (fun h65 => ?_) (fun h65 => ?_)
    · skip
      refine PV.seq_k fun K66 hK66 => ?_
      refine PV.regionN ?_
      refine PON.runs 1 (by kernel_rfl) ?_
      refine PON.fin rfl (thenA_normal (hK66 _ ?_))
      refine PV.norm ⟨(.agg (Col.cells c) :: .agg (Val.cells v) :: po 0 :: po 1 :: iv 4 :: bv (decide ((v.s.size : Int) ≤ 64)) :: .pO 0 0 1 :: iv c.type :: bv (vKnown c.type) :: bv (!(vKnown c.type)) :: po 1 :: bv v.null :: U9 (U :: U :: A9 (A4 (A4 ([bv (decide (((c.type = 3) ∧ ((c.type = 3) ∧ (¬(v.n = 0)))) ∨ (¬(c.type = 3) ∧ ((v.s = ByteArray.empty) → ((c.type = 3) ∧ (¬(v.n = 0))))))), .pO 0 0 1, iv c.type, bv (decide (c.type = 2)), bv (decide (c.type = 2)), U, U, U, U, U, U, U, U, bv (decide (c.type = 4)), bv (decide (c.type = 4)), U, U, U, U, U, U, U, U, bv (decide (c.type = 5)), bv (decide (c.type = 5)), U, U, U, U, U, U, U, U, bv (decide (c.type = 3)), bv (decide (c.type = 3)), .pO 1 0 2, sv v.s, iv (v.s.size : Int), bv (decide ((v.s.size : Int) ≤ 64)), bv (decide ((v.s.size : Int) ≤ 64)), bv (!(decide ((v.s.size : Int) ≤ 64)))]))))), [.live ⟨4, [(Col.cells c)], 47⟩, .live ⟨3, [(Val.cells v)], 23⟩]⟩ (by kernel_rfl) ?_
      refine PV.ret (thenA_ret (hret .ret _ (iv 4) (.inr rfl) (by kernel_rfl) ?_))
      clear hret hK1 hK2 hK3 hK6 hK7 hK18 hK25 hK26 hK27 hK28 hK39 hK50 hK61 hK63 hK64 hK66 K0 K1 K2 K3 K6 K7 K18 K25 K26 K27 K28 K39 K50 K61 K63 K64 K66
      show Tof noTau [.live ⟨4, [(Col.cells c)], 47⟩, .live ⟨3, [(Val.cells v)], 23⟩] (iv 4) (iv (vCheck c v))
      -- leaf 15
      refine Tof.int ?_
      grind [vCheck, vKnown, vPermitted, vCompare, intCmp]
    refine PV.skip (thenA_normal (hK63 _ ?_))
    refine PV.seq_k fun K67 hK67 => ?_
    refine PV.regionN ?_
    refine PON.runs 1 (by kernel_rfl) ?_
    refine PON.fin rfl (thenA_normal (hK67 _ ?_))
    refine PV.norm ⟨(.agg (Col.cells c) :: .agg (Val.cells v) :: po 0 :: po 1 :: iv 0 :: bv (decide ((v.s.size : Int) ≤ 64)) :: .pO 0 0 1 :: iv c.type :: bv (vKnown c.type) :: bv (!(vKnown c.type)) :: po 1 :: bv v.null :: U9 (U :: U :: A9 (A4 (A4 ([bv (decide (((c.type = 3) ∧ ((c.type = 3) ∧ (¬(v.n = 0)))) ∨ (¬(c.type = 3) ∧ ((v.s = ByteArray.empty) → ((c.type = 3) ∧ (¬(v.n = 0))))))), .pO 0 0 1, iv c.type, bv (decide (c.type = 2)), bv (decide (c.type = 2)), U, U, U, U, U, U, U, U, bv (decide (c.type = 4)), bv (decide (c.type = 4)), U, U, U, U, U, U, U, U, bv (decide (c.type = 5)), bv (decide (c.type = 5)), U, U, U, U, U, U, U, U, bv (decide (c.type = 3)), bv (decide (c.type = 3)), .pO 1 0 2, sv v.s, iv (v.s.size : Int), bv (decide ((v.s.size : Int) ≤ 64)), bv (decide ((v.s.size : Int) ≤ 64)), bv (!(decide ((v.s.size : Int) ≤ 64)))]))))), [.live ⟨4, [(Col.cells c)], 47⟩, .live ⟨3, [(Val.cells v)], 23⟩]⟩ (by kernel_rfl) ?_
    refine PV.ret (hret .ret _ (iv 0) (.inr rfl) (by kernel_rfl) ?_)
    clear hret hK1 hK2 hK3 hK6 hK7 hK18 hK25 hK26 hK27 hK28 hK39 hK50 hK61 hK63 hK64 hK67 K0 K1 K2 K3 K6 K7 K18 K25 K26 K27 K28 K39 K50 K61 K63 K64 K67
    show Tof noTau [.live ⟨4, [(Col.cells c)], 47⟩, .live ⟨3, [(Val.cells v)], 23⟩] (iv 0) (iv (vCheck c v))
    -- leaf 16
    refine Tof.int ?_
    grind [vCheck, vKnown, vPermitted, vCompare, intCmp]
  refine PV.skip (inBlockA_normal (thenA_normal (hK26 _ ?_)))
  refine PV.seq_k fun K68 hK68 => ?_
  refine PV.seq_k fun K69 hK69 => ?_
  refine PV.regionN ?_
  refine PON.runs 2 (by kernel_rfl) ?_
  refine PON.fin rfl (thenA_normal (hK69 _ ?_))
  refine PV.cond_false (by kernel_rfl) ?_
  refine PV.skip (thenA_normal (hK68 _ ?_))
  refine PV.seq_k fun K70 hK70 => ?_
  refine PV.regionN ?_
  refine PON.runs 1 (by kernel_rfl) ?_
  refine PON.fin rfl (thenA_normal (hK70 _ ?_))
  refine PV.norm ⟨(.agg (Col.cells c) :: .agg (Val.cells v) :: po 0 :: po 1 :: iv 0 :: bv true :: .pO 0 0 1 :: iv c.type :: bv (vKnown c.type) :: bv (!(vKnown c.type)) :: po 1 :: bv v.null :: U9 (U :: U :: A9 (A4 (A4 ([bv (decide (((c.type = 3) ∧ ((c.type = 3) ∧ (¬(v.n = 0)))) ∨ (¬(c.type = 3) ∧ ((v.s = ByteArray.empty) → ((c.type = 3) ∧ (¬(v.n = 0))))))), .pO 0 0 1, iv c.type, bv (decide (c.type = 2)), bv (decide (c.type = 2)), U, U, U, U, U, U, U, U, bv (decide (c.type = 4)), bv (decide (c.type = 4)), U, U, U, U, U, U, U, U, bv (decide (c.type = 5)), bv (decide (c.type = 5)), U, U, U, U, U, U, U, U, bv (decide (c.type = 3)), bv (decide (c.type = 3)), U, U, U, U, bv true, bv false]))))), [.live ⟨4, [(Col.cells c)], 47⟩, .live ⟨3, [(Val.cells v)], 23⟩]⟩ (by kernel_rfl) ?_
  refine PV.ret (hret .ret _ (iv 0) (.inr rfl) (by kernel_rfl) ?_)
  clear hret hK1 hK2 hK3 hK6 hK7 hK18 hK25 hK26 hK27 hK28 hK39 hK50 hK61 hK68 hK69 hK70 K0 K1 K2 K3 K6 K7 K18 K25 K26 K27 K28 K39 K50 K61 K68 K69 K70
  show Tof noTau [.live ⟨4, [(Col.cells c)], 47⟩, .live ⟨3, [(Val.cells v)], 23⟩] (iv 0) (iv (vCheck c v))
  -- leaf 17
  refine Tof.int ?_
  grind [vCheck, vKnown, vPermitted, vCompare, intCmp]
theorem rCheck_ok (c : Col) (v : Val) : PCX Try.prog 53 [.agg (Col.cells c), .agg (Val.cells v)] [] [] (iv (vCheck c v)) :=
  PCX.frame (by simp only [NIs_cons, NIs_nil, NIr_cons, NIr_nil, NI_v, NI_any, NI_pO, NI_sO, NI_pF, NI_sF, NI_agg, NI_tup, NI_fn, NIh_nil, NIh_live, NIh_dead, NIh_free, NIr_map, NIr_append, NIs_icells, NIs_scells, NIs_bcells, NIs_Val, NIs_Col, NIs_Schema, NIs_PNode, NIs_Src, NIr_Val, NIr_Col, NIr_ints, NIr_PNode]; try simp) (rCheck_ok_walk c v)

set_option maxHeartbeats 4000000 in
theorem order_ok_walk (l : Bool) (e : Bool) : PC Try.prog 84 [bv l, bv e] [] (fun yR kR => Tof noTau kR yR (iv (if l = true then -1 else if e = true then 0 else 1))) := by
  refine PC.of_bodyV Try.func84 rfl [bv l, bv e, U, U, U, U, U, U, U] (by kernel_rfl) (fun K0 hret => ?_)
  refine PV.seq_k fun K1 hK1 => ?_
  refine PV.regionN ?_
  refine PON.runs 1 (by kernel_rfl) ?_
  refine PON.fin rfl (thenA_normal (hK1 _ ?_))
  refine PV.seq_k fun K2 hK2 => ?_
  refine PV.block ?_
  refine PV.seq_k fun K3 hK3 => ?_
  refine PV.regionN ?_
  refine PON.runs 2 (by kernel_rfl) ?_
  refine PON.fin rfl (thenA_normal (hK3 _ ?_))
  refine PV.condP (l = true) l (by kernel_rfl) (fun h => h) bool_ff (fun h4 => ?_) (fun h4 => ?_)
  · skip
    refine PV.seq_k fun K5 hK5 => ?_
    refine PV.regionN ?_
    refine PON.runs 1 (by kernel_rfl) ?_
    refine PON.fin rfl (thenA_normal (hK5 _ ?_))
    refine PV.norm ⟨[bv l, bv e, U, U, iv (-1), bv l, bv l, U, U], []⟩ (by kernel_rfl) ?_
    refine PV.ret (inBlockA_ret (thenA_ret (hret .ret _ (iv (-1)) (.inr rfl) (by kernel_rfl) ?_)))
    clear hret hK1 hK2 hK3 hK5 K0 K1 K2 K3 K5
    show Tof noTau [] (iv (-1)) (iv (if l = true then -1 else if e = true then 0 else 1))
    -- leaf 1
    exact Tof.int (by simp_all)
  refine PV.seq_k fun K6 hK6 => ?_
  refine PV.regionN ?_
  refine PON.runs 2 (by kernel_rfl) ?_
  refine PON.fin rfl (thenA_normal (hK6 _ ?_))
  refine PV.condP (e = true) e (by kernel_rfl) (fun h => h) bool_ff (fun h7 => ?_) (fun h7 => ?_)
  · skip
    refine PV.seq_k fun K8 hK8 => ?_
    refine PV.regionN ?_
    refine PON.runs 1 (by kernel_rfl) ?_
    refine PON.fin rfl (thenA_normal (hK8 _ ?_))
    refine PV.norm ⟨[bv l, bv e, U, U, iv 0, bv l, bv l, bv e, bv e], []⟩ (by kernel_rfl) ?_
    refine PV.ret (inBlockA_ret (thenA_ret (hret .ret _ (iv 0) (.inr rfl) (by kernel_rfl) ?_)))
    clear hret hK1 hK2 hK3 hK6 hK8 K0 K1 K2 K3 K6 K8
    show Tof noTau [] (iv 0) (iv (if l = true then -1 else if e = true then 0 else 1))
    -- leaf 2
    exact Tof.int (by simp_all)
  refine PV.skip (inBlockA_normal (thenA_normal (hK2 _ ?_)))
  refine PV.seq_k fun K9 hK9 => ?_
  refine PV.regionN ?_
  refine PON.runs 1 (by kernel_rfl) ?_
  refine PON.fin rfl (thenA_normal (hK9 _ ?_))
  refine PV.norm ⟨[bv l, bv e, U, U, iv 1, bv l, bv l, bv e, bv e], []⟩ (by kernel_rfl) ?_
  refine PV.ret (hret .ret _ (iv 1) (.inr rfl) (by kernel_rfl) ?_)
  clear hret hK1 hK2 hK3 hK6 hK9 K0 K1 K2 K3 K6 K9
  show Tof noTau [] (iv 1) (iv (if l = true then -1 else if e = true then 0 else 1))
  -- leaf 3
  exact Tof.int (by simp_all)
theorem order_ok (l : Bool) (e : Bool) : PCX Try.prog 84 [bv l, bv e] [] [] (iv (if l = true then -1 else if e = true then 0 else 1)) :=
  PCX.frame (by simp only [NIs_cons, NIs_nil, NIr_cons, NIr_nil, NI_v, NI_any, NI_pO, NI_sO, NI_pF, NI_sF, NI_agg, NI_tup, NI_fn, NIh_nil, NIh_live, NIh_dead, NIh_free, NIr_map, NIr_append, NIs_icells, NIs_scells, NIs_bcells, NIs_Val, NIs_Col, NIs_Schema, NIs_PNode, NIs_Src, NIr_Val, NIr_Col, NIr_ints, NIr_PNode]; try simp) (order_ok_walk l e)

set_option maxHeartbeats 4000000 in
theorem rCompare_ok_walk (t : Int) (a : Val) (b : Val) : PC Try.prog 69 [iv t, .agg (Val.cells a), .agg (Val.cells b)] [] (fun yR kR => Tof noTau kR yR (iv (vCompare t a b))) := by
  refine PC.of_bodyV Try.func69 rfl (iv t :: .agg (Val.cells a) :: .agg (Val.cells b) :: U9 (U9 (U9 (U9 ([U, U, U, U, U]))))) (by kernel_rfl) (fun K0 hret => ?_)
  refine PV.seq_k fun K1 hK1 => ?_
  refine PV.regionN ?_
  refine PON.runs 3 (by kernel_rfl) ?_
  refine PON.fin rfl (thenA_normal (hK1 _ ?_))
  refine PV.seq_k fun K2 hK2 => ?_
  refine PV.block ?_
  refine PV.norm ⟨(iv t :: .agg (Val.cells a) :: .agg (Val.cells b) :: U :: po 0 :: po 1 :: iv 0 :: U9 (U9 (U9 (U9 ([U]))))), [.live ⟨3, [(Val.cells a)], 23⟩, .live ⟨3, [(Val.cells b)], 23⟩]⟩ (by kernel_rfl) ?_
  refine PV.seqR [0, 1] ⟨(iv t :: .agg (Val.cells a) :: .agg (Val.cells b) :: U :: po 0 :: po 1 :: iv 0 :: bv (decide ((a.null = true) ∧ (b.null = true))) :: A4 (A :: A :: U9 (U9 (U9 ([U, U, U]))))), [.live ⟨3, [(Val.cells a)], 23⟩, .live ⟨3, [(Val.cells b)], 23⟩]⟩ ?_ ?_
  · skip
    refine PV.regionN ?_
    refine PON.runs 3 (by kernel_rfl) ?_
    refine PON.norm ⟨(iv t :: .agg (Val.cells a) :: .agg (Val.cells b) :: U :: po 0 :: po 1 :: iv 0 :: U :: po 0 :: bv a.null :: bv a.null :: U9 (U9 (U9 ([U, U, U, U, U, U])))), [.live ⟨3, [(Val.cells a)], 23⟩, .live ⟨3, [(Val.cells b)], 23⟩]⟩ (by kernel_rfl) ?_
    refine PON.splitP (a.null = true) 10 a.null (iv t :: .agg (Val.cells a) :: .agg (Val.cells b) :: U :: po 0 :: po 1 :: iv 0 :: U :: po 0 :: bv a.null :: bv true :: U9 (U9 (U9 ([U, U, U, U, U, U])))) (iv t :: .agg (Val.cells a) :: .agg (Val.cells b) :: U :: po 0 :: po 1 :: iv 0 :: U :: po 0 :: bv a.null :: bv false :: U9 (U9 (U9 ([U, U, U, U, U, U])))) (by kernel_rfl) (fun h => h) bool_ff (by kernel_rfl) (by kernel_rfl) (fun h3 => ?_) (fun h3 => ?_)
    · skip
      refine PON.runs 4 (by kernel_rfl) ?_
      refine PON.norm ⟨(iv t :: .agg (Val.cells a) :: .agg (Val.cells b) :: U :: po 0 :: po 1 :: iv 0 :: bv b.null :: po 0 :: bv a.null :: bv true :: po 1 :: bv b.null :: bv b.null :: U9 (U9 (U9 ([U, U, U])))), [.live ⟨3, [(Val.cells a)], 23⟩, .live ⟨3, [(Val.cells b)], 23⟩]⟩ (by kernel_rfl) ?_
      refine PON.fin rfl (thenA_normal ?_)
      exact ⟨rfl, rfl, (.v (.cons (.tree (by simp only [NIs_cons, NIs_nil, NIr_cons, NIr_nil, NI_v, NI_any, NI_pO, NI_sO, NI_pF, NI_sF, NI_agg, NI_tup, NI_fn, NIh_nil, NIh_live, NIh_dead, NIh_free, NIr_map, NIr_append, NIs_icells, NIs_scells, NIs_bcells, NIs_Val, NIs_Col, NIs_Schema, NIs_PNode, NIs_Src, NIr_Val, NIr_Col, NIr_ints, NIr_PNode]; try simp)) (.cons (.tree (by simp only [NIs_cons, NIs_nil, NIr_cons, NIr_nil, NI_v, NI_any, NI_pO, NI_sO, NI_pF, NI_sF, NI_agg, NI_tup, NI_fn, NIh_nil, NIh_live, NIh_dead, NIh_free, NIr_map, NIr_append, NIs_icells, NIs_scells, NIs_bcells, NIs_Val, NIs_Col, NIs_Schema, NIs_PNode, NIs_Src, NIr_Val, NIr_Col, NIr_ints, NIr_PNode]; try simp)) (.v (.cons (.pO _ _ rfl) (.cons (.pO _ _ rfl) (.v (.cons (.eq (.v _) (v_bool (by clear hret hK1 hK2 K0 K1 K2; (try simp only [strEq_dec]); grind))) (.a4 (.any (.any (.v (.v (.v (.v (.v (.v (.v (.v (.v (.v (.v (.v (.v (.v (.v (.v (.v (.v (.v (.v (.v (.v (.v (.v (.v (.v (.v (.v (.v (.v .nil))))))))))))))))))))))))))))))))))))))))), (.cons rfl (.tree (by simp only [NIs_cons, NIs_nil, NIr_cons, NIr_nil, NI_v, NI_any, NI_pO, NI_sO, NI_pF, NI_sF, NI_agg, NI_tup, NI_fn, NIh_nil, NIh_live, NIh_dead, NIh_free, NIr_map, NIr_append, NIs_icells, NIs_scells, NIs_bcells, NIs_Val, NIs_Col, NIs_Schema, NIs_PNode, NIs_Src, NIr_Val, NIr_Col, NIr_ints, NIr_PNode]; try simp)) (.cons rfl (.tree (by simp only [NIs_cons, NIs_nil, NIr_cons, NIr_nil, NI_v, NI_any, NI_pO, NI_sO, NI_pF, NI_sF, NI_agg, NI_tup, NI_fn, NIh_nil, NIh_live, NIh_dead, NIh_free, NIr_map, NIr_append, NIs_icells, NIs_scells, NIs_bcells, NIs_Val, NIs_Col, NIs_Schema, NIs_PNode, NIs_Src, NIr_Val, NIr_Col, NIr_ints, NIr_PNode]; try simp)) .nil))⟩
    refine PON.runs 4 (by kernel_rfl) ?_
    refine PON.norm ⟨(iv t :: .agg (Val.cells a) :: .agg (Val.cells b) :: U :: po 0 :: po 1 :: iv 0 :: bv false :: po 0 :: bv a.null :: bv false :: U :: U :: bv false :: U9 (U9 (U9 ([U, U, U])))), [.live ⟨3, [(Val.cells a)], 23⟩, .live ⟨3, [(Val.cells b)], 23⟩]⟩ (by kernel_rfl) ?_
    refine PON.fin rfl (thenA_normal ?_)
    exact ⟨rfl, rfl, (.v (.cons (.tree (by simp only [NIs_cons, NIs_nil, NIr_cons, NIr_nil, NI_v, NI_any, NI_pO, NI_sO, NI_pF, NI_sF, NI_agg, NI_tup, NI_fn, NIh_nil, NIh_live, NIh_dead, NIh_free, NIr_map, NIr_append, NIs_icells, NIs_scells, NIs_bcells, NIs_Val, NIs_Col, NIs_Schema, NIs_PNode, NIs_Src, NIr_Val, NIr_Col, NIr_ints, NIr_PNode]; try simp)) (.cons (.tree (by simp only [NIs_cons, NIs_nil, NIr_cons, NIr_nil, NI_v, NI_any, NI_pO, NI_sO, NI_pF, NI_sF, NI_agg, NI_tup, NI_fn, NIh_nil, NIh_live, NIh_dead, NIh_free, NIr_map, NIr_append, NIs_icells, NIs_scells, NIs_bcells, NIs_Val, NIs_Col, NIs_Schema, NIs_PNode, NIs_Src, NIr_Val, NIr_Col, NIr_ints, NIr_PNode]; try simp)) (.v (.cons (.pO _ _ rfl) (.cons (.pO _ _ rfl) (.v (.cons (.eq (.v _) (v_bool (by clear hret hK1 hK2 K0 K1 K2; (try simp only [strEq_dec]); grind))) (.a4 (.any (.any (.v (.v (.v (.v (.v (.v (.v (.v (.v (.v (.v (.v (.v (.v (.v (.v (.v (.v (.v (.v (.v (.v (.v (.v (.v (.v (.v (.v (.v (.v .nil))))))))))))))))))))))))))))))))))))))))), (.cons rfl (.tree (by simp only [NIs_cons, NIs_nil, NIr_cons, NIr_nil, NI_v, NI_any, NI_pO, NI_sO, NI_pF, NI_sF, NI_agg, NI_tup, NI_fn, NIh_nil, NIh_live, NIh_dead, NIh_free, NIr_map, NIr_append, NIs_icells, NIs_scells, NIs_bcells, NIs_Val, NIs_Col, NIs_Schema, NIs_PNode, NIs_Src, NIr_Val, NIr_Col, NIr_ints, NIr_PNode]; try simp)) (.cons rfl (.tree (by simp only [NIs_cons, NIs_nil, NIr_cons, NIr_nil, NI_v, NI_any, NI_pO, NI_sO, NI_pF, NI_sF, NI_agg, NI_tup, NI_fn, NIh_nil, NIh_live, NIh_dead, NIh_free, NIr_map, NIr_append, NIs_icells, NIs_scells, NIs_bcells, NIs_Val, NIs_Col, NIs_Schema, NIs_PNode, NIs_Src, NIr_Val, NIr_Col, NIr_ints, NIr_PNode]; try simp)) .nil))⟩
  refine PV.condP ((a.null = true) ∧ (b.null = true)) (decide ((a.null = true) ∧ (b.null = true))) (by kernel_rfl) decide_eq_true decide_eq_false (fun h4 => ?_) (fun h4 => ?_)
  · skip
    refine PV.seq_k fun K5 hK5 => ?_
    refine PV.regionN ?_
    refine PON.runs 1 (by kernel_rfl) ?_
    refine PON.fin rfl (thenA_normal (hK5 _ ?_))
    refine PV.norm ⟨(iv t :: .agg (Val.cells a) :: .agg (Val.cells b) :: U :: po 0 :: po 1 :: iv 0 :: bv (decide ((a.null = true) ∧ (b.null = true))) :: A4 (A :: A :: U9 (U9 (U9 ([U, U, U]))))), [.live ⟨3, [(Val.cells a)], 23⟩, .live ⟨3, [(Val.cells b)], 23⟩]⟩ (by kernel_rfl) ?_
    refine PV.ret (inBlockA_ret (thenA_ret (hret .ret _ (iv 0) (.inr rfl) (by kernel_rfl) ?_)))
    clear hret hK1 hK2 hK5 K0 K1 K2 K5
    show Tof noTau [.live ⟨3, [(Val.cells a)], 23⟩, .live ⟨3, [(Val.cells b)], 23⟩] (iv 0) (iv (vCompare t a b))
    -- leaf 1
    refine Tof.int ?_
    grind [vCompare, intCmp, strCmp, strEq_dec]
  refine PV.seq_k fun K6 hK6 => ?_
  refine PV.regionN ?_
  refine PON.runs 3 (by kernel_rfl) ?_
  refine PON.fin rfl (thenA_normal (hK6 _ ?_))
  refine PV.condP (a.null = true) a.null (by kernel_rfl) (fun h => h) bool_ff (fun h7 => ?_) (fun h7 => ?_)
  · skip
    refine PV.seq_k fun K8 hK8 => ?_
    refine PV.regionN ?_
    refine PON.runs 1 (by kernel_rfl) ?_
    refine PON.fin rfl (thenA_normal (hK8 _ ?_))
    refine PV.norm ⟨(iv t :: .agg (Val.cells a) :: .agg (Val.cells b) :: U :: po 0 :: po 1 :: iv (-1) :: bv (decide ((a.null = true) ∧ (b.null = true))) :: A4 (A :: A :: bv a.null :: po 0 :: bv a.null :: U9 (U9 (U9 ([]))))), [.live ⟨3, [(Val.cells a)], 23⟩, .live ⟨3, [(Val.cells b)], 23⟩]⟩ (by kernel_rfl) ?_
    refine PV.ret (inBlockA_ret (thenA_ret (hret .ret _ (iv (-1)) (.inr rfl) (by kernel_rfl) ?_)))
    clear hret hK1 hK2 hK6 hK8 K0 K1 K2 K6 K8
    show Tof noTau [.live ⟨3, [(Val.cells a)], 23⟩, .live ⟨3, [(Val.cells b)], 23⟩] (iv (-1)) (iv (vCompare t a b))
    -- leaf 2
    refine Tof.int ?_
    grind [vCompare, intCmp, strCmp, strEq_dec]
  refine PV.seq_k fun K9 hK9 => ?_
  refine PV.regionN ?_
  refine PON.runs 3 (by kernel_rfl) ?_
  refine PON.fin rfl (thenA_normal (hK9 _ ?_))
  refine PV.condP (b.null = true) b.null (by kernel_rfl) (fun h => h) bool_ff (fun h10 => ?_) (fun h10 => ?_)
  · skip
    refine PV.seq_k fun K11 hK11 => ?_
    refine PV.regionN ?_
    refine PON.runs 1 (by kernel_rfl) ?_
    refine PON.fin rfl (thenA_normal (hK11 _ ?_))
    refine PV.norm ⟨(iv t :: .agg (Val.cells a) :: .agg (Val.cells b) :: U :: po 0 :: po 1 :: iv 1 :: bv (decide ((a.null = true) ∧ (b.null = true))) :: A4 (A :: A :: bv a.null :: po 0 :: bv a.null :: bv b.null :: po 1 :: bv b.null :: U9 (U9 ([U, U, U, U, U, U])))), [.live ⟨3, [(Val.cells a)], 23⟩, .live ⟨3, [(Val.cells b)], 23⟩]⟩ (by kernel_rfl) ?_
    refine PV.ret (inBlockA_ret (thenA_ret (hret .ret _ (iv 1) (.inr rfl) (by kernel_rfl) ?_)))
    clear hret hK1 hK2 hK6 hK9 hK11 K0 K1 K2 K6 K9 K11
    show Tof noTau [.live ⟨3, [(Val.cells a)], 23⟩, .live ⟨3, [(Val.cells b)], 23⟩] (iv 1) (iv (vCompare t a b))
    -- leaf 3
    refine Tof.int ?_
    grind [vCompare, intCmp, strCmp, strEq_dec]
  refine PV.skip (inBlockA_normal (thenA_normal (hK2 _ ?_)))
  refine PV.seq_k fun K12 hK12 => ?_
  refine PV.seq_k fun K13 hK13 => ?_
  refine PV.regionN ?_
  refine PON.runs 2 (by kernel_rfl) ?_
  refine PON.fin rfl (thenA_normal (hK13 _ ?_))
  refine PV.condP (t = 3) (decide (t = 3)) (by kernel_rfl) decide_eq_true decide_eq_false (fun h14 => ?_) (fun h14 => ?_)
  · skip
    refine PV.seq_k fun K15 hK15 => ?_
    refine PV.regionN ?_
    refine PON.runs 10 (by kernel_rfl) ?_
    refine PON.call 84 [bv (strLt a.s b.s), bv (strEq a.s b.s)] (some 32) (pre := []) (post := []) (x := iv (if (strLt a.s b.s) = true then -1 else if (strEq a.s b.s) = true then 0 else 1)) _ (by kernel_rfl) (order_ok (strLt a.s b.s) (strEq a.s b.s)) trivial rfl ?_
    refine PON.runs 1 (by kernel_rfl) ?_
    refine PON.fin rfl (thenA_normal (hK15 _ ?_))
    refine PV.norm ⟨(iv t :: .agg (Val.cells a) :: .agg (Val.cells b) :: U :: po 0 :: po 1 :: iv (if (strLt a.s b.s) = true then -1 else if (strEq a.s b.s) = true then 0 else 1) :: bv (decide ((a.null = true) ∧ (b.null = true))) :: A4 (A :: A :: bv a.null :: po 0 :: bv a.null :: bv b.null :: po 1 :: bv b.null :: iv t :: bv (decide (t = 3)) :: .pO 0 0 2 :: sv a.s :: .pO 1 0 2 :: sv b.s :: bv (strLt a.s b.s) :: .pO 0 0 2 :: sv a.s :: .pO 1 0 2 :: sv b.s :: bv (strEq a.s b.s) :: iv (if (strLt a.s b.s) = true then -1 else if (strEq a.s b.s) = true then 0 else 1) :: U9 ([U, U]))), [.live ⟨3, [(Val.cells a)], 23⟩, .live ⟨3, [(Val.cells b)], 23⟩]⟩ (by kernel_rfl) ?_
    refine PV.ret (thenA_ret (hret .ret _ (iv (if (strLt a.s b.s) = true then -1 else if (strEq a.s b.s) = true then 0 else 1)) (.inr rfl) (by kernel_rfl) ?_))
    clear hret hK1 hK2 hK6 hK9 hK12 hK13 hK15 K0 K1 K2 K6 K9 K12 K13 K15
    show Tof noTau [.live ⟨3, [(Val.cells a)], 23⟩, .live ⟨3, [(Val.cells b)], 23⟩] (iv (if (strLt a.s b.s) = true then -1 else if (strEq a.s b.s) = true then 0 else 1)) (iv (vCompare t a b))
    -- leaf 4
    refine Tof.int ?_
    grind [vCompare, intCmp, strCmp, strEq_dec]
  refine PV.skip (thenA_normal (hK12 _ ?_))
  refine PV.seq_k fun K16 hK16 => ?_
  refine PV.regionN ?_
  refine PON.runs 10 (by kernel_rfl) ?_
  refine PON.call 84 [bv (decide (a.n < b.n)), bv (decide (a.n = b.n))] (some 43) (pre := []) (post := []) (x := iv (if (decide (a.n < b.n)) = true then -1 else if (decide (a.n = b.n)) = true then 0 else 1)) _ (by kernel_rfl) (order_ok (decide (a.n < b.n)) (decide (a.n = b.n))) trivial rfl ?_
  refine PON.runs 1 (by kernel_rfl) ?_
  refine PON.fin rfl (thenA_normal (hK16 _ ?_))
  refine PV.norm ⟨(iv t :: .agg (Val.cells a) :: .agg (Val.cells b) :: U :: po 0 :: po 1 :: iv (if (decide (a.n < b.n)) = true then -1 else if (decide (a.n = b.n)) = true then 0 else 1) :: bv (decide ((a.null = true) ∧ (b.null = true))) :: A4 (A :: A :: bv a.null :: po 0 :: bv a.null :: bv b.null :: po 1 :: bv b.null :: iv t :: bv (decide (t = 3)) :: U9 ([U, U, .pO 0 0 1, iv a.n, .pO 1 0 1, iv b.n, bv (decide (a.n < b.n)), .pO 0 0 1, iv a.n, .pO 1 0 1, iv b.n, bv (decide (a.n = b.n)), iv (if (decide (a.n < b.n)) = true then -1 else if (decide (a.n = b.n)) = true then 0 else 1)]))), [.live ⟨3, [(Val.cells a)], 23⟩, .live ⟨3, [(Val.cells b)], 23⟩]⟩ (by kernel_rfl) ?_
  refine PV.ret (hret .ret _ (iv (if (decide (a.n < b.n)) = true then -1 else if (decide (a.n = b.n)) = true then 0 else 1)) (.inr rfl) (by kernel_rfl) ?_)
  clear hret hK1 hK2 hK6 hK9 hK12 hK13 hK16 K0 K1 K2 K6 K9 K12 K13 K16
  show Tof noTau [.live ⟨3, [(Val.cells a)], 23⟩, .live ⟨3, [(Val.cells b)], 23⟩] (iv (if (decide (a.n < b.n)) = true then -1 else if (decide (a.n = b.n)) = true then 0 else 1)) (iv (vCompare t a b))
  -- leaf 5
  refine Tof.int ?_
  grind [vCompare, intCmp, strCmp, strEq_dec]
theorem rCompare_ok (t : Int) (a : Val) (b : Val) : PCX Try.prog 69 [iv t, .agg (Val.cells a), .agg (Val.cells b)] [] [] (iv (vCompare t a b)) :=
  PCX.frame (by simp only [NIs_cons, NIs_nil, NIr_cons, NIr_nil, NI_v, NI_any, NI_pO, NI_sO, NI_pF, NI_sF, NI_agg, NI_tup, NI_fn, NIh_nil, NIh_live, NIh_dead, NIh_free, NIr_map, NIr_append, NIs_icells, NIs_scells, NIs_bcells, NIs_Val, NIs_Col, NIs_Schema, NIs_PNode, NIs_Src, NIr_Val, NIr_Col, NIr_ints, NIr_PNode]; try simp) (rCompare_ok_walk t a b)

end Go.Proofs.Ytinehkfcploeiaa
