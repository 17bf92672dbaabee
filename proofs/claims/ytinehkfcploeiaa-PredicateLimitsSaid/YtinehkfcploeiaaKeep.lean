/- Contracts of the makers of the statements. -/
import Derived.Test.YtinehkfcploeiaaEval2
namespace Go.Proofs.Ytinehkfcploeiaa
open Go.Abs
set_option linter.unusedVariables false
set_option linter.unusedSimpArgs false


def pick (v n : Int) : Int := IntKind.i64.wrap (Int.tmod (IntKind.u64.wrap v) (IntKind.u64.wrap n))
theorem pick_lt {v n : Int} (h : 0 < n ∧ n ≤ 9223372036854775807) : 0 ≤ pick v n ∧ pick v n < n := by
  have hn : IntKind.u64.wrap n = n := IntWalk.u64_in n (by omega)
  have hv : 0 ≤ IntKind.u64.wrap v := by simp [IntKind.wrap, IntKind.bits, IntKind.signed]; omega
  have h1 := Int.tmod_nonneg (IntKind.u64.wrap n) hv
  have h2 := Int.tmod_lt_of_pos (IntKind.u64.wrap v) (show 0 < IntKind.u64.wrap n by omega)
  rw [hn] at h1 h2
  unfold pick
  rw [hn, wrap64] <;> omega
def Src.ok (s : Src) : Prop := 0 ≤ s.i ∧ s.l.length ≤ maxLen
def Src.next (s : Src) : Src := if s.i ≥ s.l.length then s else ⟨s.l, s.i + 1⟩
def Src.val (s : Src) : Int := if s.i ≥ s.l.length then 0 else s.l[s.i.toNat]!
def Src.pick (s : Src) (n : Int) : Int := if s.i ≥ s.l.length then 0 else Go.Proofs.Ytinehkfcploeiaa.pick s.l[s.i.toNat]! n
theorem Src.ok_next {s : Src} (h : Src.ok s) : Src.ok (Src.next s) := by
  unfold Src.ok Src.next at *
  split
  · exact h
  · exact ⟨by simp only; omega, h.2⟩
theorem Src.pick_lt {s : Src} {n : Int} (h : 0 < n ∧ n ≤ 9223372036854775807) : 0 ≤ Src.pick s n ∧ Src.pick s n < n := by
  unfold Src.pick
  split
  · omega
  · exact Go.Proofs.Ytinehkfcploeiaa.pick_lt h
theorem Src.ok_from {l : List Int} (h : l.length ≤ maxLen) : Src.ok ⟨l, 0⟩ := ⟨by simp, h⟩

set_option maxHeartbeats 4000000 in
theorem pick_ok_walk (v : Int) (n : Int) (hn : IntKind.u64.wrap n ≠ 0) : PC Try.prog 13 [iv v, iv n] [] (fun yR kR => Tof noTau kR yR (iv (pick v n))) := by
  refine PC.of_bodyV Try.func13 rfl (iv v :: iv n :: U9 ([])) (by kernel_rfl) (fun K0 hret => ?_)
  refine PV.seq_k fun K1 hK1 => ?_
  refine PV.regionN ?_
  refine PON.runs 1 (by kernel_rfl) ?_
  refine PON.fin rfl (thenA_normal (hK1 _ ?_))
  refine PV.seq_k fun K2 hK2 => ?_
  refine PV.regionN ?_
  refine PON.runs 4 (by kernel_rfl) ?_
  refine PON.ops (aBin_rem Try.prog [] 61 (.tmp 6) (.tmp 8) .u64 (IntKind.u64.wrap (v)) (IntKind.u64.wrap (n)) (by assumption)) (by kernel_rfl) (by kernel_rfl) ?_
  refine PON.runs 2 (by kernel_rfl) ?_
  refine PON.fin rfl (thenA_normal (hK2 _ ?_))
  refine PV.norm ⟨[iv v, iv n, U, U, iv (IntKind.i64.wrap ((Int.tmod (IntKind.u64.wrap (v)) (IntKind.u64.wrap (n))))), iv v, .v (.int .u64 (IntKind.u64.wrap (v))), iv n, .v (.int .u64 (IntKind.u64.wrap (n))), .v (.int .u64 (Int.tmod (IntKind.u64.wrap (v)) (IntKind.u64.wrap (n)))), iv (IntKind.i64.wrap ((Int.tmod (IntKind.u64.wrap (v)) (IntKind.u64.wrap (n)))))], []⟩ (by kernel_rfl) ?_
  refine PV.ret (hret .ret _ (iv (IntKind.i64.wrap ((Int.tmod (IntKind.u64.wrap (v)) (IntKind.u64.wrap (n)))))) (.inr rfl) (by kernel_rfl) ?_)
  clear hret hK1 hK2 K0 K1 K2
  show Tof noTau [] (iv (IntKind.i64.wrap ((Int.tmod (IntKind.u64.wrap (v)) (IntKind.u64.wrap (n)))))) (iv (pick v n))
  -- leaf 1
  exact Tof.int rfl
theorem pick_ok (v : Int) (n : Int) (hn : IntKind.u64.wrap n ≠ 0) : PCX Try.prog 13 [iv v, iv n] [] [] (iv (pick v n)) :=
  PCX.frame (by simp only [NIs_cons, NIs_nil, NIr_cons, NIr_nil, NI_v, NI_any, NI_pO, NI_sO, NI_pF, NI_sF, NI_agg, NI_tup, NI_fn, NIh_nil, NIh_live, NIh_dead, NIh_free, NIr_map, NIr_append, NIs_icells, NIs_scells, NIs_bcells, NIs_Val, NIs_Col, NIs_Schema, NIs_PNode, NIs_Src, NIr_Val, NIr_Col, NIr_ints, NIr_PNode]; try simp) (pick_ok_walk v n hn)

set_option maxHeartbeats 4000000 in
theorem next_ok_walk (s : Src) (n : Int) (hs : Src.ok s) (hn : IntKind.u64.wrap n ≠ 0) (j : Nat) : PC Try.prog 34 [po 0, iv n] [.live ⟨2, [(Src.cells s)], 85⟩] (fun yR kR => Tof (up [j]) kR yR (iv (Src.pick s n)) ∧ (kR : Heap)[0]? = some (.live ⟨2, [(Src.cells (Src.next s))], 85⟩)) := by
  refine PC.of_bodyV Try.func34 rfl (po 0 :: iv n :: U9 (U9 (U9 ([U, U, U, U, U, U])))) (by kernel_rfl) (fun K0 hret => ?_)
  obtain ⟨hs0, hs1⟩ := hs
  unfold maxLen at hs1
  refine PV.seq_k fun K1 hK1 => ?_
  refine PV.regionN ?_
  refine PON.runs 1 (by kernel_rfl) ?_
  refine PON.fin rfl (thenA_normal (hK1 _ ?_))
  refine PV.seq_k fun K2 hK2 => ?_
  refine PV.norm ⟨(po 0 :: iv n :: U :: U :: iv 0 :: U9 (U9 (U9 ([U, U, U])))), [.live ⟨2, [(Src.cells s)], 85⟩]⟩ (by kernel_rfl) ?_
  refine PV.seqR [0] ⟨(po 0 :: iv n :: U :: U :: iv 0 :: A9 (bv (decide (s.i ≥ (s.l.length : Int))) :: U9 (U9 ([U, U])))), [.live ⟨2, [(Src.cells s)], 85⟩]⟩ ?_ ?_
  · skip
    refine PV.drawnG mixed (by kernel_rfl) ?_
    refine DRG.runs 8 (by kernel_rfl) ?_
    refine DRG.ops (aLen_map Try.prog [.live ⟨2, [(Src.cells s)], 85⟩, .free, .free, .free, .free, .free, .free, .free, .free, .free, .free] 39 3 (by kernel_rfl) 1 (icells .i64) s.l) (by kernel_rfl) (by kernel_rfl) ?_
    refine DRG.runs 1 (by kernel_rfl) ?_
    refine DRG.norm ⟨(po 0 :: iv n :: U :: U :: iv 0 :: po 0 :: po 0 :: .pO 0 0 1 :: iv s.i :: po 0 :: po 0 :: po 0 :: .sF 1 (s.l.map (icells .i64)) :: iv (s.l.length : Int) :: bv (decide (s.i ≥ (s.l.length : Int))) :: U9 (U9 ([U, U]))), [.live ⟨2, [(Src.cells s)], 85⟩, .free, .free, .free, .free, .free, .free, .free, .free, .free, .free]⟩ (by kernel_rfl) ?_
    refine DRG.fin rfl (And.intro (by kernel_rfl) ?_)
    refine id (thenA_normal ?_)
    exact ⟨rfl, rfl, (.cons (.pO _ _ rfl) (.v (.v (.v (.v (.a9 (.v (.v (.v (.v (.v (.v (.v (.v (.v (.v (.v (.v (.v (.v (.v (.v (.v (.v (.v (.v (.v .nil))))))))))))))))))))))))))), (.cons rfl (.tree (by simp only [NIs_cons, NIs_nil, NIr_cons, NIr_nil, NI_v, NI_any, NI_pO, NI_sO, NI_pF, NI_sF, NI_agg, NI_tup, NI_fn, NIh_nil, NIh_live, NIh_dead, NIh_free, NIr_map, NIr_append, NIs_icells, NIs_scells, NIs_bcells, NIs_Val, NIs_Col, NIs_Schema, NIs_PNode, NIs_Src, NIr_Val, NIr_Col, NIr_ints, NIr_PNode]; try simp)) .nil)⟩
  refine PV.condP (s.i ≥ (s.l.length : Int)) (decide (s.i ≥ (s.l.length : Int))) (by kernel_rfl) decide_eq_true decide_eq_false (fun h3 => ?_) (fun h3 => ?_)
  · skip
    refine PV.seq_k fun K4 hK4 => ?_
    refine PV.regionN ?_
    refine PON.runs 1 (by kernel_rfl) ?_
    refine PON.fin rfl (thenA_normal (hK4 _ ?_))
    refine PV.norm ⟨(po 0 :: iv n :: U :: U :: iv 0 :: A9 (bv (decide (s.i ≥ (s.l.length : Int))) :: U9 (U9 ([U, U])))), [.live ⟨2, [(Src.cells s)], 85⟩]⟩ (by kernel_rfl) ?_
    refine PV.ret (thenA_ret (hret .ret _ (iv 0) (.inr rfl) (by kernel_rfl) ?_))
    clear hret hK1 hK2 hK4 K0 K1 K2 K4
    show Tof (up [j]) [.live ⟨2, [(Src.cells s)], 85⟩] (iv 0) (iv (Src.pick s n)) ∧ ([.live ⟨2, [(Src.cells s)], 85⟩] : Heap)[0]? = some (.live ⟨2, [(Src.cells (Src.next s))], 85⟩)
    -- leaf 1
    first | exact ⟨Tof.int (by rw [Src.pick, if_pos (by omega)]), by rw [Src.next, if_pos (by omega)]; rfl⟩ | exact ⟨Tof.int (by rw [Src.pick, if_neg (by omega)]; simp), by rw [Src.next, if_neg (by omega)]; rfl⟩
  refine PV.skip (thenA_normal (hK2 _ ?_))
  refine PV.seq_k fun K5 hK5 => ?_
  refine PV.regionN ?_
  refine PON.runs 4 (by kernel_rfl) ?_
  refine PON.ops (aBin_add_in Try.prog [.live ⟨2, [(Src.cells s)], 85⟩] 3 (.tmp 18) (.const (.int .i64 1)) .i64 s.i 1 (by rw [wrap64] <;> omega)) (by kernel_rfl) (by kernel_rfl) ?_
  refine PON.runs 3 (by kernel_rfl) ?_
  refine PON.fin rfl (thenA_normal (hK5 _ ?_))
  refine PV.norm ⟨(po 0 :: iv n :: U :: U :: iv 0 :: A9 (bv (decide (s.i ≥ (s.l.length : Int))) :: po 0 :: po 0 :: .pO 0 0 1 :: iv s.i :: iv (s.i + 1) :: po 0 :: .pO 0 0 1 :: U9 ([U, U, U, U]))), [.live ⟨2, [[.sF 1 (s.l.map (icells .i64)), iv (s.i + 1)]], 85⟩]⟩ (by kernel_rfl) ?_
  refine PV.seqR [0] ⟨(po 0 :: iv n :: U :: U :: iv (pick (s.l[((s.i + 1) - 1).toNat]!) n) :: A9 (bv (decide (s.i ≥ (s.l.length : Int))) :: po 0 :: po 0 :: .pO 0 0 1 :: iv s.i :: iv (s.i + 1) :: po 0 :: .pO 0 0 1 :: A9 (A4 ([])))), [.live ⟨2, [[.sF 1 (s.l.map (icells .i64)), iv (s.i + 1)]], 85⟩]⟩ ?_ ?_
  · skip
    refine PV.drawnG mixed (by kernel_rfl) ?_
    refine DRG.runs 8 (by kernel_rfl) ?_
    refine DRG.ops (aBin_sub_in Try.prog [.live ⟨2, [[.sF 1 (s.l.map (icells .i64)), iv (s.i + 1)]], 85⟩, .free, .free, .free, .free, .free, .free, .free, .free, .free, .free, .free, .free, .free, .free] 3 (.tmp 29) (.const (.int .i64 1)) .i64 (s.i + 1) 1 (by rw [wrap64] <;> omega)) (by kernel_rfl) (by kernel_rfl) ?_
    refine DRG.ops (aIndexAddr_map Try.prog [.live ⟨2, [[.sF 1 (s.l.map (icells .i64)), iv (s.i + 1)]], 85⟩, .free, .free, .free, .free, .free, .free, .free, .free, .free, .free, .free, .free, .free, .free] 39 3 1 (icells .i64) (by kernel_rfl) (by kernel_rfl) s.l .i64 ((s.i + 1) - 1) (by first | omega | (have := size_pos_of_ne (by assumption); omega))) (by kernel_rfl) (by kernel_rfl) ?_
    refine DRG.runs 2 (by kernel_rfl) ?_
    refine DRG.call 13 [iv (s.l[((s.i + 1) - 1).toNat]!), iv n] (some 34) (pre := []) (post := []) (x := iv (pick (s.l[((s.i + 1) - 1).toNat]!) n)) _ (by kernel_rfl) (pick_ok (s.l[((s.i + 1) - 1).toNat]!) n (by first | assumption | first | decide | (rw [IntWalk.u64_in] <;> omega))) trivial rfl ?_
    refine DRG.runs 1 (by kernel_rfl) ?_
    refine DRG.norm ⟨(po 0 :: iv n :: U :: U :: iv (pick (s.l[((s.i + 1) - 1).toNat]!) n) :: A9 ([bv (decide (s.i ≥ (s.l.length : Int))), po 0, po 0, .pO 0 0 1, iv s.i, iv (s.i + 1), po 0, .pO 0 0 1, po 0, po 0, po 0, .sF 1 (s.l.map (icells .i64)), po 0, po 0, .pO 0 0 1, iv (s.i + 1), iv ((s.i + 1) - 1), .pF ((icells .i64) (s.l[((s.i + 1) - 1).toNat]!)) 0, iv (s.l[((s.i + 1) - 1).toNat]!), iv n, iv (pick (s.l[((s.i + 1) - 1).toNat]!) n)])), [.live ⟨2, [[.sF 1 (s.l.map (icells .i64)), iv (s.i + 1)]], 85⟩, .free, .free, .free, .free, .free, .free, .free, .free, .free, .free, .free, .free, .free, .free]⟩ (by kernel_rfl) ?_
    refine DRG.fin rfl (And.intro (by kernel_rfl) ?_)
    refine id (thenA_normal ?_)
    exact ⟨rfl, rfl, (.cons (.pO _ _ rfl) (.v (.v (.v (.v (.a9 (.v (.cons (.pO _ _ rfl) (.cons (.pO _ _ rfl) (.cons (.pO _ _ rfl) (.v (.v (.cons (.pO _ _ rfl) (.cons (.pO _ _ rfl) (.a9 (.a4 .nil)))))))))))))))), (.cons rfl (.tree (by simp only [NIs_cons, NIs_nil, NIr_cons, NIr_nil, NI_v, NI_any, NI_pO, NI_sO, NI_pF, NI_sF, NI_agg, NI_tup, NI_fn, NIh_nil, NIh_live, NIh_dead, NIh_free, NIr_map, NIr_append, NIs_icells, NIs_scells, NIs_bcells, NIs_Val, NIs_Col, NIs_Schema, NIs_PNode, NIs_Src, NIr_Val, NIr_Col, NIr_ints, NIr_PNode]; try simp)) .nil)⟩
  refine PV.ret (hret .ret _ (iv (pick (s.l[((s.i + 1) - 1).toNat]!) n)) (.inr rfl) (by kernel_rfl) ?_)
  clear hret hK1 hK2 hK5 K0 K1 K2 K5
  show Tof (up [j]) [.live ⟨2, [[.sF 1 (s.l.map (icells .i64)), iv (s.i + 1)]], 85⟩] (iv (pick (s.l[((s.i + 1) - 1).toNat]!) n)) (iv (Src.pick s n)) ∧ ([.live ⟨2, [[.sF 1 (s.l.map (icells .i64)), iv (s.i + 1)]], 85⟩] : Heap)[0]? = some (.live ⟨2, [(Src.cells (Src.next s))], 85⟩)
  -- leaf 2
  first | exact ⟨Tof.int (by rw [Src.pick, if_pos (by omega)]), by rw [Src.next, if_pos (by omega)]; rfl⟩ | exact ⟨Tof.int (by rw [Src.pick, if_neg (by omega)]; simp), by rw [Src.next, if_neg (by omega)]; rfl⟩
theorem next_ok (j : Nat) (s : Src) (n : Int) (hs : Src.ok s) (hn : IntKind.u64.wrap n ≠ 0) : PCX Try.prog 34 [.pO j 0 0, iv n] [(j, .live ⟨2, [(Src.cells s)], 85⟩)] [(j, .live ⟨2, [(Src.cells (Src.next s))], 85⟩)] (iv (Src.pick s n)) :=
  PCX.lift1 j (by simp only [NIs_cons, NIs_nil, NIr_cons, NIr_nil, NI_v, NI_any, NI_pO, NI_sO, NI_pF, NI_sF, NI_agg, NI_tup, NI_fn, NIh_nil, NIh_live, NIh_dead, NIh_free, NIr_map, NIr_append, NIs_icells, NIs_scells, NIs_bcells, NIs_Val, NIs_Col, NIs_Schema, NIs_PNode, NIs_Src, NIr_Val, NIr_Col, NIr_ints, NIr_PNode]; try simp) (by simp only [NIs_cons, NIs_nil, NIr_cons, NIr_nil, NI_v, NI_any, NI_pO, NI_sO, NI_pF, NI_sF, NI_agg, NI_tup, NI_fn, NIh_nil, NIh_live, NIh_dead, NIh_free, NIr_map, NIr_append, NIs_icells, NIs_scells, NIs_bcells, NIs_Val, NIs_Col, NIs_Schema, NIs_PNode, NIs_Src, NIr_Val, NIr_Col, NIr_ints, NIr_PNode]; try simp) (by simp only [NIs_cons, NIs_nil, NIr_cons, NIr_nil, NI_v, NI_any, NI_pO, NI_sO, NI_pF, NI_sF, NI_agg, NI_tup, NI_fn, NIh_nil, NIh_live, NIh_dead, NIh_free, NIr_map, NIr_append, NIs_icells, NIs_scells, NIs_bcells, NIs_Val, NIs_Col, NIs_Schema, NIs_PNode, NIs_Src, NIr_Val, NIr_Col, NIr_ints, NIr_PNode]; try simp) (fun j => next_ok_walk s n hs hn j)

set_option maxHeartbeats 4000000 in
theorem raw_ok_walk (s : Src) (hs : Src.ok s) (j : Nat) : PC Try.prog 59 [po 0] [.live ⟨2, [(Src.cells s)], 85⟩] (fun yR kR => Tof (up [j]) kR yR (iv (Src.val s)) ∧ (kR : Heap)[0]? = some (.live ⟨2, [(Src.cells (Src.next s))], 85⟩)) := by
  refine PC.of_bodyV Try.func59 rfl (po 0 :: U9 (U9 (U9 ([U, U, U])))) (by kernel_rfl) (fun K0 hret => ?_)
  obtain ⟨hs0, hs1⟩ := hs
  unfold maxLen at hs1
  refine PV.seq_k fun K1 hK1 => ?_
  refine PV.regionN ?_
  refine PON.runs 1 (by kernel_rfl) ?_
  refine PON.fin rfl (thenA_normal (hK1 _ ?_))
  refine PV.seq_k fun K2 hK2 => ?_
  refine PV.norm ⟨(po 0 :: U :: iv 0 :: U9 (U9 (U9 ([U])))), [.live ⟨2, [(Src.cells s)], 85⟩]⟩ (by kernel_rfl) ?_
  refine PV.seqR [0] ⟨(po 0 :: U :: iv 0 :: A9 (bv (decide (s.i ≥ (s.l.length : Int))) :: U9 (U9 ([])))), [.live ⟨2, [(Src.cells s)], 85⟩]⟩ ?_ ?_
  · skip
    refine PV.drawnG mixed (by kernel_rfl) ?_
    refine DRG.runs 8 (by kernel_rfl) ?_
    refine DRG.ops (aLen_map Try.prog [.live ⟨2, [(Src.cells s)], 85⟩, .free, .free, .free, .free, .free, .free, .free, .free, .free, .free] 39 3 (by kernel_rfl) 1 (icells .i64) s.l) (by kernel_rfl) (by kernel_rfl) ?_
    refine DRG.runs 1 (by kernel_rfl) ?_
    refine DRG.norm ⟨(po 0 :: U :: iv 0 :: po 0 :: po 0 :: .pO 0 0 1 :: iv s.i :: po 0 :: po 0 :: po 0 :: .sF 1 (s.l.map (icells .i64)) :: iv (s.l.length : Int) :: bv (decide (s.i ≥ (s.l.length : Int))) :: U9 (U9 ([]))), [.live ⟨2, [(Src.cells s)], 85⟩, .free, .free, .free, .free, .free, .free, .free, .free, .free, .free]⟩ (by kernel_rfl) ?_
    refine DRG.fin rfl (And.intro (by kernel_rfl) ?_)
    refine id (thenA_normal ?_)
    exact ⟨rfl, rfl, (.cons (.pO _ _ rfl) (.v (.v (.a9 (.v (.v (.v (.v (.v (.v (.v (.v (.v (.v (.v (.v (.v (.v (.v (.v (.v (.v (.v .nil))))))))))))))))))))))), (.cons rfl (.tree (by simp only [NIs_cons, NIs_nil, NIr_cons, NIr_nil, NI_v, NI_any, NI_pO, NI_sO, NI_pF, NI_sF, NI_agg, NI_tup, NI_fn, NIh_nil, NIh_live, NIh_dead, NIh_free, NIr_map, NIr_append, NIs_icells, NIs_scells, NIs_bcells, NIs_Val, NIs_Col, NIs_Schema, NIs_PNode, NIs_Src, NIr_Val, NIr_Col, NIr_ints, NIr_PNode]; try simp)) .nil)⟩
  refine PV.condP (s.i ≥ (s.l.length : Int)) (decide (s.i ≥ (s.l.length : Int))) (by kernel_rfl) decide_eq_true decide_eq_false (fun h3 => ?_) (fun h3 => ?_)
  · skip
    refine PV.seq_k fun K4 hK4 => ?_
    refine PV.regionN ?_
    refine PON.runs 1 (by kernel_rfl) ?_
    refine PON.fin rfl (thenA_normal (hK4 _ ?_))
    refine PV.norm ⟨(po 0 :: U :: iv 0 :: A9 (bv (decide (s.i ≥ (s.l.length : Int))) :: U9 (U9 ([])))), [.live ⟨2, [(Src.cells s)], 85⟩]⟩ (by kernel_rfl) ?_
    refine PV.ret (thenA_ret (hret .ret _ (iv 0) (.inr rfl) (by kernel_rfl) ?_))
    clear hret hK1 hK2 hK4 K0 K1 K2 K4
    show Tof (up [j]) [.live ⟨2, [(Src.cells s)], 85⟩] (iv 0) (iv (Src.val s)) ∧ ([.live ⟨2, [(Src.cells s)], 85⟩] : Heap)[0]? = some (.live ⟨2, [(Src.cells (Src.next s))], 85⟩)
    -- leaf 1
    first | exact ⟨Tof.int (by rw [Src.val, if_pos (by omega)]), by rw [Src.next, if_pos (by omega)]; rfl⟩ | exact ⟨Tof.int (by rw [Src.val, if_neg (by omega)]; simp), by rw [Src.next, if_neg (by omega)]; rfl⟩
  refine PV.skip (thenA_normal (hK2 _ ?_))
  refine PV.seq_k fun K5 hK5 => ?_
  refine PV.regionN ?_
  refine PON.runs 4 (by kernel_rfl) ?_
  refine PON.ops (aBin_add_in Try.prog [.live ⟨2, [(Src.cells s)], 85⟩] 3 (.tmp 16) (.const (.int .i64 1)) .i64 s.i 1 (by rw [wrap64] <;> omega)) (by kernel_rfl) (by kernel_rfl) ?_
  refine PON.runs 3 (by kernel_rfl) ?_
  refine PON.fin rfl (thenA_normal (hK5 _ ?_))
  refine PV.norm ⟨(po 0 :: U :: iv 0 :: A9 (bv (decide (s.i ≥ (s.l.length : Int))) :: po 0 :: po 0 :: .pO 0 0 1 :: iv s.i :: iv (s.i + 1) :: po 0 :: .pO 0 0 1 :: U9 ([U, U]))), [.live ⟨2, [[.sF 1 (s.l.map (icells .i64)), iv (s.i + 1)]], 85⟩]⟩ (by kernel_rfl) ?_
  refine PV.seqR [0] ⟨(po 0 :: U :: iv (s.l[((s.i + 1) - 1).toNat]!) :: A9 (bv (decide (s.i ≥ (s.l.length : Int))) :: po 0 :: po 0 :: .pO 0 0 1 :: iv s.i :: iv (s.i + 1) :: po 0 :: .pO 0 0 1 :: A9 ([A, A]))), [.live ⟨2, [[.sF 1 (s.l.map (icells .i64)), iv (s.i + 1)]], 85⟩]⟩ ?_ ?_
  · skip
    refine PV.drawnG mixed (by kernel_rfl) ?_
    refine DRG.runs 8 (by kernel_rfl) ?_
    refine DRG.ops (aBin_sub_in Try.prog [.live ⟨2, [[.sF 1 (s.l.map (icells .i64)), iv (s.i + 1)]], 85⟩, .free, .free, .free, .free, .free, .free, .free, .free, .free, .free, .free, .free] 3 (.tmp 27) (.const (.int .i64 1)) .i64 (s.i + 1) 1 (by rw [wrap64] <;> omega)) (by kernel_rfl) (by kernel_rfl) ?_
    refine DRG.ops (aIndexAddr_map Try.prog [.live ⟨2, [[.sF 1 (s.l.map (icells .i64)), iv (s.i + 1)]], 85⟩, .free, .free, .free, .free, .free, .free, .free, .free, .free, .free, .free, .free] 39 3 1 (icells .i64) (by kernel_rfl) (by kernel_rfl) s.l .i64 ((s.i + 1) - 1) (by first | omega | (have := size_pos_of_ne (by assumption); omega))) (by kernel_rfl) (by kernel_rfl) ?_
    refine DRG.runs 2 (by kernel_rfl) ?_
    refine DRG.norm ⟨(po 0 :: U :: iv (s.l[((s.i + 1) - 1).toNat]!) :: A9 ([bv (decide (s.i ≥ (s.l.length : Int))), po 0, po 0, .pO 0 0 1, iv s.i, iv (s.i + 1), po 0, .pO 0 0 1, po 0, po 0, po 0, .sF 1 (s.l.map (icells .i64)), po 0, po 0, .pO 0 0 1, iv (s.i + 1), iv ((s.i + 1) - 1), .pF ((icells .i64) (s.l[((s.i + 1) - 1).toNat]!)) 0, iv (s.l[((s.i + 1) - 1).toNat]!)])), [.live ⟨2, [[.sF 1 (s.l.map (icells .i64)), iv (s.i + 1)]], 85⟩, .free, .free, .free, .free, .free, .free, .free, .free, .free, .free, .free, .free]⟩ (by kernel_rfl) ?_
    refine DRG.fin rfl (And.intro (by kernel_rfl) ?_)
    refine id (thenA_normal ?_)
    exact ⟨rfl, rfl, (.cons (.pO _ _ rfl) (.v (.v (.a9 (.v (.cons (.pO _ _ rfl) (.cons (.pO _ _ rfl) (.cons (.pO _ _ rfl) (.v (.v (.cons (.pO _ _ rfl) (.cons (.pO _ _ rfl) (.a9 (.any (.any .nil))))))))))))))), (.cons rfl (.tree (by simp only [NIs_cons, NIs_nil, NIr_cons, NIr_nil, NI_v, NI_any, NI_pO, NI_sO, NI_pF, NI_sF, NI_agg, NI_tup, NI_fn, NIh_nil, NIh_live, NIh_dead, NIh_free, NIr_map, NIr_append, NIs_icells, NIs_scells, NIs_bcells, NIs_Val, NIs_Col, NIs_Schema, NIs_PNode, NIs_Src, NIr_Val, NIr_Col, NIr_ints, NIr_PNode]; try simp)) .nil)⟩
  refine PV.ret (hret .ret _ (iv (s.l[((s.i + 1) - 1).toNat]!)) (.inr rfl) (by kernel_rfl) ?_)
  clear hret hK1 hK2 hK5 K0 K1 K2 K5
  show Tof (up [j]) [.live ⟨2, [[.sF 1 (s.l.map (icells .i64)), iv (s.i + 1)]], 85⟩] (iv (s.l[((s.i + 1) - 1).toNat]!)) (iv (Src.val s)) ∧ ([.live ⟨2, [[.sF 1 (s.l.map (icells .i64)), iv (s.i + 1)]], 85⟩] : Heap)[0]? = some (.live ⟨2, [(Src.cells (Src.next s))], 85⟩)
  -- leaf 2
  first | exact ⟨Tof.int (by rw [Src.val, if_pos (by omega)]), by rw [Src.next, if_pos (by omega)]; rfl⟩ | exact ⟨Tof.int (by rw [Src.val, if_neg (by omega)]; simp), by rw [Src.next, if_neg (by omega)]; rfl⟩
theorem raw_ok (j : Nat) (s : Src) (hs : Src.ok s) : PCX Try.prog 59 [.pO j 0 0] [(j, .live ⟨2, [(Src.cells s)], 85⟩)] [(j, .live ⟨2, [(Src.cells (Src.next s))], 85⟩)] (iv (Src.val s)) :=
  PCX.lift1 j (by simp only [NIs_cons, NIs_nil, NIr_cons, NIr_nil, NI_v, NI_any, NI_pO, NI_sO, NI_pF, NI_sF, NI_agg, NI_tup, NI_fn, NIh_nil, NIh_live, NIh_dead, NIh_free, NIr_map, NIr_append, NIs_icells, NIs_scells, NIs_bcells, NIs_Val, NIs_Col, NIs_Schema, NIs_PNode, NIs_Src, NIr_Val, NIr_Col, NIr_ints, NIr_PNode]; try simp) (by simp only [NIs_cons, NIs_nil, NIr_cons, NIr_nil, NI_v, NI_any, NI_pO, NI_sO, NI_pF, NI_sF, NI_agg, NI_tup, NI_fn, NIh_nil, NIh_live, NIh_dead, NIh_free, NIr_map, NIr_append, NIs_icells, NIs_scells, NIs_bcells, NIs_Val, NIs_Col, NIs_Schema, NIs_PNode, NIs_Src, NIr_Val, NIr_Col, NIr_ints, NIr_PNode]; try simp) (by simp only [NIs_cons, NIs_nil, NIr_cons, NIr_nil, NI_v, NI_any, NI_pO, NI_sO, NI_pF, NI_sF, NI_agg, NI_tup, NI_fn, NIh_nil, NIh_live, NIh_dead, NIh_free, NIr_map, NIr_append, NIs_icells, NIs_scells, NIs_bcells, NIs_Val, NIs_Col, NIs_Schema, NIs_PNode, NIs_Src, NIr_Val, NIr_Col, NIr_ints, NIr_PNode]; try simp) (fun j => raw_ok_walk s hs j)

theorem from_ok (l : List Int) : PCA Try.prog 33 [.sF 1 (l.map (icells .i64))] ⟨2, [Src.cells ⟨l, 0⟩], 85⟩ := by
  intro h new h' hh
  refine PC.of_bodyK Try.func33 rfl [.sF 1 (l.map (icells .i64)), .v undef, .v undef, .v undef, .v undef, .v undef] (by kernel_rfl) (fun K0 hret => ?_)
  refine PW.seq_k fun K1 hK1 => ?_
  refine PW.regionN ?_
  refine PON.oneN 0 (s' := ⟨[.sF 1 (l.map (icells .i64)), .v undef, .v (.pointer none), .v undef, .v undef, .v undef], h⟩) (by kernel_rfl) ?_
  refine PON.fin rfl (thenA_normal (hK1 _ ?_))
  refine PW.seq_k fun K2 hK2 => ?_
  refine PW.regionN ?_
  refine PON.oneN 0 (s' := ⟨[.sF 1 (l.map (icells .i64)), .v undef, .v (.pointer none), .sF 1 (l.map (icells .i64)), .v undef, .v undef], h⟩) (by kernel_rfl) ?_
  refine PON.oneN 0 (s' := ⟨[.sF 1 (l.map (icells .i64)), .v undef, .v (.pointer none), .sF 1 (l.map (icells .i64)), .agg (Src.cells ⟨l, 0⟩), .v undef], h⟩) (by kernel_rfl) ?_
  refine PON.oneN new (s' := ⟨[.sF 1 (l.map (icells .i64)), .v undef, .v (.pointer none), .sF 1 (l.map (icells .i64)), .agg (Src.cells ⟨l, 0⟩), .pO new 0 0], h'⟩) ?_ ?_
  · have e : aBox h new 85 (.agg (Src.cells ⟨l, 0⟩)) = some (.pO new 0 0, h') := by
      have : aBox h new 85 (.agg (Src.cells ⟨l, 0⟩)) = match halloc h new ⟨2, [Src.cells ⟨l, 0⟩], 85⟩ with | some h' => some (.pO new 0 0, h') | none => none := by kernel_rfl
      rw [this, hh]
    have e2 : opAt Try.prog #[{ dst := some 3, op := Go.Op.move (Go.Operand.tmp 0), type := 39, pos := "keep.go:62", after := #[], guard := none }, { dst := some 4, op := Go.Op.build 85 #[(0, Go.Operand.tmp 3)], type := 85, pos := "keep.go:62", after := #[{ on := 0, ground := Go.Ground.data }], guard := none }, { dst := some 5, op := Go.Op.box 85 (Go.Operand.tmp 4), type := 65, pos := "keep.go:62", after := #[{ on := 1, ground := Go.Ground.data }], guard := none }, { dst := some 2, op := Go.Op.assign (Go.Operand.tmp 5), type := 65, pos := "keep.go:62", after := #[{ on := 2, ground := Go.Ground.data }, { on := 0, ground := Go.Ground.phase }, { on := 1, ground := Go.Ground.phase }, { on := 2, ground := Go.Ground.phase }], guard := none }] 2 new ⟨[.sF 1 (l.map (icells .i64)), .v undef, .v (.pointer none), .sF 1 (l.map (icells .i64)), .agg (Src.cells ⟨l, 0⟩), .v undef], h⟩ = opPut #[{ dst := some 3, op := Go.Op.move (Go.Operand.tmp 0), type := 39, pos := "keep.go:62", after := #[], guard := none }, { dst := some 4, op := Go.Op.build 85 #[(0, Go.Operand.tmp 3)], type := 85, pos := "keep.go:62", after := #[{ on := 0, ground := Go.Ground.data }], guard := none }, { dst := some 5, op := Go.Op.box 85 (Go.Operand.tmp 4), type := 65, pos := "keep.go:62", after := #[{ on := 1, ground := Go.Ground.data }], guard := none }, { dst := some 2, op := Go.Op.assign (Go.Operand.tmp 5), type := 65, pos := "keep.go:62", after := #[{ on := 2, ground := Go.Ground.data }, { on := 0, ground := Go.Ground.phase }, { on := 1, ground := Go.Ground.phase }, { on := 2, ground := Go.Ground.phase }], guard := none }] 2 [.sF 1 (l.map (icells .i64)), .v undef, .v (.pointer none), .sF 1 (l.map (icells .i64)), .agg (Src.cells ⟨l, 0⟩), .v undef] (aBox h new 85 (.agg (Src.cells ⟨l, 0⟩))) := by kernel_rfl
    refine Eq.trans e2 ?_
    rw [e]
    rfl
  refine PON.oneN 0 (s' := ⟨[.sF 1 (l.map (icells .i64)), .v undef, .pO new 0 0, .sF 1 (l.map (icells .i64)), .agg (Src.cells ⟨l, 0⟩), .pO new 0 0], h'⟩) (by kernel_rfl) ?_
  refine PON.fin rfl (thenA_normal (hK2 _ ?_))
  exact PW.ret (hret .ret _ (.pO new 0 0) (.inr rfl) (by kernel_rfl) ⟨rfl, rfl⟩)

end Go.Proofs.Ytinehkfcploeiaa
