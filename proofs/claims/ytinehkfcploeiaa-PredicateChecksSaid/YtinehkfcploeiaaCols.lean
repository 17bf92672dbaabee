/- Contracts of the columns of a predicate. -/
import Derived.Test.YtinehkfcploeiaaBase
import Derived.Test.YtinehkfcploeiaaLay
import Derived.Test.YtinehkfcploeiaaAbsSp
namespace Go.Proofs.Ytinehkfcploeiaa
open Go.Abs
set_option linter.unusedVariables false
set_option linter.unusedSimpArgs false


theorem errFrom_get {α : Type} [Inhabited α] (f : Int → α → Int) : ∀ (l : List α) (k : Int), errFrom f k l = 0 → ∀ i : Nat, i < l.length → f (k + i) l[i]! = 0
  | [], k, _, i, hi => by simp at hi
  | x :: l, k, h, i, hi => by
    unfold errFrom at h
    split at h
    · rename_i h0
      cases i with
      | zero => simpa using h0
      | succ i =>
        have := errFrom_get f l (k + 1) h i (by simpa using hi)
        rw [show k + ((i + 1 : Nat) : Int) = k + 1 + (i : Int) by omega]
        simpa using this
    · rename_i h0; exact absurd h h0
def colsL (p : List Nd) : List Int := (p.filter fun n => decide (n.1 < 9)).map fun n => n.2.1
def hasL (p : List Nd) (c : Int) : Bool := p.any fun n => isLeaf n.1 && decide (n.2.1 = c)
def rcolsL (p : List Nd) (n : Nat) : List Int := ((List.range n).filter fun i : Nat => hasL p (i : Int)).map fun i : Nat => (i : Int)
def colsR (s : Schema) (p : List Nd) : List Int × Int := if predErr s p ≠ 0 then ([], predErr s p) else (compL (sortL (colsL p)), 0)
def rcolsR (s : Schema) (p : List Nd) : List Int × Int := if predErr s p ≠ 0 then ([], predErr s p) else (rcolsL p s.1.length, 0)
theorem colsL_step {p : List Nd} {k : Int} (h : 0 ≤ k ∧ k < p.length) : colsL (p.drop k.toNat) = (if p[k.toNat]!.1 < 9 then [p[k.toNat]!.2.1] else []) ++ colsL (p.drop (k + 1).toNat) := by
  rw [drop_step p k h]
  unfold colsL
  by_cases q : p[k.toNat]!.1 < 9
  · rw [List.filter_cons_of_pos (by simpa using q), if_pos q]; rfl
  · rw [List.filter_cons_of_neg (by simpa using q), if_neg q]; rfl
theorem colsL_len (p : List Nd) : (colsL p).length ≤ p.length := by
  unfold colsL; rw [List.length_map]; exact List.length_filter_le _ _
theorem rcolsL_len (p : List Nd) (n : Nat) : (rcolsL p n).length ≤ n := by
  unfold rcolsL; rw [List.length_map]; exact Nat.le_trans (List.length_filter_le _ _) (by simp)
theorem rcolsL_step (p : List Nd) {k : Int} (h : 0 ≤ k) : rcolsL p (k + 1).toNat = rcolsL p k.toNat ++ (if hasL p k = true then [k] else []) := by
  unfold rcolsL
  rw [show (k + 1).toNat = k.toNat + 1 by omega, List.range_succ, List.filter_append, List.map_append]
  congr 1
  have e : ((k.toNat : Nat) : Int) = k := by omega
  by_cases q : hasL p k = true
  · rw [if_pos q, List.filter_cons_of_pos (by rw [e]; exact q)]
    show [((k.toNat : Nat) : Int)] = [k]
    rw [e]
  · rw [if_neg q, List.filter_cons_of_neg (by rw [e]; exact q)]; rfl
theorem hasL_found {p : List Nd} {c : Int} {k : Int} (h : 0 ≤ k ∧ k < p.length) (h1 : isLeaf p[k.toNat]!.1 = true) (h2 : p[k.toNat]!.2.1 = c) : hasL p c = true := by
  unfold hasL
  rw [List.any_eq_true]
  have hk : k.toNat < p.length := by omega
  rw [getElem!_pos p k.toNat hk] at h1 h2
  exact ⟨p[k.toNat], List.getElem_mem hk, by rw [h1, h2]; simp⟩
theorem hasL_step {p : List Nd} {c : Int} {k : Int} (h : 0 ≤ k ∧ k < p.length) : hasL (p.drop k.toNat) c = ((isLeaf p[k.toNat]!.1 && decide (p[k.toNat]!.2.1 = c)) || hasL (p.drop (k + 1).toNat) c) := by
  rw [drop_step p k h]; rfl
theorem cols_eq (s : Schema) (p : List Nd) : colsR s p = rcolsR s p := by
  unfold colsR rcolsR
  split
  · rfl
  · rename_i h
    have h : predErr s p = 0 := by simpa using h
    obtain ⟨_, he, _⟩ := pred_len h
    have hn := errFrom_get _ _ _ he
    have hleaf : ∀ n, n ∈ p → n.1 < 9 → isLeaf n.1 = true ∧ 0 ≤ n.2.1 ∧ n.2.1 < s.1.length := by
      intro n hmem hop
      obtain ⟨i, hi, rfl⟩ := List.mem_iff_getElem.1 hmem
      have := hn i hi
      rw [getElem!_pos p i hi] at this
      unfold nodeErr at this
      split at this
      · omega
      · split at this
        · omega
        · split at this
          · omega
          · refine ⟨by unfold isLeaf; simp; omega, by omega, by omega⟩
    congr 1
    refine comp_sort ?_ (fun v => ?_)
    · unfold rcolsL
      rw [List.pairwise_map]
      exact (List.Pairwise.filter _ List.pairwise_lt_range).imp (fun hab => by omega)
    · unfold rcolsL colsL hasL
      simp only [List.mem_map, List.mem_filter, List.mem_range, List.any_eq_true, Bool.and_eq_true, decide_eq_true_eq]
      constructor
      · rintro ⟨i, ⟨hi, n, hmem, hl, hc⟩, rfl⟩
        refine ⟨n, ⟨hmem, ?_⟩, hc⟩
        unfold isLeaf at hl; simp at hl; omega
      · rintro ⟨n, ⟨hmem, hop⟩, rfl⟩
        obtain ⟨g1, g2, g3⟩ := hleaf n hmem hop
        exact ⟨n.2.1.toNat, ⟨by omega, n, hmem, g1, by omega⟩, by omega⟩

abbrev tb51 : Tbl := (39, c_sort_ok) :: tb50
theorem tb51_ok : TblOk Try.prog tb51 := TblOk.cons sort_ok tb50_ok

abbrev tb52 : Tbl := (40, c_comp_ok) :: tb51
theorem tb52_ok : TblOk Try.prog tb52 := TblOk.cons comp_ok tb51_ok

abbrev c_cols_ok : Ct := .fn [tSchema, .list tNd] (none) (fun (s : Schema) (p : List Nd) => .tup [.list (.int .i64), .int .i64] ((colsR s p).1, (colsR s p).2, ()))
set_option maxRecDepth 100000 in
set_option maxHeartbeats 4000000 in
theorem cols_ok : CtOk Try.prog 23 c_cols_ok := by
  refine CtOk.fn tb52_ok mixed [] [] rfl rfl ?_
  rintro ⟨(s : Schema), (p : List Nd), _⟩ -
  refine ⟨[(0, 12, LA.mk [.sl 18 (.int .i64), .lst 7 (.int .i64) 3] (fun y => Tag 24 ∧ cu [.int .i64, .list (.int .i64)] (fun (k : Int) (M : List Int) => (0 ≤ k ∧ k ≤ p.length) ∧ (colsL p = M ++ colsL (p.drop k.toNat)) ∧ ((M.length : Int) ≤ k)) y) (cu [.int .i64, .list (.int .i64)] (fun (k : Int) (M : List Int) => ((p.length : Int) - k).toNat)) (cu [.int .i64, .list (.int .i64)] (fun (k : Int) (M : List Int) => ([] : List (Nat × Nat × LA)))))], ?_⟩
  repeat' (first
    | (
 with_reducible refine Side.mk ⟨(⟨⟩ : Tag 24), ?_⟩
 dsimp only [cu, joinT, ckTys, gts, Prod.eta, List.nil_append]
 refine ⟨?_, ?_, ?_⟩
 · omega
 · first
   | (rfl)
   | (rw [hm, colsL_step (by omega), if_pos (by omega), List.append_assoc])
   | (rw [hm, colsL_step (by omega), if_neg (by omega), List.nil_append])
 · first
   | (simp; done)
   | (simp only [List.length_append, List.length_cons, List.length_nil]; omega)
   | (omega))
    | (
 with_reducible refine Side.mk ?_
 (try dsimp only [cu, joinT, ckTys, gts, loK, hiK, Prod.eta, List.nil_append])
 first
 | (done)
 | (with_reducible rfl)
 | (omega)
 | (exact Eq.refl _)
 | (simp only [List.length_append, List.length_cons, List.length_nil]; omega)
 | (with_reducible assumption)
 | (exact (sortL_len M).symm)
 | (
  have hpe : predErr s p = 0 := by with_reducible assumption
  obtain ⟨hl64, hp, hse⟩ := pred_len hpe
  have hsl := schema_len hse
  (try simp only [List.length_cons, List.length_nil, sortL_len])
  omega))
    | (conv => whnf
       first
        | done
        | exact trivial
        | with_reducible refine NilBr.mk (fun h => ?_) ?_
        | with_reducible first | refine w_andS ?_ ?_ | refine w_andL ?_ ?_ | refine w_kern (by kernel_rfl) ?_ | refine w_true ?_ | refine w_nd ?_ ?_ | refine w_in ?_ ?_ | refine w_and ?_ ?_
        | ((with_reducible first | refine w_brN (fun h => ?_) (fun h => ?_) | refine w_brD (fun h => ?_) (fun h => ?_) | refine w_br (fun h => ?_) (fun h => ?_)) <;> (try dsimp only [cu, Prod.eta, List.nil_append] at h) <;> (try (exfalso; omega; done)))
        | (
 intro yy (hy : Tag 24 ∧ _)
 obtain ⟨(k : Int), (M : List Int), _⟩ := yy
 replace hy := hy.2
 dsimp only [cu, joinT, ckTys, gts, Prod.eta, List.nil_append] at hy
 obtain ⟨hk, hm, hl⟩ := hy)))
  all_goals (
 with_reducible refine Leaf.mk ?_
 (try dsimp only [cu, joinT, ckTys, gts, Prod.eta, List.nil_append] at *)
 first
 | (done)
 | (
  have hpe : ¬ predErr s p = 0 := by with_reducible assumption
  rw [colsR, if_pos hpe])
 | (
  have hpe : predErr s p = 0 := by with_reducible assumption
  have hq : colsR s p = (compL (sortL (colsL p)), 0) := by rw [colsR, if_neg (fun q => q hpe)]
  rw [hq, hm, List.drop_eq_nil_of_le (by omega)]
  (try simp [colsL])))
abbrev tb53 : Tbl := (23, c_cols_ok) :: tb52
theorem tb53_ok : TblOk Try.prog tb53 := TblOk.cons cols_ok tb52_ok

abbrev c_rcols_ok : Ct := .fn [tSchema, .list tNd] (none) (fun (s : Schema) (p : List Nd) => .tup [.list (.int .i64), .int .i64] ((rcolsR s p).1, (rcolsR s p).2, ()))
set_option maxRecDepth 100000 in
set_option maxHeartbeats 4000000 in
theorem rcols_ok : CtOk Try.prog 24 c_rcols_ok := by
  refine CtOk.fn tb53_ok mixed [] [] rfl rfl ?_
  rintro ⟨(s : Schema), (p : List Nd), _⟩ -
  refine ⟨[(0, 12, LA.mk [.sl 20 (.int .i64), .lst 7 (.int .i64) 3] (fun y => Tag 25 ∧ cu [.int .i64, .list (.int .i64)] (fun (c : Int) (M : List Int) => (0 ≤ c ∧ c ≤ s.1.length) ∧ (M = rcolsL p c.toNat)) y) (cu [.int .i64, .list (.int .i64)] (fun (c : Int) (M : List Int) => ((s.1.length : Int) - c).toNat)) (cu [.int .i64, .list (.int .i64)] (fun (c : Int) (M : List Int) => ([(0, 18, LA.mk [.sl 25 (.int .i64), .lst 7 (.int .i64) 3] (fun y => Tag 26 ∧ cu [.int .i64, .list (.int .i64)] (fun (j : Int) (M2 : List Int) => (0 ≤ j ∧ j ≤ p.length) ∧ (M2 = M) ∧ (hasL p c = hasL (p.drop j.toNat) c)) y) (cu [.int .i64, .list (.int .i64)] (fun (j : Int) (M2 : List Int) => ((p.length : Int) - j).toNat)) (cu [.int .i64, .list (.int .i64)] (fun (j : Int) (M2 : List Int) => ([] : List (Nat × Nat × LA)))))] : List (Nat × Nat × LA)))))], ?_⟩
  repeat' (first
    | (
 with_reducible refine Side.mk ⟨(⟨⟩ : Tag 25), ?_⟩
 dsimp only [cu, joinT, ckTys, gts, Prod.eta, List.nil_append]
 refine ⟨?_, ?_⟩
 · omega
 · first
   | (rfl)
   | (
  show ([] : List Int) = rcolsL p 0
  rfl)
   | (
  subst hM2
  first
  | (rw [rcolsL_step p (by omega), ← hm, if_pos (hasL_found (k := j) (by omega) (by simp_all) (by simp_all))])
  | (
   rw [rcolsL_step p (by omega), ← hm, hh, List.drop_eq_nil_of_le (by omega)]
   simp [hasL])))
    | (
 with_reducible refine Side.mk ⟨(⟨⟩ : Tag 26), ?_⟩
 dsimp only [cu, joinT, ckTys, gts, Prod.eta, List.nil_append]
 refine ⟨?_, ?_, ?_⟩
 · omega
 · first
   | (rfl)
   | (assumption)
 · first
   | (rfl)
   | (
  rw [hh, hasL_step (by omega)]
  simp_all))
    | (
 with_reducible refine Side.mk ?_
 (try dsimp only [cu, joinT, ckTys, gts, loK, hiK, Prod.eta, List.nil_append])
 first
 | (done)
 | (with_reducible rfl)
 | (omega)
 | (exact Eq.refl _)
 | (simp only [List.length_append, List.length_cons, List.length_nil]; omega)
 | (with_reducible assumption)
 | (
  have hpe : predErr s p = 0 := by with_reducible assumption
  obtain ⟨hl64, hp, hse⟩ := pred_len hpe
  have hsl := schema_len hse
  first
  | (
   have hrl := rcolsL_len p c.toNat
   (try simp only [List.length_cons, List.length_nil])
   (try subst hM2)
   (try rw [← hm] at hrl)
   omega)
  | (omega)))
    | (conv => whnf
       first
        | done
        | exact trivial
        | with_reducible refine NilBr.mk (fun h => ?_) ?_
        | with_reducible first | refine w_andS ?_ ?_ | refine w_andL ?_ ?_ | refine w_kern (by kernel_rfl) ?_ | refine w_true ?_ | refine w_nd ?_ ?_ | refine w_in ?_ ?_ | refine w_and ?_ ?_
        | ((with_reducible first | refine w_brN (fun h => ?_) (fun h => ?_) | refine w_brD (fun h => ?_) (fun h => ?_) | refine w_br (fun h => ?_) (fun h => ?_)) <;> (try dsimp only [cu, Prod.eta, List.nil_append] at h) <;> (try (exfalso; omega; done)))
        | (
 intro yy (hy : Tag 25 ∧ _)
 obtain ⟨(c : Int), (M : List Int), _⟩ := yy
 replace hy := hy.2
 dsimp only [cu, joinT, ckTys, gts, Prod.eta, List.nil_append] at hy
 obtain ⟨hc, hm⟩ := hy)
        | (
 intro yy (hy : Tag 26 ∧ _)
 obtain ⟨(j : Int), (M2 : List Int), _⟩ := yy
 replace hy := hy.2
 dsimp only [cu, joinT, ckTys, gts, Prod.eta, List.nil_append] at hy
 obtain ⟨hj, hM2, hh⟩ := hy)))
  all_goals (
 with_reducible refine Leaf.mk ?_
 (try dsimp only [cu, joinT, ckTys, gts, Prod.eta, List.nil_append] at *)
 first
 | (done)
 | (
  have hpe : ¬ predErr s p = 0 := by with_reducible assumption
  rw [rcolsR, if_pos hpe])
 | (
  have hpe : predErr s p = 0 := by with_reducible assumption
  have hq : rcolsR s p = (rcolsL p s.1.length, 0) := by rw [rcolsR, if_neg (fun q => q hpe)]
  first
  | (rw [hq]; done)
  | (
   have hn : c.toNat = s.1.length := by omega
   rw [hq, hm, hn])))
abbrev tb54 : Tbl := (24, c_rcols_ok) :: tb53
theorem tb54_ok : TblOk Try.prog tb54 := TblOk.cons rcols_ok tb53_ok

end Go.Proofs.Ytinehkfcploeiaa
