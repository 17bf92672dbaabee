/- Contracts of the evaluation of predicates. -/
import Derived.Test.YtinehkfcploeiaaPred
namespace Go.Proofs.Ytinehkfcploeiaa
open Go.Abs
set_option linter.unusedVariables false
set_option linter.unusedSimpArgs false

abbrev c_truth_ok : Ct := .fn [.bool] (none) (fun (b : Bool) => .d (.int .i64) (vTruth b))
set_option maxRecDepth 100000 in
set_option maxHeartbeats 4000000 in
theorem truth_ok : CtOk Try.prog 44 c_truth_ok := by
  refine CtOk.fn tb24_ok mixed [] [] rfl rfl ?_
  rintro ⟨(b : Bool), _⟩ -
  refine ⟨[], ?_⟩
  repeat' (first
    | (
 with_reducible refine Side.mk ?_
 (try dsimp only [cu, joinT, ckTys, gts, loK, hiK, Prod.eta, List.nil_append])
 first
 | (done)
 | (with_reducible rfl)
 | (omega)
 | (exact Eq.refl _)
 | (simp only [List.length_append, List.length_cons, List.length_nil]; omega)
 | (grind))
    | (conv => whnf
       first
        | done
        | exact trivial
        | with_reducible refine NilBr.mk (fun h => ?_) ?_
        | with_reducible first | refine w_andS ?_ ?_ | refine w_andL ?_ ?_ | refine w_kern (by kernel_rfl) ?_ | refine w_true ?_ | refine w_nd ?_ ?_ | refine w_in ?_ ?_ | refine w_and ?_ ?_
        | ((with_reducible first | refine w_brN (fun h => ?_) (fun h => ?_) | refine w_brD (fun h => ?_) (fun h => ?_) | refine w_br (fun h => ?_) (fun h => ?_)) <;> (try dsimp only [cu, Prod.eta, List.nil_append] at h) <;> (try (exfalso; omega; done)))))
  all_goals (
 with_reducible refine Leaf.mk ?_
 (try dsimp only [cu, joinT, ckTys, gts, Prod.eta, List.nil_append] at *)
 first
 | (done)
 | (grind [vTruth]))
abbrev tb25 : Tbl := (44, c_truth_ok) :: tb24
theorem tb25_ok : TblOk Try.prog tb25 := TblOk.cons truth_ok tb24_ok

abbrev c_rtruth_ok : Ct := .fn [.bool] (none) (fun (b : Bool) => .d (.int .i64) (vTruth b))
set_option maxRecDepth 100000 in
set_option maxHeartbeats 4000000 in
theorem rtruth_ok : CtOk Try.prog 67 c_rtruth_ok := by
  refine CtOk.fn tb25_ok mixed [] [] rfl rfl ?_
  rintro ⟨(b : Bool), _⟩ -
  refine ⟨[], ?_⟩
  repeat' (first
    | (
 with_reducible refine Side.mk ?_
 (try dsimp only [cu, joinT, ckTys, gts, loK, hiK, Prod.eta, List.nil_append])
 first
 | (done)
 | (with_reducible rfl)
 | (omega)
 | (exact Eq.refl _)
 | (simp only [List.length_append, List.length_cons, List.length_nil]; omega)
 | (grind))
    | (conv => whnf
       first
        | done
        | exact trivial
        | with_reducible refine NilBr.mk (fun h => ?_) ?_
        | with_reducible first | refine w_andS ?_ ?_ | refine w_andL ?_ ?_ | refine w_kern (by kernel_rfl) ?_ | refine w_true ?_ | refine w_nd ?_ ?_ | refine w_in ?_ ?_ | refine w_and ?_ ?_
        | ((with_reducible first | refine w_brN (fun h => ?_) (fun h => ?_) | refine w_brD (fun h => ?_) (fun h => ?_) | refine w_br (fun h => ?_) (fun h => ?_)) <;> (try dsimp only [cu, Prod.eta, List.nil_append] at h) <;> (try (exfalso; omega; done)))))
  all_goals (
 with_reducible refine Leaf.mk ?_
 (try dsimp only [cu, joinT, ckTys, gts, Prod.eta, List.nil_append] at *)
 first
 | (done)
 | (grind [vTruth]))
abbrev tb26 : Tbl := (67, c_rtruth_ok) :: tb25
theorem tb26_ok : TblOk Try.prog tb26 := TblOk.cons rtruth_ok tb25_ok

abbrev c_holds_ok : Ct := .fn [.int .i64, .int .i64] (none) (fun (op : Int) (k : Int) => .d .bool (vHolds op k))
set_option maxRecDepth 100000 in
set_option maxHeartbeats 4000000 in
theorem holds_ok : CtOk Try.prog 68 c_holds_ok := by
  refine CtOk.fn tb26_ok mixed [] [] rfl rfl ?_
  rintro ⟨(op : Int), (k : Int), _⟩ -
  refine ⟨[], ?_⟩
  repeat' (first
    | (
 with_reducible refine Side.mk ?_
 (try dsimp only [cu, joinT, ckTys, gts, loK, hiK, Prod.eta, List.nil_append])
 first
 | (done)
 | (with_reducible rfl)
 | (omega)
 | (exact Eq.refl _)
 | (simp only [List.length_append, List.length_cons, List.length_nil]; omega)
 | (grind))
    | (conv => whnf
       first
        | done
        | exact trivial
        | with_reducible refine NilBr.mk (fun h => ?_) ?_
        | with_reducible first | refine w_andS ?_ ?_ | refine w_andL ?_ ?_ | refine w_kern (by kernel_rfl) ?_ | refine w_true ?_ | refine w_nd ?_ ?_ | refine w_in ?_ ?_ | refine w_and ?_ ?_
        | ((with_reducible first | refine w_brN (fun h => ?_) (fun h => ?_) | refine w_brD (fun h => ?_) (fun h => ?_) | refine w_br (fun h => ?_) (fun h => ?_)) <;> (try dsimp only [cu, Prod.eta, List.nil_append] at h) <;> (try (exfalso; omega; done)))))
  all_goals (
 with_reducible refine Leaf.mk ?_
 (try dsimp only [cu, joinT, ckTys, gts, Prod.eta, List.nil_append] at *)
 first
 | (done)
 | (grind [vHolds]))
abbrev tb27 : Tbl := (68, c_holds_ok) :: tb26
theorem tb27_ok : TblOk Try.prog tb27 := TblOk.cons holds_ok tb26_ok

abbrev c_not_ok : Ct := .fn [.int .i64] (none) (fun (a : Int) => .d (.int .i64) (vNot a))
set_option maxRecDepth 100000 in
set_option maxHeartbeats 4000000 in
theorem not_ok : CtOk Try.prog 57 c_not_ok := by
  refine CtOk.fn tb27_ok mixed [(0, 3, 1)] [] rfl rfl ?_
  rintro ⟨(a : Int), _⟩ -
  refine ⟨[], ?_⟩
  repeat' (first
    | (
 with_reducible refine Side.mk ?_
 (try dsimp only [cu, joinT, ckTys, gts, loK, hiK, Prod.eta, List.nil_append])
 first
 | (done)
 | (with_reducible rfl)
 | (omega)
 | (exact Eq.refl _)
 | (simp only [List.length_append, List.length_cons, List.length_nil]; omega)
 | (grind))
    | (conv => whnf
       first
        | done
        | exact trivial
        | with_reducible refine NilBr.mk (fun h => ?_) ?_
        | with_reducible first | refine w_andS ?_ ?_ | refine w_andL ?_ ?_ | refine w_kern (by kernel_rfl) ?_ | refine w_true ?_ | refine w_nd ?_ ?_ | refine w_in ?_ ?_ | refine w_and ?_ ?_
        | ((with_reducible first | refine w_brN (fun h => ?_) (fun h => ?_) | refine w_brD (fun h => ?_) (fun h => ?_) | refine w_br (fun h => ?_) (fun h => ?_)) <;> (try dsimp only [cu, Prod.eta, List.nil_append] at h) <;> (try (exfalso; omega; done)))))
  all_goals (
 with_reducible refine Leaf.mk ?_
 (try dsimp only [cu, joinT, ckTys, gts, Prod.eta, List.nil_append] at *)
 first
 | (done)
 | (grind [vNot]))
abbrev tb28 : Tbl := (57, c_not_ok) :: tb27
theorem tb28_ok : TblOk Try.prog tb28 := TblOk.cons not_ok tb27_ok

abbrev c_and_ok : Ct := .fn [.int .i64, .int .i64] (none) (fun (a : Int) (b : Int) => .d (.int .i64) (vAnd a b))
set_option maxRecDepth 100000 in
set_option maxHeartbeats 4000000 in
theorem and_ok : CtOk Try.prog 55 c_and_ok := by
  refine CtOk.fn tb28_ok mixed [] [] rfl rfl ?_
  rintro ⟨(a : Int), (b : Int), _⟩ -
  refine ⟨[], ?_⟩
  repeat' (first
    | (
 with_reducible refine Side.mk ?_
 (try dsimp only [cu, joinT, ckTys, gts, loK, hiK, Prod.eta, List.nil_append])
 first
 | (done)
 | (with_reducible rfl)
 | (omega)
 | (exact Eq.refl _)
 | (simp only [List.length_append, List.length_cons, List.length_nil]; omega)
 | (grind))
    | (conv => whnf
       first
        | done
        | exact trivial
        | with_reducible refine NilBr.mk (fun h => ?_) ?_
        | with_reducible first | refine w_andS ?_ ?_ | refine w_andL ?_ ?_ | refine w_kern (by kernel_rfl) ?_ | refine w_true ?_ | refine w_nd ?_ ?_ | refine w_in ?_ ?_ | refine w_and ?_ ?_
        | ((with_reducible first | refine w_brN (fun h => ?_) (fun h => ?_) | refine w_brD (fun h => ?_) (fun h => ?_) | refine w_br (fun h => ?_) (fun h => ?_)) <;> (try dsimp only [cu, Prod.eta, List.nil_append] at h) <;> (try (exfalso; omega; done)))))
  all_goals (
 with_reducible refine Leaf.mk ?_
 (try dsimp only [cu, joinT, ckTys, gts, Prod.eta, List.nil_append] at *)
 first
 | (done)
 | (grind [vAnd]))
abbrev tb29 : Tbl := (55, c_and_ok) :: tb28
theorem tb29_ok : TblOk Try.prog tb29 := TblOk.cons and_ok tb28_ok

abbrev c_or_ok : Ct := .fn [.int .i64, .int .i64] (none) (fun (a : Int) (b : Int) => .d (.int .i64) (vNot (vAnd (vNot a) (vNot b))))
set_option maxRecDepth 100000 in
set_option maxHeartbeats 4000000 in
theorem or_ok : CtOk Try.prog 56 c_or_ok := by
  refine CtOk.fn tb29_ok mixed [] [] rfl rfl ?_
  rintro ⟨(a : Int), (b : Int), _⟩ -
  refine ⟨[], ?_⟩
  repeat' (first
    | (
 with_reducible refine Side.mk ?_
 (try dsimp only [cu, joinT, ckTys, gts, loK, hiK, Prod.eta, List.nil_append])
 first
 | (done)
 | (with_reducible rfl)
 | (omega)
 | (exact Eq.refl _)
 | (simp only [List.length_append, List.length_cons, List.length_nil]; omega)
 | (grind))
    | (conv => whnf
       first
        | done
        | exact trivial
        | with_reducible refine NilBr.mk (fun h => ?_) ?_
        | with_reducible first | refine w_andS ?_ ?_ | refine w_andL ?_ ?_ | refine w_kern (by kernel_rfl) ?_ | refine w_true ?_ | refine w_nd ?_ ?_ | refine w_in ?_ ?_ | refine w_and ?_ ?_
        | ((with_reducible first | refine w_brN (fun h => ?_) (fun h => ?_) | refine w_brD (fun h => ?_) (fun h => ?_) | refine w_br (fun h => ?_) (fun h => ?_)) <;> (try dsimp only [cu, Prod.eta, List.nil_append] at h) <;> (try (exfalso; omega; done)))))
  all_goals (
 with_reducible refine Leaf.mk ?_
 (try dsimp only [cu, joinT, ckTys, gts, Prod.eta, List.nil_append] at *)
 first
 | (done)
 | (rfl))
abbrev tb30 : Tbl := (56, c_or_ok) :: tb29
theorem tb30_ok : TblOk Try.prog tb30 := TblOk.cons or_ok tb29_ok

abbrev c_combine_ok : Ct := .fn [.int .i64, .int .i64, .int .i64] (none) (fun (op : Int) (a : Int) (b : Int) => .d (.int .i64) (vCombine op a b))
set_option maxRecDepth 100000 in
set_option maxHeartbeats 4000000 in
theorem combine_ok : CtOk Try.prog 27 c_combine_ok := by
  refine CtOk.fn tb30_ok mixed [(0, 4, 1)] [] rfl rfl ?_
  rintro ⟨(op : Int), (a : Int), (b : Int), _⟩ -
  refine ⟨[], ?_⟩
  repeat' (first
    | (
 with_reducible refine Side.mk ?_
 (try dsimp only [cu, joinT, ckTys, gts, loK, hiK, Prod.eta, List.nil_append])
 first
 | (done)
 | (with_reducible rfl)
 | (omega)
 | (exact Eq.refl _)
 | (simp only [List.length_append, List.length_cons, List.length_nil]; omega)
 | (grind))
    | (conv => whnf
       first
        | done
        | exact trivial
        | with_reducible refine NilBr.mk (fun h => ?_) ?_
        | with_reducible first | refine w_andS ?_ ?_ | refine w_andL ?_ ?_ | refine w_kern (by kernel_rfl) ?_ | refine w_true ?_ | refine w_nd ?_ ?_ | refine w_in ?_ ?_ | refine w_and ?_ ?_
        | ((with_reducible first | refine w_brN (fun h => ?_) (fun h => ?_) | refine w_brD (fun h => ?_) (fun h => ?_) | refine w_br (fun h => ?_) (fun h => ?_)) <;> (try dsimp only [cu, Prod.eta, List.nil_append] at h) <;> (try (exfalso; omega; done)))))
  all_goals (
 with_reducible refine Leaf.mk ?_
 (try dsimp only [cu, joinT, ckTys, gts, Prod.eta, List.nil_append] at *)
 first
 | (done)
 | (grind [vCombine]))
abbrev tb31 : Tbl := (27, c_combine_ok) :: tb30
theorem tb31_ok : TblOk Try.prog tb31 := TblOk.cons combine_ok tb30_ok

abbrev c_test_ok : Ct := .fn [.int .i64, tNd, tVal] (some (fun (t : Int) (n : Nd) (x : Val) => (n.2.2.2.1.length ≤ 9223372036854775807))) (fun (t : Int) (n : Nd) (x : Val) => .d (.int .i64) (vTest t n x))
set_option maxRecDepth 100000 in
set_option maxHeartbeats 4000000 in
theorem test_ok : CtOk Try.prog 28 c_test_ok := by
  refine CtOk.fn tb31_ok mixed [] [46, 64, 47] rfl rfl ?_
  rintro ⟨(t : Int), (n : Nd), (x : Val), _⟩ hpre
  replace hpre := hpre _ rfl
  dsimp only [cu] at hpre
  have hl := hpre
  refine ⟨[(0, 42, LA.mk [.sl 59 (.int .i64), .sl 8 (.int .i64)] (fun y => Tag 11 ∧ cu [.int .i64, .int .i64] (fun (k : Int) (o : Int) => (0 ≤ k ∧ k ≤ n.2.2.2.1.length) ∧ ((if anyNull n.2.2.2.1 = true then (2 : Int) else 0) = (if anyNull (n.2.2.2.1.drop k.toNat) = true then 2 else o))) y) (cu [.int .i64, .int .i64] (fun (k : Int) (o : Int) => ((n.2.2.2.1.length : Int) - k).toNat)) (cu [.int .i64, .int .i64] (fun (k : Int) (o : Int) => ([] : List (Nat × Nat × LA))))), (64, 4, LA.mk [.sl 8 (.int .i64)] (fun y => Tag 12 ∧ cu [.int .i64] (fun (m : Int) => (0 ≤ m ∧ m ≤ n.2.2.2.1.length) ∧ (anyEq t x n.2.2.2.1 = anyEq t x (n.2.2.2.1.drop m.toNat))) y) (cu [.int .i64] (fun (m : Int) => ((n.2.2.2.1.length : Int) - m).toNat)) (cu [.int .i64] (fun (m : Int) => ([] : List (Nat × Nat × LA)))))], ?_⟩
  repeat' (first
    | (
 with_reducible refine Side.mk ⟨(⟨⟩ : Tag 11), ?_⟩
 dsimp only [cu, joinT, ckTys, gts, Prod.eta, List.nil_append]
 refine ⟨?_, ?_⟩
 · omega
 · first
   | (simp; done)
   | (
  rw [drop_step _ _ (by omega)] at ho
  simp only [anyNull, List.any_cons, Bool.or_eq_true] at ho ⊢
  grind))
    | (
 with_reducible refine Side.mk ⟨(⟨⟩ : Tag 12), ?_⟩
 dsimp only [cu, joinT, ckTys, gts, Prod.eta, List.nil_append]
 refine ⟨?_, ?_⟩
 · omega
 · first
   | (simp; done)
   | (
  rw [drop_step _ _ (by omega)] at hf
  simp only [anyEq, List.any_cons] at hf ⊢
  rw [hf]
  grind))
    | (
 with_reducible refine Side.mk ?_
 (try dsimp only [cu, joinT, ckTys, gts, loK, hiK, Prod.eta, List.nil_append])
 first
 | (done)
 | (with_reducible rfl)
 | (omega)
 | (exact Eq.refl _)
 | (simp only [List.length_append, List.length_cons, List.length_nil]; omega)
 | (grind))
    | (conv => whnf
       first
        | done
        | exact trivial
        | with_reducible refine NilBr.mk (fun h => ?_) ?_
        | with_reducible first | refine w_andS ?_ ?_ | refine w_andL ?_ ?_ | refine w_kern (by kernel_rfl) ?_ | refine w_true ?_ | refine w_nd ?_ ?_ | refine w_in ?_ ?_ | refine w_and ?_ ?_
        | ((with_reducible first | refine w_brN (fun h => ?_) (fun h => ?_) | refine w_brD (fun h => ?_) (fun h => ?_) | refine w_br (fun h => ?_) (fun h => ?_)) <;> (try dsimp only [cu, Prod.eta, List.nil_append] at h) <;> (try (exfalso; omega; done)))
        | (
 intro yy (hy : Tag 11 ∧ _)
 obtain ⟨(k : Int), (o : Int), _⟩ := yy
 replace hy := hy.2
 dsimp only [cu, joinT, ckTys, gts, Prod.eta, List.nil_append] at hy
 obtain ⟨hk, ho⟩ := hy)
        | (
 intro yy (hy : Tag 12 ∧ _)
 obtain ⟨(m : Int), _⟩ := yy
 replace hy := hy.2
 dsimp only [cu, joinT, ckTys, gts, Prod.eta, List.nil_append] at hy
 obtain ⟨hm, hf⟩ := hy)))
  all_goals (
 with_reducible refine Leaf.mk ?_
 (try dsimp only [cu, joinT, ckTys, gts, Prod.eta, List.nil_append] at *)
 first
 | (done)
 | (grind [vTest])
 | (
  rw [drop_end _ k (by omega)] at ho
  first
  | (
   rw [drop_end _ m (by omega)] at hf
   grind [vTest, anyEq, anyNull])
  | (
   have hy : anyEq t x n.2.2.2.1 = true := by
     rw [hf, drop_step _ m (by omega)]
     simp only [anyEq, List.any_cons, Bool.or_eq_true, Bool.and_eq_true, decide_eq_true_eq]
     grind
   grind [vTest])))
abbrev tb32 : Tbl := (28, c_test_ok) :: tb31
theorem tb32_ok : TblOk Try.prog tb32 := TblOk.cons test_ok tb31_ok

abbrev c_among_ok : Ct := .fn [.int .i64, tVal, .list tVal] (some (fun (typ : Int) (v : Val) (l : List Val) => (l.length ≤ 9223372036854775807))) (fun (typ : Int) (v : Val) (l : List Val) => .tup [.bool, .bool] (anyEq typ v l, anyNull l, ()))
set_option maxRecDepth 100000 in
set_option maxHeartbeats 4000000 in
theorem among_ok : CtOk Try.prog 70 c_among_ok := by
  refine CtOk.fn tb32_ok mixed [] [] rfl rfl ?_
  rintro ⟨(typ : Int), (v : Val), (l : List Val), _⟩ hpre
  replace hpre := hpre _ rfl
  dsimp only [cu] at hpre
  have hl := hpre
  refine ⟨[(0, 6, LA.mk [.sl 14 (.int .i64), .sl 8 .bool, .sl 9 .bool] (fun y => Tag 13 ∧ cu [.int .i64, .bool, .bool] (fun (k : Int) (f : Bool) (u : Bool) => (0 ≤ k ∧ k ≤ l.length) ∧ (anyEq typ v l = (f || anyEq typ v (l.drop k.toNat))) ∧ (anyNull l = (u || anyNull (l.drop k.toNat)))) y) (cu [.int .i64, .bool, .bool] (fun (k : Int) (f : Bool) (u : Bool) => ((l.length : Int) - k).toNat)) (cu [.int .i64, .bool, .bool] (fun (k : Int) (f : Bool) (u : Bool) => ([] : List (Nat × Nat × LA)))))], ?_⟩
  repeat' (first
    | (
 with_reducible refine Side.mk ⟨(⟨⟩ : Tag 13), ?_⟩
 dsimp only [cu, joinT, ckTys, gts, Prod.eta, List.nil_append]
 refine ⟨?_, ?_, ?_⟩
 · omega
 · first
   | (simp; done)
   | (
  rw [drop_step _ _ (by omega)] at hf
  simp only [anyEq, List.any_cons] at hf ⊢
  rw [hf]
  grind)
 · first
   | (simp; done)
   | (
  rw [drop_step _ _ (by omega)] at hn
  simp only [anyNull, List.any_cons] at hn ⊢
  rw [hn]
  grind))
    | (
 with_reducible refine Side.mk ?_
 (try dsimp only [cu, joinT, ckTys, gts, loK, hiK, Prod.eta, List.nil_append])
 first
 | (done)
 | (with_reducible rfl)
 | (omega)
 | (exact Eq.refl _)
 | (simp only [List.length_append, List.length_cons, List.length_nil]; omega)
 | (grind))
    | (conv => whnf
       first
        | done
        | exact trivial
        | with_reducible refine NilBr.mk (fun h => ?_) ?_
        | with_reducible first | refine w_andS ?_ ?_ | refine w_andL ?_ ?_ | refine w_kern (by kernel_rfl) ?_ | refine w_true ?_ | refine w_nd ?_ ?_ | refine w_in ?_ ?_ | refine w_and ?_ ?_
        | ((with_reducible first | refine w_brN (fun h => ?_) (fun h => ?_) | refine w_brD (fun h => ?_) (fun h => ?_) | refine w_br (fun h => ?_) (fun h => ?_)) <;> (try dsimp only [cu, Prod.eta, List.nil_append] at h) <;> (try (exfalso; omega; done)))
        | (
 intro yy (hy : Tag 13 ∧ _)
 obtain ⟨(k : Int), (f : Bool), (u : Bool), _⟩ := yy
 replace hy := hy.2
 dsimp only [cu, joinT, ckTys, gts, Prod.eta, List.nil_append] at hy
 obtain ⟨hk, hf, hn⟩ := hy)))
  all_goals (
 with_reducible refine Leaf.mk ?_
 (try dsimp only [cu, joinT, ckTys, gts, Prod.eta, List.nil_append] at *)
 first
 | (done)
 | (
  rw [drop_end _ _ (by omega)] at hf hn
  simp_all [anyEq, anyNull]))
abbrev tb33 : Tbl := (70, c_among_ok) :: tb32
theorem tb33_ok : TblOk Try.prog tb33 := TblOk.cons among_ok tb32_ok

abbrev c_leafTruth_ok : Ct := .fn [tSchema, tNd, tVal] (some (fun (s : Schema) (n : Nd) (v : Val) => (n.2.2.2.1.length ≤ 9223372036854775807) ∧ (0 ≤ n.2.1 ∧ n.2.1 < s.1.length) ∧ (1 ≤ n.1 ∧ n.1 ≤ 8))) (fun (s : Schema) (n : Nd) (v : Val) => .d (.int .i64) (vTest s.1[n.2.1.toNat]!.2.1 n v))
set_option maxRecDepth 100000 in
set_option maxHeartbeats 4000000 in
theorem leafTruth_ok : CtOk Try.prog 58 c_leafTruth_ok := by
  refine CtOk.fn tb33_ok mixed [] [] rfl rfl ?_
  rintro ⟨(s : Schema), (n : Nd), (v : Val), _⟩ hpre
  replace hpre := hpre _ rfl
  dsimp only [cu] at hpre
  obtain ⟨hl, hc, ho⟩ := hpre
  refine ⟨[], ?_⟩
  repeat' (first
    | (
 with_reducible refine Side.mk ?_
 (try dsimp only [cu, joinT, ckTys, gts, loK, hiK, Prod.eta, List.nil_append])
 first
 | (done)
 | (with_reducible rfl)
 | (omega)
 | (exact Eq.refl _)
 | (simp only [List.length_append, List.length_cons, List.length_nil]; omega)
 | (grind))
    | (conv => whnf
       first
        | done
        | exact trivial
        | with_reducible refine NilBr.mk (fun h => ?_) ?_
        | with_reducible first | refine w_andS ?_ ?_ | refine w_andL ?_ ?_ | refine w_kern (by kernel_rfl) ?_ | refine w_true ?_ | refine w_nd ?_ ?_ | refine w_in ?_ ?_ | refine w_and ?_ ?_
        | ((with_reducible first | refine w_brN (fun h => ?_) (fun h => ?_) | refine w_brD (fun h => ?_) (fun h => ?_) | refine w_br (fun h => ?_) (fun h => ?_)) <;> (try dsimp only [cu, Prod.eta, List.nil_append] at h) <;> (try (exfalso; omega; done)))))
  all_goals (
 with_reducible refine Leaf.mk ?_
 (try dsimp only [cu, joinT, ckTys, gts, Prod.eta, List.nil_append] at *)
 first
 | (done)
 | (grind [vTest, isCmp, vHolds])
 | (grind [vTest, isCmp, vHolds, vTruth]))
abbrev tb34 : Tbl := (58, c_leafTruth_ok) :: tb33
theorem tb34_ok : TblOk Try.prog tb34 := TblOk.cons leafTruth_ok tb33_ok

end Go.Proofs.Ytinehkfcploeiaa
