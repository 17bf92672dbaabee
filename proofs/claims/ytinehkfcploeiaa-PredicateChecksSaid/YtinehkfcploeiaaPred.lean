/- Contracts of the checks of predicates. -/
import Derived.Test.YtinehkfcploeiaaSchema
namespace Go.Proofs.Ytinehkfcploeiaa
open Go.Abs
set_option linter.unusedVariables false
set_option linter.unusedSimpArgs false

abbrev tNd : Ty := .pair (.int .i64) (.pair (.int .i64) (.pair tVal (.pair (.list tVal) (.pair (.int .i64) (.int .i64)))))
abbrev Nd : Type := Int × Int × Val × (List Val) × Int × Int
@[reducible] instance : Inhabited Nd := instInhabitedDen tNd


def nullableCol (c : Col) : Col := ⟨c.1, c.2.1, c.2.2.1, true⟩
def nodeErr (s : Schema) (i : Int) (n : Nd) : Int :=
  if n.1 < 1 ∨ n.1 > 11 then 1 else if n.1 ≥ 9 then (if n.2.2.2.2.1 < 0 ∨ n.2.2.2.2.1 ≥ i ∨ (n.1 ≠ 11 ∧ (n.2.2.2.2.2 < 0 ∨ n.2.2.2.2.2 ≥ i)) then 4 else 0)
  else if n.2.1 < 0 ∨ n.2.1 ≥ s.1.length then 4 else if n.1 = 8 then 0
  else if n.1 ≠ 7 then (if n.2.2.1.1 = true then 12 else vCheck s.1[n.2.1.toNat]! n.2.2.1)
  else if n.2.2.2.1.length = 0 then 1 else if n.2.2.2.1.length > 16 then 7 else errFrom (fun _ v => vCheck (nullableCol s.1[n.2.1.toNat]!) v) 0 n.2.2.2.1
def predErr (s : Schema) (p : List Nd) : Int := if schemaErr s ≠ 0 then schemaErr s else if 64 < p.length then 7 else errFrom (nodeErr s) 0 p
def vTruth (b : Bool) : Int := if b = true then 1 else 0
def vHolds (op k : Int) : Bool := if op = 1 then decide (k = 0) else if op = 2 then decide (¬ k = 0) else if op = 3 then decide (k < 0) else if op = 4 then decide (k ≤ 0) else if op = 5 then decide (k > 0) else decide (k ≥ 0)
def vNot (a : Int) : Int := if a = 2 then 2 else IntKind.i64.wrap (1 - a)
def vAnd (a b : Int) : Int := if a = 0 ∨ b = 0 then 0 else if a = 1 ∧ b = 1 then 1 else 2
def isCmp (op : Int) : Bool := decide (1 ≤ op) && decide (op ≤ 6)
def isLeaf (op : Int) : Bool := decide (1 ≤ op) && decide (op ≤ 8)
def anyNull (l : List Val) : Bool := l.any (fun v => v.1)
def anyEq (t : Int) (x : Val) (l : List Val) : Bool := l.any (fun v => !v.1 && decide (vCompare t x v = 0))
/-- the truth value of a leaf -/
def vTest (t : Int) (n : Nd) (x : Val) : Int :=
  if n.1 = 8 then vTruth x.1 else if x.1 = true then 2
  else if n.1 = 1 then vTruth (decide (vCompare t x n.2.2.1 = 0)) else if n.1 = 2 then vTruth (decide (¬ vCompare t x n.2.2.1 = 0))
  else if n.1 = 3 then vTruth (decide (vCompare t x n.2.2.1 < 0)) else if n.1 = 4 then vTruth (decide (vCompare t x n.2.2.1 ≤ 0))
  else if n.1 = 5 then vTruth (decide (vCompare t x n.2.2.1 > 0)) else if n.1 = 6 then vTruth (decide (vCompare t x n.2.2.1 ≥ 0))
  else if anyEq t x n.2.2.2.1 = true then 1 else if anyNull n.2.2.2.1 = true then 2 else 0
/-- operators -/
def vCombine (op a b : Int) : Int :=
  if op = 11 ∧ a = 2 then 2 else if op = 11 then IntKind.i64.wrap (1 - a) else if op = 9 ∧ (a = 0 ∨ b = 0) then 0 else if op = 10 ∧ (a = 1 ∨ b = 1) then 1 else if a = 2 ∨ b = 2 then 2 else a

abbrev c_leaf_ok : Ct := .fn [.int .i64] (none) (fun (op : Int) => .d .bool (isLeaf op))
set_option maxRecDepth 100000 in
set_option maxHeartbeats 4000000 in
theorem leaf_ok : CtOk Try.prog 41 c_leaf_ok := by
  refine CtOk.fn tb17_ok mixed [] [] rfl rfl ?_
  rintro ⟨(op : Int), _⟩ -
  refine ⟨[], ?_⟩
  repeat' (first
    | (
 with_reducible refine Side.mk ?_
 (try dsimp only [cu, joinT, ckTys, gts, loK, hiK, Prod.eta, List.nil_append])
 first
 | (done)
 | (with_reducible rfl)
 | (omega)
 | (exact Eq.refl _)
 | (simp only [List.length_append, List.length_cons, List.length_nil]; omega)
 | (grind))
    | (conv => whnf
       first
        | done
        | exact trivial
        | with_reducible refine NilBr.mk (fun h => ?_) ?_
        | with_reducible first | refine w_andS ?_ ?_ | refine w_andL ?_ ?_ | refine w_kern (by kernel_rfl) ?_ | refine w_true ?_ | refine w_nd ?_ ?_ | refine w_in ?_ ?_ | refine w_and ?_ ?_
        | ((with_reducible first | refine w_brN (fun h => ?_) (fun h => ?_) | refine w_brD (fun h => ?_) (fun h => ?_) | refine w_br (fun h => ?_) (fun h => ?_)) <;> (try dsimp only [cu, Prod.eta, List.nil_append] at h) <;> (try (exfalso; omega; done)))))
  all_goals (
 with_reducible refine Leaf.mk ?_
 (try dsimp only [cu, joinT, ckTys, gts, Prod.eta, List.nil_append] at *)
 first
 | (done)
 | (grind [isLeaf]))
abbrev tb18 : Tbl := (41, c_leaf_ok) :: tb17
theorem tb18_ok : TblOk Try.prog tb18 := TblOk.cons leaf_ok tb17_ok

abbrev c_comparison_ok : Ct := .fn [.int .i64] (none) (fun (op : Int) => .d .bool (isCmp op))
set_option maxRecDepth 100000 in
set_option maxHeartbeats 4000000 in
theorem comparison_ok : CtOk Try.prog 52 c_comparison_ok := by
  refine CtOk.fn tb18_ok mixed [] [] rfl rfl ?_
  rintro ⟨(op : Int), _⟩ -
  refine ⟨[], ?_⟩
  repeat' (first
    | (
 with_reducible refine Side.mk ?_
 (try dsimp only [cu, joinT, ckTys, gts, loK, hiK, Prod.eta, List.nil_append])
 first
 | (done)
 | (with_reducible rfl)
 | (omega)
 | (exact Eq.refl _)
 | (simp only [List.length_append, List.length_cons, List.length_nil]; omega)
 | (grind))
    | (conv => whnf
       first
        | done
        | exact trivial
        | with_reducible refine NilBr.mk (fun h => ?_) ?_
        | with_reducible first | refine w_andS ?_ ?_ | refine w_andL ?_ ?_ | refine w_kern (by kernel_rfl) ?_ | refine w_true ?_ | refine w_nd ?_ ?_ | refine w_in ?_ ?_ | refine w_and ?_ ?_
        | ((with_reducible first | refine w_brN (fun h => ?_) (fun h => ?_) | refine w_brD (fun h => ?_) (fun h => ?_) | refine w_br (fun h => ?_) (fun h => ?_)) <;> (try dsimp only [cu, Prod.eta, List.nil_append] at h) <;> (try (exfalso; omega; done)))))
  all_goals (
 with_reducible refine Leaf.mk ?_
 (try dsimp only [cu, joinT, ckTys, gts, Prod.eta, List.nil_append] at *)
 first
 | (done)
 | (grind [isCmp]))
abbrev tb19 : Tbl := (52, c_comparison_ok) :: tb18
theorem tb19_ok : TblOk Try.prog tb19 := TblOk.cons comparison_ok tb18_ok

abbrev c_nullable_ok : Ct := .fn [tCol] (none) (fun (c : Col) => .d tCol (nullableCol c))
set_option maxRecDepth 100000 in
set_option maxHeartbeats 4000000 in
theorem nullable_ok : CtOk Try.prog 54 c_nullable_ok := by
  refine CtOk.fn tb19_ok mixed [] [] rfl rfl ?_
  rintro ⟨(c : Col), _⟩ -
  refine ⟨[], ?_⟩
  repeat' (first
    | (
 with_reducible refine Side.mk ?_
 (try dsimp only [cu, joinT, ckTys, gts, loK, hiK, Prod.eta, List.nil_append])
 first
 | (done)
 | (with_reducible rfl)
 | (omega)
 | (exact Eq.refl _)
 | (simp only [List.length_append, List.length_cons, List.length_nil]; omega)
 | (grind))
    | (conv => whnf
       first
        | done
        | exact trivial
        | with_reducible refine NilBr.mk (fun h => ?_) ?_
        | with_reducible first | refine w_andS ?_ ?_ | refine w_andL ?_ ?_ | refine w_kern (by kernel_rfl) ?_ | refine w_true ?_ | refine w_nd ?_ ?_ | refine w_in ?_ ?_ | refine w_and ?_ ?_
        | ((with_reducible first | refine w_brN (fun h => ?_) (fun h => ?_) | refine w_brD (fun h => ?_) (fun h => ?_) | refine w_br (fun h => ?_) (fun h => ?_)) <;> (try dsimp only [cu, Prod.eta, List.nil_append] at h) <;> (try (exfalso; omega; done)))))
  all_goals (
 with_reducible refine Leaf.mk ?_
 (try dsimp only [cu, joinT, ckTys, gts, Prod.eta, List.nil_append] at *)
 first
 | (done)
 | (rfl))
abbrev tb20 : Tbl := (54, c_nullable_ok) :: tb19
theorem tb20_ok : TblOk Try.prog tb20 := TblOk.cons nullable_ok tb19_ok

abbrev c_node_ok : Ct := .fn [tSchema, .int .i64, tNd] (none) (fun (s : Schema) (i : Int) (n : Nd) => .d (.int .i64) (nodeErr s i n))
set_option maxRecDepth 100000 in
set_option maxHeartbeats 4000000 in
theorem node_ok : CtOk Try.prog 30 c_node_ok := by
  refine CtOk.fn tb20_ok mixed [] [] rfl rfl ?_
  rintro ⟨(s : Schema), (i : Int), (n : Nd), _⟩ -
  refine ⟨[(0, 44, LA.mk [.sl 99 (.int .i64)] (fun y => Tag 7 ∧ cu [.int .i64] (fun (k : Int) => (0 ≤ k ∧ k ≤ n.2.2.2.1.length) ∧ (errFrom (fun _ v => vCheck (nullableCol s.1[n.2.1.toNat]!) v) 0 n.2.2.2.1 = errFrom (fun _ v => vCheck (nullableCol s.1[n.2.1.toNat]!) v) k (n.2.2.2.1.drop k.toNat))) y) (cu [.int .i64] (fun (k : Int) => ((n.2.2.2.1.length : Int) - k).toNat)) (cu [.int .i64] (fun (k : Int) => ([] : List (Nat × Nat × LA)))))], ?_⟩
  repeat' (first
    | (
 with_reducible refine Side.mk ⟨(⟨⟩ : Tag 7), ?_⟩
 dsimp only [cu, joinT, ckTys, gts, Prod.eta, List.nil_append]
 refine ⟨?_, ?_⟩
 · omega
 · first
   | (simp; done)
   | (
  rw [drop_step _ _ (by omega)] at he
  rw [he, errFrom, if_pos (by grind [nullableCol])]))
    | (
 with_reducible refine Side.mk ?_
 (try dsimp only [cu, joinT, ckTys, gts, loK, hiK, Prod.eta, List.nil_append])
 first
 | (done)
 | (with_reducible rfl)
 | (omega)
 | (exact Eq.refl _)
 | (simp only [List.length_append, List.length_cons, List.length_nil]; omega)
 | (grind [isLeaf, isCmp]))
    | (conv => whnf
       first
        | done
        | exact trivial
        | with_reducible refine NilBr.mk (fun h => ?_) ?_
        | with_reducible first | refine w_andS ?_ ?_ | refine w_andL ?_ ?_ | refine w_kern (by kernel_rfl) ?_ | refine w_true ?_ | refine w_nd ?_ ?_ | refine w_in ?_ ?_ | refine w_and ?_ ?_
        | ((with_reducible first | refine w_brN (fun h => ?_) (fun h => ?_) | refine w_brD (fun h => ?_) (fun h => ?_) | refine w_br (fun h => ?_) (fun h => ?_)) <;> (try dsimp only [cu, Prod.eta, List.nil_append] at h) <;> (try (exfalso; omega; done)))
        | (
 intro yy (hy : Tag 7 ∧ _)
 obtain ⟨(k : Int), _⟩ := yy
 replace hy := hy.2
 dsimp only [cu, joinT, ckTys, gts, Prod.eta, List.nil_append] at hy
 obtain ⟨hk, he⟩ := hy)))
  all_goals (
 with_reducible refine Leaf.mk ?_
 (try dsimp only [cu, joinT, ckTys, gts, Prod.eta, List.nil_append] at *)
 first
 | (done)
 | (grind [nodeErr, isLeaf, isCmp])
 | (
  have e : errFrom (fun _ v => vCheck (nullableCol s.1[n.2.1.toNat]!) v) 0 n.2.2.2.1 = vCheck (nullableCol s.1[n.2.1.toNat]!) n.2.2.2.1[k.toNat]! := (by rw [he, drop_step _ _ (by omega), errFrom]; grind [nullableCol])
  grind [nodeErr, nullableCol, isLeaf, isCmp])
 | (
  rw [drop_end _ _ (by omega)] at he
  grind [nodeErr, errFrom, isLeaf, isCmp]))
abbrev tb21 : Tbl := (30, c_node_ok) :: tb20
theorem tb21_ok : TblOk Try.prog tb21 := TblOk.cons node_ok tb20_ok

abbrev c_rnode_ok : Ct := .fn [tSchema, tNd, .int .i64] (none) (fun (s : Schema) (n : Nd) (i : Int) => .d (.int .i64) (nodeErr s i n))
set_option maxRecDepth 100000 in
set_option maxHeartbeats 4000000 in
theorem rnode_ok : CtOk Try.prog 32 c_rnode_ok := by
  refine CtOk.fn tb21_ok mixed [] [] rfl rfl ?_
  rintro ⟨(s : Schema), (n : Nd), (i : Int), _⟩ -
  refine ⟨[(0, 42, LA.mk [.sl 89 (.int .i64)] (fun y => Tag 8 ∧ cu [.int .i64] (fun (k : Int) => (0 ≤ k ∧ k ≤ n.2.2.2.1.length) ∧ (errFrom (fun _ v => vCheck (nullableCol s.1[n.2.1.toNat]!) v) 0 n.2.2.2.1 = errFrom (fun _ v => vCheck (nullableCol s.1[n.2.1.toNat]!) v) k (n.2.2.2.1.drop k.toNat))) y) (cu [.int .i64] (fun (k : Int) => ((n.2.2.2.1.length : Int) - k).toNat)) (cu [.int .i64] (fun (k : Int) => ([] : List (Nat × Nat × LA)))))], ?_⟩
  repeat' (first
    | (
 with_reducible refine Side.mk ⟨(⟨⟩ : Tag 8), ?_⟩
 dsimp only [cu, joinT, ckTys, gts, Prod.eta, List.nil_append]
 refine ⟨?_, ?_⟩
 · omega
 · first
   | (simp; done)
   | (
  rw [drop_step _ _ (by omega)] at he
  rw [he, errFrom, if_pos (by grind [nullableCol])]))
    | (
 with_reducible refine Side.mk ?_
 (try dsimp only [cu, joinT, ckTys, gts, loK, hiK, Prod.eta, List.nil_append])
 first
 | (done)
 | (with_reducible rfl)
 | (omega)
 | (exact Eq.refl _)
 | (simp only [List.length_append, List.length_cons, List.length_nil]; omega)
 | (grind [isLeaf, isCmp]))
    | (conv => whnf
       first
        | done
        | exact trivial
        | with_reducible refine NilBr.mk (fun h => ?_) ?_
        | with_reducible first | refine w_andS ?_ ?_ | refine w_andL ?_ ?_ | refine w_kern (by kernel_rfl) ?_ | refine w_true ?_ | refine w_nd ?_ ?_ | refine w_in ?_ ?_ | refine w_and ?_ ?_
        | ((with_reducible first | refine w_brN (fun h => ?_) (fun h => ?_) | refine w_brD (fun h => ?_) (fun h => ?_) | refine w_br (fun h => ?_) (fun h => ?_)) <;> (try dsimp only [cu, Prod.eta, List.nil_append] at h) <;> (try (exfalso; omega; done)))
        | (
 intro yy (hy : Tag 8 ∧ _)
 obtain ⟨(k : Int), _⟩ := yy
 replace hy := hy.2
 dsimp only [cu, joinT, ckTys, gts, Prod.eta, List.nil_append] at hy
 obtain ⟨hk, he⟩ := hy)))
  all_goals (
 with_reducible refine Leaf.mk ?_
 (try dsimp only [cu, joinT, ckTys, gts, Prod.eta, List.nil_append] at *)
 first
 | (done)
 | (grind [nodeErr, isLeaf, isCmp])
 | (
  have e : errFrom (fun _ v => vCheck (nullableCol s.1[n.2.1.toNat]!) v) 0 n.2.2.2.1 = vCheck (nullableCol s.1[n.2.1.toNat]!) n.2.2.2.1[k.toNat]! := (by rw [he, drop_step _ _ (by omega), errFrom]; grind [nullableCol])
  grind [nodeErr, nullableCol, isLeaf, isCmp])
 | (
  rw [drop_end _ _ (by omega)] at he
  grind [nodeErr, errFrom, isLeaf, isCmp]))
abbrev tb22 : Tbl := (32, c_rnode_ok) :: tb21
theorem tb22_ok : TblOk Try.prog tb22 := TblOk.cons rnode_ok tb21_ok

abbrev c_check_ok : Ct := .fn [tSchema, .list tNd] (none) (fun (s : Schema) (p : List Nd) => .d (.int .i64) (predErr s p))
set_option maxRecDepth 100000 in
set_option maxHeartbeats 4000000 in
theorem check_ok : CtOk Try.prog 15 c_check_ok := by
  refine CtOk.fn tb22_ok mixed [] [] rfl rfl ?_
  rintro ⟨(s : Schema), (p : List Nd), _⟩ -
  refine ⟨[(0, 14, LA.mk [.sl 19 (.int .i64)] (fun y => Tag 9 ∧ cu [.int .i64] (fun (k : Int) => (0 ≤ k ∧ k ≤ p.length) ∧ (errFrom (nodeErr s) 0 p = errFrom (nodeErr s) k (p.drop k.toNat))) y) (cu [.int .i64] (fun (k : Int) => ((p.length : Int) - k).toNat)) (cu [.int .i64] (fun (k : Int) => ([] : List (Nat × Nat × LA)))))], ?_⟩
  repeat' (first
    | (
 with_reducible refine Side.mk ⟨(⟨⟩ : Tag 9), ?_⟩
 dsimp only [cu, joinT, ckTys, gts, Prod.eta, List.nil_append]
 refine ⟨?_, ?_⟩
 · omega
 · first
   | (simp; done)
   | (
  rw [drop_step _ _ (by omega)] at he
  rw [he, errFrom, if_pos (by grind)]))
    | (
 with_reducible refine Side.mk ?_
 (try dsimp only [cu, joinT, ckTys, gts, loK, hiK, Prod.eta, List.nil_append])
 first
 | (done)
 | (with_reducible rfl)
 | (omega)
 | (exact Eq.refl _)
 | (simp only [List.length_append, List.length_cons, List.length_nil]; omega)
 | (grind))
    | (conv => whnf
       first
        | done
        | exact trivial
        | with_reducible refine NilBr.mk (fun h => ?_) ?_
        | with_reducible first | refine w_andS ?_ ?_ | refine w_andL ?_ ?_ | refine w_kern (by kernel_rfl) ?_ | refine w_true ?_ | refine w_nd ?_ ?_ | refine w_in ?_ ?_ | refine w_and ?_ ?_
        | ((with_reducible first | refine w_brN (fun h => ?_) (fun h => ?_) | refine w_brD (fun h => ?_) (fun h => ?_) | refine w_br (fun h => ?_) (fun h => ?_)) <;> (try dsimp only [cu, Prod.eta, List.nil_append] at h) <;> (try (exfalso; omega; done)))
        | (
 intro yy (hy : Tag 9 ∧ _)
 obtain ⟨(k : Int), _⟩ := yy
 replace hy := hy.2
 dsimp only [cu, joinT, ckTys, gts, Prod.eta, List.nil_append] at hy
 obtain ⟨hk, he⟩ := hy)))
  all_goals (
 with_reducible refine Leaf.mk ?_
 (try dsimp only [cu, joinT, ckTys, gts, Prod.eta, List.nil_append] at *)
 first
 | (done)
 | (grind [predErr])
 | (
  have e : errFrom (nodeErr s) 0 p = nodeErr s k p[k.toNat]! := (by rw [he, drop_step _ _ (by omega), errFrom]; grind)
  grind [predErr])
 | (
  rw [drop_end _ _ (by omega)] at he
  grind [predErr, errFrom]))
abbrev tb23 : Tbl := (15, c_check_ok) :: tb22
theorem tb23_ok : TblOk Try.prog tb23 := TblOk.cons check_ok tb22_ok

abbrev c_rcheck_ok : Ct := .fn [tSchema, .list tNd] (none) (fun (s : Schema) (p : List Nd) => .d (.int .i64) (predErr s p))
set_option maxRecDepth 100000 in
set_option maxHeartbeats 4000000 in
theorem rcheck_ok : CtOk Try.prog 16 c_rcheck_ok := by
  refine CtOk.fn tb23_ok mixed [] [] rfl rfl ?_
  rintro ⟨(s : Schema), (p : List Nd), _⟩ -
  refine ⟨[(0, 14, LA.mk [.sl 19 (.int .i64)] (fun y => Tag 10 ∧ cu [.int .i64] (fun (k : Int) => (0 ≤ k ∧ k ≤ p.length) ∧ (errFrom (nodeErr s) 0 p = errFrom (nodeErr s) k (p.drop k.toNat))) y) (cu [.int .i64] (fun (k : Int) => ((p.length : Int) - k).toNat)) (cu [.int .i64] (fun (k : Int) => ([] : List (Nat × Nat × LA)))))], ?_⟩
  repeat' (first
    | (
 with_reducible refine Side.mk ⟨(⟨⟩ : Tag 10), ?_⟩
 dsimp only [cu, joinT, ckTys, gts, Prod.eta, List.nil_append]
 refine ⟨?_, ?_⟩
 · omega
 · first
   | (simp; done)
   | (
  rw [drop_step _ _ (by omega)] at he
  rw [he, errFrom, if_pos (by grind)]))
    | (
 with_reducible refine Side.mk ?_
 (try dsimp only [cu, joinT, ckTys, gts, loK, hiK, Prod.eta, List.nil_append])
 first
 | (done)
 | (with_reducible rfl)
 | (omega)
 | (exact Eq.refl _)
 | (simp only [List.length_append, List.length_cons, List.length_nil]; omega)
 | (grind))
    | (conv => whnf
       first
        | done
        | exact trivial
        | with_reducible refine NilBr.mk (fun h => ?_) ?_
        | with_reducible first | refine w_andS ?_ ?_ | refine w_andL ?_ ?_ | refine w_kern (by kernel_rfl) ?_ | refine w_true ?_ | refine w_nd ?_ ?_ | refine w_in ?_ ?_ | refine w_and ?_ ?_
        | ((with_reducible first | refine w_brN (fun h => ?_) (fun h => ?_) | refine w_brD (fun h => ?_) (fun h => ?_) | refine w_br (fun h => ?_) (fun h => ?_)) <;> (try dsimp only [cu, Prod.eta, List.nil_append] at h) <;> (try (exfalso; omega; done)))
        | (
 intro yy (hy : Tag 10 ∧ _)
 obtain ⟨(k : Int), _⟩ := yy
 replace hy := hy.2
 dsimp only [cu, joinT, ckTys, gts, Prod.eta, List.nil_append] at hy
 obtain ⟨hk, he⟩ := hy)))
  all_goals (
 with_reducible refine Leaf.mk ?_
 (try dsimp only [cu, joinT, ckTys, gts, Prod.eta, List.nil_append] at *)
 first
 | (done)
 | (grind [predErr])
 | (
  have e : errFrom (nodeErr s) 0 p = nodeErr s k p[k.toNat]! := (by rw [he, drop_step _ _ (by omega), errFrom]; grind)
  grind [predErr])
 | (
  rw [drop_end _ _ (by omega)] at he
  grind [predErr, errFrom]))
abbrev tb24 : Tbl := (16, c_rcheck_ok) :: tb23
theorem tb24_ok : TblOk Try.prog tb24 := TblOk.cons rcheck_ok tb23_ok

end Go.Proofs.Ytinehkfcploeiaa
