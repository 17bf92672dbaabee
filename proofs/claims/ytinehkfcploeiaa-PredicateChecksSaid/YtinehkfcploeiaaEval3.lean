/- Contracts of the evaluation of predicates, third part. -/
import Derived.Test.YtinehkfcploeiaaEval2
namespace Go.Proofs.Ytinehkfcploeiaa
open Go.Abs
set_option linter.unusedVariables false
set_option linter.unusedSimpArgs false

abbrev c_evalRow_ok : Ct := .fn [tSchema, .list tNd, .list tVal] (some (fun (s : Schema) (p : List Nd) (row : List Val) => (∀ i : Nat, p[i]!.2.2.2.1.length ≤ 9223372036854775807) ∧ (predErr s p = 0) ∧ (row.length = s.1.length))) (fun (s : Schema) (p : List Nd) (row : List Val) => .d (.int .i64) (evalT s p row))
set_option maxRecDepth 100000 in
set_option maxHeartbeats 4000000 in
theorem evalRow_ok : CtOk Try.prog 37 c_evalRow_ok := by
  refine CtOk.fn tb36_ok mixed [] [] rfl rfl ?_
  rintro ⟨(s : Schema), (p : List Nd), (row : List Val), _⟩ hpre
  replace hpre := hpre _ rfl
  dsimp only [cu] at hpre
  obtain ⟨hw, hpe, hrl⟩ := hpre
  obtain ⟨hl64, hp, hse⟩ := pred_len hpe
  have hsl := schema_len hse
  refine ⟨[(0, 10, LA.mk [.sl 18 (.int .i64), .ar 1 (.int .i64) 3] (fun y => Tag 17 ∧ cu [.int .i64, .list (.int .i64)] (fun (m : Int) (L : List Int) => (0 ≤ m ∧ m ≤ p.length) ∧ (L.length = p.length) ∧ (L.take m.toNat = nodeVals s row (p.take m.toNat))) y) (cu [.int .i64, .list (.int .i64)] (fun (m : Int) (L : List Int) => ((p.length : Int) - m).toNat)) (cu [.int .i64, .list (.int .i64)] (fun (m : Int) (L : List Int) => ([] : List (Nat × Nat × LA)))))], ?_⟩
  repeat' (first
    | (
 with_reducible refine Side.mk ⟨(⟨⟩ : Tag 17), ?_⟩
 dsimp only [cu, joinT, ckTys, gts, Prod.eta, List.nil_append]
 refine ⟨?_, ?_, ?_⟩
 · omega
 · first
   | (simp; done)
   | (simpa using hL)
 · first
   | (simp [nodeVals]; done)
   | (
  rw [show (m + 1).toNat = m.toNat + 1 by omega, take_set_succ _ _ _ (by omega), ← show (m + 1).toNat = m.toNat + 1 by omega, take_step p m (by omega), nodeVals_snoc, ← hT]
  refine congrArg (fun z => _ ++ [z]) ?_
  have hn := node_shape (errFrom_zero_int hp m (by omega))
  have hrg := nodeVals_at hT
  grind [nodeVal, getElem!_take, comb_and, comb_or, comb_not]))
    | (
 with_reducible refine Side.mk ?_
 (try dsimp only [cu, joinT, ckTys, gts, loK, hiK, Prod.eta, List.nil_append])
 first
 | (done)
 | (with_reducible rfl)
 | (omega)
 | (exact Eq.refl _)
 | (simp only [List.length_append, List.length_cons, List.length_nil]; omega)
 | (exact hw _)
 | (
  have hn := node_shape (errFrom_zero_int hp m (by omega))
  grind))
    | (conv => whnf
       first
        | done
        | exact trivial
        | with_reducible refine NilBr.mk (fun h => ?_) ?_
        | with_reducible first | refine w_andS ?_ ?_ | refine w_andL ?_ ?_ | refine w_kern (by kernel_rfl) ?_ | refine w_true ?_ | refine w_nd ?_ ?_ | refine w_in ?_ ?_ | refine w_and ?_ ?_
        | ((with_reducible first | refine w_brN (fun h => ?_) (fun h => ?_) | refine w_brD (fun h => ?_) (fun h => ?_) | refine w_br (fun h => ?_) (fun h => ?_)) <;> (try dsimp only [cu, Prod.eta, List.nil_append] at h) <;> (try (exfalso; omega; done)))
        | (
 intro yy (hy : Tag 17 ∧ _)
 obtain ⟨(m : Int), (L : List Int), _⟩ := yy
 replace hy := hy.2
 dsimp only [cu, joinT, ckTys, gts, Prod.eta, List.nil_append] at hy
 obtain ⟨hm, hL, hT⟩ := hy)))
  all_goals (
 with_reducible refine Leaf.mk ?_
 (try dsimp only [cu, joinT, ckTys, gts, Prod.eta, List.nil_append] at *)
 first
 | (done)
 | (
  have : p = [] := List.eq_nil_of_length_eq_zero (by omega)
  subst this
  rfl)
 | (
  rw [List.take_of_length_le (by omega), take_end _ _ (by omega)] at hT
  rw [evalT, getLastD_get! _ _ (by rw [nodeVals_len]; omega), ← hT, hL]
  exact congrArg (fun i => L[i]!) (by omega)))
abbrev tb37 : Tbl := (37, c_evalRow_ok) :: tb36
theorem tb37_ok : TblOk Try.prog tb37 := TblOk.cons evalRow_ok tb36_ok

abbrev c_reval_ok : Ct := .fn [tSchema, .list tNd, .list tVal] (some (fun (s : Schema) (p : List Nd) (row : List Val) => (∀ i : Nat, p[i]!.2.2.2.1.length ≤ 9223372036854775807))) (fun (s : Schema) (p : List Nd) (row : List Val) => .tup [.int .i64, .int .i64] (evalV s p row, evalE s p row, ()))
set_option maxRecDepth 100000 in
set_option maxHeartbeats 4000000 in
theorem reval_ok : CtOk Try.prog 20 c_reval_ok := by
  refine CtOk.fn tb37_ok mixed [] [] rfl rfl ?_
  rintro ⟨(s : Schema), (p : List Nd), (row : List Val), _⟩ hpre
  replace hpre := hpre _ rfl
  dsimp only [cu] at hpre
  have hw := hpre
  refine ⟨[], ?_⟩
  repeat' (first
    | (
 with_reducible refine Side.mk ?_
 (try dsimp only [cu, joinT, ckTys, gts, loK, hiK, Prod.eta, List.nil_append])
 first
 | (done)
 | (with_reducible rfl)
 | (omega)
 | (exact Eq.refl _)
 | (simp only [List.length_append, List.length_cons, List.length_nil]; omega)
 | (exact ⟨hw, by assumption, by grind [rowErr]⟩)
 | (have := schema_len (pred_len (s := s) (p := p) (by assumption)).2.2; omega))
    | (conv => whnf
       first
        | done
        | exact trivial
        | with_reducible refine NilBr.mk (fun h => ?_) ?_
        | with_reducible first | refine w_andS ?_ ?_ | refine w_andL ?_ ?_ | refine w_kern (by kernel_rfl) ?_ | refine w_true ?_ | refine w_nd ?_ ?_ | refine w_in ?_ ?_ | refine w_and ?_ ?_
        | ((with_reducible first | refine w_brN (fun h => ?_) (fun h => ?_) | refine w_brD (fun h => ?_) (fun h => ?_) | refine w_br (fun h => ?_) (fun h => ?_)) <;> (try dsimp only [cu, Prod.eta, List.nil_append] at h) <;> (try (exfalso; omega; done)))))
  all_goals (
 with_reducible refine Leaf.mk ?_
 (try dsimp only [cu, joinT, ckTys, gts, Prod.eta, List.nil_append] at *)
 first
 | (done)
 | (grind [evalV, evalE]))
abbrev tb38 : Tbl := (20, c_reval_ok) :: tb37
theorem tb38_ok : TblOk Try.prog tb38 := TblOk.cons reval_ok tb37_ok

end Go.Proofs.Ytinehkfcploeiaa
