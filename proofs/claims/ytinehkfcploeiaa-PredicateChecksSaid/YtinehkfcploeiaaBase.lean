/- Contracts of one and awake; laws of valid predicates. -/
import Derived.Test.YtinehkfcploeiaaValid
namespace Go.Proofs.Ytinehkfcploeiaa
open Go.Abs
set_option linter.unusedVariables false
set_option linter.unusedSimpArgs false


abbrev oneSchema : Schema := ([(⟨#[97]⟩, 1, 0, true)], 0)
theorem ev1 : evalV oneSchema [(3, 0, (false, 5, ⟨#[]⟩), [], 0, 0)] [(false, 4, ⟨#[]⟩)] = 1 := by kernel_rfl
theorem ev2 : evalE oneSchema [(3, 0, (false, 5, ⟨#[]⟩), [], 0, 0)] [(false, 4, ⟨#[]⟩)] = 0 := by kernel_rfl
theorem ev3 : predErr oneSchema [(11, 0, (false, 0, ⟨#[]⟩), [], 0, 0)] = 4 := by kernel_rfl

abbrev c_one_ok : Ct := .fn [] (none) (.d tSchema oneSchema)
set_option maxRecDepth 100000 in
set_option maxHeartbeats 4000000 in
theorem one_ok : CtOk Try.prog 12 c_one_ok := by
  refine CtOk.fn tb48_ok mixed [] [] rfl rfl ?_
  rintro ⟨⟩ -
  refine ⟨[], ?_⟩
  repeat' (first
    | (
 with_reducible refine Side.mk ?_
 (try dsimp only [cu, joinT, ckTys, gts, loK, hiK, Prod.eta, List.nil_append])
 first
 | (done)
 | (with_reducible rfl)
 | (omega)
 | (exact Eq.refl _)
 | (simp only [List.length_append, List.length_cons, List.length_nil]; omega)
 | (grind))
    | (conv => whnf
       first
        | done
        | exact trivial
        | with_reducible refine NilBr.mk (fun h => ?_) ?_
        | with_reducible first | refine w_andS ?_ ?_ | refine w_andL ?_ ?_ | refine w_kern (by kernel_rfl) ?_ | refine w_true ?_ | refine w_nd ?_ ?_ | refine w_in ?_ ?_ | refine w_and ?_ ?_
        | ((with_reducible first | refine w_brN (fun h => ?_) (fun h => ?_) | refine w_brD (fun h => ?_) (fun h => ?_) | refine w_br (fun h => ?_) (fun h => ?_)) <;> (try dsimp only [cu, Prod.eta, List.nil_append] at h) <;> (try (exfalso; omega; done)))))
  all_goals (
 with_reducible refine Leaf.mk ?_
 (try dsimp only [cu, joinT, ckTys, gts, Prod.eta, List.nil_append] at *)
 first
 | (done)
 | (rfl))
abbrev tb49 : Tbl := (12, c_one_ok) :: tb48
theorem tb49_ok : TblOk Try.prog tb49 := TblOk.cons one_ok tb48_ok

abbrev c_awake_ok : Ct := .fn [] (none) (.d .bool true)
set_option maxRecDepth 100000 in
set_option maxHeartbeats 4000000 in
theorem awake_ok : CtOk Try.prog 14 c_awake_ok := by
  refine CtOk.fn tb49_ok mixed [] [] rfl rfl ?_
  rintro ⟨⟩ -
  refine ⟨[], ?_⟩
  repeat' (first
    | (
 with_reducible refine Side.mk ?_
 (try dsimp only [cu, joinT, ckTys, gts, loK, hiK, Prod.eta, List.nil_append])
 first
 | (done)
 | (with_reducible rfl)
 | (omega)
 | (exact Eq.refl _)
 | (simp only [List.length_append, List.length_cons, List.length_nil]; omega)
 | (
  intro i
  rcases i with _ | i <;> exact Nat.zero_le _))
    | (conv => whnf
       first
        | done
        | exact trivial
        | with_reducible refine NilBr.mk (fun h => ?_) ?_
        | with_reducible first | refine w_andS ?_ ?_ | refine w_andL ?_ ?_ | refine w_kern (by kernel_rfl) ?_ | refine w_true ?_ | refine w_nd ?_ ?_ | refine w_in ?_ ?_ | refine w_and ?_ ?_
        | ((with_reducible first | refine w_brN (fun h => ?_) (fun h => ?_) | refine w_brD (fun h => ?_) (fun h => ?_) | refine w_br (fun h => ?_) (fun h => ?_)) <;> (try dsimp only [cu, Prod.eta, List.nil_append] at h) <;> (try (exfalso; omega; done)))))
  all_goals (
 with_reducible refine Leaf.mk ?_
 (try dsimp only [cu, joinT, ckTys, gts, Prod.eta, List.nil_append] at *)
 first
 | (done)
 | (
  have e1 := ev1
  have e2 := ev2
  have e3 := ev3
  simp_all)
 | (exfalso; exact (by assumption : ¬ _) ev1)
 | (exfalso; exact (by assumption : ¬ _) ev2)
 | (exfalso; exact (by assumption : ¬ _) ev3))
abbrev tb50 : Tbl := (14, c_awake_ok) :: tb49
theorem tb50_ok : TblOk Try.prog tb50 := TblOk.cons awake_ok tb49_ok


theorem last_snoc (s : Schema) (row : List Val) (p : List Nd) (n : Nd) : evalT s (p ++ [n]) row = nodeVal s row (nodeVals s row p) n := by
  unfold evalT; rw [nodeVals_snoc, List.getLastD_concat]
theorem evalT_last (s : Schema) (row : List Val) (p : List Nd) (h : 0 < p.length) : evalT s p row = (nodeVals s row p)[p.length - 1]! := by
  unfold evalT
  rw [getLastD_get! _ _ (by rw [nodeVals_len]; exact h), nodeVals_len]
theorem evalT_range (s : Schema) (row : List Val) (p : List Nd) : 0 ≤ evalT s p row ∧ evalT s p row ≤ 2 := by
  rcases Nat.eq_zero_or_pos p.length with q | q
  · have : p = [] := List.length_eq_zero_iff.1 q
    subst this; exact ⟨by show (0 : Int) ≤ 1; decide, by show (1 : Int) ≤ 2; decide⟩
  · rw [evalT_last _ _ _ q]; exact get_range (nodeVals_range s row p) _
theorem predErr_snoc {s : Schema} {p : List Nd} {n : Nd} (h : predErr s p = 0) (hl : p.length < 64) (hn : nodeErr s p.length n = 0) : predErr s (p ++ [n]) = 0 := by
  obtain ⟨h1, h2, h3⟩ := pred_len h
  unfold predErr
  rw [if_neg (by rw [h3]; simp), if_neg (by simp; omega)]
  refine errFrom_all _ _ _ (fun i hi => ?_)
  rw [Int.zero_add]
  by_cases q : i < p.length
  · have := errFrom_zero_int h2 (i : Int) (by omega)
    rw [getElem!_pos _ i hi, List.getElem_append_left q]
    rw [show ((i : Int)).toNat = i by omega, getElem!_pos p i q] at this
    exact this
  · have : i = p.length := by simp at hi; omega
    subst this
    rw [getElem!_pos (p ++ [n]) p.length hi, List.getElem_append_right (by omega)]
    simpa using hn
theorem hw_snoc {p : List Nd} {n : Nd} (h : ∀ i : Nat, p[i]!.2.2.2.1.length ≤ 9223372036854775807) (hn : n.2.2.2.1.length ≤ 9223372036854775807) : ∀ i : Nat, (p ++ [n])[i]!.2.2.2.1.length ≤ 9223372036854775807 := by
  intro i
  by_cases q : i < p.length
  · have := h i
    rw [getElem!_pos (p ++ [n]) i (by simp; omega), List.getElem_append_left q]
    rw [getElem!_pos p i q] at this; exact this
  · by_cases q2 : i = p.length
    · subst q2
      rw [getElem!_pos (p ++ [n]) p.length (by simp), List.getElem_append_right (by omega)]
      simpa using hn
    · rw [getElem!_neg _ i (by simp; omega)]; decide
abbrev nNot (a : Int) : Nd := (11, 0, (false, 0, ⟨#[]⟩), [], a, 0)
theorem not_valid {s : Schema} {p : List Nd} {a : Int} (h : predErr s p = 0) (hl : p.length < 64) (ha : 0 ≤ a ∧ a < p.length) : predErr s (p ++ [nNot a]) = 0 := by
  refine predErr_snoc h hl ?_
  unfold nodeErr; grind
theorem not_eval (s : Schema) (row : List Val) (p : List Nd) (a : Int) : evalT s (p ++ [nNot a]) row = vNot (nodeVals s row p)[a.toNat]! := by
  rw [last_snoc]
  unfold nodeVal
  simp only []
  rw [if_pos (by decide)]
  simp [comb_not]
theorem evalE_zero {s : Schema} {p : List Nd} {row : List Val} (h1 : predErr s p = 0) (h2 : rowErr s row = 0) : evalE s p row = 0 ∧ evalV s p row = evalT s p row := by
  have e : evalE s p row = 0 := by unfold evalE; rw [if_neg (by simp [h1]), h2]
  exact ⟨e, by unfold evalV; rw [if_neg (by simp [e])]⟩
theorem evalT_not {s : Schema} {row : List Val} {p : List Nd} {a : Int} (h : 0 < p.length) (ha : a = p.length - 1) : evalT s (p ++ [nNot a]) row = vNot (evalT s p row) := by
  rw [not_eval, evalT_last _ _ p h]
  rw [show a.toNat = p.length - 1 by omega]
theorem vNot_vals : vNot 0 = 1 ∧ vNot 1 = 0 ∧ vNot 2 = 2 := by decide

end Go.Proofs.Ytinehkfcploeiaa
