/- The walk of PredicateNegation. -/
import Derived.Test.YtinehkfcploeiaaBase
namespace Go.Proofs.Ytinehkfcploeiaa
open Go.Abs
set_option linter.unusedVariables false
set_option linter.unusedSimpArgs false

abbrev c_negation_ok : Ct := .fn [.list (.int .i64), .list (.int .i64), .list (.int .i64)] (some (fun (x : List Int) (l : List Int) (m : List Int) => (x.length ≤ 9223372036854775807) ∧ (l.length ≤ 9223372036854775807) ∧ (m.length ≤ 17592186044415))) (fun (x : List Int) (l : List Int) (m : List Int) => .d .bool true)
set_option maxRecDepth 100000 in
set_option maxHeartbeats 4000000 in
theorem negation_ok : CtOk Try.prog 6 c_negation_ok := by
  refine CtOk.fn tb50_ok mixed [] [] rfl rfl ?_
  rintro ⟨(x : List Int), (l : List Int), (m : List Int), _⟩ hpre
  replace hpre := hpre _ rfl
  dsimp only [cu] at hpre
  obtain ⟨hx, hl, hm⟩ := hpre
  obtain ⟨s1, s2, s3, s4⟩ := kSchema_valid x
  obtain ⟨p1, p2, p3⟩ := kPred_valid x l
  obtain ⟨r1, r2⟩ := rowVals_valid x m
  obtain ⟨e0, v0⟩ := evalE_zero p1 r1
  have t0 := evalT_range (kSchema x) (rowVals (kSchema x) m) (kPred (kSchema x) l)
  refine ⟨[], ?_⟩
  repeat' (first
    | (with_reducible refine Side.mk ?_
       (try dsimp only [cu, joinT, ckTys, gts, loK, hiK, Prod.eta, List.nil_append])
       first
       | (done)
       | (rfl)
       | (omega)
       | (simp only [List.length_append, List.length_cons, List.length_nil]; omega)
       | (exact ⟨by omega, by assumption⟩)
       | (exact p3)
       | (exact hw_snoc p3 (Nat.zero_le _))
       | (exact hw_snoc (hw_snoc p3 (Nat.zero_le _)) (Nat.zero_le _))
       | (exact hw_snoc (hw_snoc (hw_snoc p3 (Nat.zero_le _)) (Nat.zero_le _)) (Nat.zero_le _)))
    | (conv => whnf
       first
        | done
        | exact trivial
        | with_reducible refine w_andS ?_ ?_
        | with_reducible refine w_andL ?_ ?_
        | with_reducible refine w_kern (by kernel_rfl) ?_
        | with_reducible refine w_true ?_
        | with_reducible refine w_nd ?_ ?_
        | with_reducible refine w_in ?_ ?_
        | with_reducible refine w_and ?_ ?_
        | (with_reducible refine w_brN (fun h => ?_) (fun h => ?_) <;> (try dsimp only [cu, Prod.eta, List.nil_append] at h) <;> (try (exfalso; omega; done)))
        | (with_reducible refine w_brD (fun h => ?_) (fun h => ?_) <;> (try dsimp only [cu, Prod.eta, List.nil_append] at h) <;> (try (exfalso; omega; done)))
        | (with_reducible refine w_br (fun h => ?_) (fun h => ?_) <;> (try dsimp only [cu, Prod.eta, List.nil_append] at h) <;> (try (exfalso; omega; done)))))
  all_goals (with_reducible refine Leaf.mk ?_
             (try dsimp only [cu, joinT, ckTys, gts, Prod.eta, List.nil_append] at *)
             first
             | (done)
             | (have hp : 0 < (kPred (kSchema x) l).length := by omega
                have hq := not_valid (a := ((kPred (kSchema x) l).length : Int) - 1) p1 (by omega) (by omega)
                have hw := not_valid (a := (kPred (kSchema x) l).length) hq (by simp only [List.length_append, List.length_cons, List.length_nil]; omega) (by simp only [List.length_append, List.length_cons, List.length_nil]; omega)
                obtain ⟨e1, v1⟩ := evalE_zero hq r1
                obtain ⟨e2, v2⟩ := evalE_zero hw r1
                have g1 := evalT_not (s := kSchema x) (row := rowVals (kSchema x) m) (p := kPred (kSchema x) l) (a := ((kPred (kSchema x) l).length : Int) - 1) hp rfl
                have g2 := evalT_not (s := kSchema x) (row := rowVals (kSchema x) m) (p := kPred (kSchema x) l ++ [nNot (((kPred (kSchema x) l).length : Int) - 1)]) (a := (kPred (kSchema x) l).length) (by simp only [List.length_append, List.length_cons, List.length_nil]; omega) (by simp only [List.length_append, List.length_cons, List.length_nil]; omega)
                have w1 : ∀ a : Int, 0 ≤ a ∧ a ≤ 2 → vNot (vNot a) = a ∧ (a = 2 → vNot a = 2) ∧ (¬ a = 2 → vNot a = 1 - a) := by
                  intro a ha
                  obtain rfl | rfl | rfl : a = 0 ∨ a = 1 ∨ a = 2 := by omega
                  all_goals decide
                have w2 := w1 _ t0
                grind))
abbrev tb51 : Tbl := (6, c_negation_ok) :: tb50
theorem tb51_ok : TblOk Try.prog tb51 := TblOk.cons negation_ok tb50_ok

end Go.Proofs.Ytinehkfcploeiaa
