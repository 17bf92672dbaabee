/- The walk of PredicateEvals. -/
import Derived.Test.YtinehkfcploeiaaBase
namespace Go.Proofs.Ytinehkfcploeiaa
open Go.Abs
set_option linter.unusedVariables false
set_option linter.unusedSimpArgs false

abbrev c_evals_ok : Ct := .fn [tSchema, .list tNd, .list tVal, .list (.int .i64), .list (.int .i64), .list (.int .i64)] (some (fun (s : Schema) (raw : List Nd) (r : List Val) (x : List Int) (l : List Int) (m : List Int) => (x.length ≤ 9223372036854775807) ∧ (l.length ≤ 9223372036854775807) ∧ (m.length ≤ 17592186044415) ∧ (∀ i : Nat, raw[i]!.2.2.2.1.length ≤ 9223372036854775807))) (fun (s : Schema) (raw : List Nd) (r : List Val) (x : List Int) (l : List Int) (m : List Int) => .d .bool true)
set_option maxRecDepth 100000 in
set_option maxHeartbeats 4000000 in
theorem evals_ok : CtOk Try.prog 5 c_evals_ok := by
  refine CtOk.fn tb50_ok mixed [] [] rfl rfl ?_
  rintro ⟨(s : Schema), (raw : List Nd), (r : List Val), (x : List Int), (l : List Int), (m : List Int), _⟩ hpre
  replace hpre := hpre _ rfl
  dsimp only [cu] at hpre
  obtain ⟨hx, hl, hm, hraw⟩ := hpre
  obtain ⟨s1, s2, s3, s4⟩ := kSchema_valid x
  obtain ⟨p1, p2, p3⟩ := kPred_valid x l
  obtain ⟨r1, r2⟩ := rowVals_valid x m
  obtain ⟨e0, v0⟩ := evalE_zero p1 r1
  have t0 := evalT_range (kSchema x) (rowVals (kSchema x) m) (kPred (kSchema x) l)
  refine ⟨[], ?_⟩
  repeat' (first
    | (with_reducible refine Side.mk ?_
       (try dsimp only [cu, joinT, ckTys, gts, loK, hiK, Prod.eta, List.nil_append])
       first
       | (done)
       | (with_reducible rfl)
       | (omega)
       | (exact Eq.refl _)
       | (simp only [List.length_append, List.length_cons, List.length_nil]; omega)
       | (exact ⟨by omega, by assumption⟩)
       | (exact p3)
       | (exact hw_snoc p3 (Nat.zero_le _))
       | (exact hw_snoc (hw_snoc p3 (Nat.zero_le _)) (Nat.zero_le _))
       | (exact hw_snoc (hw_snoc (hw_snoc p3 (Nat.zero_le _)) (Nat.zero_le _)) (Nat.zero_le _))
       | (exact hraw)
       | (exact u64_ne (by omega)))
    | (conv => whnf
       first
        | done
        | exact trivial
        | with_reducible refine w_andS ?_ ?_
        | with_reducible refine w_andL ?_ ?_
        | with_reducible refine w_kern (by kernel_rfl) ?_
        | with_reducible refine w_true ?_
        | with_reducible refine w_nd ?_ ?_
        | with_reducible refine w_in ?_ ?_
        | with_reducible refine w_and ?_ ?_
        | (with_reducible refine w_brN (fun h => ?_) (fun h => ?_) <;> (try dsimp only [cu, Prod.eta, List.nil_append] at h) <;> (try (exfalso; omega; done)))
        | (with_reducible refine w_brD (fun h => ?_) (fun h => ?_) <;> (try dsimp only [cu, Prod.eta, List.nil_append] at h) <;> (try (exfalso; omega; done)))
        | (with_reducible refine w_br (fun h => ?_) (fun h => ?_) <;> (try dsimp only [cu, Prod.eta, List.nil_append] at h) <;> (try (exfalso; omega; done)))))
  all_goals (with_reducible refine Leaf.mk ?_
             (try dsimp only [cu, joinT, ckTys, gts, Prod.eta, List.nil_append] at *)
             first
             | (done)
             | (first | rfl | (simp_all; done)))
abbrev tb51 : Tbl := (5, c_evals_ok) :: tb50
theorem tb51_ok : TblOk Try.prog tb51 := TblOk.cons evals_ok tb50_ok

end Go.Proofs.Ytinehkfcploeiaa
