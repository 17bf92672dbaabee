/- Records of their own. -/
import Derived.Test.YtojdmkkjamakiaaKSchema
namespace Go.Proofs.Ytojdmkkjamakiaa
open Go.Abs
set_option linter.unusedVariables false
set_option linter.unusedSimpArgs false

abbrev c_clone_ok : Ct := .fn [.list tVal] (some (fun (s : List Val) => (s.length ≤ 1099511627776))) (fun (s : List Val) => .d (.list tVal) s)
set_option maxRecDepth 100000 in
set_option maxHeartbeats 4000000 in
theorem clone_ok : CtOk Try.prog 48 c_clone_ok := by
  refine CtOk.fn tb32_ok mixed [] [] rfl rfl ?_
  rintro ⟨(s : List Val), _⟩ hpre
  replace hpre := hpre _ rfl
  dsimp only [cu] at hpre
  have hs := hpre
  refine ⟨[], ?_⟩
  repeat' (first
    | (with_reducible refine Side.mk ?_
       (try dsimp only [cu, joinT, ckTys, gts, loK, hiK, Prod.eta, List.nil_append])
       first
       | (done)
       | (with_reducible rfl)
       | (omega)
       | (exact Eq.refl _)
       | (simp only [List.length_append, List.length_cons, List.length_nil]; omega)
       | ((try simp only [List.length_nil])
          omega))
    | (conv => whnf
       first
        | done
        | exact trivial
        | with_reducible refine NilBr.mk (fun h => ?_) ?_
        | with_reducible refine w_andS ?_ ?_
        | with_reducible refine w_andL ?_ ?_
        | with_reducible refine w_kern (by kernel_rfl) ?_
        | with_reducible refine w_true ?_
        | with_reducible refine w_nd ?_ ?_
        | with_reducible refine w_in ?_ ?_
        | with_reducible refine w_and ?_ ?_
        | (with_reducible refine w_brN (fun h => ?_) (fun h => ?_) <;> (try dsimp only [cu, Prod.eta, List.nil_append] at h) <;> (try (exfalso; omega; done)))
        | (with_reducible refine w_brD (fun h => ?_) (fun h => ?_) <;> (try dsimp only [cu, Prod.eta, List.nil_append] at h) <;> (try (exfalso; omega; done)))
        | (with_reducible refine w_br (fun h => ?_) (fun h => ?_) <;> (try dsimp only [cu, Prod.eta, List.nil_append] at h) <;> (try (exfalso; omega; done)))))
  all_goals (with_reducible refine Leaf.mk ?_
             (try dsimp only [cu, joinT, ckTys, gts, Prod.eta, List.nil_append] at *)
             first
             | (done)
             | (exact h.symm)
             | (rfl)
             | (simp; done)
             | (with_reducible assumption))
abbrev tb33 : Tbl := (48, c_clone_ok) :: tb32
theorem tb33_ok : TblOk Try.prog tb33 := TblOk.cons clone_ok tb32_ok

end Go.Proofs.Ytojdmkkjamakiaa
