/- Walks of the laws. -/
import Derived.Test.YthomnlfmamagcaaLaws2
namespace Go.Proofs.Ythomnlfmamagcaa
open Go.Abs
set_option linter.unusedVariables false
set_option linter.unusedSimpArgs false

abbrev c_indexes_ok : Ct := .fn [.list (.int .i64)] (some (fun (l : List Int) => (l.length ≤ 9223372036854775807))) (fun (l : List Int) => .d .bool true)
set_option maxRecDepth 100000 in
set_option maxHeartbeats 4000000 in
theorem indexes_ok : CtOk Try.prog 5 c_indexes_ok := by
  refine CtOk.fn tb42_ok mixed [] [] rfl rfl ?_
  rintro ⟨(l : List Int), _⟩ hpre
  replace hpre := hpre _ rfl
  dsimp only [cu] at hpre
  have hl := hpre
  refine ⟨[(0, 14, LA.mk [.sl 26 (.int .i64), .ar 0 .bool 4] (fun y => Tag 31 ∧ cu [.int .i64, .list .bool] (fun (i : Int) (V : List Bool) => (0 ≤ i ∧ i ≤ (kList l).length) ∧ (V = usedL (wordsS (kList l)).length ((codesS (kList l)).take i.toNat))) y) (cu [.int .i64, .list .bool] (fun (i : Int) (V : List Bool) => (((kList l).length : Int) - i).toNat)) (cu [.int .i64, .list .bool] (fun (i : Int) (V : List Bool) => ([] : List (Nat × Nat × LA))))), (0, 28, LA.mk [.sl 66 (.int .i64)] (fun y => Tag 32 ∧ cu [.int .i64] (fun (j : Int) => (0 ≤ j ∧ j ≤ (wordsS (kList l)).length)) y) (cu [.int .i64] (fun (j : Int) => (((wordsS (kList l)).length : Int) - j).toNat)) (cu [.int .i64] (fun (j : Int) => ([] : List (Nat × Nat × LA)))))], ?_⟩
  repeat' (first
    | (with_reducible refine Side.mk ⟨(⟨⟩ : Tag 31), ?_⟩
       dsimp only [cu, joinT, ckTys, gts, Prod.eta, List.nil_append]
       refine ⟨?_, ?_⟩
       · omega
       · first
         | (rw [show ((0 : Int).toNat) = 0 from rfl, List.take_zero, usedL_nil]
            simp; done)
         | (have hkl := (kList_ok l).2
            have hcl := codesS_len (kList l)
            have hwl := wordsS_len (kList l)
            have hca := codes_at (l := kList l) (i := i) (by omega)
            exact usedC_step hV (by omega) ⟨hca.1, hca.2.1⟩))
    | (with_reducible refine Side.mk ⟨(⟨⟩ : Tag 32), ?_⟩
       dsimp only [cu, joinT, ckTys, gts, Prod.eta, List.nil_append]
       omega)
    | (with_reducible refine Side.mk ?_
       (try dsimp only [cu, joinT, ckTys, gts, loK, hiK, Prod.eta, List.nil_append])
       first
       | (done)
       | (with_reducible rfl)
       | (omega)
       | (exact Eq.refl _)
       | (simp only [List.length_append, List.length_cons, List.length_nil]; omega)
       | (assumption)
       | (omega)
       | (have hkl := (kList_ok l).2
          have hcl := codesS_len (kList l)
          have hwl := wordsS_len (kList l)
          omega)
       | (have hkl := (kList_ok l).2
          have hcl := codesS_len (kList l)
          have hwl := wordsS_len (kList l)
          have hca := codes_at (l := kList l) (i := i) (by omega)
          omega)
       | (have hkl := (kList_ok l).2
          have hcl := codesS_len (kList l)
          have hwl := wordsS_len (kList l)
          have hca := codes_at (l := kList l) (i := i) (by omega)
          rw [hV, usedL_len]; omega)
       | (rw [hV, usedL_len]; omega))
    | (conv => whnf
       first
        | done
        | exact trivial
        | with_reducible refine NilBr.mk (fun h => ?_) ?_
        | with_reducible refine w_andS ?_ ?_
        | with_reducible refine w_andL ?_ ?_
        | with_reducible refine w_kern (by kernel_rfl) ?_
        | with_reducible refine w_true ?_
        | with_reducible refine w_nd ?_ ?_
        | with_reducible refine w_in ?_ ?_
        | with_reducible refine w_and ?_ ?_
        | (with_reducible refine w_brN (fun h => ?_) (fun h => ?_) <;> (try dsimp only [cu, Prod.eta, List.nil_append] at h) <;> (try (exfalso; omega; done)))
        | (with_reducible refine w_brD (fun h => ?_) (fun h => ?_) <;> (try dsimp only [cu, Prod.eta, List.nil_append] at h) <;> (try (exfalso; omega; done)))
        | (with_reducible refine w_br (fun h => ?_) (fun h => ?_) <;> (try dsimp only [cu, Prod.eta, List.nil_append] at h) <;> (try (exfalso; omega; done)))
        | (intro yy (hy : Tag 31 ∧ _)
           obtain ⟨(i : Int), (V : List Bool), _⟩ := yy
           replace hy := hy.2
           dsimp only [cu, joinT, ckTys, gts, Prod.eta, List.nil_append] at hy
           obtain ⟨hi, hV⟩ := hy)
        | (intro yy (hy : Tag 32 ∧ _)
           obtain ⟨(j : Int), _⟩ := yy
           replace hy := hy.2
           dsimp only [cu, joinT, ckTys, gts, Prod.eta, List.nil_append] at hy
           have hj := hy)))
  all_goals (with_reducible refine Leaf.mk ?_
             (try dsimp only [cu, joinT, ckTys, gts, Prod.eta, List.nil_append] at *)
             first
             | (done)
             | (rfl)
             | (exfalso
                have hkl := (kList_ok l).2
                have hcl := codesS_len (kList l)
                have hwl := wordsS_len (kList l)
                omega)
             | (exfalso
                have hkl := (kList_ok l).2
                have hcl := codesS_len (kList l)
                have hwl := wordsS_len (kList l)
                have hca := codes_at (l := kList l) (i := i) (by omega)
                omega)
             | (exfalso
                have hkl := (kList_ok l).2
                have hcl := codesS_len (kList l)
                have hwl := wordsS_len (kList l)
                have hca := codes_at (l := kList l) (i := i) (by omega)
                exact absurd hca.2.2 (by assumption))
             | (exfalso
                have hkl := (kList_ok l).2
                have hcl := codesS_len (kList l)
                have hwl := wordsS_len (kList l)
                have hta : (codesS (kList l)).take i.toNat = codesS (kList l) := List.take_of_length_le (by omega)
                rw [hta] at hV
                have hut := used_true (l := kList l) (k := j) (by omega)
                rw [← hV] at hut
                simp_all; done)
             | (exfalso
                have hkl := (kList_ok l).2
                have hcl := codesS_len (kList l)
                have hwl := wordsS_len (kList l)
                have hw := words_lt (l := kList l) (k := j) (by omega)
                simp_all; done))
abbrev tb43 : Tbl := (5, c_indexes_ok) :: tb42
theorem tb43_ok : TblOk Try.prog tb43 := TblOk.cons indexes_ok tb42_ok

end Go.Proofs.Ythomnlfmamagcaa
