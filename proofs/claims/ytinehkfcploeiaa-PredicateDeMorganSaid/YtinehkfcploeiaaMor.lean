/- The walk of PredicateDeMorgan. -/
import Derived.Test.YtinehkfcploeiaaBase2
namespace Go.Proofs.Ytinehkfcploeiaa
open Go.Abs
set_option linter.unusedVariables false
set_option linter.unusedSimpArgs false

abbrev c_demorgan_ok : Ct := .fn [.list (.int .i64), .list (.int .i64), .list (.int .i64), .int .i64, .bool] (some (fun (x : List Int) (l : List Int) (m : List Int) (at' : Int) (an : Bool) => (x.length ≤ 9223372036854775807) ∧ (l.length ≤ 9223372036854775807) ∧ (m.length ≤ 17592186044415))) (fun (x : List Int) (l : List Int) (m : List Int) (at' : Int) (an : Bool) => .d .bool true)
set_option maxRecDepth 100000 in
set_option maxHeartbeats 4000000 in
theorem demorgan_ok : CtOk Try.prog 7 c_demorgan_ok := by
  refine CtOk.fn tb50_ok mixed [] [] rfl rfl ?_
  rintro ⟨(x : List Int), (l : List Int), (m : List Int), (at' : Int), (an : Bool), _⟩ hpre
  replace hpre := hpre _ rfl
  dsimp only [cu] at hpre
  obtain ⟨hx, hl, hm⟩ := hpre
  obtain ⟨s1, s2, s3, s4⟩ := kSchema_valid x
  obtain ⟨p1, p2, p3⟩ := kPred_valid x l
  obtain ⟨r1, r2⟩ := rowVals_valid x m
  obtain ⟨e0, v0⟩ := evalE_zero p1 r1
  have t0 := evalT_range (kSchema x) (rowVals (kSchema x) m) (kPred (kSchema x) l)
  refine ⟨[], ?_⟩
  repeat' (first
    | (with_reducible refine Side.mk ?_
       (try dsimp only [cu, joinT, ckTys, gts, loK, hiK, Prod.eta, List.nil_append])
       first
       | (done)
       | (with_reducible rfl)
       | (omega)
       | (exact Eq.refl _)
       | (simp only [List.length_append, List.length_cons, List.length_nil]; omega)
       | (exact ⟨by omega, by assumption⟩)
       | (exact p3)
       | (exact hw_snoc p3 (Nat.zero_le _))
       | (exact hw_snoc (hw_snoc p3 (Nat.zero_le _)) (Nat.zero_le _))
       | (exact hw_snoc (hw_snoc (hw_snoc p3 (Nat.zero_le _)) (Nat.zero_le _)) (Nat.zero_le _))
       | (exact u64_ne (by omega))
       | (rw [List.append_cons]; exact hw_snoc (hw_snoc p3 (Nat.zero_le _)) (Nat.zero_le _))
       | (rw [List.append_cons, List.append_cons]; exact hw_snoc (hw_snoc (hw_snoc p3 (Nat.zero_le _)) (Nat.zero_le _)) (Nat.zero_le _)))
    | (conv => whnf
       first
        | done
        | exact trivial
        | with_reducible refine w_andS ?_ ?_
        | with_reducible refine w_andL ?_ ?_
        | with_reducible refine w_kern (by kernel_rfl) ?_
        | with_reducible refine w_true ?_
        | with_reducible refine w_nd ?_ ?_
        | with_reducible refine w_in ?_ ?_
        | with_reducible refine w_and ?_ ?_
        | (with_reducible refine w_brN (fun h => ?_) (fun h => ?_) <;> (try dsimp only [cu, Prod.eta, List.nil_append] at h) <;> (try (exfalso; omega; done)))
        | (with_reducible refine w_brD (fun h => ?_) (fun h => ?_) <;> (try dsimp only [cu, Prod.eta, List.nil_append] at h) <;> (try (exfalso; omega; done)))
        | (with_reducible refine w_br (fun h => ?_) (fun h => ?_) <;> (try dsimp only [cu, Prod.eta, List.nil_append] at h) <;> (try (exfalso; omega; done)))))
  all_goals (with_reducible refine Leaf.mk ?_
             (try dsimp only [cu, joinT, ckTys, gts, Prod.eta, List.nil_append] at *)
             first
             | (done)
             | (have hpk := pick_lt (v := at') (n := (kPred (kSchema x) l).length) (by omega)
                have hm := morgan_law (s := kSchema x) (row := rowVals (kSchema x) m) (p := kPred (kSchema x) l) (k := pick at' (kPred (kSchema x) l).length) (.inl ⟨rfl, rfl⟩) p1 r1 (by omega) (by omega)
                first | (grind; done) | (simp_all; done))
             | (have hpk := pick_lt (v := at') (n := (kPred (kSchema x) l).length) (by omega)
                have hm := morgan_law (s := kSchema x) (row := rowVals (kSchema x) m) (p := kPred (kSchema x) l) (k := pick at' (kPred (kSchema x) l).length) (.inr ⟨rfl, rfl⟩) p1 r1 (by omega) (by omega)
                first | (grind; done) | (simp_all; done)))
abbrev tb51 : Tbl := (7, c_demorgan_ok) :: tb50
theorem tb51_ok : TblOk Try.prog tb51 := TblOk.cons demorgan_ok tb50_ok

end Go.Proofs.Ytinehkfcploeiaa
