/- Comparisons of records. -/
import Derived.Test.YtojdmkkjamakiaaDLive
namespace Go.Proofs.Ytojdmkkjamakiaa
open Go.Abs
set_option linter.unusedVariables false
set_option linter.unusedSimpArgs false

abbrev c_sameV_ok : Ct := .fn [.list tVal, .list tVal] (some (fun (a : List Val) (b : List Val) => (a.length ≤ 9223372036854775807))) (fun (a : List Val) (b : List Val) => .d .bool (decide (a = b)))
set_option maxRecDepth 100000 in
set_option maxHeartbeats 4000000 in
theorem sameV_ok : CtOk Try.prog 53 c_sameV_ok := by
  refine CtOk.fn tb34_ok mixed [] [] rfl rfl ?_
  rintro ⟨(a : List Val), (b : List Val), _⟩ hpre
  replace hpre := hpre _ rfl
  dsimp only [cu] at hpre
  have ha := hpre
  refine ⟨[(0, 8, LA.mk [.sl 13 (.int .i64)] (fun y => Tag 25 ∧ cu [.int .i64] (fun (k : Int) => (0 ≤ k ∧ k ≤ a.length) ∧ (a.take k.toNat = b.take k.toNat)) y) (cu [.int .i64] (fun (k : Int) => ((a.length : Int) - k).toNat)) (cu [.int .i64] (fun (k : Int) => ([] : List (Nat × Nat × LA)))))], ?_⟩
  repeat' (first
    | (with_reducible refine Side.mk ⟨(⟨⟩ : Tag 25), ?_⟩
       dsimp only [cu, joinT, ckTys, gts, Prod.eta, List.nil_append]
       refine ⟨?_, ?_⟩
       · omega
       · first
         | (rfl)
         | (have e1 : k.toNat < a.length := by omega
            have e2 : k.toNat < b.length := by omega
            have e3 : a[k.toNat]! = b[k.toNat]! := by simp_all [Prod.ext_iff]
            rw [getElem!_pos a k.toNat e1, getElem!_pos b k.toNat e2] at e3
            rw [show (k + 1).toNat = k.toNat + 1 by omega, List.take_add_one, List.take_add_one, hs, List.getElem?_eq_getElem e1, List.getElem?_eq_getElem e2, e3]))
    | (with_reducible refine Side.mk ?_
       (try dsimp only [cu, joinT, ckTys, gts, loK, hiK, Prod.eta, List.nil_append])
       first
       | (done)
       | (with_reducible rfl)
       | (omega)
       | (exact Eq.refl _)
       | (simp only [List.length_append, List.length_cons, List.length_nil]; omega)
       | (omega)
       | (with_reducible assumption)
       | (kernel_rfl))
    | (conv => whnf
       first
        | done
        | exact trivial
        | with_reducible refine NilBr.mk (fun h => ?_) ?_
        | with_reducible refine w_andS ?_ ?_
        | with_reducible refine w_andL ?_ ?_
        | with_reducible refine w_kern (by kernel_rfl) ?_
        | with_reducible refine w_true ?_
        | with_reducible refine w_nd ?_ ?_
        | with_reducible refine w_in ?_ ?_
        | with_reducible refine w_and ?_ ?_
        | (with_reducible refine w_brN (fun h => ?_) (fun h => ?_) <;> (try dsimp only [cu, Prod.eta, List.nil_append] at h) <;> (try (exfalso; omega; done)))
        | (with_reducible refine w_brD (fun h => ?_) (fun h => ?_) <;> (try dsimp only [cu, Prod.eta, List.nil_append] at h) <;> (try (exfalso; omega; done)))
        | (with_reducible refine w_br (fun h => ?_) (fun h => ?_) <;> (try dsimp only [cu, Prod.eta, List.nil_append] at h) <;> (try (exfalso; omega; done)))
        | (intro yy (hy : Tag 25 ∧ _)
           obtain ⟨(k : Int), _⟩ := yy
           replace hy := hy.2
           dsimp only [cu, joinT, ckTys, gts, Prod.eta, List.nil_append] at hy
           obtain ⟨hk, hs⟩ := hy)))
  all_goals (with_reducible refine Leaf.mk ?_
             (try dsimp only [cu, joinT, ckTys, gts, Prod.eta, List.nil_append] at *)
             first
             | (done)
             | (have hab : a = b := by
                  have h2 := hs
                  rw [List.take_of_length_le (by omega), List.take_of_length_le (by omega)] at h2
                  exact h2
                rw [decide_eq_true hab])
             | (have hne : ¬ a = b := fun q => by subst q; omega
                rw [decide_eq_false hne])
             | (have hne : ¬ a = b := fun q => by subst q; simp_all
                rw [decide_eq_false hne]))
abbrev tb35 : Tbl := (53, c_sameV_ok) :: tb34
theorem tb35_ok : TblOk Try.prog tb35 := TblOk.cons sameV_ok tb34_ok

abbrev c_sameRec_ok : Ct := .fn [tRec, tRec] (some (fun (a : Rec) (b : Rec) => (a.2.length ≤ 9223372036854775807))) (fun (a : Rec) (b : Rec) => .d .bool (decide (a = b)))
set_option maxRecDepth 100000 in
set_option maxHeartbeats 4000000 in
theorem sameRec_ok : CtOk Try.prog 40 c_sameRec_ok := by
  refine CtOk.fn tb35_ok mixed [] [] rfl rfl ?_
  rintro ⟨(a : Rec), (b : Rec), _⟩ hpre
  replace hpre := hpre _ rfl
  dsimp only [cu] at hpre
  have ha := hpre
  refine ⟨[], ?_⟩
  repeat' (first
    | (with_reducible refine Side.mk ?_
       (try dsimp only [cu, joinT, ckTys, gts, loK, hiK, Prod.eta, List.nil_append])
       first
       | (done)
       | (with_reducible rfl)
       | (omega)
       | (exact Eq.refl _)
       | (simp only [List.length_append, List.length_cons, List.length_nil]; omega)
       | (omega)
       | (with_reducible assumption))
    | (conv => whnf
       first
        | done
        | exact trivial
        | with_reducible refine NilBr.mk (fun h => ?_) ?_
        | with_reducible refine w_andS ?_ ?_
        | with_reducible refine w_andL ?_ ?_
        | with_reducible refine w_kern (by kernel_rfl) ?_
        | with_reducible refine w_true ?_
        | with_reducible refine w_nd ?_ ?_
        | with_reducible refine w_in ?_ ?_
        | with_reducible refine w_and ?_ ?_
        | (with_reducible refine w_brN (fun h => ?_) (fun h => ?_) <;> (try dsimp only [cu, Prod.eta, List.nil_append] at h) <;> (try (exfalso; omega; done)))
        | (with_reducible refine w_brD (fun h => ?_) (fun h => ?_) <;> (try dsimp only [cu, Prod.eta, List.nil_append] at h) <;> (try (exfalso; omega; done)))
        | (with_reducible refine w_br (fun h => ?_) (fun h => ?_) <;> (try dsimp only [cu, Prod.eta, List.nil_append] at h) <;> (try (exfalso; omega; done)))))
  all_goals (with_reducible refine Leaf.mk ?_
             (try dsimp only [cu, joinT, ckTys, gts, Prod.eta, List.nil_append] at *)
             first
             | (done)
             | (simp_all [Prod.ext_iff]; done))
abbrev tb36 : Tbl := (40, c_sameRec_ok) :: tb35
theorem tb36_ok : TblOk Try.prog tb36 := TblOk.cons sameRec_ok tb35_ok

abbrev c_sameRecs_ok : Ct := .fn [.list tRec, .list tRec] (some (fun (a : List Rec) (b : List Rec) => (a.length ≤ 9223372036854775807) ∧ (∀ i : Nat, a[i]!.2.length ≤ 1099511627776))) (fun (a : List Rec) (b : List Rec) => .d .bool (decide (a = b)))
set_option maxRecDepth 100000 in
set_option maxHeartbeats 4000000 in
theorem sameRecs_ok : CtOk Try.prog 19 c_sameRecs_ok := by
  refine CtOk.fn tb36_ok mixed [] [] rfl rfl ?_
  rintro ⟨(a : List Rec), (b : List Rec), _⟩ hpre
  replace hpre := hpre _ rfl
  dsimp only [cu] at hpre
  obtain ⟨ha, hr⟩ := hpre
  refine ⟨[(0, 8, LA.mk [.sl 13 (.int .i64)] (fun y => Tag 26 ∧ cu [.int .i64] (fun (k : Int) => (0 ≤ k ∧ k ≤ a.length) ∧ (a.take k.toNat = b.take k.toNat)) y) (cu [.int .i64] (fun (k : Int) => ((a.length : Int) - k).toNat)) (cu [.int .i64] (fun (k : Int) => ([] : List (Nat × Nat × LA)))))], ?_⟩
  repeat' (first
    | (with_reducible refine Side.mk ⟨(⟨⟩ : Tag 26), ?_⟩
       dsimp only [cu, joinT, ckTys, gts, Prod.eta, List.nil_append]
       refine ⟨?_, ?_⟩
       · omega
       · first
         | (rfl)
         | (have e1 : k.toNat < a.length := by omega
            have e2 : k.toNat < b.length := by omega
            have e3 : a[k.toNat]! = b[k.toNat]! := by simp_all
            rw [getElem!_pos a k.toNat e1, getElem!_pos b k.toNat e2] at e3
            rw [show (k + 1).toNat = k.toNat + 1 by omega, List.take_add_one, List.take_add_one, hs, List.getElem?_eq_getElem e1, List.getElem?_eq_getElem e2, e3]))
    | (with_reducible refine Side.mk ?_
       (try dsimp only [cu, joinT, ckTys, gts, loK, hiK, Prod.eta, List.nil_append])
       first
       | (done)
       | (with_reducible rfl)
       | (omega)
       | (exact Eq.refl _)
       | (simp only [List.length_append, List.length_cons, List.length_nil]; omega)
       | (omega)
       | (with_reducible assumption)
       | (have := hr k.toNat; omega))
    | (conv => whnf
       first
        | done
        | exact trivial
        | with_reducible refine NilBr.mk (fun h => ?_) ?_
        | with_reducible refine w_andS ?_ ?_
        | with_reducible refine w_andL ?_ ?_
        | with_reducible refine w_kern (by kernel_rfl) ?_
        | with_reducible refine w_true ?_
        | with_reducible refine w_nd ?_ ?_
        | with_reducible refine w_in ?_ ?_
        | with_reducible refine w_and ?_ ?_
        | (with_reducible refine w_brN (fun h => ?_) (fun h => ?_) <;> (try dsimp only [cu, Prod.eta, List.nil_append] at h) <;> (try (exfalso; omega; done)))
        | (with_reducible refine w_brD (fun h => ?_) (fun h => ?_) <;> (try dsimp only [cu, Prod.eta, List.nil_append] at h) <;> (try (exfalso; omega; done)))
        | (with_reducible refine w_br (fun h => ?_) (fun h => ?_) <;> (try dsimp only [cu, Prod.eta, List.nil_append] at h) <;> (try (exfalso; omega; done)))
        | (intro yy (hy : Tag 26 ∧ _)
           obtain ⟨(k : Int), _⟩ := yy
           replace hy := hy.2
           dsimp only [cu, joinT, ckTys, gts, Prod.eta, List.nil_append] at hy
           obtain ⟨hk, hs⟩ := hy)))
  all_goals (with_reducible refine Leaf.mk ?_
             (try dsimp only [cu, joinT, ckTys, gts, Prod.eta, List.nil_append] at *)
             first
             | (done)
             | (have hab : a = b := by
                  have h2 := hs
                  rw [List.take_of_length_le (by omega), List.take_of_length_le (by omega)] at h2
                  exact h2
                rw [decide_eq_true hab])
             | (have hne : ¬ a = b := fun q => by subst q; omega
                rw [decide_eq_false hne])
             | (have hne : ¬ a = b := fun q => by subst q; simp_all
                rw [decide_eq_false hne]))
abbrev tb37 : Tbl := (19, c_sameRecs_ok) :: tb36
theorem tb37_ok : TblOk Try.prog tb37 := TblOk.cons sameRecs_ok tb36_ok

end Go.Proofs.Ytojdmkkjamakiaa
