/- Contracts of the union of delete vectors. -/
import Derived.Test.YtojdmkkjamakiaaDel
import Derived.Test.YtojdmkkjamakiaaLay
namespace Go.Proofs.Ytojdmkkjamakiaa
open Go.Abs
set_option linter.unusedVariables false
set_option linter.unusedSimpArgs false

abbrev c_same_ok : Ct := .fn [.list (.int .i64), .list (.int .i64)] (some (fun (a : List Int) (b : List Int) => (a.length ≤ 9223372036854775807))) (fun (a : List Int) (b : List Int) => .d .bool (decide (a = b)))
set_option maxRecDepth 100000 in
set_option maxHeartbeats 4000000 in
theorem same_ok : CtOk Try.prog 15 c_same_ok := by
  refine CtOk.fn tb14_ok mixed [] [] rfl rfl ?_
  rintro ⟨(a : List Int), (b : List Int), _⟩ hpre
  replace hpre := hpre _ rfl
  dsimp only [cu] at hpre
  have ha := hpre
  refine ⟨[(0, 8, LA.mk [.sl 13 (.int .i64)] (fun y => Tag 13 ∧ cu [.int .i64] (fun (k : Int) => (0 ≤ k ∧ k ≤ a.length) ∧ (a.take k.toNat = b.take k.toNat)) y) (cu [.int .i64] (fun (k : Int) => ((a.length : Int) - k).toNat)) (cu [.int .i64] (fun (k : Int) => ([] : List (Nat × Nat × LA)))))], ?_⟩
  repeat' (first
    | (with_reducible refine Side.mk ⟨(⟨⟩ : Tag 13), ?_⟩
       dsimp only [cu, joinT, ckTys, gts, Prod.eta, List.nil_append]
       refine ⟨?_, ?_⟩
       · omega
       · first
         | (rfl)
         | (rw [show (k + 1).toNat = k.toNat + 1 by omega, List.take_add_one, List.take_add_one, hs, List.getElem?_eq_getElem (by omega), List.getElem?_eq_getElem (by omega)]
            rw [getElem!_pos a k.toNat (by omega), getElem!_pos b k.toNat (by omega)] at *
            simp_all))
    | (with_reducible refine Side.mk ?_
       (try dsimp only [cu, joinT, ckTys, gts, loK, hiK, Prod.eta, List.nil_append])
       first
       | (done)
       | (with_reducible rfl)
       | (omega)
       | (exact Eq.refl _)
       | (simp only [List.length_append, List.length_cons, List.length_nil]; omega)
       | (omega))
    | (conv => whnf
       first
        | done
        | exact trivial
        | with_reducible refine NilBr.mk (fun h => ?_) ?_
        | with_reducible refine w_andS ?_ ?_
        | with_reducible refine w_andL ?_ ?_
        | with_reducible refine w_kern (by kernel_rfl) ?_
        | with_reducible refine w_true ?_
        | with_reducible refine w_nd ?_ ?_
        | with_reducible refine w_in ?_ ?_
        | with_reducible refine w_and ?_ ?_
        | (with_reducible refine w_brN (fun h => ?_) (fun h => ?_) <;> (try dsimp only [cu, Prod.eta, List.nil_append] at h) <;> (try (exfalso; omega; done)))
        | (with_reducible refine w_brD (fun h => ?_) (fun h => ?_) <;> (try dsimp only [cu, Prod.eta, List.nil_append] at h) <;> (try (exfalso; omega; done)))
        | (with_reducible refine w_br (fun h => ?_) (fun h => ?_) <;> (try dsimp only [cu, Prod.eta, List.nil_append] at h) <;> (try (exfalso; omega; done)))
        | (intro yy (hy : Tag 13 ∧ _)
           obtain ⟨(k : Int), _⟩ := yy
           replace hy := hy.2
           dsimp only [cu, joinT, ckTys, gts, Prod.eta, List.nil_append] at hy
           obtain ⟨hk, hs⟩ := hy)))
  all_goals (with_reducible refine Leaf.mk ?_
             (try dsimp only [cu, joinT, ckTys, gts, Prod.eta, List.nil_append] at *)
             first
             | (done)
             | (have hab : a = b := by
                  have h2 := hs
                  rw [List.take_of_length_le (by omega), List.take_of_length_le (by omega)] at h2
                  exact h2
                rw [decide_eq_true hab])
             | (have hne : ¬ a = b := fun q => by subst q; omega
                rw [decide_eq_false hne])
             | (have hne : ¬ a = b := fun q => by subst q; exact absurd rfl (by assumption)
                rw [decide_eq_false hne]))
abbrev tb15 : Tbl := (15, c_same_ok) :: tb14
theorem tb15_ok : TblOk Try.prog tb15 := TblOk.cons same_ok tb14_ok


def unionL (a b : List Int) : List Int := if asc a = true ∧ asc b = true then compL (sortL (a ++ b)) else []
theorem union_nil {a b : List Int} (h : (a.length : Int) + b.length = 0 ∨ ¬ (0 : Int) < 0 + a.length + b.length) : unionL a b = [] := by
  have ha : a = [] := List.length_eq_zero_iff.1 (by omega)
  have hb : b = [] := List.length_eq_zero_iff.1 (by omega)
  subst ha; subst hb
  unfold unionL
  split
  · simp [sortL]; rfl
  · rfl
theorem union_no {a b : List Int} (h : ¬ (asc a = true ∧ asc b = true)) : unionL a b = [] := if_neg h
theorem union_yes {a b : List Int} (ha : asc a = true) (hb : asc b = true) : unionL a b = compL (sortL (a ++ b)) := if_pos ⟨ha, hb⟩
theorem same_iff (a b : List Int) {k : Int} (h1 : (a.length : Int) = b.length) : (decide (a = b)) = decide (a = b) := rfl

abbrev tb16 : Tbl := (36, c_sort_ok) :: tb15
theorem tb16_ok : TblOk Try.prog tb16 := TblOk.cons sort_ok tb15_ok

abbrev tb17 : Tbl := (37, c_comp_ok) :: tb16
theorem tb17_ok : TblOk Try.prog tb17 := TblOk.cons comp_ok tb16_ok

abbrev tb18 : Tbl := (49, c_grw_ok) :: tb17
theorem tb18_ok : TblOk Try.prog tb18 := TblOk.cons grw_ok tb17_ok


theorem aw_sort : sortL [1, 4, 2, 4] = [1, 2, 4, 4] := by
  unfold sortL
  have hp : [1, 4, 2, 4].Perm ([1, 2, 4, 4] : List Int) := by decide
  have h1 := (List.mergeSort_perm ([1, 4, 2, 4] : List Int) (fun x y => decide (x ≤ y))).trans hp
  refine h1.eq_of_pairwise (le := fun a b => a ≤ b) (fun a b _ _ h1 h2 => Int.le_antisymm h1 h2) ?_ (by decide)
  have := List.pairwise_mergeSort (le := fun x y : Int => decide (x ≤ y)) (fun a b c h1 h2 => by simp at *; omega) (fun a b => by simp; omega) [1, 4, 2, 4]
  exact this.imp (fun h => by simpa using h)
theorem aw_comp : compL (sortL ([] ++ [1, 4] ++ [2, 4])) = [1, 2, 4] := by
  show compL (sortL [1, 4, 2, 4]) = [1, 2, 4]
  rw [aw_sort]; decide

abbrev c_awake_ok : Ct := .fn [] (none) (.d .bool true)
set_option maxRecDepth 100000 in
set_option maxHeartbeats 4000000 in
theorem awake_ok : CtOk Try.prog 14 c_awake_ok := by
  refine CtOk.fn tb18_ok mixed [(35, 3, 2000000), (35, 11, 2000000)] [13, 35] rfl rfl ?_
  rintro ⟨⟩ -
  refine ⟨[], ?_⟩
  repeat' (first
    | (with_reducible refine Side.mk ?_
       (try dsimp only [cu, joinT, ckTys, gts, loK, hiK, Prod.eta, List.nil_append])
       first
       | (done)
       | (with_reducible rfl)
       | (omega)
       | (exact Eq.refl _)
       | (simp only [List.length_append, List.length_cons, List.length_nil]; omega)
       | (show (sortL ([] ++ [1, 4] ++ [2, 4])).length ≤ 9223372036854775807
          rw [sortL_len]; decide)
       | (show ([] ++ [1, 4] ++ [2, 4] : List Int).length = (sortL ([] ++ [1, 4] ++ [2, 4])).length
          rw [sortL_len])
       | (show (compL (sortL ([] ++ [1, 4] ++ [2, 4]))).length ≤ 9223372036854775807
          rw [aw_comp]; decide)
       | (simp [aw_sort]; done)
       | (decide))
    | (conv => whnf
       first
        | done
        | exact trivial
        | with_reducible refine NilBr.mk (fun h => ?_) ?_
        | with_reducible refine w_andS ?_ ?_
        | with_reducible refine w_andL ?_ ?_
        | with_reducible refine w_kern (by kernel_rfl) ?_
        | with_reducible refine w_true ?_
        | with_reducible refine w_nd ?_ ?_
        | with_reducible refine w_in ?_ ?_
        | with_reducible refine w_and ?_ ?_
        | (with_reducible refine w_brN (fun h => ?_) (fun h => ?_) <;> (try dsimp only [cu, Prod.eta, List.nil_append] at h) <;> (try (exfalso; omega; done)))
        | (with_reducible refine w_brD (fun h => ?_) (fun h => ?_) <;> (try dsimp only [cu, Prod.eta, List.nil_append] at h) <;> (try (exfalso; omega; done)))
        | (with_reducible refine w_br (fun h => ?_) (fun h => ?_) <;> (try dsimp only [cu, Prod.eta, List.nil_append] at h) <;> (try (exfalso; omega; done)))))
  all_goals (with_reducible refine Leaf.mk ?_
             (try dsimp only [cu, joinT, ckTys, gts, Prod.eta, List.nil_append] at *)
             first
             | (done)
             | (show decide (compL (sortL ([] ++ [1, 4] ++ [2, 4])) = [1, 2, 4]) = true
                rw [aw_comp]; decide)
             | (simp_all; done))
abbrev tb19 : Tbl := (14, c_awake_ok) :: tb18
theorem tb19_ok : TblOk Try.prog tb19 := TblOk.cons awake_ok tb18_ok

abbrev c_union_ok : Ct := .fn [.list (.int .i64), .list (.int .i64)] (some (fun (a : List Int) (b : List Int) => (a.length ≤ 4398046511104) ∧ (b.length ≤ 4398046511104))) (fun (a : List Int) (b : List Int) => .d (.list (.int .i64)) (unionL a b))
set_option maxRecDepth 100000 in
set_option maxHeartbeats 4000000 in
theorem union_ok : CtOk Try.prog 13 c_union_ok := by
  refine CtOk.fn tb19_ok mixed [(35, 3, 2000000), (35, 11, 2000000)] [35] rfl rfl ?_
  rintro ⟨(a : List Int), (b : List Int), _⟩ hpre
  replace hpre := hpre _ rfl
  dsimp only [cu] at hpre
  obtain ⟨ha, hb⟩ := hpre
  refine ⟨[], ?_⟩
  repeat' (first
    | (with_reducible refine Side.mk ?_
       (try dsimp only [cu, joinT, ckTys, gts, loK, hiK, Prod.eta, List.nil_append])
       first
       | (done)
       | (with_reducible rfl)
       | (omega)
       | (exact Eq.refl _)
       | (simp only [List.length_append, List.length_cons, List.length_nil]; omega)
       | ((try simp only [show (Int.toNat 0) = 0 from rfl, show (0 + 1 : Int).toNat = 0 + 1 from rfl, List.getElem!_cons_zero, List.getElem!_cons_succ, List.length_append, List.length_nil, sortL_len, List.nil_append])
          omega)
       | ((try simp only [show (Int.toNat 0) = 0 from rfl, show (0 + 1 : Int).toNat = 0 + 1 from rfl, List.getElem!_cons_zero, List.getElem!_cons_succ, List.length_append, List.length_nil, sortL_len, List.nil_append])
          done)
       | ((try simp only [show (Int.toNat 0) = 0 from rfl, show (0 + 1 : Int).toNat = 0 + 1 from rfl, List.getElem!_cons_zero, List.getElem!_cons_succ] at h)
          (try simp only [show (Int.toNat 0) = 0 from rfl, show (0 + 1 : Int).toNat = 0 + 1 from rfl, List.getElem!_cons_zero, List.getElem!_cons_succ, List.length_append, List.length_nil, sortL_len, List.nil_append])
          omega))
    | (conv => whnf
       first
        | done
        | exact trivial
        | with_reducible refine NilBr.mk (fun h => ?_) ?_
        | with_reducible refine w_andS ?_ ?_
        | with_reducible refine w_andL ?_ ?_
        | with_reducible refine w_kern (by kernel_rfl) ?_
        | with_reducible refine w_true ?_
        | with_reducible refine w_nd ?_ ?_
        | with_reducible refine w_in ?_ ?_
        | with_reducible refine w_and ?_ ?_
        | (with_reducible refine w_brN (fun h => ?_) (fun h => ?_) <;> (try dsimp only [cu, Prod.eta, List.nil_append] at h) <;> (try (exfalso; omega; done)))
        | (with_reducible refine w_brD (fun h => ?_) (fun h => ?_) <;> (try dsimp only [cu, Prod.eta, List.nil_append] at h) <;> (try (exfalso; omega; done)))
        | (with_reducible refine w_br (fun h => ?_) (fun h => ?_) <;> (try dsimp only [cu, Prod.eta, List.nil_append] at h) <;> (try (exfalso; omega; done)))))
  all_goals (with_reducible refine Leaf.mk ?_
             (try dsimp only [cu, joinT, ckTys, gts, Prod.eta, List.nil_append] at *)
             first
             | (done)
             | (have h1 : (!asc a) = true := by with_reducible assumption
                rw [union_no (by simp_all)])
             | (have h1 : (!asc b) = true := by with_reducible assumption
                rw [union_no (by simp_all)])
             | (have h1 : (!asc a) = false := by with_reducible assumption
                have h2 : (!asc b) = false := by with_reducible assumption
                rw [Bool.not_eq_false'] at h1 h2
                have h0 : unionL a b = compL (sortL (a ++ b)) := union_yes h1 h2
                rw [h0]; rfl))
abbrev tb20 : Tbl := (13, c_union_ok) :: tb19
theorem tb20_ok : TblOk Try.prog tb20 := TblOk.cons union_ok tb19_ok

end Go.Proofs.Ytojdmkkjamakiaa
