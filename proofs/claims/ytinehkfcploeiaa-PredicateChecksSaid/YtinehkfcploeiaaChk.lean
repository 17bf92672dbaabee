/- The walk of PredicateChecks. -/
import Derived.Test.YtinehkfcploeiaaChg
namespace Go.Proofs.Ytinehkfcploeiaa
open Go.Abs
set_option linter.unusedVariables false
set_option linter.unusedSimpArgs false

abbrev c_same_ok : Ct := .fn [.list (.int .i64), .list (.int .i64)] (some (fun (a : List Int) (b : List Int) => (a.length ≤ 9223372036854775807))) (fun (a : List Int) (b : List Int) => .d .bool (decide (a = b)))
set_option maxRecDepth 100000 in
set_option maxHeartbeats 4000000 in
theorem same_ok : CtOk Try.prog 25 c_same_ok := by
  refine CtOk.fn tb55_ok mixed [] [] rfl rfl ?_
  rintro ⟨(a : List Int), (b : List Int), _⟩ hpre
  replace hpre := hpre _ rfl
  dsimp only [cu] at hpre
  have ha := hpre
  refine ⟨[(0, 8, LA.mk [.sl 13 (.int .i64)] (fun y => Tag 28 ∧ cu [.int .i64] (fun (k : Int) => (0 ≤ k ∧ k ≤ a.length) ∧ (a.take k.toNat = b.take k.toNat)) y) (cu [.int .i64] (fun (k : Int) => ((a.length : Int) - k).toNat)) (cu [.int .i64] (fun (k : Int) => ([] : List (Nat × Nat × LA)))))], ?_⟩
  repeat' (first
    | (
 with_reducible refine Side.mk ⟨(⟨⟩ : Tag 28), ?_⟩
 dsimp only [cu, joinT, ckTys, gts, Prod.eta, List.nil_append]
 refine ⟨?_, ?_⟩
 · omega
 · first
   | (rfl)
   | (
  rw [show (k + 1).toNat = k.toNat + 1 by omega, List.take_add_one, List.take_add_one, hs, List.getElem?_eq_getElem (by omega), List.getElem?_eq_getElem (by omega)]
  rw [getElem!_pos a k.toNat (by omega), getElem!_pos b k.toNat (by omega)] at *
  simp_all))
    | (
 with_reducible refine Side.mk ?_
 (try dsimp only [cu, joinT, ckTys, gts, loK, hiK, Prod.eta, List.nil_append])
 first
 | (done)
 | (with_reducible rfl)
 | (omega)
 | (exact Eq.refl _)
 | (simp only [List.length_append, List.length_cons, List.length_nil]; omega))
    | (conv => whnf
       first
        | done
        | exact trivial
        | with_reducible refine NilBr.mk (fun h => ?_) ?_
        | with_reducible first | refine w_andS ?_ ?_ | refine w_andL ?_ ?_ | refine w_kern (by kernel_rfl) ?_ | refine w_true ?_ | refine w_nd ?_ ?_ | refine w_in ?_ ?_ | refine w_and ?_ ?_
        | ((with_reducible first | refine w_brN (fun h => ?_) (fun h => ?_) | refine w_brD (fun h => ?_) (fun h => ?_) | refine w_br (fun h => ?_) (fun h => ?_)) <;> (try dsimp only [cu, Prod.eta, List.nil_append] at h) <;> (try (exfalso; omega; done)))
        | (
 intro yy (hy : Tag 28 ∧ _)
 obtain ⟨(k : Int), _⟩ := yy
 replace hy := hy.2
 dsimp only [cu, joinT, ckTys, gts, Prod.eta, List.nil_append] at hy
 obtain ⟨hk, hs⟩ := hy)))
  all_goals (
 with_reducible refine Leaf.mk ?_
 (try dsimp only [cu, joinT, ckTys, gts, Prod.eta, List.nil_append] at *)
 first
 | (done)
 | (
  have hab : a = b := by
    have h2 := hs
    rw [List.take_of_length_le (by omega), List.take_of_length_le (by omega)] at h2
    exact h2
  rw [decide_eq_true hab])
 | (
  have hne : ¬ a = b := fun q => by subst q; omega
  rw [decide_eq_false hne])
 | (
  have hne : ¬ a = b := fun q => by subst q; exact absurd rfl (by assumption)
  rw [decide_eq_false hne]))
abbrev tb56 : Tbl := (25, c_same_ok) :: tb55
theorem tb56_ok : TblOk Try.prog tb56 := TblOk.cons same_ok tb55_ok


theorem kPred_list (x : List Int) (l : List Int) (i : Nat) : (kPred (kSchema x) l)[i]!.2.2.2.1.length ≤ 63 := by
  obtain ⟨h1, h2, h3, h4⟩ := kSchema_valid x
  have hp := Src.pick_lt (s := (l, 0)) (n := 8) (by decide)
  obtain ⟨g1, g2⟩ := kNodes_valid (kSchema x) ⟨h2, by omega⟩ h4 (Src.pick (l, 0) 8).toNat (Src.next (l, 0)) [] (by simp; omega) (fun i h => by simp at h)
  by_cases hi : i < (kPred (kSchema x) l).length
  · have := (g2 i hi).2
    exact Nat.le_trans this (by decide)
  · rw [getElem!_neg _ i hi]; decide

abbrev c_checks_ok : Ct := .fn [tSchema, .list tNd, .list (.int .i64), .list (.int .i64), .int .i64, .int .i64, .int .i64, tVal] (some (fun (s : Schema) (raw : List Nd) (x : List Int) (l : List Int) (how : Int) (a : Int) (v : Int) (w : Val) => (x.length ≤ 9223372036854775807) ∧ (l.length ≤ 9223372036854775807))) (fun (s : Schema) (raw : List Nd) (x : List Int) (l : List Int) (how : Int) (a : Int) (v : Int) (w : Val) => .d .bool true)
set_option maxRecDepth 100000 in
set_option maxHeartbeats 4000000 in
theorem checks_ok : CtOk Try.prog 10 c_checks_ok := by
  refine CtOk.fn tb56_ok mixed [] [] rfl rfl ?_
  rintro ⟨(s : Schema), (raw : List Nd), (x : List Int), (l : List Int), (how : Int), (a : Int), (v : Int), (w : Val), _⟩ hpre
  replace hpre := hpre _ rfl
  dsimp only [cu] at hpre
  obtain ⟨hx, hl⟩ := hpre
  obtain ⟨s1, s2, s3, s4⟩ := kSchema_valid x
  obtain ⟨p1, p2, p3⟩ := kPred_valid x l
  have q1 := kPred_list x l
  refine ⟨[], ?_⟩
  repeat' (first
    | (
 with_reducible refine Side.mk ?_
 (try dsimp only [cu, joinT, ckTys, gts, loK, hiK, Prod.eta, List.nil_append])
 first
 | (done)
 | (with_reducible rfl)
 | (omega)
 | (exact Eq.refl _)
 | (simp only [List.length_append, List.length_cons, List.length_nil]; omega)
 | (exact ⟨by omega, q1⟩)
 | (exact ⟨by omega, by assumption⟩)
 | (rw [cols_eq]; exact rcolsR_len _ _))
    | (conv => whnf
       first
        | done
        | exact trivial
        | with_reducible refine NilBr.mk (fun h => ?_) ?_
        | with_reducible first | refine w_andS ?_ ?_ | refine w_andL ?_ ?_ | refine w_kern (by kernel_rfl) ?_ | refine w_true ?_ | refine w_nd ?_ ?_ | refine w_in ?_ ?_ | refine w_and ?_ ?_
        | ((with_reducible first | refine w_brN (fun h => ?_) (fun h => ?_) | refine w_brD (fun h => ?_) (fun h => ?_) | refine w_br (fun h => ?_) (fun h => ?_)) <;> (try dsimp only [cu, Prod.eta, List.nil_append] at h) <;> (try (exfalso; omega; done)))))
  all_goals (
 with_reducible refine Leaf.mk ?_
 (try dsimp only [cu, joinT, ckTys, gts, Prod.eta, List.nil_append] at *)
 first
 | (done)
 | (first | rfl | (simp_all [cols_eq]; done)))
abbrev tb57 : Tbl := (10, c_checks_ok) :: tb56
theorem tb57_ok : TblOk Try.prog tb57 := TblOk.cons checks_ok tb56_ok

end Go.Proofs.Ytinehkfcploeiaa
