/- ObjstoreScripts. -/
import Derived.Test.YtpjgjkoajoiopaaAct
namespace Go.Proofs.Ytpjgjkoajoiopaa
open Go.Abs
set_option linter.unusedVariables false
set_option linter.unusedSimpArgs false

noncomputable section

abbrev c_scripts_law : Ct := .fn [.int .i64, .list (.int .i64)] (some (fun (m : Int) (l : List Int) => (l.length ≤ 9223372036854775807))) (fun (m : Int) (l : List Int) => .d .bool true)
set_option maxRecDepth 100000 in
set_option maxHeartbeats 4000000 in
theorem scripts_law : CtOk Try.prog 9 c_scripts_law := by
  refine CtOk.fn tb55_ok mixed [] [] rfl rfl ?_
  rintro ⟨(m : Int), (l : List Int), _⟩ hpre
  replace hpre := hpre _ rfl
  dsimp only [cu] at hpre
  have hl := hpre
  have hp1 := pick_lt (v := m) (n := 60) (by omega)
  refine ⟨[(0, 20, LA.mk [.sl 11 (.int .i64), .row 0 [.val (.int .i64), .owb tObj 42, .val .bool, .val .bool, .val (.int .i64), .val (.int .i64)], .row 1 [.val (.int .i64), .own tObj 42, .val .bool, .val .bool, .val (.int .i64), .val (.int .i64)], .ob 3 tSrc 63] (fun y => Tag 21 ∧ cu [.int .i64, .int .i64, .pair .bool (.list tObj), .bool, .bool, .int .i64, .int .i64, .int .i64, .list tObj, .bool, .bool, .int .i64, .int .i64, tSrc] (fun (k : Int) (c : Int) (o : Bool × List Obj) (cr : Bool) (ar : Bool) (w : Int) (kp : Int) (c2 : Int) (o2 : List Obj) (cr2 : Bool) (ar2 : Bool) (w2 : Int) (kp2 : Int) (q : Src) => (0 ≤ k ∧ k ≤ 60) ∧ (Src.ok q) ∧ (okQ (c, o.2, cr, ar, w, kp)) ∧ (o.1 = false → o.2 = []) ∧ ((c2, o2, cr2, ar2, w2, kp2) = (c, o.2, cr, ar, w, kp))) y) (cu [.int .i64, .int .i64, .pair .bool (.list tObj), .bool, .bool, .int .i64, .int .i64, .int .i64, .list tObj, .bool, .bool, .int .i64, .int .i64, tSrc] (fun (k : Int) (c : Int) (o : Bool × List Obj) (cr : Bool) (ar : Bool) (w : Int) (kp : Int) (c2 : Int) (o2 : List Obj) (cr2 : Bool) (ar2 : Bool) (w2 : Int) (kp2 : Int) (q : Src) => (60 - k).toNat)) (cu [.int .i64, .int .i64, .pair .bool (.list tObj), .bool, .bool, .int .i64, .int .i64, .int .i64, .list tObj, .bool, .bool, .int .i64, .int .i64, tSrc] (fun (k : Int) (c : Int) (o : Bool × List Obj) (cr : Bool) (ar : Bool) (w : Int) (kp : Int) (c2 : Int) (o2 : List Obj) (cr2 : Bool) (ar2 : Bool) (w2 : Int) (kp2 : Int) (q : Src) => ([] : List (Nat × Nat × LA)))))], ?_⟩
  repeat' (first
    | (
 with_reducible refine Side.mk ⟨(⟨⟩ : Tag 21), ?_⟩
 dsimp only [cu, joinT, ckTys, gts, Prod.eta, List.nil_append]
 refine ⟨?_, ?_, ?_, ?_, ?_⟩
 · omega
 · first
   | ((repeat (first | assumption | exact Src.ok_from (by assumption) | apply Src.ok_next)); done)
   | (exact (actQ_ok hq hs).2)
 · first
   | (exact okQ_nQ (by omega))
   | (
  (try dsimp only [toQ, Prod.eta])
  first
  | (with_reducible exact (actQ_ok hq hs).1)
  | (
   rw [nil_eq (actQ_nil rfl (by assumption))]
   with_reducible exact (actQ_ok hq hs).1))
 · first
   | (intro q; rfl)
   | (intro q; cases q)
 · first
   | (with_reducible rfl)
   | (
  (try dsimp only [toQ, Prod.eta])
  first
  | (with_reducible rfl)
  | (with_reducible exact (nil_eq (actQ_nil rfl (by assumption))).symm)))
    | (
 with_reducible refine Side.mk ?_
 (try dsimp only [cu, joinT, ckTys, gts, loK, hiK, Prod.eta, List.nil_append])
 first
 | (done)
 | (with_reducible rfl)
 | (omega)
 | (exact Eq.refl _)
 | (simp only [List.length_append, List.length_cons, List.length_nil]; omega)
 | ((repeat (first | assumption | exact Src.ok_from (by assumption) | apply Src.ok_next)); done)
 | (assumption)
 | (exact u64_ne (by omega))
 | (exact ⟨hq, ho, rfl, hs⟩)
 | (exact ⟨hq, ho, rfl⟩)
 | (
  (try dsimp only [toQ, Prod.eta])
  first
  | (with_reducible exact ⟨(actQ_ok hq hs).1, by (intro z; cases z), rfl⟩)
  | (
   have e := nil_eq (actQ_nil rfl (by assumption))
   first
   | (
    rw [e]
    with_reducible exact ⟨(actQ_ok hq hs).1, fun _ => rfl, rfl⟩)
   | (with_reducible exact ⟨by (rw [e]; exact (actQ_ok hq hs).1), fun _ => rfl, e.symm⟩))))
    | (conv => whnf
       first
        | done
        | exact trivial
        | with_reducible refine NilBr.mk (fun h => ?_) ?_
        | with_reducible first | refine w_andS ?_ ?_ | refine w_andL ?_ ?_ | refine w_kern (by kernel_rfl) ?_ | refine w_true ?_ | refine w_nd ?_ ?_ | refine w_in ?_ ?_ | refine w_and ?_ ?_
        | ((with_reducible first | refine w_brN (fun h => ?_) (fun h => ?_) | refine w_brD (fun h => ?_) (fun h => ?_) | refine w_br (fun h => ?_) (fun h => ?_)) <;> (try dsimp only [cu, Prod.eta, List.nil_append] at h) <;> (try (exfalso; first | omega | with_reducible contradiction | with_reducible exact actB_no (by assumption) | exact absurd rfl (by assumption) | (simp_all; done); done)))
        | (
 intro yy (hy : Tag 21 ∧ _)
 obtain ⟨(k : Int), (c : Int), (o : Bool × List Obj), (cr : Bool), (ar : Bool), (w : Int), (kp : Int), (c2 : Int), (o2 : List Obj), (cr2 : Bool), (ar2 : Bool), (w2 : Int), (kp2 : Int), (q : Src), _⟩ := yy
 replace hy := hy.2
 dsimp only [cu, joinT, ckTys, gts, Prod.eta, List.nil_append] at hy
 obtain ⟨hk, hs, hq, ho, hv⟩ := hy
 obtain ⟨b0, lo⟩ := o
 dsimp only at ho hq hv
 injection hv with v1 v2
 injection v2 with v2 v3
 injection v3 with v3 v4
 injection v4 with v4 v5
 injection v5 with v5 v6
 subst v1 v2 v3 v4 v5 v6
 rcases b0 with _ | _
 case' false => (have e := ho rfl; subst e))))
  all_goals (
 with_reducible refine Leaf.mk ?_
 (try dsimp only [cu, joinT, ckTys, gts, Prod.eta, List.nil_append] at *)
 first
 | (done)
 | (rfl)
 | (exact decide_eq_true (if_neg (by assumption))))
abbrev tb56 : Tbl := (9, c_scripts_law) :: tb55
theorem tb56_ok : TblOk Try.prog tb56 := TblOk.cons scripts_law tb55_ok

end

end Go.Proofs.Ytpjgjkoajoiopaa
