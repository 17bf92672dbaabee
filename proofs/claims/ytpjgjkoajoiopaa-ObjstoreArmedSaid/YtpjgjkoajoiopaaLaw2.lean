/- A store and its reference. -/
import Derived.Test.YtpjgjkoajoiopaaLaw
namespace Go.Proofs.Ytpjgjkoajoiopaa
open Go.Abs
set_option linter.unusedVariables false
set_option linter.unusedSimpArgs false


noncomputable section
theorem newQ_ex (c : Int) : ∃ q : St, q = (capN c, [], false, false, 0, 0) := ⟨_, rfl⟩
noncomputable def newQ (c : Int) : St := Classical.choose (newQ_ex c)
theorem newQ_eq (c : Int) : newQ c = (capN c, [], false, false, 0, 0) := Classical.choose_spec (newQ_ex c)
theorem okQ_newQ {c : Int} (h : 1 ≤ c ∧ c ≤ 1073741824) : okQ (newQ c) := by rw [newQ_eq]; exact okQ_new h
theorem newQ_nil (c : Int) : (newQ c).2.1 = [] := by rw [newQ_eq]
abbrev nQ (c : Int) : St := ((newQ c).1, [], (newQ c).2.2)
theorem nQ_eq (c : Int) : nQ c = (capN c, [], false, false, 0, 0) := by rw [nQ, newQ_eq]
theorem okQ_nQ {c : Int} (h : 1 ≤ c ∧ c ≤ 1073741824) : okQ (nQ c) := by rw [nQ_eq]; exact okQ_new h
abbrev aA : ByteArray := ⟨#[97]⟩
abbrev aq1 : St := (createQ (nQ 10) aA).1
abbrev aq2 : St := (appendQ aq1 aA ⟨#[120, 121]⟩).1
theorem aw_q0 : okQ (nQ 10) := okQ_nQ (by omega)
theorem aw_q1 : okQ aq1 := okQ_create aw_q0
theorem aw_q2 : okQ aq2 := okQ_append aw_q1
theorem aw_1 : (createQ (nQ 10) aA).2 = 0 := by rw [nQ_eq]; kernel_rfl
theorem aw_0 : ¬ (false || decide ((createQ (nQ 10) aA).2 = 0)) = false := by rw [aw_1]; decide
theorem aw_2 : (appendQ aq1 aA ⟨#[120, 121]⟩).2 = 0 := by rw [aq1, nQ_eq]; kernel_rfl
theorem aw_3 : (readQ aq2 aA).1 = ⟨#[120, 121]⟩ := by rw [aq2, aq1, nQ_eq]; kernel_rfl
theorem aw_4 : (readQ aq2 aA).2 = 0 := by rw [aq2, aq1, nQ_eq]; kernel_rfl
theorem aw_5 : usedS aq2.2.1 = 2 := by rw [aq2, aq1, nQ_eq]; kernel_rfl
theorem aw_6 : aq2.2.2.1 = false := by rw [aq2, aq1, nQ_eq]; kernel_rfl
theorem aw_7 : (!aq2.2.2.1) = true := by rw [aw_6]; rfl
theorem aw_8 : decide (usedS aq2.2.1 = 2) = true := by rw [aw_5]; rfl

abbrev c_same_ok : Ct := .mo [shA, shB] (some (fun (a : (shA).ty.den) (b : (shB).ty.den) => (okQ (toQ a)) ∧ (a.2.1.1 = false → a.2.1.2 = []) ∧ (b = toQ a))) [.val .bool] (fun (a : (shA).ty.den) (b : (shB).ty.den) => (true, ())) (fun (a : (shA).ty.den) (b : (shB).ty.den) => (mkA a.2.1.1 (toQ a), b, ()))
set_option maxRecDepth 100000 in
set_option maxHeartbeats 4000000 in
theorem same_ok : CtOk Try.prog 39 c_same_ok := by
  refine CtOk.mo tb48_ok mixed [] [] rfl rfl ?_
  rintro ⟨⟨(c : Int), ⟨(b0 : Bool), (l : List Obj)⟩, (cr : Bool), (ar : Bool), (w : Int), (k : Int)⟩, (b : St), _⟩ hpre
  replace hpre := hpre _ rfl
  dsimp only [cu] at hpre
  obtain ⟨hq, ho, he⟩ := hpre
  dsimp only [toQ] at he
  subst he
  have okq := hq
  obtain ⟨⟨ha, hl, hz⟩, hc, hu, hw0, hw, hk⟩ := hq
  dsimp only at ha hl hz hc hu hw0 hw hk ho
  rcases b0 with _ | _
  case' false => (have e := ho rfl; subst e)
  all_goals refine ⟨[], ?_⟩
  repeat' (first
    | (
 with_reducible refine Side.mk ?_
 (try dsimp only [cu, joinT, ckTys, gts, loK, hiK, Prod.eta, List.nil_append])
 first
 | (done)
 | (with_reducible rfl)
 | (omega)
 | (exact Eq.refl _)
 | (simp only [List.length_append, List.length_cons, List.length_nil]; omega)
 | (exact okq)
 | (exact ⟨okq, ho⟩)
 | (exact ⟨hl, by omega⟩)
 | (
  simp only [listQ, nmS]
  split <;> simp <;> omega))
    | (conv => whnf
       first
        | done
        | exact trivial
        | with_reducible refine NilBr.mk (fun h => ?_) ?_
        | with_reducible first | refine w_andS ?_ ?_ | refine w_andL ?_ ?_ | refine w_kern (by kernel_rfl) ?_ | refine w_true ?_ | refine w_nd ?_ ?_ | refine w_in ?_ ?_ | refine w_and ?_ ?_
        | ((with_reducible first | refine w_brN (fun h => ?_) (fun h => ?_) | refine w_brD (fun h => ?_) (fun h => ?_) | refine w_br (fun h => ?_) (fun h => ?_)) <;> (try dsimp only [cu, Prod.eta, List.nil_append] at h) <;> (try (exfalso; first | omega | (simp_all; done) | contradiction; done)))))
  all_goals (
 with_reducible refine Leaf.mk ?_
 (try dsimp only [cu, joinT, ckTys, gts, Prod.eta, List.nil_append] at *)
 first
 | (done)
 | (rfl)
 | (exact decide_eq_true rfl))
abbrev tb49 : Tbl := (39, c_same_ok) :: tb48
theorem tb49_ok : TblOk Try.prog tb49 := TblOk.cons same_ok tb48_ok

abbrev c_new2_ok : Ct := .mo [.val (.int .i64)] (none) [.optp 61 shA0, .val (.int .i64)] (fun (c : Int) => ((decide (1 ≤ c ∧ c ≤ 1073741824), mkA false (newQ c)), if 1 ≤ c ∧ c ≤ 1073741824 then 0 else 4, ())) (fun (c : Int) => (c, ()))
set_option maxRecDepth 100000 in
set_option maxHeartbeats 4000000 in
theorem new2_ok : CtOk Try.prog 11 c_new2_ok := by
  refine CtOk.mo tb49_ok mixed [] [] rfl rfl ?_
  rintro ⟨(c : Int), _⟩ -
  all_goals refine ⟨[], ?_⟩
  repeat' (first
    | (
 with_reducible refine Side.mk ?_
 (try dsimp only [cu, joinT, ckTys, gts, loK, hiK, Prod.eta, List.nil_append])
 first
 | (done)
 | (with_reducible rfl)
 | (omega)
 | (exact Eq.refl _)
 | (simp only [List.length_append, List.length_cons, List.length_nil]; omega))
    | (conv => whnf
       first
        | done
        | exact trivial
        | with_reducible refine NilBr.mk (fun h => ?_) ?_
        | with_reducible first | refine w_andS ?_ ?_ | refine w_andL ?_ ?_ | refine w_kern (by kernel_rfl) ?_ | refine w_true ?_ | refine w_nd ?_ ?_ | refine w_in ?_ ?_ | refine w_and ?_ ?_
        | ((with_reducible first | refine w_brN (fun h => ?_) (fun h => ?_) | refine w_brD (fun h => ?_) (fun h => ?_) | refine w_br (fun h => ?_) (fun h => ?_)) <;> (try dsimp only [cu, Prod.eta, List.nil_append] at h) <;> (try (exfalso; omega; done)))))
  all_goals (
 with_reducible refine Leaf.mk ?_
 (try dsimp only [cu, joinT, ckTys, gts, Prod.eta, List.nil_append] at *)
 first
 | (done)
 | (rfl)
 | (
  rw [newQ_eq]
  first
  | (simp only [capN]; split <;> first | rfl | omega)
  | (rfl)
  | (done))
 | (simp; omega)
 | (rw [if_neg (by omega)])
 | (rw [if_pos (by omega)]))
abbrev tb50 : Tbl := (11, c_new2_ok) :: tb49
theorem tb50_ok : TblOk Try.prog tb50 := TblOk.cons new2_ok tb49_ok

abbrev c_rnew2_ok : Ct := .mo [.val (.int .i64)] (none) [.optp 76 shB0, .val (.int .i64)] (fun (c : Int) => ((decide (1 ≤ c ∧ c ≤ 1073741824), nQ c), if 1 ≤ c ∧ c ≤ 1073741824 then 0 else 4, ())) (fun (c : Int) => (c, ()))
set_option maxRecDepth 100000 in
set_option maxHeartbeats 4000000 in
theorem rnew2_ok : CtOk Try.prog 31 c_rnew2_ok := by
  refine CtOk.mo tb50_ok mixed [(0, 3, 6000000)] [] rfl rfl ?_
  rintro ⟨(c : Int), _⟩ -
  all_goals refine ⟨[], ?_⟩
  repeat' (first
    | (
 with_reducible refine Side.mk ?_
 (try dsimp only [cu, joinT, ckTys, gts, loK, hiK, Prod.eta, List.nil_append])
 first
 | (done)
 | (with_reducible rfl)
 | (omega)
 | (exact Eq.refl _)
 | (simp only [List.length_append, List.length_cons, List.length_nil]; omega))
    | (conv => whnf
       first
        | done
        | exact trivial
        | with_reducible refine NilBr.mk (fun h => ?_) ?_
        | with_reducible first | refine w_andS ?_ ?_ | refine w_andL ?_ ?_ | refine w_kern (by kernel_rfl) ?_ | refine w_true ?_ | refine w_nd ?_ ?_ | refine w_in ?_ ?_ | refine w_and ?_ ?_
        | ((with_reducible first | refine w_brN (fun h => ?_) (fun h => ?_) | refine w_brD (fun h => ?_) (fun h => ?_) | refine w_br (fun h => ?_) (fun h => ?_)) <;> (try dsimp only [cu, Prod.eta, List.nil_append] at h) <;> (try (exfalso; omega; done)))))
  all_goals (
 with_reducible refine Leaf.mk ?_
 (try dsimp only [cu, joinT, ckTys, gts, Prod.eta, List.nil_append] at *)
 first
 | (done)
 | (rfl)
 | (
  rw [newQ_eq]
  first
  | (simp only [capN]; split <;> first | rfl | omega)
  | (rfl)
  | (done))
 | (simp; omega)
 | (rw [if_neg (by omega)])
 | (rw [if_pos (by omega)]))
abbrev tb51 : Tbl := (31, c_rnew2_ok) :: tb50
theorem tb51_ok : TblOk Try.prog tb51 := TblOk.cons rnew2_ok tb50_ok

abbrev c_awake_ok : Ct := .fn [] (none) (.d .bool true)
set_option maxRecDepth 100000 in
set_option maxHeartbeats 4000000 in
theorem awake_ok : CtOk Try.prog 21 c_awake_ok := by
  refine CtOk.fn tb51_ok mixed [] [] rfl rfl ?_
  rintro ⟨⟩ -
  refine ⟨[], ?_⟩
  repeat' (first
    | (
 with_reducible refine Side.mk ?_
 (try dsimp only [cu, joinT, ckTys, gts, loK, hiK, Prod.eta, List.nil_append])
 first
 | (done)
 | (with_reducible rfl)
 | (omega)
 | (exact Eq.refl _)
 | (simp only [List.length_append, List.length_cons, List.length_nil]; omega)
 | (exact ⟨aw_q0, fun _ => rfl, by decide⟩)
 | (
  refine ⟨aw_q1, ?_, by decide⟩
  intro q
  cases q)
 | (
  refine ⟨?_, ?_, ?_⟩
  · exact aw_q1
  · intro q; cases q
  · decide)
 | (exact ⟨aw_q2.1.1, aw_q2.1.2.1⟩)
 | (exact ⟨aw_q2.1.2.1, Int.le_trans aw_q2.2.2.1 aw_q2.2.1.2⟩))
    | (conv => whnf
       first
        | done
        | exact trivial
        | with_reducible refine NilBr.mk (fun h => ?_) ?_
        | with_reducible first | refine w_andS ?_ ?_ | refine w_andL ?_ ?_ | refine w_kern (by kernel_rfl) ?_ | refine w_true ?_ | refine w_nd ?_ ?_ | refine w_in ?_ ?_ | refine w_and ?_ ?_
        | ((with_reducible first | refine w_brN (fun h => ?_) (fun h => ?_) | refine w_brD (fun h => ?_) (fun h => ?_) | refine w_br (fun h => ?_) (fun h => ?_)) <;> (try dsimp only [cu, Prod.eta, List.nil_append] at h) <;> (try (exfalso; first | exact absurd (by assumption) aw_0 | exact absurd aw_1 (by assumption) | exact absurd aw_2 (by assumption) | exact absurd aw_3 (by assumption) | exact absurd aw_4 (by assumption) | exact absurd aw_5 (by assumption) | exact absurd aw_6 (by assumption); done)))))
  all_goals (
 with_reducible refine Leaf.mk ?_
 (try dsimp only [cu, joinT, ckTys, gts, Prod.eta, List.nil_append] at *)
 first
 | (done)
 | (rfl)
 | (exact aw_7)
 | (exact aw_7.symm))
abbrev tb52 : Tbl := (21, c_awake_ok) :: tb51
theorem tb52_ok : TblOk Try.prog tb52 := TblOk.cons awake_ok tb51_ok

end

end Go.Proofs.Ytpjgjkoajoiopaa
