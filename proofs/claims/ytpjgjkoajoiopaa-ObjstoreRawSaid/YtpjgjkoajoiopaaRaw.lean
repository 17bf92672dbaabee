/- ObjstoreRaw. -/
import Derived.Test.YtpjgjkoajoiopaaLaw2
namespace Go.Proofs.Ytpjgjkoajoiopaa
open Go.Abs
set_option linter.unusedVariables false
set_option linter.unusedSimpArgs false

noncomputable section

theorem cr_nil {q : St} {n : ByteArray} (h : (false || decide ((createQ q n).2 = 0)) = false) (e : q.2.1 = []) : (createQ q n).1.2.1 = [] := by
  have h : ¬ (createQ q n).2 = 0 := by simpa using h
  unfold createQ doQ at h ⊢
  repeat (any_goals split)
  all_goals first | exact e | skip
  · rename_i h0 h1 h2 h3 h4
    simp only [fallQ, fireQ]
    split <;> simp [e, fallS]
  · simp_all
theorem okQ_nil {q : St} (h : okQ q) (e : q.2.1 = []) : okQ (q.1, [], q.2.2) := by rw [← e]; exact h
theorem cr_same {c : Int} {n : ByteArray} (h : (false || decide ((createQ (nQ c) n).2 = 0)) = false) : (createQ (nQ c) n).1 = nQ c := by
  have h : ¬ (createQ (nQ c) n).2 = 0 := by simpa using h
  rw [nQ_eq] at h ⊢
  unfold createQ doQ at h ⊢
  simp only [fireB, fireQ] at h ⊢
  simp at h ⊢
  repeat (any_goals split at h)
  all_goals simp_all
theorem rc_a : (createQ (nQ 30) aA).2 = 0 := by rw [nQ_eq]; kernel_rfl
theorem rc_e {n : ByteArray} (h : (false || decide ((createQ (nQ 30) n).2 = 0)) = false) : ((createQ (nQ 30) n).1.1, ([] : List Obj), (createQ (nQ 30) n).1.2.2) = (createQ (nQ 30) n).1 := by
  rw [cr_same h]
theorem rc_no {n : ByteArray} (h : (false || decide ((createQ (nQ 30) n).2 = 0)) = false) (h2 : (false || decide ((createQ ((createQ (nQ 30) n).1.1, ([] : List Obj), (createQ (nQ 30) n).1.2.2) aA).2 = 0)) = false) : False := by
  rw [rc_e h, cr_same h, rc_a] at h2
  simp at h2
theorem nil_eq {q : St} (e : q.2.1 = []) : (q.1, ([] : List Obj), q.2.2) = q := by rw [← e]

abbrev c_raw_law : Ct := .fn [.int .i64, .str, .str, .int .i64, .int .i64, .int .u8] (some (fun (c : Int) (n : ByteArray) (d : ByteArray) (x : Int) (y : Int) (z : Int) => (n.size ≤ 140737488351232) ∧ (d.size ≤ 140737488351232) ∧ (-9223372036854775808 ≤ x ∧ x ≤ 9223372036854775807) ∧ (-9223372036854775808 ≤ y ∧ y ≤ 9223372036854775807))) (fun (c : Int) (n : ByteArray) (d : ByteArray) (x : Int) (y : Int) (z : Int) => .d .bool true)
set_option maxRecDepth 100000 in
set_option maxHeartbeats 4000000 in
theorem raw_law : CtOk Try.prog 8 c_raw_law := by
  refine CtOk.fn tb52_ok mixed [] [] rfl rfl ?_
  rintro ⟨(c : Int), (n : ByteArray), (d : ByteArray), (x : Int), (y : Int), (z : Int), _⟩ hpre
  replace hpre := hpre _ rfl
  dsimp only [cu] at hpre
  obtain ⟨hn, hd, hx, hy⟩ := hpre
  refine ⟨[], ?_⟩
  repeat' (first
    | (
 with_reducible refine Side.mk ?_
 (try dsimp only [cu, joinT, ckTys, gts, loK, hiK, Prod.eta, List.nil_append])
 first
 | (done)
 | (with_reducible rfl)
 | (omega)
 | (exact Eq.refl _)
 | (simp only [List.length_append, List.length_cons, List.length_nil]; omega)
 | (
  refine ⟨?_, ?_, ?_⟩
  · (try dsimp only [toQ, Prod.eta])
    (repeat (first | with_reducible exact okQ_nQ (by omega) | with_reducible apply okQ_create | with_reducible apply okQ_append | with_reducible apply okQ_trunc | with_reducible apply okQ_flip | with_reducible apply okQ_crash | with_reducible refine okQ_arm ?_ (by omega) (by omega) | with_reducible refine okQ_nil ?_ (cr_nil (by assumption) rfl))); done
  · first | (intro q; cases q; done) | (intro q; with_reducible rfl)
  · first | assumption | omega | decide | (with_reducible rfl) | (have e := rc_e (by assumption); dsimp only [nQ] at e; (try dsimp only [toQ, Prod.eta]); rw [e]; done))
 | (
  (try dsimp only [toQ, Prod.eta])
  (repeat (first | with_reducible exact okQ_nQ (by omega) | with_reducible apply okQ_create | with_reducible apply okQ_append | with_reducible apply okQ_trunc | with_reducible apply okQ_flip | with_reducible apply okQ_crash | with_reducible refine okQ_arm ?_ (by omega) (by omega) | with_reducible refine okQ_nil ?_ (cr_nil (by assumption) rfl))); done)
 | (
  refine ⟨?_, ?_, ?_⟩
  · (try dsimp only [toQ, Prod.eta])
    (repeat (first | with_reducible exact okQ_nQ (by omega) | with_reducible apply okQ_create | with_reducible apply okQ_append | with_reducible apply okQ_trunc | with_reducible apply okQ_flip | with_reducible apply okQ_crash | with_reducible refine okQ_arm ?_ (by omega) (by omega) | with_reducible refine okQ_nil ?_ (cr_nil (by assumption) rfl))); done
  · first | (intro q; cases q; done) | (intro q; with_reducible rfl)
  · first | omega | decide)
 | (
  refine ⟨?_, ?_⟩
  · (try dsimp only [toQ, Prod.eta])
    (repeat (first | with_reducible exact okQ_nQ (by omega) | with_reducible apply okQ_create | with_reducible apply okQ_append | with_reducible apply okQ_trunc | with_reducible apply okQ_flip | with_reducible apply okQ_crash | with_reducible refine okQ_arm ?_ (by omega) (by omega) | with_reducible refine okQ_nil ?_ (cr_nil (by assumption) rfl))); done
  · first | (intro q; cases q; done) | (intro q; with_reducible rfl) | omega | decide)
 | (exact ⟨by omega, by omega⟩))
    | (conv => whnf
       first
        | done
        | exact trivial
        | with_reducible refine NilBr.mk (fun h => ?_) ?_
        | with_reducible first | refine w_andS ?_ ?_ | refine w_andL ?_ ?_ | refine w_kern (by kernel_rfl) ?_ | refine w_true ?_ | refine w_nd ?_ ?_ | refine w_in ?_ ?_ | refine w_and ?_ ?_
        | ((with_reducible first | refine w_brN (fun h => ?_) (fun h => ?_) | refine w_brD (fun h => ?_) (fun h => ?_) | refine w_br (fun h => ?_) (fun h => ?_)) <;> (try dsimp only [cu, Prod.eta, List.nil_append] at h) <;> (try (exfalso; first | exact absurd rfl (by assumption) | (with_reducible contradiction) | exact rc_no (by assumption) (by assumption); done)))))
  all_goals (
 with_reducible refine Leaf.mk ?_
 (try dsimp only [cu, joinT, ckTys, gts, Prod.eta, List.nil_append] at *)
 first
 | (done)
 | (with_reducible rfl)
 | (
  have e := rc_e (by assumption)
  dsimp only [nQ] at e
  refine absurd ?_ (by assumption)
  (try dsimp only [toQ, Prod.eta])
  rw [e]))
abbrev tb53 : Tbl := (8, c_raw_law) :: tb52
theorem tb53_ok : TblOk Try.prog tb53 := TblOk.cons raw_law tb52_ok

end

end Go.Proofs.Ytpjgjkoajoiopaa
