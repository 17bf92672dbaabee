/- One call on a store and its reference. -/
import Derived.Test.YtpjgjkoajoiopaaTwice
namespace Go.Proofs.Ytpjgjkoajoiopaa
open Go.Abs
set_option linter.unusedVariables false
set_option linter.unusedSimpArgs false

noncomputable section

def actQ (q : St) (s : Src) : St × Src :=
  let n := namesS s; let t := Src.pick (src2 s) 12; let s2 := Src.next (src2 s)
  if t = 0 ∨ t = 1 then ((createQ q n).1, s2)
  else if t = 2 ∨ t = 3 ∨ t = 4 then ((appendQ q n (dataF s2).1).1, (dataF s2).2)
  else if t = 5 then ((syncQ q n).1, s2)
  else if t = 6 then ((truncQ q n (Src.pick s2 9 - 1)).1, Src.next s2)
  else if t = 7 then ((deleteQ q n).1, s2)
  else if t = 8 then ((crashQ q (Src.pick s2 5 - 1)).1, Src.next s2)
  else if t = 9 then ((armQ q (Src.pick s2 6 - 1) (Src.pick (Src.next s2) 5 - 1)).1, src2 s2)
  else if t = 10 then ((flipQ q n (Src.pick s2 9 - 1) (IntKind.u8.wrap (Src.pick (Src.next s2) 256))).1, src2 s2)
  else if Src.pick s2 2 = 0 then (q, Src.next s2) else (restartQ q, Src.next s2)
def actB (b : Bool) (q : St) (s : Src) : Bool := if Src.pick (src2 s) 12 = 0 ∨ Src.pick (src2 s) 12 = 1 then b || decide ((createQ q (namesS s)).2 = 0) else b
theorem actQ_ok {q : St} {s : Src} (hq : okQ q) (hs : Src.ok s) : okQ (actQ q s).1 ∧ Src.ok (actQ q s).2 := by
  have h1 : Src.ok (src2 s) := Src.ok_next (Src.ok_next hs)
  have h2 := Src.ok_next h1
  have h3 := Src.ok_next h2
  have h4 := Src.ok_next h3
  have hp := @Src.pick_lt
  unfold actQ
  dsimp only
  repeat (any_goals split)
  all_goals first | with_reducible exact ⟨okQ_create hq, h2⟩ | with_reducible exact ⟨okQ_append hq, (dataF_ok h2).1⟩ | with_reducible exact ⟨okQ_sync hq, h2⟩ | with_reducible exact ⟨okQ_trunc hq, h3⟩ | with_reducible exact ⟨okQ_delete hq, h2⟩ | with_reducible exact ⟨okQ_crash hq, h3⟩ | with_reducible exact ⟨okQ_flip hq, h4⟩ | exact ⟨okQ_flip (q := q) hq, h4⟩ | with_reducible exact ⟨hq, h3⟩ | with_reducible exact ⟨okQ_restart hq, h3⟩ | skip
  · refine ⟨okQ_arm hq ?_ ?_, h4⟩
    · have := hp (s := Src.next (src2 s)) (n := 6) (by omega); omega
    · have := hp (s := Src.next (Src.next (src2 s))) (n := 5) (by omega); omega
theorem kn_nil {q : St} {n : ByteArray} (e : q.2.1 = []) : knownQ q n ≠ 0 := by unfold knownQ; rw [e]; split <;> simp [has_nil]
theorem actQ_nil {q : St} {s : Src} (e : q.2.1 = []) (hb : actB false q s = false) : (actQ q s).1.2.1 = [] := by
  have hk := fun n => kn_nil (n := n) e
  unfold actB at hb
  unfold actQ
  dsimp only
  split
  · rename_i h
    rw [if_pos h] at hb
    exact cr_nil hb e
  split
  · exact ap_nil e
  split
  · exact sy_nil e
  split
  · rw [truncQ, if_pos (hk _)]; exact e
  split
  · rw [deleteQ, if_pos (hk _)]; exact e
  split
  · exact crash_n e
  split
  · unfold armQ
    split
    · exact e
    split <;> exact e
  split
  · rw [flipQ, if_pos (hk _)]; exact e
  split <;> exact e
theorem actB_no {q : St} {s : Src} (h : actB true q s = false) : False := by
  unfold actB at h; split at h <;> simp at h
theorem act_9 {q : St} {s : Src} (h : Src.pick (src2 s) 12 = 9) : (actQ q s).2 = src2 (Src.next (src2 s)) := by
  unfold actQ; simp [h]
theorem act_10 {q : St} {s : Src} (h : Src.pick (src2 s) 12 = 10) : (actQ q s).2 = src2 (Src.next (src2 s)) := by
  unfold actQ; simp [h]

abbrev c_act_ok : Ct := .mo [shA, shB, .ptr 63 (.val tSrc)] (some (fun (a : (shA).ty.den) (b : (shB).ty.den) (s : (Sh.ptr 63 (.val tSrc)).ty.den) => (okQ (toQ a)) ∧ (a.2.1.1 = false → a.2.1.2 = []) ∧ (b = toQ a) ∧ (Src.ok s))) [.val .bool] (fun (a : (shA).ty.den) (b : (shB).ty.den) (s : (Sh.ptr 63 (.val tSrc)).ty.den) => (true, ())) (fun (a : (shA).ty.den) (b : (shB).ty.den) (s : (Sh.ptr 63 (.val tSrc)).ty.den) => (mkA (actB a.2.1.1 (toQ a) s) (actQ (toQ a) s).1, (actQ b s).1, (actQ b s).2, ()))
set_option maxRecDepth 100000 in
set_option maxHeartbeats 4000000 in
theorem act_ok : CtOk Try.prog 41 c_act_ok := by
  refine CtOk.mo tb54_ok mixed [] [] rfl rfl ?_
  rintro ⟨⟨(c : Int), ⟨(b0 : Bool), (l : List Obj)⟩, (cr : Bool), (ar : Bool), (w : Int), (k : Int)⟩, (b : St), (s : Src), _⟩ hpre
  replace hpre := hpre _ rfl
  dsimp only [cu] at hpre
  obtain ⟨hq, ho, he, hs⟩ := hpre
  (try dsimp only [toQ] at he)
  subst he
  have okq := hq
  have hp := @Src.pick_lt
  have h1 : Src.ok (src2 s) := Src.ok_next (Src.ok_next hs)
  have h2 := Src.ok_next h1
  have h3 := Src.ok_next h2
  have hnz := names_size s
  have hd := (dataF_ok h2).2
  (try dsimp only at ho)
  rcases b0 with _ | _
  case' false => (have e := ho rfl; subst e)
  all_goals refine ⟨[], ?_⟩
  repeat' (first
    | (
 with_reducible refine Side.mk ?_
 (try dsimp only [cu, joinT, ckTys, gts, loK, hiK, Prod.eta, List.nil_append])
 first
 | (done)
 | (with_reducible rfl)
 | (omega)
 | (exact Eq.refl _)
 | (simp only [List.length_append, List.length_cons, List.length_nil]; omega)
 | (with_reducible assumption)
 | (exact ⟨okq.1.1, okq.1.2.1⟩)
 | (exact ⟨h1, by decide⟩)
 | (exact ⟨h2, by decide⟩)
 | (exact ⟨h3, by decide⟩)
 | (exact ⟨okq, ho, by omega⟩)
 | (exact ⟨okq, ho⟩)
 | (exact ⟨okq, by omega⟩)
 | (
  have q0 := hp (s := Src.next (src2 s)) (n := 9) (by omega)
  have q1 := hp (s := Src.next (src2 s)) (n := 5) (by omega)
  have q2 := hp (s := Src.next (src2 s)) (n := 6) (by omega)
  have q3 := hp (s := Src.next (Src.next (src2 s))) (n := 5) (by omega)
  first | omega | exact ⟨okq, ho, by omega⟩ | exact ⟨okq, by omega⟩ | exact ⟨okq, ho, by omega, by omega⟩)
 | (with_reducible exact okq))
    | (conv => whnf
       first
        | done
        | exact trivial
        | with_reducible refine NilBr.mk (fun h => ?_) ?_
        | with_reducible first | refine w_andS ?_ ?_ | refine w_andL ?_ ?_ | refine w_kern (by kernel_rfl) ?_ | refine w_true ?_ | refine w_nd ?_ ?_ | refine w_in ?_ ?_ | refine w_and ?_ ?_
        | ((with_reducible first | refine w_brN (fun h => ?_) (fun h => ?_) | refine w_brD (fun h => ?_) (fun h => ?_) | refine w_br (fun h => ?_) (fun h => ?_)) <;> (try dsimp only [cu, Prod.eta, List.nil_append] at h) <;> (try (exfalso; first | omega | exact absurd rfl (by assumption); done)))))
  all_goals (
 with_reducible refine Leaf.mk ?_
 (try dsimp only [cu, joinT, ckTys, gts, Prod.eta, List.nil_append] at *)
 first
 | (done)
 | (with_reducible rfl)
 | (
  simp [actQ, actB, *]
  done)
 | (
  with_reducible refine Eq.trans ?_ (act_9 (by assumption)).symm
  rfl)
 | (
  with_reducible refine Eq.trans ?_ (act_10 (by assumption)).symm
  rfl)
 | (exact (actQ_nil rfl (by simp [actB, *])).symm))
abbrev tb55 : Tbl := (41, c_act_ok) :: tb54
theorem tb55_ok : TblOk Try.prog tb55 := TblOk.cons act_ok tb54_ok

end

end Go.Proofs.Ytpjgjkoajoiopaa
