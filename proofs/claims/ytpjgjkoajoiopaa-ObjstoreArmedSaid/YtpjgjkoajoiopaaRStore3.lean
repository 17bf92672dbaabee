/- Contract of Create of the reference. -/
import Derived.Test.YtpjgjkoajoiopaaRStore2
namespace Go.Proofs.Ytpjgjkoajoiopaa
open Go.Abs
set_option linter.unusedVariables false
set_option linter.unusedSimpArgs false

abbrev c_rcreate_ok : Ct := .mo [shB, .val .str] (some (fun (b : (shB).ty.den) (n : ByteArray) => (okQ b) ∧ (n.size ≤ 140737488355328))) [.val (.int .i64)] (fun (b : (shB).ty.den) (n : ByteArray) => ((createQ b n).2, ())) (fun (b : (shB).ty.den) (n : ByteArray) => ((createQ b n).1, n, ()))
set_option maxRecDepth 100000 in
set_option maxHeartbeats 4000000 in
theorem rcreate_ok : CtOk Try.prog 32 c_rcreate_ok := by
  refine CtOk.mo tb39_ok mixed [] [52] rfl rfl ?_
  rintro ⟨⟨(c : Int), (l : List Obj), (cr : Bool), (ar : Bool), (w : Int), (k : Int)⟩, (n : ByteArray), _⟩ hpre
  replace hpre := hpre _ rfl
  dsimp only [cu] at hpre
  obtain ⟨hq, hn⟩ := hpre
  obtain ⟨⟨ha, hl, hz⟩, hc, hu, hw0, hw, hk⟩ := hq
  dsimp only at ha hl hz hc hu hw0 hw hk
  all_goals refine ⟨[(0, 26, LA.mk [.sl 5 (.int .i64)] (fun y => Tag 16 ∧ cu [.int .i64] (fun (g : Int) => (0 ≤ g ∧ g ≤ l.length) ∧ (∀ t : Nat, (t : Int) < g → strLt (l[t]!).1 n = true)) y) (cu [.int .i64] (fun (g : Int) => ((l.length : Int) - g).toNat)) (cu [.int .i64] (fun (g : Int) => ([] : List (Nat × Nat × LA)))))], ?_⟩
  repeat' (first
    | (
 with_reducible refine Side.mk ⟨(⟨⟩ : Tag 16), ?_⟩
 dsimp only [cu, joinT, ckTys, gts, Prod.eta, List.nil_append]
 refine ⟨?_, ?_⟩
 · omega
 · first
   | (
  intro t ht
  first
  | (omega)
  | (
   rcases Int.lt_or_eq_of_le (Int.lt_add_one_iff.1 ht) with q | q
   · exact h1 t q
   · rw [show t = g.toNat by omega]; assumption)))
    | (
 with_reducible refine Side.mk ?_
 (try dsimp only [cu, joinT, ckTys, gts, loK, hiK, Prod.eta, List.nil_append])
 first
 | (done)
 | (with_reducible rfl)
 | (omega)
 | (exact Eq.refl _)
 | (simp only [List.length_append, List.length_cons, List.length_nil]; omega)
 | (
  simp only [List.length_nil, List.length_append, List.length_cons, subL_eq, List.length_take, List.length_drop]
  omega)
 | (exact ⟨ha, hl⟩)
 | (exact ⟨hl, by omega⟩)
 | (exact ⟨hl, hz, hk⟩)
 | (exact ⟨hl, hz, by omega⟩)
 | (
  simp only [List.length_set]
  done)
 | (
  have hkn : knownQ (c, l, cr, ar, w, k) n = 0 := by assumption
  have q := known_rf hkn
  dsimp only at q
  first
  | (omega)
  | (
   simp only [q.1, List.length_set, Int.toNat_natCast]
   omega))
 | (
  have q := used_nn l
  omega)
 | (
  have hkn : knownQ (c, l, cr, ar, w, k) n = 0 := by assumption
  have q := known_rf hkn
  dsimp only at q
  first
  | (
   have q2 := used_one q.2
   simp only [q.1, Int.toNat_natCast]
   omega)
  | (exact ⟨by rw [List.length_set]; exact hl, rapp_z hkn hz hu hc (by assumption), hk⟩)))
    | (conv => whnf
       first
        | done
        | exact trivial
        | with_reducible refine NilBr.mk (fun h => ?_) ?_
        | with_reducible first | refine w_andS ?_ ?_ | refine w_andL ?_ ?_ | refine w_kern (by kernel_rfl) ?_ | refine w_true ?_ | refine w_nd ?_ ?_ | refine w_in ?_ ?_ | refine w_and ?_ ?_
        | ((with_reducible first | refine w_brN (fun h => ?_) (fun h => ?_) | refine w_brD (fun h => ?_) (fun h => ?_) | refine w_br (fun h => ?_) (fun h => ?_)) <;> (try dsimp only [cu, Prod.eta, List.nil_append] at h) <;> (try (exfalso; omega; done)))
        | (
 intro yy (hy : Tag 16 ∧ _)
 obtain ⟨(g : Int), _⟩ := yy
 replace hy := hy.2
 dsimp only [cu, joinT, ckTys, gts, Prod.eta, List.nil_append] at hy
 obtain ⟨hg, h1⟩ := hy)))
  all_goals (
 with_reducible refine Leaf.mk ?_
 (try dsimp only [cu, joinT, ckTys, gts, Prod.eta, List.nil_append] at *)
 first
 | (done)
 | (with_reducible rfl)
 | (
  refine Eq.trans ?_ (create_l (by assumption) (by assumption) (by assumption) (by assumption) (.inl (by assumption)))
  first
  | (exact insL_1 (ins_eq2 (by omega) h1 (by assumption)) (by assumption))
  | (exact insL_2 (ins_eq2 (by omega) h1 (by assumption)) (by omega))
  | (exact insL_3 (ins_eq (k := g) (by omega) h1 (.inl (by omega))) (by assumption))
  | (exact insL_4 (ins_eq (by omega) h1 (.inl (by omega))) (by assumption)))
 | (
  refine Eq.trans ?_ (create_l (by assumption) (by assumption) (by assumption) (by assumption) (.inr (by assumption)))
  first
  | (exact insL_1 (ins_eq2 (by omega) h1 (by assumption)) (by assumption))
  | (exact insL_2 (ins_eq2 (by omega) h1 (by assumption)) (by omega))
  | (exact insL_3 (ins_eq (k := g) (by omega) h1 (.inl (by omega))) (by assumption))
  | (exact insL_4 (ins_eq (by omega) h1 (.inl (by omega))) (by assumption)))
 | (
  have qh := rfI_ge (by assumption)
  simp only [createQ, doQ, fireB, fireQ, fallQ, Bool.not_eq_true', Bool.not_eq_false', Bool.and_eq_true, decide_eq_true_eq] at *
  repeat (any_goals split)
  all_goals first | rfl | (exfalso; omega) | (simp_all; done) | (simp_all; omega) | grind)
 | (
  have qh := rfI_lt (by assumption)
  simp only [createQ, doQ, fireB, fireQ, fallQ, Bool.not_eq_true', Bool.not_eq_false', Bool.and_eq_true, decide_eq_true_eq] at *
  repeat (any_goals split)
  all_goals first | rfl | (exfalso; omega) | (simp_all; done) | (simp_all; omega) | grind)
 | (
  simp only [createQ, doQ, fireB, fireQ, fallQ, Bool.not_eq_true', Bool.not_eq_false', Bool.and_eq_true, decide_eq_true_eq] at *
  repeat (any_goals split)
  all_goals first | rfl | (exfalso; omega) | (simp_all; done) | (simp_all; omega) | grind))
abbrev tb40 : Tbl := (32, c_rcreate_ok) :: tb39
theorem tb40_ok : TblOk Try.prog tb40 := TblOk.cons rcreate_ok tb39_ok

end Go.Proofs.Ytpjgjkoajoiopaa
