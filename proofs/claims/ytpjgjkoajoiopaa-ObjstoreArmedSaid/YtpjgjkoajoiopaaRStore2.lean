/- Contracts of the methods of the reference of the object store. -/
import Derived.Test.YtpjgjkoajoiopaaRStore
namespace Go.Proofs.Ytpjgjkoajoiopaa
open Go.Abs
set_option linter.unusedVariables false
set_option linter.unusedSimpArgs false

abbrev c_rrestart_ok : Ct := .mo [shB] (some (fun (b : (shB).ty.den) => (okQ b))) [.val .bool] (fun (b : (shB).ty.den) => (b.2.2.1, ())) (fun (b : (shB).ty.den) => (restartQ b, ()))
set_option maxRecDepth 100000 in
set_option maxHeartbeats 4000000 in
theorem rrestart_ok : CtOk Try.prog 64 c_rrestart_ok := by
  refine CtOk.mo tb28_ok mixed [] [] rfl rfl ?_
  rintro ⟨⟨(c : Int), (l : List Obj), (cr : Bool), (ar : Bool), (w : Int), (k : Int)⟩, _⟩ hpre
  replace hpre := hpre _ rfl
  dsimp only [cu] at hpre
  have hq := hpre
  obtain ⟨⟨ha, hl, hz⟩, hc, hu, hw0, hw, hk⟩ := hq
  dsimp only at ha hl hz hc hu hw0 hw hk
  all_goals refine ⟨[], ?_⟩
  repeat' (first
    | (
 with_reducible refine Side.mk ?_
 (try dsimp only [cu, joinT, ckTys, gts, loK, hiK, Prod.eta, List.nil_append])
 first
 | (done)
 | (with_reducible rfl)
 | (omega)
 | (exact Eq.refl _)
 | (simp only [List.length_append, List.length_cons, List.length_nil]; omega)
 | (exact ⟨ha, hl⟩)
 | (exact ⟨hl, by omega⟩)
 | (exact ⟨hl, hz, hk⟩)
 | (exact ⟨hl, hz, by omega⟩)
 | (
  simp only [List.length_set]
  done)
 | (
  have hkn : knownQ (c, l, cr, ar, w, k) n = 0 := by assumption
  have q := known_rf hkn
  dsimp only at q
  first
  | (omega)
  | (
   simp only [q.1, List.length_set, Int.toNat_natCast]
   omega))
 | (
  have q := used_nn l
  omega)
 | (
  have hkn : knownQ (c, l, cr, ar, w, k) n = 0 := by assumption
  have q := known_rf hkn
  dsimp only at q
  first
  | (
   have q2 := used_one q.2
   simp only [q.1, Int.toNat_natCast]
   omega)
  | (exact ⟨by rw [List.length_set]; exact hl, rapp_z hkn hz hu hc (by assumption), hk⟩)))
    | (conv => whnf
       first
        | done
        | exact trivial
        | with_reducible refine NilBr.mk (fun h => ?_) ?_
        | with_reducible first | refine w_andS ?_ ?_ | refine w_andL ?_ ?_ | refine w_kern (by kernel_rfl) ?_ | refine w_true ?_ | refine w_nd ?_ ?_ | refine w_in ?_ ?_ | refine w_and ?_ ?_
        | ((with_reducible first | refine w_brN (fun h => ?_) (fun h => ?_) | refine w_brD (fun h => ?_) (fun h => ?_) | refine w_br (fun h => ?_) (fun h => ?_)) <;> (try dsimp only [cu, Prod.eta, List.nil_append] at h) <;> (try (exfalso; omega; done)))))
  all_goals (
 with_reducible refine Leaf.mk ?_
 (try dsimp only [cu, joinT, ckTys, gts, Prod.eta, List.nil_append] at *)
 first
 | (done)
 | (with_reducible rfl)
 | (
  have hkn : knownQ (c, l, cr, ar, w, k) n = 0 := by assumption
  have q := known_rf hkn
  dsimp only at q
  have q3 := known_0 hkn
  dsimp only at q3
  simp only [q.1, Int.toNat_natCast, flipD, listQ, atQ, putQ, appQ, appendQ, syncQ, truncQ, deleteQ, flipQ, armQ, crashQ, restartQ, doQ, fireB, fireQ, fallQ, readQ, hkn, Bool.not_eq_true', Bool.not_eq_false', Bool.and_eq_true, decide_eq_true_eq] at *
  repeat (any_goals split)
  all_goals first | rfl | (exfalso; omega) | (simp_all; done) | (simp_all; omega) | grind)
 | (
  simp only [flipD, listQ, atQ, putQ, appQ, appendQ, syncQ, truncQ, deleteQ, flipQ, armQ, crashQ, restartQ, doQ, fireB, fireQ, fallQ, readQ, Bool.not_eq_true', Bool.not_eq_false', Bool.and_eq_true, decide_eq_true_eq] at *
  repeat (any_goals split)
  all_goals first | rfl | (exfalso; omega) | (simp_all; done) | (simp_all; omega) | grind))
abbrev tb29 : Tbl := (64, c_rrestart_ok) :: tb28
theorem tb29_ok : TblOk Try.prog tb29 := TblOk.cons rrestart_ok tb28_ok

abbrev c_rarm_ok : Ct := .mo [shB, .val (.int .i64), .val (.int .i64)] (some (fun (b : (shB).ty.den) (x : Int) (y : Int) => (okQ b))) [.val (.int .i64)] (fun (b : (shB).ty.den) (x : Int) (y : Int) => ((armQ b x y).2, ())) (fun (b : (shB).ty.den) (x : Int) (y : Int) => ((armQ b x y).1, x, y, ()))
set_option maxRecDepth 100000 in
set_option maxHeartbeats 4000000 in
theorem rarm_ok : CtOk Try.prog 38 c_rarm_ok := by
  refine CtOk.mo tb29_ok mixed [] [] rfl rfl ?_
  rintro ⟨⟨(c : Int), (l : List Obj), (cr : Bool), (ar : Bool), (w : Int), (k : Int)⟩, (x : Int), (y : Int), _⟩ hpre
  replace hpre := hpre _ rfl
  dsimp only [cu] at hpre
  have hq := hpre
  obtain ⟨⟨ha, hl, hz⟩, hc, hu, hw0, hw, hk⟩ := hq
  dsimp only at ha hl hz hc hu hw0 hw hk
  all_goals refine ⟨[], ?_⟩
  repeat' (first
    | (
 with_reducible refine Side.mk ?_
 (try dsimp only [cu, joinT, ckTys, gts, loK, hiK, Prod.eta, List.nil_append])
 first
 | (done)
 | (with_reducible rfl)
 | (omega)
 | (exact Eq.refl _)
 | (simp only [List.length_append, List.length_cons, List.length_nil]; omega)
 | (exact ⟨ha, hl⟩)
 | (exact ⟨hl, by omega⟩)
 | (exact ⟨hl, hz, hk⟩)
 | (exact ⟨hl, hz, by omega⟩)
 | (
  simp only [List.length_set]
  done)
 | (
  have hkn : knownQ (c, l, cr, ar, w, k) n = 0 := by assumption
  have q := known_rf hkn
  dsimp only at q
  first
  | (omega)
  | (
   simp only [q.1, List.length_set, Int.toNat_natCast]
   omega))
 | (
  have q := used_nn l
  omega)
 | (
  have hkn : knownQ (c, l, cr, ar, w, k) n = 0 := by assumption
  have q := known_rf hkn
  dsimp only at q
  first
  | (
   have q2 := used_one q.2
   simp only [q.1, Int.toNat_natCast]
   omega)
  | (exact ⟨by rw [List.length_set]; exact hl, rapp_z hkn hz hu hc (by assumption), hk⟩)))
    | (conv => whnf
       first
        | done
        | exact trivial
        | with_reducible refine NilBr.mk (fun h => ?_) ?_
        | with_reducible first | refine w_andS ?_ ?_ | refine w_andL ?_ ?_ | refine w_kern (by kernel_rfl) ?_ | refine w_true ?_ | refine w_nd ?_ ?_ | refine w_in ?_ ?_ | refine w_and ?_ ?_
        | ((with_reducible first | refine w_brN (fun h => ?_) (fun h => ?_) | refine w_brD (fun h => ?_) (fun h => ?_) | refine w_br (fun h => ?_) (fun h => ?_)) <;> (try dsimp only [cu, Prod.eta, List.nil_append] at h) <;> (try (exfalso; omega; done)))))
  all_goals (
 with_reducible refine Leaf.mk ?_
 (try dsimp only [cu, joinT, ckTys, gts, Prod.eta, List.nil_append] at *)
 first
 | (done)
 | (with_reducible rfl)
 | (
  have hkn : knownQ (c, l, cr, ar, w, k) n = 0 := by assumption
  have q := known_rf hkn
  dsimp only at q
  have q3 := known_0 hkn
  dsimp only at q3
  simp only [q.1, Int.toNat_natCast, flipD, listQ, atQ, putQ, appQ, appendQ, syncQ, truncQ, deleteQ, flipQ, armQ, crashQ, restartQ, doQ, fireB, fireQ, fallQ, readQ, hkn, Bool.not_eq_true', Bool.not_eq_false', Bool.and_eq_true, decide_eq_true_eq] at *
  repeat (any_goals split)
  all_goals first | rfl | (exfalso; omega) | (simp_all; done) | (simp_all; omega) | grind)
 | (
  simp only [flipD, listQ, atQ, putQ, appQ, appendQ, syncQ, truncQ, deleteQ, flipQ, armQ, crashQ, restartQ, doQ, fireB, fireQ, fallQ, readQ, Bool.not_eq_true', Bool.not_eq_false', Bool.and_eq_true, decide_eq_true_eq] at *
  repeat (any_goals split)
  all_goals first | rfl | (exfalso; omega) | (simp_all; done) | (simp_all; omega) | grind))
abbrev tb30 : Tbl := (38, c_rarm_ok) :: tb29
theorem tb30_ok : TblOk Try.prog tb30 := TblOk.cons rarm_ok tb29_ok

abbrev c_rcrash_ok : Ct := .mo [shB, .val (.int .i64)] (some (fun (b : (shB).ty.den) (x : Int) => (okQ b) ∧ (x ≤ 9223372036854775807))) [.val (.int .i64)] (fun (b : (shB).ty.den) (x : Int) => ((crashQ b x).2, ())) (fun (b : (shB).ty.den) (x : Int) => ((crashQ b x).1, x, ()))
set_option maxRecDepth 100000 in
set_option maxHeartbeats 4000000 in
theorem rcrash_ok : CtOk Try.prog 40 c_rcrash_ok := by
  refine CtOk.mo tb30_ok mixed [] [] rfl rfl ?_
  rintro ⟨⟨(c : Int), (l : List Obj), (cr : Bool), (ar : Bool), (w : Int), (k : Int)⟩, (x : Int), _⟩ hpre
  replace hpre := hpre _ rfl
  dsimp only [cu] at hpre
  obtain ⟨hq, hx⟩ := hpre
  obtain ⟨⟨ha, hl, hz⟩, hc, hu, hw0, hw, hk⟩ := hq
  dsimp only at ha hl hz hc hu hw0 hw hk
  all_goals refine ⟨[], ?_⟩
  repeat' (first
    | (
 with_reducible refine Side.mk ?_
 (try dsimp only [cu, joinT, ckTys, gts, loK, hiK, Prod.eta, List.nil_append])
 first
 | (done)
 | (with_reducible rfl)
 | (omega)
 | (exact Eq.refl _)
 | (simp only [List.length_append, List.length_cons, List.length_nil]; omega)
 | (exact ⟨ha, hl⟩)
 | (exact ⟨hl, by omega⟩)
 | (exact ⟨hl, hz, hk⟩)
 | (exact ⟨hl, hz, by omega⟩)
 | (
  simp only [List.length_set]
  done)
 | (
  have hkn : knownQ (c, l, cr, ar, w, k) n = 0 := by assumption
  have q := known_rf hkn
  dsimp only at q
  first
  | (omega)
  | (
   simp only [q.1, List.length_set, Int.toNat_natCast]
   omega))
 | (
  have q := used_nn l
  omega)
 | (
  have hkn : knownQ (c, l, cr, ar, w, k) n = 0 := by assumption
  have q := known_rf hkn
  dsimp only at q
  first
  | (
   have q2 := used_one q.2
   simp only [q.1, Int.toNat_natCast]
   omega)
  | (exact ⟨by rw [List.length_set]; exact hl, rapp_z hkn hz hu hc (by assumption), hk⟩)))
    | (conv => whnf
       first
        | done
        | exact trivial
        | with_reducible refine NilBr.mk (fun h => ?_) ?_
        | with_reducible first | refine w_andS ?_ ?_ | refine w_andL ?_ ?_ | refine w_kern (by kernel_rfl) ?_ | refine w_true ?_ | refine w_nd ?_ ?_ | refine w_in ?_ ?_ | refine w_and ?_ ?_
        | ((with_reducible first | refine w_brN (fun h => ?_) (fun h => ?_) | refine w_brD (fun h => ?_) (fun h => ?_) | refine w_br (fun h => ?_) (fun h => ?_)) <;> (try dsimp only [cu, Prod.eta, List.nil_append] at h) <;> (try (exfalso; omega; done)))))
  all_goals (
 with_reducible refine Leaf.mk ?_
 (try dsimp only [cu, joinT, ckTys, gts, Prod.eta, List.nil_append] at *)
 first
 | (done)
 | (with_reducible rfl)
 | (
  have hkn : knownQ (c, l, cr, ar, w, k) n = 0 := by assumption
  have q := known_rf hkn
  dsimp only at q
  have q3 := known_0 hkn
  dsimp only at q3
  simp only [q.1, Int.toNat_natCast, flipD, listQ, atQ, putQ, appQ, appendQ, syncQ, truncQ, deleteQ, flipQ, armQ, crashQ, restartQ, doQ, fireB, fireQ, fallQ, readQ, hkn, Bool.not_eq_true', Bool.not_eq_false', Bool.and_eq_true, decide_eq_true_eq] at *
  repeat (any_goals split)
  all_goals first | rfl | (exfalso; omega) | (simp_all; done) | (simp_all; omega) | grind)
 | (
  simp only [flipD, listQ, atQ, putQ, appQ, appendQ, syncQ, truncQ, deleteQ, flipQ, armQ, crashQ, restartQ, doQ, fireB, fireQ, fallQ, readQ, Bool.not_eq_true', Bool.not_eq_false', Bool.and_eq_true, decide_eq_true_eq] at *
  repeat (any_goals split)
  all_goals first | rfl | (exfalso; omega) | (simp_all; done) | (simp_all; omega) | grind))
abbrev tb31 : Tbl := (40, c_rcrash_ok) :: tb30
theorem tb31_ok : TblOk Try.prog tb31 := TblOk.cons rcrash_ok tb30_ok

abbrev c_rread_ok : Ct := .rd tSt [.str] (some (fun (q : St) (n : ByteArray) => (ascS (nmS q.2.1)) ∧ (q.2.1.length ≤ 4096))) (fun (q : St) (n : ByteArray) => .tup [.str, .int .i64] ((readQ q n).1, (readQ q n).2, ()))
set_option maxRecDepth 100000 in
set_option maxHeartbeats 4000000 in
theorem rread_ok : CtOk Try.prog 63 c_rread_ok := by
  refine CtOk.rd tb31_ok mixed [] [] rfl rfl ?_
  rintro ⟨(c : Int), (l : List Obj), (cr : Bool), (ar : Bool), (w : Int), (k : Int)⟩ ⟨(n : ByteArray), _⟩ hpre
  replace hpre := hpre _ rfl
  dsimp only [cu] at hpre
  obtain ⟨ha, hl⟩ := hpre
  refine ⟨[], ?_⟩
  repeat' (first
    | (
 with_reducible refine Side.mk ?_
 (try dsimp only [cu, joinT, ckTys, gts, loK, hiK, Prod.eta, List.nil_append])
 first
 | (done)
 | (with_reducible rfl)
 | (omega)
 | (exact Eq.refl _)
 | (simp only [List.length_append, List.length_cons, List.length_nil]; omega)
 | (exact ⟨ha, hl⟩)
 | (exact ⟨hl, by omega⟩)
 | (exact ⟨hl, hz, hk⟩)
 | (exact ⟨hl, hz, by omega⟩)
 | (
  simp only [List.length_set]
  done)
 | (
  have hkn : knownQ (c, l, cr, ar, w, k) n = 0 := by assumption
  have q := known_rf hkn
  dsimp only at q
  first
  | (omega)
  | (
   simp only [q.1, List.length_set, Int.toNat_natCast]
   omega))
 | (
  have q := used_nn l
  omega)
 | (
  have hkn : knownQ (c, l, cr, ar, w, k) n = 0 := by assumption
  have q := known_rf hkn
  dsimp only at q
  first
  | (
   have q2 := used_one q.2
   simp only [q.1, Int.toNat_natCast]
   omega)
  | (exact ⟨by rw [List.length_set]; exact hl, rapp_z hkn hz hu hc (by assumption), hk⟩)))
    | (conv => whnf
       first
        | done
        | exact trivial
        | with_reducible refine NilBr.mk (fun h => ?_) ?_
        | with_reducible first | refine w_andS ?_ ?_ | refine w_andL ?_ ?_ | refine w_kern (by kernel_rfl) ?_ | refine w_true ?_ | refine w_nd ?_ ?_ | refine w_in ?_ ?_ | refine w_and ?_ ?_
        | ((with_reducible first | refine w_brN (fun h => ?_) (fun h => ?_) | refine w_brD (fun h => ?_) (fun h => ?_) | refine w_br (fun h => ?_) (fun h => ?_)) <;> (try dsimp only [cu, Prod.eta, List.nil_append] at h) <;> (try (exfalso; omega; done)))))
  all_goals (
 with_reducible refine Leaf.mk ?_
 (try dsimp only [cu, joinT, ckTys, gts, Prod.eta, List.nil_append] at *)
 first
 | (done)
 | (with_reducible rfl)
 | (
  have hkn : knownQ (c, l, cr, ar, w, k) n = 0 := by assumption
  have q := known_rf hkn
  dsimp only at q
  have q3 := known_0 hkn
  dsimp only at q3
  simp only [q.1, Int.toNat_natCast, flipD, listQ, atQ, putQ, appQ, appendQ, syncQ, truncQ, deleteQ, flipQ, armQ, crashQ, restartQ, doQ, fireB, fireQ, fallQ, readQ, hkn, Bool.not_eq_true', Bool.not_eq_false', Bool.and_eq_true, decide_eq_true_eq] at *
  repeat (any_goals split)
  all_goals first | rfl | (exfalso; omega) | (simp_all; done) | (simp_all; omega) | grind)
 | (
  simp only [flipD, listQ, atQ, putQ, appQ, appendQ, syncQ, truncQ, deleteQ, flipQ, armQ, crashQ, restartQ, doQ, fireB, fireQ, fallQ, readQ, Bool.not_eq_true', Bool.not_eq_false', Bool.and_eq_true, decide_eq_true_eq] at *
  repeat (any_goals split)
  all_goals first | rfl | (exfalso; omega) | (simp_all; done) | (simp_all; omega) | grind))
abbrev tb32 : Tbl := (63, c_rread_ok) :: tb31
theorem tb32_ok : TblOk Try.prog tb32 := TblOk.cons rread_ok tb31_ok

abbrev c_rsync_ok : Ct := .mo [shB, .val .str] (some (fun (b : (shB).ty.den) (n : ByteArray) => (okQ b))) [.val (.int .i64)] (fun (b : (shB).ty.den) (n : ByteArray) => ((syncQ b n).2, ())) (fun (b : (shB).ty.den) (n : ByteArray) => ((syncQ b n).1, n, ()))
set_option maxRecDepth 100000 in
set_option maxHeartbeats 4000000 in
theorem rsync_ok : CtOk Try.prog 61 c_rsync_ok := by
  refine CtOk.mo tb32_ok mixed [] [52] rfl rfl ?_
  rintro ⟨⟨(c : Int), (l : List Obj), (cr : Bool), (ar : Bool), (w : Int), (k : Int)⟩, (n : ByteArray), _⟩ hpre
  replace hpre := hpre _ rfl
  dsimp only [cu] at hpre
  have hq := hpre
  obtain ⟨⟨ha, hl, hz⟩, hc, hu, hw0, hw, hk⟩ := hq
  dsimp only at ha hl hz hc hu hw0 hw hk
  all_goals refine ⟨[], ?_⟩
  repeat' (first
    | (
 with_reducible refine Side.mk ?_
 (try dsimp only [cu, joinT, ckTys, gts, loK, hiK, Prod.eta, List.nil_append])
 first
 | (done)
 | (with_reducible rfl)
 | (omega)
 | (exact Eq.refl _)
 | (simp only [List.length_append, List.length_cons, List.length_nil]; omega)
 | (exact ⟨ha, hl⟩)
 | (exact ⟨hl, by omega⟩)
 | (exact ⟨hl, hz, hk⟩)
 | (exact ⟨hl, hz, by omega⟩)
 | (
  simp only [List.length_set]
  done)
 | (
  have hkn : knownQ (c, l, cr, ar, w, k) n = 0 := by assumption
  have q := known_rf hkn
  dsimp only at q
  first
  | (omega)
  | (
   simp only [q.1, List.length_set, Int.toNat_natCast]
   omega))
 | (
  have q := used_nn l
  omega)
 | (
  have hkn : knownQ (c, l, cr, ar, w, k) n = 0 := by assumption
  have q := known_rf hkn
  dsimp only at q
  first
  | (
   have q2 := used_one q.2
   simp only [q.1, Int.toNat_natCast]
   omega)
  | (exact ⟨by rw [List.length_set]; exact hl, rapp_z hkn hz hu hc (by assumption), hk⟩)))
    | (conv => whnf
       first
        | done
        | exact trivial
        | with_reducible refine NilBr.mk (fun h => ?_) ?_
        | with_reducible first | refine w_andS ?_ ?_ | refine w_andL ?_ ?_ | refine w_kern (by kernel_rfl) ?_ | refine w_true ?_ | refine w_nd ?_ ?_ | refine w_in ?_ ?_ | refine w_and ?_ ?_
        | ((with_reducible first | refine w_brN (fun h => ?_) (fun h => ?_) | refine w_brD (fun h => ?_) (fun h => ?_) | refine w_br (fun h => ?_) (fun h => ?_)) <;> (try dsimp only [cu, Prod.eta, List.nil_append] at h) <;> (try (exfalso; omega; done)))))
  all_goals (
 with_reducible refine Leaf.mk ?_
 (try dsimp only [cu, joinT, ckTys, gts, Prod.eta, List.nil_append] at *)
 first
 | (done)
 | (with_reducible rfl)
 | (
  have hkn : knownQ (c, l, cr, ar, w, k) n = 0 := by assumption
  have q := known_rf hkn
  dsimp only at q
  have q3 := known_0 hkn
  dsimp only at q3
  simp only [q.1, Int.toNat_natCast, flipD, listQ, atQ, putQ, appQ, appendQ, syncQ, truncQ, deleteQ, flipQ, armQ, crashQ, restartQ, doQ, fireB, fireQ, fallQ, readQ, hkn, Bool.not_eq_true', Bool.not_eq_false', Bool.and_eq_true, decide_eq_true_eq] at *
  repeat (any_goals split)
  all_goals first | rfl | (exfalso; omega) | (simp_all; done) | (simp_all; omega) | grind)
 | (
  simp only [flipD, listQ, atQ, putQ, appQ, appendQ, syncQ, truncQ, deleteQ, flipQ, armQ, crashQ, restartQ, doQ, fireB, fireQ, fallQ, readQ, Bool.not_eq_true', Bool.not_eq_false', Bool.and_eq_true, decide_eq_true_eq] at *
  repeat (any_goals split)
  all_goals first | rfl | (exfalso; omega) | (simp_all; done) | (simp_all; omega) | grind))
abbrev tb33 : Tbl := (61, c_rsync_ok) :: tb32
theorem tb33_ok : TblOk Try.prog tb33 := TblOk.cons rsync_ok tb32_ok

abbrev c_rstate_ok : Ct := .mo [shB] (some (fun (b : (shB).ty.den) => (okQ b))) [.opt tObj 42] (fun (b : (shB).ty.den) => (b.2.1, ())) (fun (b : (shB).ty.den) => (b, ()))
set_option maxRecDepth 100000 in
set_option maxHeartbeats 4000000 in
theorem rstate_ok : CtOk Try.prog 56 c_rstate_ok := by
  refine CtOk.mo tb33_ok mixed [] [] rfl rfl ?_
  rintro ⟨⟨(c : Int), (l : List Obj), (cr : Bool), (ar : Bool), (w : Int), (k : Int)⟩, _⟩ hpre
  replace hpre := hpre _ rfl
  dsimp only [cu] at hpre
  have hq := hpre
  obtain ⟨⟨ha, hl, hz⟩, hc, hu, hw0, hw, hk⟩ := hq
  dsimp only at ha hl hz hc hu hw0 hw hk
  all_goals refine ⟨[], ?_⟩
  repeat' (first
    | (
 with_reducible refine Side.mk ?_
 (try dsimp only [cu, joinT, ckTys, gts, loK, hiK, Prod.eta, List.nil_append])
 first
 | (done)
 | (with_reducible rfl)
 | (omega)
 | (exact Eq.refl _)
 | (simp only [List.length_append, List.length_cons, List.length_nil]; omega)
 | (exact ⟨ha, hl⟩)
 | (exact ⟨hl, by omega⟩)
 | (exact ⟨hl, hz, hk⟩)
 | (exact ⟨hl, hz, by omega⟩)
 | (
  simp only [List.length_set]
  done)
 | (
  have hkn : knownQ (c, l, cr, ar, w, k) n = 0 := by assumption
  have q := known_rf hkn
  dsimp only at q
  first
  | (omega)
  | (
   simp only [q.1, List.length_set, Int.toNat_natCast]
   omega))
 | (
  have q := used_nn l
  omega)
 | (
  have hkn : knownQ (c, l, cr, ar, w, k) n = 0 := by assumption
  have q := known_rf hkn
  dsimp only at q
  first
  | (
   have q2 := used_one q.2
   simp only [q.1, Int.toNat_natCast]
   omega)
  | (exact ⟨by rw [List.length_set]; exact hl, rapp_z hkn hz hu hc (by assumption), hk⟩)))
    | (conv => whnf
       first
        | done
        | exact trivial
        | with_reducible refine NilBr.mk (fun h => ?_) ?_
        | with_reducible first | refine w_andS ?_ ?_ | refine w_andL ?_ ?_ | refine w_kern (by kernel_rfl) ?_ | refine w_true ?_ | refine w_nd ?_ ?_ | refine w_in ?_ ?_ | refine w_and ?_ ?_
        | ((with_reducible first | refine w_brN (fun h => ?_) (fun h => ?_) | refine w_brD (fun h => ?_) (fun h => ?_) | refine w_br (fun h => ?_) (fun h => ?_)) <;> (try dsimp only [cu, Prod.eta, List.nil_append] at h) <;> (try (exfalso; omega; done)))))
  all_goals (
 with_reducible refine Leaf.mk ?_
 (try dsimp only [cu, joinT, ckTys, gts, Prod.eta, List.nil_append] at *)
 first
 | (done)
 | (with_reducible rfl)
 | (
  have hkn : knownQ (c, l, cr, ar, w, k) n = 0 := by assumption
  have q := known_rf hkn
  dsimp only at q
  have q3 := known_0 hkn
  dsimp only at q3
  simp only [q.1, Int.toNat_natCast, flipD, listQ, atQ, putQ, appQ, appendQ, syncQ, truncQ, deleteQ, flipQ, armQ, crashQ, restartQ, doQ, fireB, fireQ, fallQ, readQ, hkn, Bool.not_eq_true', Bool.not_eq_false', Bool.and_eq_true, decide_eq_true_eq] at *
  repeat (any_goals split)
  all_goals first | rfl | (exfalso; omega) | (simp_all; done) | (simp_all; omega) | grind)
 | (
  simp only [flipD, listQ, atQ, putQ, appQ, appendQ, syncQ, truncQ, deleteQ, flipQ, armQ, crashQ, restartQ, doQ, fireB, fireQ, fallQ, readQ, Bool.not_eq_true', Bool.not_eq_false', Bool.and_eq_true, decide_eq_true_eq] at *
  repeat (any_goals split)
  all_goals first | rfl | (exfalso; omega) | (simp_all; done) | (simp_all; omega) | grind))
abbrev tb34 : Tbl := (56, c_rstate_ok) :: tb33
theorem tb34_ok : TblOk Try.prog tb34 := TblOk.cons rstate_ok tb33_ok

abbrev c_rlist_ok : Ct := .mo [shB] (some (fun (b : (shB).ty.den) => (okQ b))) [.opt .str 9] (fun (b : (shB).ty.den) => (listQ b, ())) (fun (b : (shB).ty.den) => (b, ()))
set_option maxRecDepth 100000 in
set_option maxHeartbeats 4000000 in
theorem rlist_ok : CtOk Try.prog 58 c_rlist_ok := by
  refine CtOk.mo tb34_ok mixed [] [] rfl rfl ?_
  rintro ⟨⟨(c : Int), (l : List Obj), (cr : Bool), (ar : Bool), (w : Int), (k : Int)⟩, _⟩ hpre
  replace hpre := hpre _ rfl
  dsimp only [cu] at hpre
  have hq := hpre
  obtain ⟨⟨ha, hl, hz⟩, hc, hu, hw0, hw, hk⟩ := hq
  dsimp only at ha hl hz hc hu hw0 hw hk
  all_goals refine ⟨[(0, 6, LA.mk [.sl 11 (.int .i64), .lst 3 .str 9] (fun y => Tag 15 ∧ cu [.int .i64, .list .str] (fun (g : Int) (m : List ByteArray) => (0 ≤ g ∧ g ≤ l.length) ∧ (m = if cr = true then [] else nmS (l.take g.toNat))) y) (cu [.int .i64, .list .str] (fun (g : Int) (m : List ByteArray) => ((l.length : Int) - g).toNat)) (cu [.int .i64, .list .str] (fun (g : Int) (m : List ByteArray) => ([] : List (Nat × Nat × LA)))))], ?_⟩
  repeat' (first
    | (
 with_reducible refine Side.mk ⟨(⟨⟩ : Tag 15), ?_⟩
 dsimp only [cu, joinT, ckTys, gts, Prod.eta, List.nil_append]
 refine ⟨?_, ?_⟩
 · omega
 · first
   | (
  simp [nmS]
  done)
   | (exact list_on hs (by omega) (by assumption))
   | (exact list_off hs (by assumption)))
    | (
 with_reducible refine Side.mk ?_
 (try dsimp only [cu, joinT, ckTys, gts, loK, hiK, Prod.eta, List.nil_append])
 first
 | (done)
 | (with_reducible rfl)
 | (omega)
 | (exact Eq.refl _)
 | (simp only [List.length_append, List.length_cons, List.length_nil]; omega)
 | (
  have q := list_len hs hl
  simp only [List.length_cons, List.length_nil]
  omega)
 | (exact ⟨ha, hl⟩)
 | (exact ⟨hl, by omega⟩)
 | (exact ⟨hl, hz, hk⟩)
 | (exact ⟨hl, hz, by omega⟩)
 | (
  simp only [List.length_set]
  done)
 | (
  have hkn : knownQ (c, l, cr, ar, w, k) n = 0 := by assumption
  have q := known_rf hkn
  dsimp only at q
  first
  | (omega)
  | (
   simp only [q.1, List.length_set, Int.toNat_natCast]
   omega))
 | (
  have q := used_nn l
  omega)
 | (
  have hkn : knownQ (c, l, cr, ar, w, k) n = 0 := by assumption
  have q := known_rf hkn
  dsimp only at q
  first
  | (
   have q2 := used_one q.2
   simp only [q.1, Int.toNat_natCast]
   omega)
  | (exact ⟨by rw [List.length_set]; exact hl, rapp_z hkn hz hu hc (by assumption), hk⟩)))
    | (conv => whnf
       first
        | done
        | exact trivial
        | with_reducible refine NilBr.mk (fun h => ?_) ?_
        | with_reducible first | refine w_andS ?_ ?_ | refine w_andL ?_ ?_ | refine w_kern (by kernel_rfl) ?_ | refine w_true ?_ | refine w_nd ?_ ?_ | refine w_in ?_ ?_ | refine w_and ?_ ?_
        | ((with_reducible first | refine w_brN (fun h => ?_) (fun h => ?_) | refine w_brD (fun h => ?_) (fun h => ?_) | refine w_br (fun h => ?_) (fun h => ?_)) <;> (try dsimp only [cu, Prod.eta, List.nil_append] at h) <;> (try (exfalso; omega; done)))
        | (
 intro yy (hy : Tag 15 ∧ _)
 obtain ⟨(g : Int), (m : List ByteArray), _⟩ := yy
 replace hy := hy.2
 dsimp only [cu, joinT, ckTys, gts, Prod.eta, List.nil_append] at hy
 obtain ⟨hg, hs⟩ := hy)))
  all_goals (
 with_reducible refine Leaf.mk ?_
 (try dsimp only [cu, joinT, ckTys, gts, Prod.eta, List.nil_append] at *)
 first
 | (done)
 | (
  rw [hs]
  simp only [listQ]
  rw [List.take_of_length_le (by omega)])
 | (with_reducible rfl)
 | (
  have hkn : knownQ (c, l, cr, ar, w, k) n = 0 := by assumption
  have q := known_rf hkn
  dsimp only at q
  have q3 := known_0 hkn
  dsimp only at q3
  simp only [q.1, Int.toNat_natCast, flipD, listQ, atQ, putQ, appQ, appendQ, syncQ, truncQ, deleteQ, flipQ, armQ, crashQ, restartQ, doQ, fireB, fireQ, fallQ, readQ, hkn, Bool.not_eq_true', Bool.not_eq_false', Bool.and_eq_true, decide_eq_true_eq] at *
  repeat (any_goals split)
  all_goals first | rfl | (exfalso; omega) | (simp_all; done) | (simp_all; omega) | grind)
 | (
  simp only [flipD, listQ, atQ, putQ, appQ, appendQ, syncQ, truncQ, deleteQ, flipQ, armQ, crashQ, restartQ, doQ, fireB, fireQ, fallQ, readQ, Bool.not_eq_true', Bool.not_eq_false', Bool.and_eq_true, decide_eq_true_eq] at *
  repeat (any_goals split)
  all_goals first | rfl | (exfalso; omega) | (simp_all; done) | (simp_all; omega) | grind))
abbrev tb35 : Tbl := (58, c_rlist_ok) :: tb34
theorem tb35_ok : TblOk Try.prog tb35 := TblOk.cons rlist_ok tb34_ok

abbrev c_rtrunc_ok : Ct := .mo [shB, .val .str, .val (.int .i64)] (some (fun (b : (shB).ty.den) (n : ByteArray) (x : Int) => (okQ b))) [.val (.int .i64)] (fun (b : (shB).ty.den) (n : ByteArray) (x : Int) => ((truncQ b n x).2, ())) (fun (b : (shB).ty.den) (n : ByteArray) (x : Int) => ((truncQ b n x).1, n, x, ()))
set_option maxRecDepth 100000 in
set_option maxHeartbeats 4000000 in
theorem rtrunc_ok : CtOk Try.prog 35 c_rtrunc_ok := by
  refine CtOk.mo tb35_ok mixed [] [52] rfl rfl ?_
  rintro ⟨⟨(c : Int), (l : List Obj), (cr : Bool), (ar : Bool), (w : Int), (k : Int)⟩, (n : ByteArray), (x : Int), _⟩ hpre
  replace hpre := hpre _ rfl
  dsimp only [cu] at hpre
  have hq := hpre
  obtain ⟨⟨ha, hl, hz⟩, hc, hu, hw0, hw, hk⟩ := hq
  dsimp only at ha hl hz hc hu hw0 hw hk
  all_goals refine ⟨[], ?_⟩
  repeat' (first
    | (
 with_reducible refine Side.mk ?_
 (try dsimp only [cu, joinT, ckTys, gts, loK, hiK, Prod.eta, List.nil_append])
 first
 | (done)
 | (with_reducible rfl)
 | (omega)
 | (exact Eq.refl _)
 | (simp only [List.length_append, List.length_cons, List.length_nil]; omega)
 | (exact ⟨ha, hl⟩)
 | (exact ⟨hl, by omega⟩)
 | (exact ⟨hl, hz, hk⟩)
 | (exact ⟨hl, hz, by omega⟩)
 | (
  simp only [List.length_set]
  done)
 | (
  have hkn : knownQ (c, l, cr, ar, w, k) n = 0 := by assumption
  have q := known_rf hkn
  dsimp only at q
  first
  | (omega)
  | (
   simp only [q.1, List.length_set, Int.toNat_natCast]
   omega))
 | (
  have q := used_nn l
  omega)
 | (
  have hkn : knownQ (c, l, cr, ar, w, k) n = 0 := by assumption
  have q := known_rf hkn
  dsimp only at q
  first
  | (
   have q2 := used_one q.2
   simp only [q.1, Int.toNat_natCast]
   omega)
  | (exact ⟨by rw [List.length_set]; exact hl, rapp_z hkn hz hu hc (by assumption), hk⟩)))
    | (conv => whnf
       first
        | done
        | exact trivial
        | with_reducible refine NilBr.mk (fun h => ?_) ?_
        | with_reducible first | refine w_andS ?_ ?_ | refine w_andL ?_ ?_ | refine w_kern (by kernel_rfl) ?_ | refine w_true ?_ | refine w_nd ?_ ?_ | refine w_in ?_ ?_ | refine w_and ?_ ?_
        | ((with_reducible first | refine w_brN (fun h => ?_) (fun h => ?_) | refine w_brD (fun h => ?_) (fun h => ?_) | refine w_br (fun h => ?_) (fun h => ?_)) <;> (try dsimp only [cu, Prod.eta, List.nil_append] at h) <;> (try (exfalso; omega; done)))))
  all_goals (
 with_reducible refine Leaf.mk ?_
 (try dsimp only [cu, joinT, ckTys, gts, Prod.eta, List.nil_append] at *)
 first
 | (done)
 | (with_reducible rfl)
 | (
  have hkn : knownQ (c, l, cr, ar, w, k) n = 0 := by assumption
  have q := known_rf hkn
  dsimp only at q
  first
  | (
   rw [q.1, set2 q.2]
   have hkn : knownQ (c, l, cr, ar, w, k) n = 0 := by assumption
   have q := known_rf hkn
   dsimp only at q
   have q3 := known_0 hkn
   dsimp only at q3
   simp only [q.1, Int.toNat_natCast, flipD, listQ, atQ, putQ, appQ, appendQ, syncQ, truncQ, deleteQ, flipQ, armQ, crashQ, restartQ, doQ, fireB, fireQ, fallQ, readQ, hkn, Bool.not_eq_true', Bool.not_eq_false', Bool.and_eq_true, decide_eq_true_eq] at *
   repeat (any_goals split)
   all_goals first | rfl | (exfalso; omega) | (simp_all; done) | (simp_all; omega) | grind)
  | (
   have q3 := known_0 hkn
   dsimp only at q3
   simp only [q.1, Int.toNat_natCast, flipD, listQ, atQ, putQ, appQ, appendQ, syncQ, truncQ, deleteQ, flipQ, armQ, crashQ, restartQ, doQ, fireB, fireQ, fallQ, readQ, hkn, Bool.not_eq_true', Bool.not_eq_false', Bool.and_eq_true, decide_eq_true_eq] at *
   repeat (any_goals split)
   all_goals first | rfl | (exfalso; omega) | (simp_all; done) | (simp_all; omega) | grind))
 | (
  simp only [flipD, listQ, atQ, putQ, appQ, appendQ, syncQ, truncQ, deleteQ, flipQ, armQ, crashQ, restartQ, doQ, fireB, fireQ, fallQ, readQ, Bool.not_eq_true', Bool.not_eq_false', Bool.and_eq_true, decide_eq_true_eq] at *
  repeat (any_goals split)
  all_goals first | rfl | (exfalso; omega) | (simp_all; done) | (simp_all; omega) | grind))
abbrev tb36 : Tbl := (35, c_rtrunc_ok) :: tb35
theorem tb36_ok : TblOk Try.prog tb36 := TblOk.cons rtrunc_ok tb35_ok

abbrev c_rappend_ok : Ct := .mo [shB, .val .str, .val .str] (some (fun (b : (shB).ty.den) (n : ByteArray) (d : ByteArray) => (okQ b) ∧ (d.size ≤ 140737488355328))) [.val (.int .i64)] (fun (b : (shB).ty.den) (n : ByteArray) (d : ByteArray) => ((appendQ b n d).2, ())) (fun (b : (shB).ty.den) (n : ByteArray) (d : ByteArray) => ((appendQ b n d).1, n, d, ()))
set_option maxRecDepth 100000 in
set_option maxHeartbeats 4000000 in
theorem rappend_ok : CtOk Try.prog 33 c_rappend_ok := by
  refine CtOk.mo tb36_ok mixed [] [52] rfl rfl ?_
  rintro ⟨⟨(c : Int), (l : List Obj), (cr : Bool), (ar : Bool), (w : Int), (k : Int)⟩, (n : ByteArray), (d : ByteArray), _⟩ hpre
  replace hpre := hpre _ rfl
  dsimp only [cu] at hpre
  obtain ⟨hq, hd⟩ := hpre
  obtain ⟨⟨ha, hl, hz⟩, hc, hu, hw0, hw, hk⟩ := hq
  dsimp only at ha hl hz hc hu hw0 hw hk
  all_goals refine ⟨[], ?_⟩
  repeat' (first
    | (
 with_reducible refine Side.mk ?_
 (try dsimp only [cu, joinT, ckTys, gts, loK, hiK, Prod.eta, List.nil_append])
 first
 | (done)
 | (with_reducible rfl)
 | (omega)
 | (exact Eq.refl _)
 | (simp only [List.length_append, List.length_cons, List.length_nil]; omega)
 | (exact ⟨ha, hl⟩)
 | (exact ⟨hl, by omega⟩)
 | (exact ⟨hl, hz, hk⟩)
 | (exact ⟨hl, hz, by omega⟩)
 | (
  simp only [List.length_set]
  done)
 | (
  have hkn : knownQ (c, l, cr, ar, w, k) n = 0 := by assumption
  have q := known_rf hkn
  dsimp only at q
  first
  | (omega)
  | (
   simp only [q.1, List.length_set, Int.toNat_natCast]
   omega))
 | (
  have q := used_nn l
  omega)
 | (
  have hkn : knownQ (c, l, cr, ar, w, k) n = 0 := by assumption
  have q := known_rf hkn
  dsimp only at q
  first
  | (
   have q2 := used_one q.2
   simp only [q.1, Int.toNat_natCast]
   omega)
  | (exact ⟨by rw [List.length_set]; exact hl, rapp_z hkn hz hu hc (by assumption), hk⟩)))
    | (conv => whnf
       first
        | done
        | exact trivial
        | with_reducible refine NilBr.mk (fun h => ?_) ?_
        | with_reducible first | refine w_andS ?_ ?_ | refine w_andL ?_ ?_ | refine w_kern (by kernel_rfl) ?_ | refine w_true ?_ | refine w_nd ?_ ?_ | refine w_in ?_ ?_ | refine w_and ?_ ?_
        | ((with_reducible first | refine w_brN (fun h => ?_) (fun h => ?_) | refine w_brD (fun h => ?_) (fun h => ?_) | refine w_br (fun h => ?_) (fun h => ?_)) <;> (try dsimp only [cu, Prod.eta, List.nil_append] at h) <;> (try (exfalso; omega; done)))))
  all_goals (
 with_reducible refine Leaf.mk ?_
 (try dsimp only [cu, joinT, ckTys, gts, Prod.eta, List.nil_append] at *)
 first
 | (done)
 | (with_reducible rfl)
 | (
  have hkn : knownQ (c, l, cr, ar, w, k) n = 0 := by assumption
  have q := known_rf hkn
  dsimp only at q
  have q3 := known_0 hkn
  dsimp only at q3
  simp only [q.1, Int.toNat_natCast, flipD, listQ, atQ, putQ, appQ, appendQ, syncQ, truncQ, deleteQ, flipQ, armQ, crashQ, restartQ, doQ, fireB, fireQ, fallQ, readQ, hkn, Bool.not_eq_true', Bool.not_eq_false', Bool.and_eq_true, decide_eq_true_eq] at *
  repeat (any_goals split)
  all_goals first | rfl | (exfalso; omega) | (simp_all; done) | (simp_all; omega) | grind)
 | (
  simp only [flipD, listQ, atQ, putQ, appQ, appendQ, syncQ, truncQ, deleteQ, flipQ, armQ, crashQ, restartQ, doQ, fireB, fireQ, fallQ, readQ, Bool.not_eq_true', Bool.not_eq_false', Bool.and_eq_true, decide_eq_true_eq] at *
  repeat (any_goals split)
  all_goals first | rfl | (exfalso; omega) | (simp_all; done) | (simp_all; omega) | grind))
abbrev tb37 : Tbl := (33, c_rappend_ok) :: tb36
theorem tb37_ok : TblOk Try.prog tb37 := TblOk.cons rappend_ok tb36_ok

abbrev c_rflip_ok : Ct := .mo [shB, .val .str, .val (.int .i64), .val (.int .u8)] (some (fun (b : (shB).ty.den) (n : ByteArray) (x : Int) (y : Int) => (okQ b))) [.val (.int .i64)] (fun (b : (shB).ty.den) (n : ByteArray) (x : Int) (y : Int) => ((flipQ b n x y).2, ())) (fun (b : (shB).ty.den) (n : ByteArray) (x : Int) (y : Int) => ((flipQ b n x y).1, n, x, y, ()))
set_option maxRecDepth 100000 in
set_option maxHeartbeats 4000000 in
theorem rflip_ok : CtOk Try.prog 37 c_rflip_ok := by
  refine CtOk.mo tb37_ok mixed [] [] rfl rfl ?_
  rintro ⟨⟨(c : Int), (l : List Obj), (cr : Bool), (ar : Bool), (w : Int), (k : Int)⟩, (n : ByteArray), (x : Int), (y : Int), _⟩ hpre
  replace hpre := hpre _ rfl
  dsimp only [cu] at hpre
  have hq := hpre
  obtain ⟨⟨ha, hl, hz⟩, hc, hu, hw0, hw, hk⟩ := hq
  dsimp only at ha hl hz hc hu hw0 hw hk
  all_goals refine ⟨[], ?_⟩
  repeat' (first
    | (
 with_reducible refine Side.mk ?_
 (try dsimp only [cu, joinT, ckTys, gts, loK, hiK, Prod.eta, List.nil_append])
 first
 | (done)
 | (with_reducible rfl)
 | (omega)
 | (exact Eq.refl _)
 | (simp only [List.length_append, List.length_cons, List.length_nil]; omega)
 | (
  have hkn : knownQ (c, l, cr, ar, w, k) n = 0 := by assumption
  have q := known_rf hkn
  dsimp only at q
  have q4 := hz (l[posS l n]!) (by rw [getElem!_pos l _ q.2]; exact List.getElem_mem _)
  simp only [q.1, Int.toNat_natCast, ByteArray.size_append, ByteArray.size_extract, show ∀ v : UInt8, (⟨#[v]⟩ : ByteArray).size = 1 from fun _ => rfl] at *
  omega)
 | (exact ⟨ha, hl⟩)
 | (exact ⟨hl, by omega⟩)
 | (exact ⟨hl, hz, hk⟩)
 | (exact ⟨hl, hz, by omega⟩)
 | (
  simp only [List.length_set]
  done)
 | (
  have hkn : knownQ (c, l, cr, ar, w, k) n = 0 := by assumption
  have q := known_rf hkn
  dsimp only at q
  first
  | (omega)
  | (
   simp only [q.1, List.length_set, Int.toNat_natCast]
   omega))
 | (
  have q := used_nn l
  omega)
 | (
  have hkn : knownQ (c, l, cr, ar, w, k) n = 0 := by assumption
  have q := known_rf hkn
  dsimp only at q
  first
  | (
   have q2 := used_one q.2
   simp only [q.1, Int.toNat_natCast]
   omega)
  | (exact ⟨by rw [List.length_set]; exact hl, rapp_z hkn hz hu hc (by assumption), hk⟩)))
    | (conv => whnf
       first
        | done
        | exact trivial
        | with_reducible refine NilBr.mk (fun h => ?_) ?_
        | with_reducible first | refine w_andS ?_ ?_ | refine w_andL ?_ ?_ | refine w_kern (by kernel_rfl) ?_ | refine w_true ?_ | refine w_nd ?_ ?_ | refine w_in ?_ ?_ | refine w_and ?_ ?_
        | ((with_reducible first | refine w_brN (fun h => ?_) (fun h => ?_) | refine w_brD (fun h => ?_) (fun h => ?_) | refine w_br (fun h => ?_) (fun h => ?_)) <;> (try dsimp only [cu, Prod.eta, List.nil_append] at h) <;> (try (exfalso; omega; done)))))
  all_goals (
 with_reducible refine Leaf.mk ?_
 (try dsimp only [cu, joinT, ckTys, gts, Prod.eta, List.nil_append] at *)
 first
 | (done)
 | (with_reducible rfl)
 | (
  have hkn : knownQ (c, l, cr, ar, w, k) n = 0 := by assumption
  have q := known_rf hkn
  dsimp only at q
  first
  | (
   rw [flip_eq (by omega)]
   have hkn : knownQ (c, l, cr, ar, w, k) n = 0 := by assumption
   have q := known_rf hkn
   dsimp only at q
   have q3 := known_0 hkn
   dsimp only at q3
   simp only [q.1, Int.toNat_natCast, flipD, listQ, atQ, putQ, appQ, appendQ, syncQ, truncQ, deleteQ, flipQ, armQ, crashQ, restartQ, doQ, fireB, fireQ, fallQ, readQ, hkn, Bool.not_eq_true', Bool.not_eq_false', Bool.and_eq_true, decide_eq_true_eq] at *
   repeat (any_goals split)
   all_goals first | rfl | (exfalso; omega) | (simp_all; done) | (simp_all; omega) | grind)
  | (
   have q3 := known_0 hkn
   dsimp only at q3
   simp only [q.1, Int.toNat_natCast, flipD, listQ, atQ, putQ, appQ, appendQ, syncQ, truncQ, deleteQ, flipQ, armQ, crashQ, restartQ, doQ, fireB, fireQ, fallQ, readQ, hkn, Bool.not_eq_true', Bool.not_eq_false', Bool.and_eq_true, decide_eq_true_eq] at *
   repeat (any_goals split)
   all_goals first | rfl | (exfalso; omega) | (simp_all; done) | (simp_all; omega) | grind))
 | (
  simp only [flipD, listQ, atQ, putQ, appQ, appendQ, syncQ, truncQ, deleteQ, flipQ, armQ, crashQ, restartQ, doQ, fireB, fireQ, fallQ, readQ, Bool.not_eq_true', Bool.not_eq_false', Bool.and_eq_true, decide_eq_true_eq] at *
  repeat (any_goals split)
  all_goals first | rfl | (exfalso; omega) | (simp_all; done) | (simp_all; omega) | grind))
abbrev tb38 : Tbl := (37, c_rflip_ok) :: tb37
theorem tb38_ok : TblOk Try.prog tb38 := TblOk.cons rflip_ok tb37_ok

abbrev c_rdelete_ok : Ct := .mo [shB, .val .str] (some (fun (b : (shB).ty.den) (n : ByteArray) => (okQ b))) [.val (.int .i64)] (fun (b : (shB).ty.den) (n : ByteArray) => ((deleteQ b n).2, ())) (fun (b : (shB).ty.den) (n : ByteArray) => ((deleteQ b n).1, n, ()))
set_option maxRecDepth 100000 in
set_option maxHeartbeats 4000000 in
theorem rdelete_ok : CtOk Try.prog 62 c_rdelete_ok := by
  refine CtOk.mo tb38_ok mixed [] [52] rfl rfl ?_
  rintro ⟨⟨(c : Int), (l : List Obj), (cr : Bool), (ar : Bool), (w : Int), (k : Int)⟩, (n : ByteArray), _⟩ hpre
  replace hpre := hpre _ rfl
  dsimp only [cu] at hpre
  have hq := hpre
  obtain ⟨⟨ha, hl, hz⟩, hc, hu, hw0, hw, hk⟩ := hq
  dsimp only at ha hl hz hc hu hw0 hw hk
  all_goals refine ⟨[], ?_⟩
  repeat' (first
    | (
 with_reducible refine Side.mk ?_
 (try dsimp only [cu, joinT, ckTys, gts, loK, hiK, Prod.eta, List.nil_append])
 first
 | (done)
 | (with_reducible rfl)
 | (omega)
 | (exact Eq.refl _)
 | (simp only [List.length_append, List.length_cons, List.length_nil]; omega)
 | (
  simp only [List.length_nil, List.length_append, subL_eq, List.length_take, List.length_drop]
  omega)
 | (
  have hkn : knownQ (c, l, cr, ar, w, k) n = 0 := by assumption
  have q := known_rf hkn
  dsimp only at q
  simp only [List.length_nil, List.length_append, subL_eq, List.length_take, List.length_drop]
  omega)
 | (exact ⟨ha, hl⟩)
 | (exact ⟨hl, by omega⟩)
 | (exact ⟨hl, hz, hk⟩)
 | (exact ⟨hl, hz, by omega⟩)
 | (
  simp only [List.length_set]
  done)
 | (
  have hkn : knownQ (c, l, cr, ar, w, k) n = 0 := by assumption
  have q := known_rf hkn
  dsimp only at q
  first
  | (omega)
  | (
   simp only [q.1, List.length_set, Int.toNat_natCast]
   omega))
 | (
  have q := used_nn l
  omega)
 | (
  have hkn : knownQ (c, l, cr, ar, w, k) n = 0 := by assumption
  have q := known_rf hkn
  dsimp only at q
  first
  | (
   have q2 := used_one q.2
   simp only [q.1, Int.toNat_natCast]
   omega)
  | (exact ⟨by rw [List.length_set]; exact hl, rapp_z hkn hz hu hc (by assumption), hk⟩)))
    | (conv => whnf
       first
        | done
        | exact trivial
        | with_reducible refine NilBr.mk (fun h => ?_) ?_
        | with_reducible first | refine w_andS ?_ ?_ | refine w_andL ?_ ?_ | refine w_kern (by kernel_rfl) ?_ | refine w_true ?_ | refine w_nd ?_ ?_ | refine w_in ?_ ?_ | refine w_and ?_ ?_
        | ((with_reducible first | refine w_brN (fun h => ?_) (fun h => ?_) | refine w_brD (fun h => ?_) (fun h => ?_) | refine w_br (fun h => ?_) (fun h => ?_)) <;> (try dsimp only [cu, Prod.eta, List.nil_append] at h) <;> (try (exfalso; omega; done)))))
  all_goals (
 with_reducible refine Leaf.mk ?_
 (try dsimp only [cu, joinT, ckTys, gts, Prod.eta, List.nil_append] at *)
 first
 | (done)
 | (with_reducible rfl)
 | (
  have hkn : knownQ (c, l, cr, ar, w, k) n = 0 := by assumption
  have q := known_rf hkn
  dsimp only at q
  first
  | (
   rw [del_l1 (by assumption) (by omega)]
   have hkn : knownQ (c, l, cr, ar, w, k) n = 0 := by assumption
   have q := known_rf hkn
   dsimp only at q
   have q3 := known_0 hkn
   dsimp only at q3
   simp only [q.1, Int.toNat_natCast, flipD, listQ, atQ, putQ, appQ, appendQ, syncQ, truncQ, deleteQ, flipQ, armQ, crashQ, restartQ, doQ, fireB, fireQ, fallQ, readQ, hkn, Bool.not_eq_true', Bool.not_eq_false', Bool.and_eq_true, decide_eq_true_eq] at *
   repeat (any_goals split)
   all_goals first | rfl | (exfalso; omega) | (simp_all; done) | (simp_all; omega) | grind)
  | (
   rw [del_l2 (by assumption) (by omega)]
   have hkn : knownQ (c, l, cr, ar, w, k) n = 0 := by assumption
   have q := known_rf hkn
   dsimp only at q
   have q3 := known_0 hkn
   dsimp only at q3
   simp only [q.1, Int.toNat_natCast, flipD, listQ, atQ, putQ, appQ, appendQ, syncQ, truncQ, deleteQ, flipQ, armQ, crashQ, restartQ, doQ, fireB, fireQ, fallQ, readQ, hkn, Bool.not_eq_true', Bool.not_eq_false', Bool.and_eq_true, decide_eq_true_eq] at *
   repeat (any_goals split)
   all_goals first | rfl | (exfalso; omega) | (simp_all; done) | (simp_all; omega) | grind)
  | (
   rw [del_l3 (by omega) (by omega)]
   have hkn : knownQ (c, l, cr, ar, w, k) n = 0 := by assumption
   have q := known_rf hkn
   dsimp only at q
   have q3 := known_0 hkn
   dsimp only at q3
   simp only [q.1, Int.toNat_natCast, flipD, listQ, atQ, putQ, appQ, appendQ, syncQ, truncQ, deleteQ, flipQ, armQ, crashQ, restartQ, doQ, fireB, fireQ, fallQ, readQ, hkn, Bool.not_eq_true', Bool.not_eq_false', Bool.and_eq_true, decide_eq_true_eq] at *
   repeat (any_goals split)
   all_goals first | rfl | (exfalso; omega) | (simp_all; done) | (simp_all; omega) | grind)
  | (
   have q3 := known_0 hkn
   dsimp only at q3
   simp only [q.1, Int.toNat_natCast, flipD, listQ, atQ, putQ, appQ, appendQ, syncQ, truncQ, deleteQ, flipQ, armQ, crashQ, restartQ, doQ, fireB, fireQ, fallQ, readQ, hkn, Bool.not_eq_true', Bool.not_eq_false', Bool.and_eq_true, decide_eq_true_eq] at *
   repeat (any_goals split)
   all_goals first | rfl | (exfalso; omega) | (simp_all; done) | (simp_all; omega) | grind))
 | (
  simp only [flipD, listQ, atQ, putQ, appQ, appendQ, syncQ, truncQ, deleteQ, flipQ, armQ, crashQ, restartQ, doQ, fireB, fireQ, fallQ, readQ, Bool.not_eq_true', Bool.not_eq_false', Bool.and_eq_true, decide_eq_true_eq] at *
  repeat (any_goals split)
  all_goals first | rfl | (exfalso; omega) | (simp_all; done) | (simp_all; omega) | grind))
abbrev tb39 : Tbl := (62, c_rdelete_ok) :: tb38
theorem tb39_ok : TblOk Try.prog tb39 := TblOk.cons rdelete_ok tb38_ok

end Go.Proofs.Ytpjgjkoajoiopaa
