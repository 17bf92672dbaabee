/- Contracts of the methods of the object store. -/
import Derived.Test.YtpjgjkoajoiopaaStore
namespace Go.Proofs.Ytpjgjkoajoiopaa
open Go.Abs
set_option linter.unusedVariables false
set_option linter.unusedSimpArgs false

abbrev c_crashed_ok : Ct := .rd tSt [] (none) (fun (q : St) => .d .bool q.2.2.1)
set_option maxRecDepth 100000 in
set_option maxHeartbeats 4000000 in
theorem crashed_ok : CtOk Try.prog 24 c_crashed_ok := by
  refine CtOk.rd tb8_ok mixed [] [] rfl rfl ?_
  rintro ⟨(c : Int), (l : List Obj), (cr : Bool), (ar : Bool), (w : Int), (k : Int)⟩ ⟨⟩ -
  refine ⟨[], ?_⟩
  repeat' (first
    | (
 with_reducible refine Side.mk ?_
 (try dsimp only [cu, joinT, ckTys, gts, loK, hiK, Prod.eta, List.nil_append])
 first
 | (done)
 | (with_reducible rfl)
 | (omega)
 | (exact Eq.refl _)
 | (simp only [List.length_append, List.length_cons, List.length_nil]; omega))
    | (conv => whnf
       first
        | done
        | exact trivial
        | with_reducible refine NilBr.mk (fun h => ?_) ?_
        | with_reducible first | refine w_andS ?_ ?_ | refine w_andL ?_ ?_ | refine w_kern (by kernel_rfl) ?_ | refine w_true ?_ | refine w_nd ?_ ?_ | refine w_in ?_ ?_ | refine w_and ?_ ?_
        | ((with_reducible first | refine w_brN (fun h => ?_) (fun h => ?_) | refine w_brD (fun h => ?_) (fun h => ?_) | refine w_br (fun h => ?_) (fun h => ?_)) <;> (try dsimp only [cu, Prod.eta, List.nil_append] at h) <;> (try (exfalso; omega; done)))))
  all_goals (
 with_reducible refine Leaf.mk ?_
 (try dsimp only [cu, joinT, ckTys, gts, Prod.eta, List.nil_append] at *)
 first
 | (done)
 | (with_reducible rfl)
 | (
  rw [set2 (has_lt2 (by assumption)).1]
  simp only [flipD, knownQ, readQ, listQ, atQ, putQ, appQ, createQ, appendQ, syncQ, truncQ, deleteQ, flipQ, armQ, crashQ, restartQ, doQ, fireB, fireQ, fallQ, has_nil, Int.toNat_natCast, Bool.not_eq_true', Bool.not_eq_false', Bool.and_eq_true, decide_eq_true_eq] at *
  repeat (any_goals split)
  all_goals first | rfl | (exfalso; omega) | (simp_all; done) | (rw [if_neg (by omega)]; rfl) | (simp_all; omega) | grind)
 | (
  simp only [flipD, knownQ, readQ, listQ, atQ, putQ, appQ, createQ, appendQ, syncQ, truncQ, deleteQ, flipQ, armQ, crashQ, restartQ, doQ, fireB, fireQ, fallQ, has_nil, Int.toNat_natCast, Bool.not_eq_true', Bool.not_eq_false', Bool.and_eq_true, decide_eq_true_eq] at *
  repeat (any_goals split)
  all_goals first | rfl | (exfalso; omega) | (simp_all; done) | (rw [if_neg (by omega)]; rfl) | (simp_all; omega) | grind))
abbrev tb9 : Tbl := (24, c_crashed_ok) :: tb8
theorem tb9_ok : TblOk Try.prog tb9 := TblOk.cons crashed_ok tb8_ok

abbrev c_restart_ok : Ct := .mo [shA] (some (fun (a : (shA).ty.den) => (okQ (toQ a)) ∧ (a.2.1.1 = false → a.2.1.2 = []))) [.val .bool] (fun (a : (shA).ty.den) => (a.2.2.1, ())) (fun (a : (shA).ty.den) => (mkA a.2.1.1 (restartQ (toQ a)), ()))
set_option maxRecDepth 100000 in
set_option maxHeartbeats 4000000 in
theorem restart_ok : CtOk Try.prog 28 c_restart_ok := by
  refine CtOk.mo tb9_ok mixed [] [] rfl rfl ?_
  rintro ⟨⟨(c : Int), ⟨(b : Bool), (l : List Obj)⟩, (cr : Bool), (ar : Bool), (w : Int), (k : Int)⟩, _⟩ hpre
  replace hpre := hpre _ rfl
  dsimp only [cu] at hpre
  obtain ⟨hq, ho⟩ := hpre
  obtain ⟨⟨ha, hl, hz⟩, hc, hu, hw0, hw, hk⟩ := hq
  dsimp only at ha hl hz hc hu hw0 hw hk ho
  rcases b with _ | _
  case' false => (have e := ho rfl; subst e)
  all_goals refine ⟨[], ?_⟩
  repeat' (first
    | (
 with_reducible refine Side.mk ?_
 (try dsimp only [cu, joinT, ckTys, gts, loK, hiK, Prod.eta, List.nil_append])
 first
 | (done)
 | (with_reducible rfl)
 | (omega)
 | (exact Eq.refl _)
 | (simp only [List.length_append, List.length_cons, List.length_nil]; omega)
 | (
  have q := pos_le l n
  omega)
 | (
  have q := pos_le [] n
  simp only [List.length_nil] at *
  omega)
 | (
  have q := used_nn l
  omega)
 | (
  have q := used_one (has_lt2 (by assumption)).1
  simp only [Int.toNat_natCast]
  omega)
 | (
  simp only [List.length_set]
  done)
 | (exact ⟨ha, hl⟩)
 | (exact ⟨hl, by omega⟩)
 | (
  have q := (has_lt2 (by assumption)).1
  first
  | (omega)
  | (simp only [List.length_set]; omega))
 | (exact ⟨hl, hz, by simp, hk⟩)
 | (exact ⟨hl, hz, ho, hk⟩)
 | (exact ⟨by rw [List.length_set]; exact hl, fall_z hz (app_z hz hu hc (by assumption) (by assumption)) _, by simp, hk⟩)
 | (exact ⟨hl, hz, ho, by omega⟩))
    | (conv => whnf
       first
        | done
        | exact trivial
        | with_reducible refine NilBr.mk (fun h => ?_) ?_
        | with_reducible first | refine w_andS ?_ ?_ | refine w_andL ?_ ?_ | refine w_kern (by kernel_rfl) ?_ | refine w_true ?_ | refine w_nd ?_ ?_ | refine w_in ?_ ?_ | refine w_and ?_ ?_
        | ((with_reducible first | refine w_brN (fun h => ?_) (fun h => ?_) | refine w_brD (fun h => ?_) (fun h => ?_) | refine w_br (fun h => ?_) (fun h => ?_)) <;> (try dsimp only [cu, Prod.eta, List.nil_append] at h) <;> (try (exfalso; omega; done)))))
  all_goals (
 with_reducible refine Leaf.mk ?_
 (try dsimp only [cu, joinT, ckTys, gts, Prod.eta, List.nil_append] at *)
 first
 | (done)
 | (with_reducible rfl)
 | (
  rw [set2 (has_lt2 (by assumption)).1]
  simp only [flipD, knownQ, readQ, listQ, atQ, putQ, appQ, createQ, appendQ, syncQ, truncQ, deleteQ, flipQ, armQ, crashQ, restartQ, doQ, fireB, fireQ, fallQ, has_nil, Int.toNat_natCast, Bool.not_eq_true', Bool.not_eq_false', Bool.and_eq_true, decide_eq_true_eq] at *
  repeat (any_goals split)
  all_goals first | rfl | (exfalso; omega) | (simp_all; done) | (rw [if_neg (by omega)]; rfl) | (simp_all; omega) | grind)
 | (
  simp only [flipD, knownQ, readQ, listQ, atQ, putQ, appQ, createQ, appendQ, syncQ, truncQ, deleteQ, flipQ, armQ, crashQ, restartQ, doQ, fireB, fireQ, fallQ, has_nil, Int.toNat_natCast, Bool.not_eq_true', Bool.not_eq_false', Bool.and_eq_true, decide_eq_true_eq] at *
  repeat (any_goals split)
  all_goals first | rfl | (exfalso; omega) | (simp_all; done) | (rw [if_neg (by omega)]; rfl) | (simp_all; omega) | grind))
abbrev tb10 : Tbl := (28, c_restart_ok) :: tb9
theorem tb10_ok : TblOk Try.prog tb10 := TblOk.cons restart_ok tb9_ok

abbrev c_arm_ok : Ct := .mo [shA, .val (.int .i64), .val (.int .i64)] (some (fun (a : (shA).ty.den) (x : Int) (y : Int) => (okQ (toQ a)) ∧ (a.2.1.1 = false → a.2.1.2 = []))) [.val (.int .i64)] (fun (a : (shA).ty.den) (x : Int) (y : Int) => ((armQ (toQ a) x y).2, ())) (fun (a : (shA).ty.den) (x : Int) (y : Int) => (mkA a.2.1.1 (armQ (toQ a) x y).1, x, y, ()))
set_option maxRecDepth 100000 in
set_option maxHeartbeats 4000000 in
theorem arm_ok : CtOk Try.prog 30 c_arm_ok := by
  refine CtOk.mo tb10_ok mixed [] [] rfl rfl ?_
  rintro ⟨⟨(c : Int), ⟨(b : Bool), (l : List Obj)⟩, (cr : Bool), (ar : Bool), (w : Int), (k : Int)⟩, (x : Int), (y : Int), _⟩ hpre
  replace hpre := hpre _ rfl
  dsimp only [cu] at hpre
  obtain ⟨hq, ho⟩ := hpre
  obtain ⟨⟨ha, hl, hz⟩, hc, hu, hw0, hw, hk⟩ := hq
  dsimp only at ha hl hz hc hu hw0 hw hk ho
  rcases b with _ | _
  case' false => (have e := ho rfl; subst e)
  all_goals refine ⟨[], ?_⟩
  repeat' (first
    | (
 with_reducible refine Side.mk ?_
 (try dsimp only [cu, joinT, ckTys, gts, loK, hiK, Prod.eta, List.nil_append])
 first
 | (done)
 | (with_reducible rfl)
 | (omega)
 | (exact Eq.refl _)
 | (simp only [List.length_append, List.length_cons, List.length_nil]; omega)
 | (
  have q := pos_le l n
  omega)
 | (
  have q := pos_le [] n
  simp only [List.length_nil] at *
  omega)
 | (
  have q := used_nn l
  omega)
 | (
  have q := used_one (has_lt2 (by assumption)).1
  simp only [Int.toNat_natCast]
  omega)
 | (
  simp only [List.length_set]
  done)
 | (exact ⟨ha, hl⟩)
 | (exact ⟨hl, by omega⟩)
 | (
  have q := (has_lt2 (by assumption)).1
  first
  | (omega)
  | (simp only [List.length_set]; omega))
 | (exact ⟨hl, hz, by simp, hk⟩)
 | (exact ⟨hl, hz, ho, hk⟩)
 | (exact ⟨by rw [List.length_set]; exact hl, fall_z hz (app_z hz hu hc (by assumption) (by assumption)) _, by simp, hk⟩)
 | (exact ⟨hl, hz, ho, by omega⟩))
    | (conv => whnf
       first
        | done
        | exact trivial
        | with_reducible refine NilBr.mk (fun h => ?_) ?_
        | with_reducible first | refine w_andS ?_ ?_ | refine w_andL ?_ ?_ | refine w_kern (by kernel_rfl) ?_ | refine w_true ?_ | refine w_nd ?_ ?_ | refine w_in ?_ ?_ | refine w_and ?_ ?_
        | ((with_reducible first | refine w_brN (fun h => ?_) (fun h => ?_) | refine w_brD (fun h => ?_) (fun h => ?_) | refine w_br (fun h => ?_) (fun h => ?_)) <;> (try dsimp only [cu, Prod.eta, List.nil_append] at h) <;> (try (exfalso; omega; done)))))
  all_goals (
 with_reducible refine Leaf.mk ?_
 (try dsimp only [cu, joinT, ckTys, gts, Prod.eta, List.nil_append] at *)
 first
 | (done)
 | (with_reducible rfl)
 | (
  rw [set2 (has_lt2 (by assumption)).1]
  simp only [flipD, knownQ, readQ, listQ, atQ, putQ, appQ, createQ, appendQ, syncQ, truncQ, deleteQ, flipQ, armQ, crashQ, restartQ, doQ, fireB, fireQ, fallQ, has_nil, Int.toNat_natCast, Bool.not_eq_true', Bool.not_eq_false', Bool.and_eq_true, decide_eq_true_eq] at *
  repeat (any_goals split)
  all_goals first | rfl | (exfalso; omega) | (simp_all; done) | (rw [if_neg (by omega)]; rfl) | (simp_all; omega) | grind)
 | (
  simp only [flipD, knownQ, readQ, listQ, atQ, putQ, appQ, createQ, appendQ, syncQ, truncQ, deleteQ, flipQ, armQ, crashQ, restartQ, doQ, fireB, fireQ, fallQ, has_nil, Int.toNat_natCast, Bool.not_eq_true', Bool.not_eq_false', Bool.and_eq_true, decide_eq_true_eq] at *
  repeat (any_goals split)
  all_goals first | rfl | (exfalso; omega) | (simp_all; done) | (rw [if_neg (by omega)]; rfl) | (simp_all; omega) | grind))
abbrev tb11 : Tbl := (30, c_arm_ok) :: tb10
theorem tb11_ok : TblOk Try.prog tb11 := TblOk.cons arm_ok tb10_ok

abbrev c_crash_ok : Ct := .mo [shA, .val (.int .i64)] (some (fun (a : (shA).ty.den) (x : Int) => (okQ (toQ a)) ∧ (a.2.1.1 = false → a.2.1.2 = []) ∧ (x ≤ 9223372036854775807))) [.val (.int .i64)] (fun (a : (shA).ty.den) (x : Int) => ((crashQ (toQ a) x).2, ())) (fun (a : (shA).ty.den) (x : Int) => (mkA a.2.1.1 (crashQ (toQ a) x).1, x, ()))
set_option maxRecDepth 100000 in
set_option maxHeartbeats 4000000 in
theorem crash_ok : CtOk Try.prog 23 c_crash_ok := by
  refine CtOk.mo tb11_ok mixed [] [] rfl rfl ?_
  rintro ⟨⟨(c : Int), ⟨(b : Bool), (l : List Obj)⟩, (cr : Bool), (ar : Bool), (w : Int), (k : Int)⟩, (x : Int), _⟩ hpre
  replace hpre := hpre _ rfl
  dsimp only [cu] at hpre
  obtain ⟨hq, ho, hx⟩ := hpre
  obtain ⟨⟨ha, hl, hz⟩, hc, hu, hw0, hw, hk⟩ := hq
  dsimp only at ha hl hz hc hu hw0 hw hk ho
  rcases b with _ | _
  case' false => (have e := ho rfl; subst e)
  all_goals refine ⟨[], ?_⟩
  repeat' (first
    | (
 with_reducible refine Side.mk ?_
 (try dsimp only [cu, joinT, ckTys, gts, loK, hiK, Prod.eta, List.nil_append])
 first
 | (done)
 | (with_reducible rfl)
 | (omega)
 | (exact Eq.refl _)
 | (simp only [List.length_append, List.length_cons, List.length_nil]; omega)
 | (
  have q := pos_le l n
  omega)
 | (
  have q := pos_le [] n
  simp only [List.length_nil] at *
  omega)
 | (
  have q := used_nn l
  omega)
 | (
  have q := used_one (has_lt2 (by assumption)).1
  simp only [Int.toNat_natCast]
  omega)
 | (
  simp only [List.length_set]
  done)
 | (exact ⟨ha, hl⟩)
 | (exact ⟨hl, by omega⟩)
 | (
  have q := (has_lt2 (by assumption)).1
  first
  | (omega)
  | (simp only [List.length_set]; omega))
 | (exact ⟨hl, hz, by simp, hk⟩)
 | (exact ⟨hl, hz, ho, hk⟩)
 | (exact ⟨by rw [List.length_set]; exact hl, fall_z hz (app_z hz hu hc (by assumption) (by assumption)) _, by simp, hk⟩)
 | (exact ⟨hl, hz, ho, by omega⟩))
    | (conv => whnf
       first
        | done
        | exact trivial
        | with_reducible refine NilBr.mk (fun h => ?_) ?_
        | with_reducible first | refine w_andS ?_ ?_ | refine w_andL ?_ ?_ | refine w_kern (by kernel_rfl) ?_ | refine w_true ?_ | refine w_nd ?_ ?_ | refine w_in ?_ ?_ | refine w_and ?_ ?_
        | ((with_reducible first | refine w_brN (fun h => ?_) (fun h => ?_) | refine w_brD (fun h => ?_) (fun h => ?_) | refine w_br (fun h => ?_) (fun h => ?_)) <;> (try dsimp only [cu, Prod.eta, List.nil_append] at h) <;> (try (exfalso; omega; done)))))
  all_goals (
 with_reducible refine Leaf.mk ?_
 (try dsimp only [cu, joinT, ckTys, gts, Prod.eta, List.nil_append] at *)
 first
 | (done)
 | (with_reducible rfl)
 | (
  rw [set2 (has_lt2 (by assumption)).1]
  simp only [flipD, knownQ, readQ, listQ, atQ, putQ, appQ, createQ, appendQ, syncQ, truncQ, deleteQ, flipQ, armQ, crashQ, restartQ, doQ, fireB, fireQ, fallQ, has_nil, Int.toNat_natCast, Bool.not_eq_true', Bool.not_eq_false', Bool.and_eq_true, decide_eq_true_eq] at *
  repeat (any_goals split)
  all_goals first | rfl | (exfalso; omega) | (simp_all; done) | (rw [if_neg (by omega)]; rfl) | (simp_all; omega) | grind)
 | (
  simp only [flipD, knownQ, readQ, listQ, atQ, putQ, appQ, createQ, appendQ, syncQ, truncQ, deleteQ, flipQ, armQ, crashQ, restartQ, doQ, fireB, fireQ, fallQ, has_nil, Int.toNat_natCast, Bool.not_eq_true', Bool.not_eq_false', Bool.and_eq_true, decide_eq_true_eq] at *
  repeat (any_goals split)
  all_goals first | rfl | (exfalso; omega) | (simp_all; done) | (rw [if_neg (by omega)]; rfl) | (simp_all; omega) | grind))
abbrev tb12 : Tbl := (23, c_crash_ok) :: tb11
theorem tb12_ok : TblOk Try.prog tb12 := TblOk.cons crash_ok tb11_ok

abbrev c_read_ok : Ct := .rd tSt [.str] (some (fun (q : St) (n : ByteArray) => (ascS (nmS q.2.1)) ∧ (q.2.1.length ≤ 4096))) (fun (q : St) (n : ByteArray) => .tup [.str, .int .i64] ((readQ q n).1, (readQ q n).2, ()))
set_option maxRecDepth 100000 in
set_option maxHeartbeats 4000000 in
theorem read_ok : CtOk Try.prog 19 c_read_ok := by
  refine CtOk.rd tb12_ok mixed [] [47] rfl rfl ?_
  rintro ⟨(c : Int), (l : List Obj), (cr : Bool), (ar : Bool), (w : Int), (k : Int)⟩ ⟨(n : ByteArray), _⟩ hpre
  replace hpre := hpre _ rfl
  dsimp only [cu] at hpre
  obtain ⟨ha, hl⟩ := hpre
  refine ⟨[], ?_⟩
  repeat' (first
    | (
 with_reducible refine Side.mk ?_
 (try dsimp only [cu, joinT, ckTys, gts, loK, hiK, Prod.eta, List.nil_append])
 first
 | (done)
 | (with_reducible rfl)
 | (omega)
 | (exact Eq.refl _)
 | (simp only [List.length_append, List.length_cons, List.length_nil]; omega)
 | (
  have q := pos_le l n
  omega)
 | (
  have q := pos_le [] n
  simp only [List.length_nil] at *
  omega)
 | (
  have q := used_nn l
  omega)
 | (
  have q := used_one (has_lt2 (by assumption)).1
  simp only [Int.toNat_natCast]
  omega)
 | (
  simp only [List.length_set]
  done)
 | (exact ⟨ha, hl⟩)
 | (exact ⟨hl, by omega⟩)
 | (
  have q := (has_lt2 (by assumption)).1
  first
  | (omega)
  | (simp only [List.length_set]; omega))
 | (exact ⟨hl, hz, by simp, hk⟩)
 | (exact ⟨hl, hz, ho, hk⟩)
 | (exact ⟨by rw [List.length_set]; exact hl, fall_z hz (app_z hz hu hc (by assumption) (by assumption)) _, by simp, hk⟩)
 | (exact ⟨hl, hz, ho, by omega⟩))
    | (conv => whnf
       first
        | done
        | exact trivial
        | with_reducible refine NilBr.mk (fun h => ?_) ?_
        | with_reducible first | refine w_andS ?_ ?_ | refine w_andL ?_ ?_ | refine w_kern (by kernel_rfl) ?_ | refine w_true ?_ | refine w_nd ?_ ?_ | refine w_in ?_ ?_ | refine w_and ?_ ?_
        | ((with_reducible first | refine w_brN (fun h => ?_) (fun h => ?_) | refine w_brD (fun h => ?_) (fun h => ?_) | refine w_br (fun h => ?_) (fun h => ?_)) <;> (try dsimp only [cu, Prod.eta, List.nil_append] at h) <;> (try (exfalso; first | omega | (simp [has_nil] at *; done) | contradiction; done)))))
  all_goals (
 with_reducible refine Leaf.mk ?_
 (try dsimp only [cu, joinT, ckTys, gts, Prod.eta, List.nil_append] at *)
 first
 | (done)
 | (with_reducible rfl)
 | (
  rw [set2 (has_lt2 (by assumption)).1]
  simp only [flipD, knownQ, readQ, listQ, atQ, putQ, appQ, createQ, appendQ, syncQ, truncQ, deleteQ, flipQ, armQ, crashQ, restartQ, doQ, fireB, fireQ, fallQ, has_nil, Int.toNat_natCast, Bool.not_eq_true', Bool.not_eq_false', Bool.and_eq_true, decide_eq_true_eq] at *
  repeat (any_goals split)
  all_goals first | rfl | (exfalso; omega) | (simp_all; done) | (rw [if_neg (by omega)]; rfl) | (simp_all; omega) | grind)
 | (
  simp only [flipD, knownQ, readQ, listQ, atQ, putQ, appQ, createQ, appendQ, syncQ, truncQ, deleteQ, flipQ, armQ, crashQ, restartQ, doQ, fireB, fireQ, fallQ, has_nil, Int.toNat_natCast, Bool.not_eq_true', Bool.not_eq_false', Bool.and_eq_true, decide_eq_true_eq] at *
  repeat (any_goals split)
  all_goals first | rfl | (exfalso; omega) | (simp_all; done) | (rw [if_neg (by omega)]; rfl) | (simp_all; omega) | grind))
abbrev tb13 : Tbl := (19, c_read_ok) :: tb12
theorem tb13_ok : TblOk Try.prog tb13 := TblOk.cons read_ok tb12_ok

abbrev c_sync_ok : Ct := .mo [shA, .val .str] (some (fun (a : (shA).ty.den) (n : ByteArray) => (okQ (toQ a)) ∧ (a.2.1.1 = false → a.2.1.2 = []))) [.val (.int .i64)] (fun (a : (shA).ty.den) (n : ByteArray) => ((syncQ (toQ a) n).2, ())) (fun (a : (shA).ty.den) (n : ByteArray) => (mkA a.2.1.1 (syncQ (toQ a) n).1, n, ()))
set_option maxRecDepth 100000 in
set_option maxHeartbeats 4000000 in
theorem sync_ok : CtOk Try.prog 22 c_sync_ok := by
  refine CtOk.mo tb13_ok mixed [] [47, 44] rfl rfl ?_
  rintro ⟨⟨(c : Int), ⟨(b : Bool), (l : List Obj)⟩, (cr : Bool), (ar : Bool), (w : Int), (k : Int)⟩, (n : ByteArray), _⟩ hpre
  replace hpre := hpre _ rfl
  dsimp only [cu] at hpre
  obtain ⟨hq, ho⟩ := hpre
  obtain ⟨⟨ha, hl, hz⟩, hc, hu, hw0, hw, hk⟩ := hq
  dsimp only at ha hl hz hc hu hw0 hw hk ho
  rcases b with _ | _
  case' false => (have e := ho rfl; subst e)
  all_goals refine ⟨[], ?_⟩
  repeat' (first
    | (
 with_reducible refine Side.mk ?_
 (try dsimp only [cu, joinT, ckTys, gts, loK, hiK, Prod.eta, List.nil_append])
 first
 | (done)
 | (with_reducible rfl)
 | (omega)
 | (exact Eq.refl _)
 | (simp only [List.length_append, List.length_cons, List.length_nil]; omega)
 | (
  have q := pos_le l n
  omega)
 | (
  have q := pos_le [] n
  simp only [List.length_nil] at *
  omega)
 | (
  have q := used_nn l
  omega)
 | (
  have q := used_one (has_lt2 (by assumption)).1
  simp only [Int.toNat_natCast]
  omega)
 | (
  simp only [List.length_set]
  done)
 | (exact ⟨ha, hl⟩)
 | (exact ⟨hl, by omega⟩)
 | (
  have q := (has_lt2 (by assumption)).1
  first
  | (omega)
  | (simp only [List.length_set]; omega))
 | (exact ⟨hl, hz, by simp, hk⟩)
 | (exact ⟨hl, hz, ho, hk⟩)
 | (exact ⟨by rw [List.length_set]; exact hl, fall_z hz (app_z hz hu hc (by assumption) (by assumption)) _, by simp, hk⟩)
 | (exact ⟨hl, hz, ho, by omega⟩))
    | (conv => whnf
       first
        | done
        | exact trivial
        | with_reducible refine NilBr.mk (fun h => ?_) ?_
        | with_reducible first | refine w_andS ?_ ?_ | refine w_andL ?_ ?_ | refine w_kern (by kernel_rfl) ?_ | refine w_true ?_ | refine w_nd ?_ ?_ | refine w_in ?_ ?_ | refine w_and ?_ ?_
        | ((with_reducible first | refine w_brN (fun h => ?_) (fun h => ?_) | refine w_brD (fun h => ?_) (fun h => ?_) | refine w_br (fun h => ?_) (fun h => ?_)) <;> (try dsimp only [cu, Prod.eta, List.nil_append] at h) <;> (try (exfalso; first | omega | (simp [has_nil] at *; done) | contradiction; done)))))
  all_goals (
 with_reducible refine Leaf.mk ?_
 (try dsimp only [cu, joinT, ckTys, gts, Prod.eta, List.nil_append] at *)
 first
 | (done)
 | (with_reducible rfl)
 | (
  rw [set2 (has_lt2 (by assumption)).1]
  simp only [flipD, knownQ, readQ, listQ, atQ, putQ, appQ, createQ, appendQ, syncQ, truncQ, deleteQ, flipQ, armQ, crashQ, restartQ, doQ, fireB, fireQ, fallQ, has_nil, Int.toNat_natCast, Bool.not_eq_true', Bool.not_eq_false', Bool.and_eq_true, decide_eq_true_eq] at *
  repeat (any_goals split)
  all_goals first | rfl | (exfalso; omega) | (simp_all; done) | (rw [if_neg (by omega)]; rfl) | (simp_all; omega) | grind)
 | (
  simp only [flipD, knownQ, readQ, listQ, atQ, putQ, appQ, createQ, appendQ, syncQ, truncQ, deleteQ, flipQ, armQ, crashQ, restartQ, doQ, fireB, fireQ, fallQ, has_nil, Int.toNat_natCast, Bool.not_eq_true', Bool.not_eq_false', Bool.and_eq_true, decide_eq_true_eq] at *
  repeat (any_goals split)
  all_goals first | rfl | (exfalso; omega) | (simp_all; done) | (rw [if_neg (by omega)]; rfl) | (simp_all; omega) | grind))
abbrev tb14 : Tbl := (22, c_sync_ok) :: tb13
theorem tb14_ok : TblOk Try.prog tb14 := TblOk.cons sync_ok tb13_ok

abbrev c_trunc_ok : Ct := .mo [shA, .val .str, .val (.int .i64)] (some (fun (a : (shA).ty.den) (n : ByteArray) (x : Int) => (okQ (toQ a)) ∧ (a.2.1.1 = false → a.2.1.2 = []))) [.val (.int .i64)] (fun (a : (shA).ty.den) (n : ByteArray) (x : Int) => ((truncQ (toQ a) n x).2, ())) (fun (a : (shA).ty.den) (n : ByteArray) (x : Int) => (mkA a.2.1.1 (truncQ (toQ a) n x).1, n, x, ()))
set_option maxRecDepth 100000 in
set_option maxHeartbeats 4000000 in
theorem trunc_ok : CtOk Try.prog 34 c_trunc_ok := by
  refine CtOk.mo tb14_ok mixed [] [47, 44] rfl rfl ?_
  rintro ⟨⟨(c : Int), ⟨(b : Bool), (l : List Obj)⟩, (cr : Bool), (ar : Bool), (w : Int), (k : Int)⟩, (n : ByteArray), (x : Int), _⟩ hpre
  replace hpre := hpre _ rfl
  dsimp only [cu] at hpre
  obtain ⟨hq, ho⟩ := hpre
  obtain ⟨⟨ha, hl, hz⟩, hc, hu, hw0, hw, hk⟩ := hq
  dsimp only at ha hl hz hc hu hw0 hw hk ho
  rcases b with _ | _
  case' false => (have e := ho rfl; subst e)
  all_goals refine ⟨[], ?_⟩
  repeat' (first
    | (
 with_reducible refine Side.mk ?_
 (try dsimp only [cu, joinT, ckTys, gts, loK, hiK, Prod.eta, List.nil_append])
 first
 | (done)
 | (with_reducible rfl)
 | (omega)
 | (exact Eq.refl _)
 | (simp only [List.length_append, List.length_cons, List.length_nil]; omega)
 | (
  have q := pos_le l n
  omega)
 | (
  have q := pos_le [] n
  simp only [List.length_nil] at *
  omega)
 | (
  have q := used_nn l
  omega)
 | (
  have q := used_one (has_lt2 (by assumption)).1
  simp only [Int.toNat_natCast]
  omega)
 | (
  simp only [List.length_set]
  done)
 | (exact ⟨ha, hl⟩)
 | (exact ⟨hl, by omega⟩)
 | (
  have q := (has_lt2 (by assumption)).1
  first
  | (omega)
  | (simp only [List.length_set]; omega))
 | (exact ⟨hl, hz, by simp, hk⟩)
 | (exact ⟨hl, hz, ho, hk⟩)
 | (exact ⟨by rw [List.length_set]; exact hl, fall_z hz (app_z hz hu hc (by assumption) (by assumption)) _, by simp, hk⟩)
 | (exact ⟨hl, hz, ho, by omega⟩))
    | (conv => whnf
       first
        | done
        | exact trivial
        | with_reducible refine NilBr.mk (fun h => ?_) ?_
        | with_reducible first | refine w_andS ?_ ?_ | refine w_andL ?_ ?_ | refine w_kern (by kernel_rfl) ?_ | refine w_true ?_ | refine w_nd ?_ ?_ | refine w_in ?_ ?_ | refine w_and ?_ ?_
        | ((with_reducible first | refine w_brN (fun h => ?_) (fun h => ?_) | refine w_brD (fun h => ?_) (fun h => ?_) | refine w_br (fun h => ?_) (fun h => ?_)) <;> (try dsimp only [cu, Prod.eta, List.nil_append] at h) <;> (try (exfalso; first | omega | (simp [has_nil] at *; done) | contradiction; done)))))
  all_goals (
 with_reducible refine Leaf.mk ?_
 (try dsimp only [cu, joinT, ckTys, gts, Prod.eta, List.nil_append] at *)
 first
 | (done)
 | (with_reducible rfl)
 | (
  rw [set2 (has_lt2 (by assumption)).1]
  simp only [flipD, knownQ, readQ, listQ, atQ, putQ, appQ, createQ, appendQ, syncQ, truncQ, deleteQ, flipQ, armQ, crashQ, restartQ, doQ, fireB, fireQ, fallQ, has_nil, Int.toNat_natCast, Bool.not_eq_true', Bool.not_eq_false', Bool.and_eq_true, decide_eq_true_eq] at *
  repeat (any_goals split)
  all_goals first | rfl | (exfalso; omega) | (simp_all; done) | (rw [if_neg (by omega)]; rfl) | (simp_all; omega) | grind)
 | (
  simp only [flipD, knownQ, readQ, listQ, atQ, putQ, appQ, createQ, appendQ, syncQ, truncQ, deleteQ, flipQ, armQ, crashQ, restartQ, doQ, fireB, fireQ, fallQ, has_nil, Int.toNat_natCast, Bool.not_eq_true', Bool.not_eq_false', Bool.and_eq_true, decide_eq_true_eq] at *
  repeat (any_goals split)
  all_goals first | rfl | (exfalso; omega) | (simp_all; done) | (rw [if_neg (by omega)]; rfl) | (simp_all; omega) | grind))
abbrev tb15 : Tbl := (34, c_trunc_ok) :: tb14
theorem tb15_ok : TblOk Try.prog tb15 := TblOk.cons trunc_ok tb14_ok

abbrev c_delete_ok : Ct := .mo [shA, .val .str] (some (fun (a : (shA).ty.den) (n : ByteArray) => (okQ (toQ a)) ∧ (a.2.1.1 = false → a.2.1.2 = []))) [.val (.int .i64)] (fun (a : (shA).ty.den) (n : ByteArray) => ((deleteQ (toQ a) n).2, ())) (fun (a : (shA).ty.den) (n : ByteArray) => (mkA a.2.1.1 (deleteQ (toQ a) n).1, n, ()))
set_option maxRecDepth 100000 in
set_option maxHeartbeats 4000000 in
theorem delete_ok : CtOk Try.prog 20 c_delete_ok := by
  refine CtOk.mo tb15_ok mixed [] [47, 44] rfl rfl ?_
  rintro ⟨⟨(c : Int), ⟨(b : Bool), (l : List Obj)⟩, (cr : Bool), (ar : Bool), (w : Int), (k : Int)⟩, (n : ByteArray), _⟩ hpre
  replace hpre := hpre _ rfl
  dsimp only [cu] at hpre
  obtain ⟨hq, ho⟩ := hpre
  obtain ⟨⟨ha, hl, hz⟩, hc, hu, hw0, hw, hk⟩ := hq
  dsimp only at ha hl hz hc hu hw0 hw hk ho
  rcases b with _ | _
  case' false => (have e := ho rfl; subst e)
  all_goals refine ⟨[], ?_⟩
  repeat' (first
    | (
 with_reducible refine Side.mk ?_
 (try dsimp only [cu, joinT, ckTys, gts, loK, hiK, Prod.eta, List.nil_append])
 first
 | (done)
 | (with_reducible rfl)
 | (omega)
 | (exact Eq.refl _)
 | (simp only [List.length_append, List.length_cons, List.length_nil]; omega)
 | (
  have q := pos_le l n
  omega)
 | (
  have q := pos_le [] n
  simp only [List.length_nil] at *
  omega)
 | (
  have q := used_nn l
  omega)
 | (
  have q := used_one (has_lt2 (by assumption)).1
  simp only [Int.toNat_natCast]
  omega)
 | (
  simp only [List.length_set]
  done)
 | (exact ⟨ha, hl⟩)
 | (exact ⟨hl, by omega⟩)
 | (
  have q := (has_lt2 (by assumption)).1
  first
  | (omega)
  | (simp only [List.length_set]; omega))
 | (exact ⟨hl, hz, by simp, hk⟩)
 | (exact ⟨hl, hz, ho, hk⟩)
 | (exact ⟨by rw [List.length_set]; exact hl, fall_z hz (app_z hz hu hc (by assumption) (by assumption)) _, by simp, hk⟩)
 | (exact ⟨hl, hz, ho, by omega⟩))
    | (conv => whnf
       first
        | done
        | exact trivial
        | with_reducible refine NilBr.mk (fun h => ?_) ?_
        | with_reducible first | refine w_andS ?_ ?_ | refine w_andL ?_ ?_ | refine w_kern (by kernel_rfl) ?_ | refine w_true ?_ | refine w_nd ?_ ?_ | refine w_in ?_ ?_ | refine w_and ?_ ?_
        | ((with_reducible first | refine w_brN (fun h => ?_) (fun h => ?_) | refine w_brD (fun h => ?_) (fun h => ?_) | refine w_br (fun h => ?_) (fun h => ?_)) <;> (try dsimp only [cu, Prod.eta, List.nil_append] at h) <;> (try (exfalso; first | omega | (simp [has_nil] at *; done) | contradiction; done)))))
  all_goals (
 with_reducible refine Leaf.mk ?_
 (try dsimp only [cu, joinT, ckTys, gts, Prod.eta, List.nil_append] at *)
 first
 | (done)
 | (with_reducible rfl)
 | (
  rw [set2 (has_lt2 (by assumption)).1]
  simp only [flipD, knownQ, readQ, listQ, atQ, putQ, appQ, createQ, appendQ, syncQ, truncQ, deleteQ, flipQ, armQ, crashQ, restartQ, doQ, fireB, fireQ, fallQ, has_nil, Int.toNat_natCast, Bool.not_eq_true', Bool.not_eq_false', Bool.and_eq_true, decide_eq_true_eq] at *
  repeat (any_goals split)
  all_goals first | rfl | (exfalso; omega) | (simp_all; done) | (rw [if_neg (by omega)]; rfl) | (simp_all; omega) | grind)
 | (
  simp only [flipD, knownQ, readQ, listQ, atQ, putQ, appQ, createQ, appendQ, syncQ, truncQ, deleteQ, flipQ, armQ, crashQ, restartQ, doQ, fireB, fireQ, fallQ, has_nil, Int.toNat_natCast, Bool.not_eq_true', Bool.not_eq_false', Bool.and_eq_true, decide_eq_true_eq] at *
  repeat (any_goals split)
  all_goals first | rfl | (exfalso; omega) | (simp_all; done) | (rw [if_neg (by omega)]; rfl) | (simp_all; omega) | grind))
abbrev tb16 : Tbl := (20, c_delete_ok) :: tb15
theorem tb16_ok : TblOk Try.prog tb16 := TblOk.cons delete_ok tb15_ok

abbrev c_append_ok : Ct := .mo [shA, .val .str, .val .str] (some (fun (a : (shA).ty.den) (n : ByteArray) (d : ByteArray) => (okQ (toQ a)) ∧ (a.2.1.1 = false → a.2.1.2 = []) ∧ (d.size ≤ 140737488355328))) [.val (.int .i64)] (fun (a : (shA).ty.den) (n : ByteArray) (d : ByteArray) => ((appendQ (toQ a) n d).2, ())) (fun (a : (shA).ty.den) (n : ByteArray) (d : ByteArray) => (mkA a.2.1.1 (appendQ (toQ a) n d).1, n, d, ()))
set_option maxRecDepth 100000 in
set_option maxHeartbeats 4000000 in
theorem append_ok : CtOk Try.prog 18 c_append_ok := by
  refine CtOk.mo tb16_ok mixed [] [47, 44] rfl rfl ?_
  rintro ⟨⟨(c : Int), ⟨(b : Bool), (l : List Obj)⟩, (cr : Bool), (ar : Bool), (w : Int), (k : Int)⟩, (n : ByteArray), (d : ByteArray), _⟩ hpre
  replace hpre := hpre _ rfl
  dsimp only [cu] at hpre
  obtain ⟨hq, ho, hd⟩ := hpre
  obtain ⟨⟨ha, hl, hz⟩, hc, hu, hw0, hw, hk⟩ := hq
  dsimp only at ha hl hz hc hu hw0 hw hk ho
  rcases b with _ | _
  case' false => (have e := ho rfl; subst e)
  all_goals refine ⟨[], ?_⟩
  repeat' (first
    | (
 with_reducible refine Side.mk ?_
 (try dsimp only [cu, joinT, ckTys, gts, loK, hiK, Prod.eta, List.nil_append])
 first
 | (done)
 | (with_reducible rfl)
 | (omega)
 | (exact Eq.refl _)
 | (simp only [List.length_append, List.length_cons, List.length_nil]; omega)
 | (
  have q := pos_le l n
  omega)
 | (
  have q := pos_le [] n
  simp only [List.length_nil] at *
  omega)
 | (
  have q := used_nn l
  omega)
 | (
  have q := used_one (has_lt2 (by assumption)).1
  simp only [Int.toNat_natCast]
  omega)
 | (
  simp only [List.length_set]
  done)
 | (exact ⟨ha, hl⟩)
 | (exact ⟨hl, by omega⟩)
 | (
  have q := (has_lt2 (by assumption)).1
  first
  | (omega)
  | (simp only [List.length_set]; omega))
 | (exact ⟨hl, hz, by simp, hk⟩)
 | (exact ⟨hl, hz, ho, hk⟩)
 | (exact ⟨by rw [List.length_set]; exact hl, fall_z hz (app_z hz hu hc (by assumption) (by assumption)) _, by simp, hk⟩)
 | (exact ⟨hl, hz, ho, by omega⟩))
    | (conv => whnf
       first
        | done
        | exact trivial
        | with_reducible refine NilBr.mk (fun h => ?_) ?_
        | with_reducible first | refine w_andS ?_ ?_ | refine w_andL ?_ ?_ | refine w_kern (by kernel_rfl) ?_ | refine w_true ?_ | refine w_nd ?_ ?_ | refine w_in ?_ ?_ | refine w_and ?_ ?_
        | ((with_reducible first | refine w_brN (fun h => ?_) (fun h => ?_) | refine w_brD (fun h => ?_) (fun h => ?_) | refine w_br (fun h => ?_) (fun h => ?_)) <;> (try dsimp only [cu, Prod.eta, List.nil_append] at h) <;> (try (exfalso; first | omega | (simp [has_nil] at *; done) | contradiction; done)))))
  all_goals (
 with_reducible refine Leaf.mk ?_
 (try dsimp only [cu, joinT, ckTys, gts, Prod.eta, List.nil_append] at *)
 first
 | (done)
 | (with_reducible rfl)
 | (
  rw [set2 (has_lt2 (by assumption)).1]
  simp only [flipD, knownQ, readQ, listQ, atQ, putQ, appQ, createQ, appendQ, syncQ, truncQ, deleteQ, flipQ, armQ, crashQ, restartQ, doQ, fireB, fireQ, fallQ, has_nil, Int.toNat_natCast, Bool.not_eq_true', Bool.not_eq_false', Bool.and_eq_true, decide_eq_true_eq] at *
  repeat (any_goals split)
  all_goals first | rfl | (exfalso; omega) | (simp_all; done) | (rw [if_neg (by omega)]; rfl) | (simp_all; omega) | grind)
 | (
  simp only [flipD, knownQ, readQ, listQ, atQ, putQ, appQ, createQ, appendQ, syncQ, truncQ, deleteQ, flipQ, armQ, crashQ, restartQ, doQ, fireB, fireQ, fallQ, has_nil, Int.toNat_natCast, Bool.not_eq_true', Bool.not_eq_false', Bool.and_eq_true, decide_eq_true_eq] at *
  repeat (any_goals split)
  all_goals first | rfl | (exfalso; omega) | (simp_all; done) | (rw [if_neg (by omega)]; rfl) | (simp_all; omega) | grind))
abbrev tb17 : Tbl := (18, c_append_ok) :: tb16
theorem tb17_ok : TblOk Try.prog tb17 := TblOk.cons append_ok tb16_ok

abbrev c_create_ok : Ct := .mo [shA, .val .str] (some (fun (a : (shA).ty.den) (n : ByteArray) => (okQ (toQ a)) ∧ (a.2.1.1 = false → a.2.1.2 = []) ∧ (n.size ≤ 140737488355328))) [.val (.int .i64)] (fun (a : (shA).ty.den) (n : ByteArray) => ((createQ (toQ a) n).2, ())) (fun (a : (shA).ty.den) (n : ByteArray) => (mkA (a.2.1.1 || decide ((createQ (toQ a) n).2 = 0)) (createQ (toQ a) n).1, n, ()))
set_option maxRecDepth 100000 in
set_option maxHeartbeats 4000000 in
theorem create_ok : CtOk Try.prog 15 c_create_ok := by
  refine CtOk.mo tb17_ok mixed [] [44] rfl rfl ?_
  rintro ⟨⟨(c : Int), ⟨(b : Bool), (l : List Obj)⟩, (cr : Bool), (ar : Bool), (w : Int), (k : Int)⟩, (n : ByteArray), _⟩ hpre
  replace hpre := hpre _ rfl
  dsimp only [cu] at hpre
  obtain ⟨hq, ho, hn⟩ := hpre
  obtain ⟨⟨ha, hl, hz⟩, hc, hu, hw0, hw, hk⟩ := hq
  dsimp only at ha hl hz hc hu hw0 hw hk ho
  rcases b with _ | _
  case' false => (have e := ho rfl; subst e)
  all_goals refine ⟨[], ?_⟩
  repeat' (first
    | (
 with_reducible refine Side.mk ?_
 (try dsimp only [cu, joinT, ckTys, gts, loK, hiK, Prod.eta, List.nil_append])
 first
 | (done)
 | (with_reducible rfl)
 | (omega)
 | (exact Eq.refl _)
 | (simp only [List.length_append, List.length_cons, List.length_nil]; omega)
 | (
  have q := pos_le l n
  omega)
 | (
  have q := pos_le [] n
  simp only [List.length_nil] at *
  omega)
 | (
  have q := used_nn l
  omega)
 | (
  have q := used_one (has_lt2 (by assumption)).1
  simp only [Int.toNat_natCast]
  omega)
 | (
  simp only [List.length_set]
  done)
 | (exact ⟨ha, hl⟩)
 | (exact ⟨hl, by omega⟩)
 | (
  have q := (has_lt2 (by assumption)).1
  first
  | (omega)
  | (simp only [List.length_set]; omega))
 | (exact ⟨hl, hz, by simp, hk⟩)
 | (exact ⟨hl, hz, ho, hk⟩)
 | (exact ⟨by rw [List.length_set]; exact hl, fall_z hz (app_z hz hu hc (by assumption) (by assumption)) _, by simp, hk⟩)
 | (exact ⟨hl, hz, ho, by omega⟩))
    | (conv => whnf
       first
        | done
        | exact trivial
        | with_reducible refine NilBr.mk (fun h => ?_) ?_
        | with_reducible first | refine w_andS ?_ ?_ | refine w_andL ?_ ?_ | refine w_kern (by kernel_rfl) ?_ | refine w_true ?_ | refine w_nd ?_ ?_ | refine w_in ?_ ?_ | refine w_and ?_ ?_
        | ((with_reducible first | refine w_brN (fun h => ?_) (fun h => ?_) | refine w_brD (fun h => ?_) (fun h => ?_) | refine w_br (fun h => ?_) (fun h => ?_)) <;> (try dsimp only [cu, Prod.eta, List.nil_append] at h) <;> (try (exfalso; first | omega | (simp [has_nil] at *; done) | contradiction; done)))))
  all_goals (
 with_reducible refine Leaf.mk ?_
 (try dsimp only [cu, joinT, ckTys, gts, Prod.eta, List.nil_append] at *)
 first
 | (done)
 | (with_reducible rfl)
 | (
  rw [set2 (has_lt2 (by assumption)).1]
  simp only [flipD, knownQ, readQ, listQ, atQ, putQ, appQ, createQ, appendQ, syncQ, truncQ, deleteQ, flipQ, armQ, crashQ, restartQ, doQ, fireB, fireQ, fallQ, has_nil, Int.toNat_natCast, Bool.not_eq_true', Bool.not_eq_false', Bool.and_eq_true, decide_eq_true_eq] at *
  repeat (any_goals split)
  all_goals first | rfl | (exfalso; omega) | (simp_all; done) | (rw [if_neg (by omega)]; rfl) | (simp_all; omega) | grind)
 | (
  simp only [flipD, knownQ, readQ, listQ, atQ, putQ, appQ, createQ, appendQ, syncQ, truncQ, deleteQ, flipQ, armQ, crashQ, restartQ, doQ, fireB, fireQ, fallQ, has_nil, Int.toNat_natCast, Bool.not_eq_true', Bool.not_eq_false', Bool.and_eq_true, decide_eq_true_eq] at *
  repeat (any_goals split)
  all_goals first | rfl | (exfalso; omega) | (simp_all; done) | (rw [if_neg (by omega)]; rfl) | (simp_all; omega) | grind))
abbrev tb18 : Tbl := (15, c_create_ok) :: tb17
theorem tb18_ok : TblOk Try.prog tb18 := TblOk.cons create_ok tb17_ok

abbrev c_flip_ok : Ct := .mo [shA, .val .str, .val (.int .i64), .val (.int .u8)] (some (fun (a : (shA).ty.den) (n : ByteArray) (x : Int) (y : Int) => (okQ (toQ a)) ∧ (a.2.1.1 = false → a.2.1.2 = []))) [.val (.int .i64)] (fun (a : (shA).ty.den) (n : ByteArray) (x : Int) (y : Int) => ((flipQ (toQ a) n x y).2, ())) (fun (a : (shA).ty.den) (n : ByteArray) (x : Int) (y : Int) => (mkA a.2.1.1 (flipQ (toQ a) n x y).1, n, x, y, ()))
set_option maxRecDepth 100000 in
set_option maxHeartbeats 4000000 in
theorem flip_ok : CtOk Try.prog 36 c_flip_ok := by
  refine CtOk.mo tb18_ok mixed [] [47] rfl rfl ?_
  rintro ⟨⟨(c : Int), ⟨(b : Bool), (l : List Obj)⟩, (cr : Bool), (ar : Bool), (w : Int), (k : Int)⟩, (n : ByteArray), (x : Int), (y : Int), _⟩ hpre
  replace hpre := hpre _ rfl
  dsimp only [cu] at hpre
  obtain ⟨hq, ho⟩ := hpre
  obtain ⟨⟨ha, hl, hz⟩, hc, hu, hw0, hw, hk⟩ := hq
  dsimp only at ha hl hz hc hu hw0 hw hk ho
  rcases b with _ | _
  case' false => (have e := ho rfl; subst e)
  all_goals refine ⟨[], ?_⟩
  repeat' (first
    | (
 with_reducible refine Side.mk ?_
 (try dsimp only [cu, joinT, ckTys, gts, loK, hiK, Prod.eta, List.nil_append])
 first
 | (done)
 | (with_reducible rfl)
 | (omega)
 | (exact Eq.refl _)
 | (simp only [List.length_append, List.length_cons, List.length_nil]; omega)
 | (
  rw [toI_len]
  omega)
 | (rw [List.length_set, toI_len])
 | (
  have q := pos_le l n
  omega)
 | (
  have q := pos_le [] n
  simp only [List.length_nil] at *
  omega)
 | (
  have q := used_nn l
  omega)
 | (
  have q := used_one (has_lt2 (by assumption)).1
  simp only [Int.toNat_natCast]
  omega)
 | (
  simp only [List.length_set]
  done)
 | (exact ⟨ha, hl⟩)
 | (exact ⟨hl, by omega⟩)
 | (
  have q := (has_lt2 (by assumption)).1
  first
  | (omega)
  | (simp only [List.length_set]; omega))
 | (exact ⟨hl, hz, by simp, hk⟩)
 | (exact ⟨hl, hz, ho, hk⟩)
 | (exact ⟨by rw [List.length_set]; exact hl, fall_z hz (app_z hz hu hc (by assumption) (by assumption)) _, by simp, hk⟩)
 | (exact ⟨hl, hz, ho, by omega⟩))
    | (conv => whnf
       first
        | done
        | exact trivial
        | with_reducible refine NilBr.mk (fun h => ?_) ?_
        | with_reducible first | refine w_andS ?_ ?_ | refine w_andL ?_ ?_ | refine w_kern (by kernel_rfl) ?_ | refine w_true ?_ | refine w_nd ?_ ?_ | refine w_in ?_ ?_ | refine w_and ?_ ?_
        | ((with_reducible first | refine w_brN (fun h => ?_) (fun h => ?_) | refine w_brD (fun h => ?_) (fun h => ?_) | refine w_br (fun h => ?_) (fun h => ?_)) <;> (try dsimp only [cu, Prod.eta, List.nil_append] at h) <;> (try (exfalso; first | omega | (simp [has_nil] at *; done) | contradiction; done)))))
  all_goals (
 with_reducible refine Leaf.mk ?_
 (try dsimp only [cu, joinT, ckTys, gts, Prod.eta, List.nil_append] at *)
 first
 | (done)
 | (with_reducible rfl)
 | (
  rw [set2 (has_lt2 (by assumption)).1]
  simp only [flipD, knownQ, readQ, listQ, atQ, putQ, appQ, createQ, appendQ, syncQ, truncQ, deleteQ, flipQ, armQ, crashQ, restartQ, doQ, fireB, fireQ, fallQ, has_nil, Int.toNat_natCast, Bool.not_eq_true', Bool.not_eq_false', Bool.and_eq_true, decide_eq_true_eq] at *
  repeat (any_goals split)
  all_goals first | rfl | (exfalso; omega) | (simp_all; done) | (rw [if_neg (by omega)]; rfl) | (simp_all; omega) | grind)
 | (
  simp only [flipD, knownQ, readQ, listQ, atQ, putQ, appQ, createQ, appendQ, syncQ, truncQ, deleteQ, flipQ, armQ, crashQ, restartQ, doQ, fireB, fireQ, fallQ, has_nil, Int.toNat_natCast, Bool.not_eq_true', Bool.not_eq_false', Bool.and_eq_true, decide_eq_true_eq] at *
  repeat (any_goals split)
  all_goals first | rfl | (exfalso; omega) | (simp_all; done) | (rw [if_neg (by omega)]; rfl) | (simp_all; omega) | grind))
abbrev tb19 : Tbl := (36, c_flip_ok) :: tb18
theorem tb19_ok : TblOk Try.prog tb19 := TblOk.cons flip_ok tb18_ok

abbrev c_state_ok : Ct := .mo [shA] (some (fun (a : (shA).ty.den) => (okQ (toQ a)) ∧ (a.2.1.1 = false → a.2.1.2 = []))) [.own tObj 42] (fun (a : (shA).ty.den) => (a.2.1, ())) (fun (a : (shA).ty.den) => (mkA a.2.1.1 (toQ a), ()))
set_option maxRecDepth 100000 in
set_option maxHeartbeats 4000000 in
theorem state_ok : CtOk Try.prog 26 c_state_ok := by
  refine CtOk.mo tb19_ok mixed [] [49] rfl rfl ?_
  rintro ⟨⟨(c : Int), ⟨(b : Bool), (l : List Obj)⟩, (cr : Bool), (ar : Bool), (w : Int), (k : Int)⟩, _⟩ hpre
  replace hpre := hpre _ rfl
  dsimp only [cu] at hpre
  obtain ⟨hq, ho⟩ := hpre
  obtain ⟨⟨ha, hl, hz⟩, hc, hu, hw0, hw, hk⟩ := hq
  dsimp only at ha hl hz hc hu hw0 hw hk ho
  rcases b with _ | _
  case' false => (have e := ho rfl; subst e)
  all_goals refine ⟨[], ?_⟩
  repeat' (first
    | (
 with_reducible refine Side.mk ?_
 (try dsimp only [cu, joinT, ckTys, gts, loK, hiK, Prod.eta, List.nil_append])
 first
 | (done)
 | (with_reducible rfl)
 | (omega)
 | (exact Eq.refl _)
 | (simp only [List.length_append, List.length_cons, List.length_nil]; omega)
 | (
  have q := pos_le l n
  omega)
 | (
  have q := pos_le [] n
  simp only [List.length_nil] at *
  omega)
 | (
  have q := used_nn l
  omega)
 | (
  have q := used_one (has_lt2 (by assumption)).1
  simp only [Int.toNat_natCast]
  omega)
 | (
  simp only [List.length_set]
  done)
 | (exact ⟨ha, hl⟩)
 | (exact ⟨hl, by omega⟩)
 | (
  have q := (has_lt2 (by assumption)).1
  first
  | (omega)
  | (simp only [List.length_set]; omega))
 | (exact ⟨hl, hz, by simp, hk⟩)
 | (exact ⟨hl, hz, ho, hk⟩)
 | (exact ⟨by rw [List.length_set]; exact hl, fall_z hz (app_z hz hu hc (by assumption) (by assumption)) _, by simp, hk⟩)
 | (exact ⟨hl, hz, ho, by omega⟩))
    | (conv => whnf
       first
        | done
        | exact trivial
        | with_reducible refine NilBr.mk (fun h => ?_) ?_
        | with_reducible first | refine w_andS ?_ ?_ | refine w_andL ?_ ?_ | refine w_kern (by kernel_rfl) ?_ | refine w_true ?_ | refine w_nd ?_ ?_ | refine w_in ?_ ?_ | refine w_and ?_ ?_
        | ((with_reducible first | refine w_brN (fun h => ?_) (fun h => ?_) | refine w_brD (fun h => ?_) (fun h => ?_) | refine w_br (fun h => ?_) (fun h => ?_)) <;> (try dsimp only [cu, Prod.eta, List.nil_append] at h) <;> (try (exfalso; first | omega | (simp [has_nil] at *; done) | contradiction; done)))))
  all_goals (
 with_reducible refine Leaf.mk ?_
 (try dsimp only [cu, joinT, ckTys, gts, Prod.eta, List.nil_append] at *)
 first
 | (done)
 | (with_reducible rfl)
 | (
  rw [set2 (has_lt2 (by assumption)).1]
  simp only [flipD, knownQ, readQ, listQ, atQ, putQ, appQ, createQ, appendQ, syncQ, truncQ, deleteQ, flipQ, armQ, crashQ, restartQ, doQ, fireB, fireQ, fallQ, has_nil, Int.toNat_natCast, Bool.not_eq_true', Bool.not_eq_false', Bool.and_eq_true, decide_eq_true_eq] at *
  repeat (any_goals split)
  all_goals first | rfl | (exfalso; omega) | (simp_all; done) | (rw [if_neg (by omega)]; rfl) | (simp_all; omega) | grind)
 | (
  simp only [flipD, knownQ, readQ, listQ, atQ, putQ, appQ, createQ, appendQ, syncQ, truncQ, deleteQ, flipQ, armQ, crashQ, restartQ, doQ, fireB, fireQ, fallQ, has_nil, Int.toNat_natCast, Bool.not_eq_true', Bool.not_eq_false', Bool.and_eq_true, decide_eq_true_eq] at *
  repeat (any_goals split)
  all_goals first | rfl | (exfalso; omega) | (simp_all; done) | (rw [if_neg (by omega)]; rfl) | (simp_all; omega) | grind))
abbrev tb20 : Tbl := (26, c_state_ok) :: tb19
theorem tb20_ok : TblOk Try.prog tb20 := TblOk.cons state_ok tb19_ok

abbrev c_list_ok : Ct := .mo [shA] (some (fun (a : (shA).ty.den) => (okQ (toQ a)) ∧ (a.2.1.1 = false → a.2.1.2 = []))) [.opt .str 9] (fun (a : (shA).ty.den) => (listQ (toQ a), ())) (fun (a : (shA).ty.den) => (mkA a.2.1.1 (toQ a), ()))
set_option maxRecDepth 100000 in
set_option maxHeartbeats 4000000 in
theorem list_ok : CtOk Try.prog 29 c_list_ok := by
  refine CtOk.mo tb20_ok mixed [(0, 2, 7000002)] [] rfl rfl ?_
  rintro ⟨⟨(c : Int), ⟨(b : Bool), (l : List Obj)⟩, (cr : Bool), (ar : Bool), (w : Int), (k : Int)⟩, _⟩ hpre
  replace hpre := hpre _ rfl
  dsimp only [cu] at hpre
  obtain ⟨hq, ho⟩ := hpre
  obtain ⟨⟨ha, hl, hz⟩, hc, hu, hw0, hw, hk⟩ := hq
  dsimp only at ha hl hz hc hu hw0 hw hk ho
  rcases b with _ | _
  case' false => (have e := ho rfl; subst e)
  case' false => refine ⟨[(0, 10, LA.mk [.sl 15 (.int .i64), .lst 3 .str 9] (fun y => Tag 9 ∧ cu [.int .i64, .list .str] (fun (g : Int) (m : List ByteArray) => (0 ≤ g ∧ g ≤ 0) ∧ (m = [])) y) (cu [.int .i64, .list .str] (fun (g : Int) (m : List ByteArray) => ((0 : Int) - g).toNat)) (cu [.int .i64, .list .str] (fun (g : Int) (m : List ByteArray) => ([] : List (Nat × Nat × LA)))))], ?_⟩
  case' true => refine ⟨[(0, 10, LA.mk [.sl 15 (.int .i64), .lst 3 .str 9] (fun y => Tag 10 ∧ cu [.int .i64, .list .str] (fun (g : Int) (m : List ByteArray) => (0 ≤ g ∧ g ≤ l.length) ∧ (m = nmS (l.take g.toNat))) y) (cu [.int .i64, .list .str] (fun (g : Int) (m : List ByteArray) => ((l.length : Int) - g).toNat)) (cu [.int .i64, .list .str] (fun (g : Int) (m : List ByteArray) => ([] : List (Nat × Nat × LA)))))], ?_⟩
  repeat' (first
    | (
 with_reducible refine Side.mk ⟨(⟨⟩ : Tag 9), ?_⟩
 dsimp only [cu, joinT, ckTys, gts, Prod.eta, List.nil_append]
 refine ⟨?_, ?_⟩
 · omega
 · first
   | (rfl)
   | (exact hs))
    | (
 with_reducible refine Side.mk ⟨(⟨⟩ : Tag 10), ?_⟩
 dsimp only [cu, joinT, ckTys, gts, Prod.eta, List.nil_append]
 refine ⟨?_, ?_⟩
 · omega
 · first
   | (rfl)
   | (exact nm_succ hs (by omega)))
    | (
 with_reducible refine Side.mk ?_
 (try dsimp only [cu, joinT, ckTys, gts, loK, hiK, Prod.eta, List.nil_append])
 first
 | (done)
 | (with_reducible rfl)
 | (omega)
 | (exact Eq.refl _)
 | (simp only [List.length_append, List.length_cons, List.length_nil]; omega)
 | (
  have q : m.length ≤ 4096 := by rw [hs, nm_len, List.length_take]; omega
  simp only [List.length_cons, List.length_nil]
  omega)
 | (
  have q := pos_le l n
  omega)
 | (
  have q := pos_le [] n
  simp only [List.length_nil] at *
  omega)
 | (
  have q := used_nn l
  omega)
 | (
  have q := used_one (has_lt2 (by assumption)).1
  simp only [Int.toNat_natCast]
  omega)
 | (
  simp only [List.length_set]
  done)
 | (exact ⟨ha, hl⟩)
 | (exact ⟨hl, by omega⟩)
 | (
  have q := (has_lt2 (by assumption)).1
  first
  | (omega)
  | (simp only [List.length_set]; omega))
 | (exact ⟨hl, hz, by simp, hk⟩)
 | (exact ⟨hl, hz, ho, hk⟩)
 | (exact ⟨by rw [List.length_set]; exact hl, fall_z hz (app_z hz hu hc (by assumption) (by assumption)) _, by simp, hk⟩)
 | (exact ⟨hl, hz, ho, by omega⟩))
    | (conv => whnf
       first
        | done
        | exact trivial
        | with_reducible refine NilBr.mk (fun h => ?_) ?_
        | with_reducible first | refine w_andS ?_ ?_ | refine w_andL ?_ ?_ | refine w_kern (by kernel_rfl) ?_ | refine w_true ?_ | refine w_nd ?_ ?_ | refine w_in ?_ ?_ | refine w_and ?_ ?_
        | ((with_reducible first | refine w_brN (fun h => ?_) (fun h => ?_) | refine w_brD (fun h => ?_) (fun h => ?_) | refine w_br (fun h => ?_) (fun h => ?_)) <;> (try dsimp only [cu, Prod.eta, List.nil_append] at h) <;> (try (exfalso; first | omega | (simp [has_nil] at *; done) | contradiction; done)))
        | (
 intro yy (hy : Tag 9 ∧ _)
 obtain ⟨(g : Int), (m : List ByteArray), _⟩ := yy
 replace hy := hy.2
 dsimp only [cu, joinT, ckTys, gts, Prod.eta, List.nil_append] at hy
 obtain ⟨hg, hs⟩ := hy)
        | (
 intro yy (hy : Tag 10 ∧ _)
 obtain ⟨(g : Int), (m : List ByteArray), _⟩ := yy
 replace hy := hy.2
 dsimp only [cu, joinT, ckTys, gts, Prod.eta, List.nil_append] at hy
 obtain ⟨hg, hs⟩ := hy)))
  all_goals (
 with_reducible refine Leaf.mk ?_
 (try dsimp only [cu, joinT, ckTys, gts, Prod.eta, List.nil_append] at *)
 first
 | (done)
 | (
  simp only [listQ]
  simp_all
  done)
 | (
  rw [hs]
  first
  | (
   simp [listQ, nmS]
   done)
  | (
   simp only [listQ, nmS]
   rw [List.take_of_length_le (by omega)]
   simp_all))
 | (with_reducible rfl)
 | (
  rw [set2 (has_lt2 (by assumption)).1]
  simp only [flipD, knownQ, readQ, listQ, atQ, putQ, appQ, createQ, appendQ, syncQ, truncQ, deleteQ, flipQ, armQ, crashQ, restartQ, doQ, fireB, fireQ, fallQ, has_nil, Int.toNat_natCast, Bool.not_eq_true', Bool.not_eq_false', Bool.and_eq_true, decide_eq_true_eq] at *
  repeat (any_goals split)
  all_goals first | rfl | (exfalso; omega) | (simp_all; done) | (rw [if_neg (by omega)]; rfl) | (simp_all; omega) | grind)
 | (
  simp only [flipD, knownQ, readQ, listQ, atQ, putQ, appQ, createQ, appendQ, syncQ, truncQ, deleteQ, flipQ, armQ, crashQ, restartQ, doQ, fireB, fireQ, fallQ, has_nil, Int.toNat_natCast, Bool.not_eq_true', Bool.not_eq_false', Bool.and_eq_true, decide_eq_true_eq] at *
  repeat (any_goals split)
  all_goals first | rfl | (exfalso; omega) | (simp_all; done) | (rw [if_neg (by omega)]; rfl) | (simp_all; omega) | grind))
abbrev tb21 : Tbl := (29, c_list_ok) :: tb20
theorem tb21_ok : TblOk Try.prog tb21 := TblOk.cons list_ok tb20_ok

end Go.Proofs.Ytpjgjkoajoiopaa
