/- Contracts of the makers of schemas and predicates. -/
import Derived.Test.YtinehkfcploeiaaKNode
namespace Go.Proofs.Ytinehkfcploeiaa
open Go.Abs
set_option linter.unusedVariables false
set_option linter.unusedSimpArgs false

def kNodes : Nat → Src → Schema → List Nd → List Nd
  | 0, s, x, acc => acc
  | n + 1, s, x, acc => kNodes n (kNode s x acc.length).2 x (acc ++ [(kNode s x acc.length).1])
theorem kNodes_step {k : Int} (h : k > 0) (s : Src) (x : Schema) (acc : List Nd) : kNodes k.toNat s x acc = kNodes (k - 1).toNat (kNode s x acc.length).2 x (acc ++ [(kNode s x acc.length).1]) := by
  rw [show k.toNat = (k - 1).toNat + 1 by omega]; rfl
def kPred (x : Schema) (l : List Int) : List Nd := kNodes (Src.pick (l, 0) 8).toNat (Src.next (l, 0)) x []
abbrev ABCD : ByteArray := ⟨#[97, 98, 99, 100]⟩
def kCol (s : Src) (n : Int) : Col × Src :=
  if 1 + Src.pick s 5 = 5 then (⟨ABCD.extract (n - 1).toNat n.toNat, 1 + Src.pick s 5, Src.pick (Src.next (Src.next s)) 4, decide (Src.pick (Src.next s) 2 = 0)⟩, Src.next (Src.next (Src.next s)))
  else (⟨ABCD.extract (n - 1).toNat n.toNat, 1 + Src.pick s 5, 0, decide (Src.pick (Src.next s) 2 = 0)⟩, Src.next (Src.next s))
def kCols : Nat → Src → List Col → List Col × Src
  | 0, s, acc => (acc, s)
  | n + 1, s, acc => kCols n (kCol s (n + 1)).2 (acc ++ [(kCol s (n + 1)).1])
theorem kCols_step {k : Int} (h : k > 0) (s : Src) (acc : List Col) : kCols k.toNat s acc = kCols (k - 1).toNat (kCol s k).2 (acc ++ [(kCol s k).1]) := by
  obtain ⟨n, rfl⟩ : ∃ n : Nat, k = (n : Int) + 1 := ⟨(k - 1).toNat, by omega⟩
  rw [show ((n : Int) + 1).toNat = n + 1 by omega, show ((n : Int) + 1 - 1).toNat = n by omega]; rfl
def kSchema (l : List Int) : Schema := ⟨(kCols (1 + Src.pick (l, 0) 4).toNat (Src.next (l, 0)) []).1, Src.pick (kCols (1 + Src.pick (l, 0) 4).toNat (Src.next (l, 0)) []).2 (kCols (1 + Src.pick (l, 0) 4).toNat (Src.next (l, 0)) []).1.length⟩


theorem abcd_size : (ByteArray.mk #[97, 98, 99, 100]).size = 4 := rfl

abbrev c_kpred_ok : Ct := .fn [tSchema, .list (.int .i64)] (some (fun (x : Schema) (l : List Int) => (1 ≤ x.1.length ∧ x.1.length ≤ 12) ∧ (l.length ≤ 9223372036854775807))) (fun (x : Schema) (l : List Int) => .d (.list tNd) (kPred x l))
set_option maxRecDepth 100000 in
set_option maxHeartbeats 4000000 in
theorem kpred_ok : CtOk Try.prog 18 c_kpred_ok := by
  refine CtOk.fn tb46_ok mixed [] [] rfl rfl ?_
  rintro ⟨(x : Schema), (l : List Int), _⟩ hpre
  replace hpre := hpre _ rfl
  dsimp only [cu] at hpre
  obtain ⟨hx, hl⟩ := hpre
  refine ⟨[(0, 8, LA.mk [.sl 7 (.int .i64), .lst 6 tNd 26, .ob 1 tSrc 85] (fun y => Tag 22 ∧ cu [.int .i64, .list tNd, tSrc] (fun (k : Int) (P : List Nd) (q : Src) => (0 ≤ k ∧ k ≤ 7) ∧ (Src.ok q) ∧ ((P.length : Int) ≤ 7 - k) ∧ (kPred x l = kNodes k.toNat q x P)) y) (cu [.int .i64, .list tNd, tSrc] (fun (k : Int) (P : List Nd) (q : Src) => k.toNat)) (cu [.int .i64, .list tNd, tSrc] (fun (k : Int) (P : List Nd) (q : Src) => ([] : List (Nat × Nat × LA)))))], ?_⟩
  repeat' (first
    | (
 with_reducible refine Side.mk ⟨(⟨⟩ : Tag 22), ?_⟩
 dsimp only [cu, joinT, ckTys, gts, Prod.eta, List.nil_append]
 refine ⟨?_, ?_, ?_, ?_⟩
 · first
   | (omega)
   | (have := @Src.pick_lt; grind)
 · (repeat (first | assumption | exact Src.ok_from (by assumption) | apply Src.ok_next | apply kValue_ok | apply kNode_ok))
 · first
   | (have := @Src.pick_lt; grind)
   | (simp only [List.length_append, List.length_cons, List.length_nil]; omega)
 · first
   | (rfl)
   | (rw [hg, kNodes_step (by assumption)]))
    | (
 with_reducible refine Side.mk ?_
 (try dsimp only [cu, joinT, ckTys, gts, loK, hiK, Prod.eta, List.nil_append])
 first
 | (done)
 | (with_reducible rfl)
 | (omega)
 | (exact Eq.refl _)
 | (simp only [List.length_append, List.length_cons, List.length_nil]; omega)
 | (
  refine ⟨?_, by decide⟩
  (repeat (first | assumption | exact Src.ok_from (by assumption) | apply Src.ok_next | apply kValue_ok | apply kNode_ok)); done)
 | (exact ⟨by assumption, by assumption, by omega⟩)
 | ((repeat (first | assumption | exact Src.ok_from (by assumption) | apply Src.ok_next | apply kValue_ok | apply kNode_ok)); done))
    | (conv => whnf
       first
        | done
        | exact trivial
        | with_reducible refine NilBr.mk (fun h => ?_) ?_
        | with_reducible first | refine w_andS ?_ ?_ | refine w_andL ?_ ?_ | refine w_kern (by kernel_rfl) ?_ | refine w_true ?_ | refine w_nd ?_ ?_ | refine w_in ?_ ?_ | refine w_and ?_ ?_
        | ((with_reducible first | refine w_brN (fun h => ?_) (fun h => ?_) | refine w_brD (fun h => ?_) (fun h => ?_) | refine w_br (fun h => ?_) (fun h => ?_)) <;> (try dsimp only [cu, Prod.eta, List.nil_append] at h) <;> (try (exfalso; omega; done)))
        | (
 intro yy (hy : Tag 22 ∧ _)
 obtain ⟨(k : Int), (P : List Nd), (q : Src), _⟩ := yy
 replace hy := hy.2
 dsimp only [cu, joinT, ckTys, gts, Prod.eta, List.nil_append] at hy
 obtain ⟨hk, hq, hv, hg⟩ := hy)))
  all_goals (
 with_reducible refine Leaf.mk ?_
 (try dsimp only [cu, joinT, ckTys, gts, Prod.eta, List.nil_append] at *)
 first
 | (done)
 | (
  rw [hg, show k.toNat = 0 by omega]
  rfl))
abbrev tb47 : Tbl := (18, c_kpred_ok) :: tb46
theorem tb47_ok : TblOk Try.prog tb47 := TblOk.cons kpred_ok tb46_ok

abbrev c_kschema_ok : Ct := .fn [.list (.int .i64)] (some (fun (l : List Int) => (l.length ≤ 9223372036854775807))) (fun (l : List Int) => .d tSchema (kSchema l))
set_option maxRecDepth 100000 in
set_option maxHeartbeats 4000000 in
theorem kschema_ok : CtOk Try.prog 17 c_kschema_ok := by
  refine CtOk.fn tb47_ok mixed [] [] rfl rfl ?_
  rintro ⟨(l : List Int), _⟩ hpre
  replace hpre := hpre _ rfl
  dsimp only [cu] at hpre
  have hl := hpre
  have hp0 := Src.pick_lt (s := (l, 0)) (n := 4) (by decide)
  refine ⟨[(0, 8, LA.mk [.sl 5 (.int .i64), .row 2 [.own tCol 47, .same], .ob 1 tSrc 85] (fun y => Tag 23 ∧ cu [.int .i64, .list tCol, tSrc] (fun (k : Int) (C : List Col) (q : Src) => (0 ≤ k ∧ k ≤ 4) ∧ (Src.ok q) ∧ ((C.length : Int) = 1 + Src.pick (l, 0) 4 - k) ∧ (kCols (1 + Src.pick (l, 0) 4).toNat (Src.next (l, 0)) [] = kCols k.toNat q C)) y) (cu [.int .i64, .list tCol, tSrc] (fun (k : Int) (C : List Col) (q : Src) => k.toNat)) (cu [.int .i64, .list tCol, tSrc] (fun (k : Int) (C : List Col) (q : Src) => ([] : List (Nat × Nat × LA)))))], ?_⟩
  repeat' (first
    | (
 with_reducible refine Side.mk ⟨(⟨⟩ : Tag 23), ?_⟩
 dsimp only [cu, joinT, ckTys, gts, Prod.eta, List.nil_append]
 refine ⟨?_, ?_, ?_, ?_⟩
 · first
   | (omega)
   | (have := @Src.pick_lt; grind)
 · (repeat (first | assumption | exact Src.ok_from (by assumption) | apply Src.ok_next | apply kValue_ok | apply kNode_ok))
 · first
   | (simp only [List.length_nil]; omega)
   | (simp only [List.length_append, List.length_cons, List.length_nil]; omega)
 · first
   | (rfl)
   | (
  rw [hg, kCols_step (by assumption)]
  simp [kCol, *]))
    | (
 with_reducible refine Side.mk ?_
 (try dsimp only [cu, joinT, ckTys, gts, loK, hiK, Prod.eta, List.nil_append])
 first
 | (done)
 | (with_reducible rfl)
 | (omega)
 | (exact Eq.refl _)
 | (simp only [List.length_append, List.length_cons, List.length_nil]; omega)
 | (rw [abcd_size]; omega)
 | (
  refine ⟨?_, by first | decide | exact u64_ne (by omega)⟩
  (repeat (first | assumption | exact Src.ok_from (by assumption) | apply Src.ok_next | apply kValue_ok | apply kNode_ok)); done)
 | ((repeat (first | assumption | exact Src.ok_from (by assumption) | apply Src.ok_next | apply kValue_ok | apply kNode_ok)); done)
 | (have := @Src.pick_lt; grind))
    | (conv => whnf
       first
        | done
        | exact trivial
        | with_reducible refine NilBr.mk (fun h => ?_) ?_
        | with_reducible first | refine w_andS ?_ ?_ | refine w_andL ?_ ?_ | refine w_kern (by kernel_rfl) ?_ | refine w_true ?_ | refine w_nd ?_ ?_ | refine w_in ?_ ?_ | refine w_and ?_ ?_
        | ((with_reducible first | refine w_brN (fun h => ?_) (fun h => ?_) | refine w_brD (fun h => ?_) (fun h => ?_) | refine w_br (fun h => ?_) (fun h => ?_)) <;> (try dsimp only [cu, Prod.eta, List.nil_append] at h) <;> (try (exfalso; omega; done)))
        | (
 intro yy (hy : Tag 23 ∧ _)
 obtain ⟨(k : Int), (C : List Col), (q : Src), _⟩ := yy
 replace hy := hy.2
 dsimp only [cu, joinT, ckTys, gts, Prod.eta, List.nil_append] at hy
 obtain ⟨hk, hq, hv, hg⟩ := hy)))
  all_goals (
 with_reducible refine Leaf.mk ?_
 (try dsimp only [cu, joinT, ckTys, gts, Prod.eta, List.nil_append] at *)
 first
 | (done)
 | (
  rw [show k.toNat = 0 by omega, kCols] at hg
  simp [kSchema, hg]))
abbrev tb48 : Tbl := (17, c_kschema_ok) :: tb47
theorem tb48_ok : TblOk Try.prog tb48 := TblOk.cons kschema_ok tb47_ok

end Go.Proofs.Ytinehkfcploeiaa
