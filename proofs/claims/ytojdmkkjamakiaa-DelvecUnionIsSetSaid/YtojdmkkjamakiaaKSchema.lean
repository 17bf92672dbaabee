/- Contracts of the makers of schemas. -/
import Derived.Test.YtojdmkkjamakiaaLoose
namespace Go.Proofs.Ytojdmkkjamakiaa
open Go.Abs
set_option linter.unusedVariables false
set_option linter.unusedSimpArgs false

abbrev ABCD : ByteArray := ⟨#[97, 98, 99, 100]⟩
def kCol (s : Src) (n : Int) : Col × Src :=
  if 1 + Src.pick s 5 = 5 then (⟨ABCD.extract (n - 1).toNat n.toNat, 1 + Src.pick s 5, Src.pick (Src.next (Src.next s)) 4, decide (Src.pick (Src.next s) 2 = 0)⟩, Src.next (Src.next (Src.next s)))
  else (⟨ABCD.extract (n - 1).toNat n.toNat, 1 + Src.pick s 5, 0, decide (Src.pick (Src.next s) 2 = 0)⟩, Src.next (Src.next s))
def kCols : Nat → Src → List Col → List Col × Src
  | 0, s, acc => (acc, s)
  | n + 1, s, acc => kCols n (kCol s (n + 1)).2 (acc ++ [(kCol s (n + 1)).1])
theorem kCols_step {k : Int} (h : k > 0) (s : Src) (acc : List Col) : kCols k.toNat s acc = kCols (k - 1).toNat (kCol s k).2 (acc ++ [(kCol s k).1]) := by
  obtain ⟨n, rfl⟩ : ∃ n : Nat, k = (n : Int) + 1 := ⟨(k - 1).toNat, by omega⟩
  rw [show ((n : Int) + 1).toNat = n + 1 by omega, show ((n : Int) + 1 - 1).toNat = n by omega]; rfl
def kSchema (l : List Int) : Schema := ⟨(kCols (1 + Src.pick (l, 0) 4).toNat (Src.next (l, 0)) []).1, Src.pick (kCols (1 + Src.pick (l, 0) 4).toNat (Src.next (l, 0)) []).2 (kCols (1 + Src.pick (l, 0) 4).toNat (Src.next (l, 0)) []).1.length⟩


theorem abcd_size : (ByteArray.mk #[97, 98, 99, 100]).size = 4 := rfl

abbrev c_kschema_ok : Ct := .fn [.list (.int .i64)] (some (fun (l : List Int) => (l.length ≤ 9223372036854775807))) (fun (l : List Int) => .d tSchema (kSchema l))
set_option maxRecDepth 100000 in
set_option maxHeartbeats 4000000 in
theorem kschema_ok : CtOk Try.prog 16 c_kschema_ok := by
  refine CtOk.fn tb31_ok mixed [] [] rfl rfl ?_
  rintro ⟨(l : List Int), _⟩ hpre
  replace hpre := hpre _ rfl
  dsimp only [cu] at hpre
  have hl := hpre
  have hp0 := Src.pick_lt (s := (l, 0)) (n := 4) (by decide)
  refine ⟨[(0, 8, LA.mk [.sl 5 (.int .i64), .row 2 [.own tCol 66, .same], .ob 1 tSrc 83] (fun y => Tag 21 ∧ cu [.int .i64, .list tCol, tSrc] (fun (k : Int) (C : List Col) (q : Src) => (0 ≤ k ∧ k ≤ 4) ∧ (Src.ok q) ∧ ((C.length : Int) = 1 + Src.pick (l, 0) 4 - k) ∧ (kCols (1 + Src.pick (l, 0) 4).toNat (Src.next (l, 0)) [] = kCols k.toNat q C)) y) (cu [.int .i64, .list tCol, tSrc] (fun (k : Int) (C : List Col) (q : Src) => k.toNat)) (cu [.int .i64, .list tCol, tSrc] (fun (k : Int) (C : List Col) (q : Src) => ([] : List (Nat × Nat × LA)))))], ?_⟩
  repeat' (first
    | (with_reducible refine Side.mk ⟨(⟨⟩ : Tag 21), ?_⟩
       dsimp only [cu, joinT, ckTys, gts, Prod.eta, List.nil_append]
       refine ⟨?_, ?_, ?_, ?_⟩
       · first
         | (omega)
         | (have := @Src.pick_lt; grind)
       · (repeat (first | assumption | exact Src.ok_from (by assumption) | apply Src.ok_next | apply kValue_ok | apply kNode_ok))
       · first
         | (simp only [List.length_nil]; omega)
         | (simp only [List.length_append, List.length_cons, List.length_nil]; omega)
       · first
         | (rfl)
         | (rw [hg, kCols_step (by assumption)]
            simp [kCol, *]))
    | (with_reducible refine Side.mk ?_
       (try dsimp only [cu, joinT, ckTys, gts, loK, hiK, Prod.eta, List.nil_append])
       first
       | (done)
       | (with_reducible rfl)
       | (omega)
       | (exact Eq.refl _)
       | (simp only [List.length_append, List.length_cons, List.length_nil]; omega)
       | (rw [abcd_size]; omega)
       | (refine ⟨?_, by first | decide | exact u64_ne (by omega)⟩
          (repeat (first | assumption | exact Src.ok_from (by assumption) | apply Src.ok_next | apply kValue_ok | apply kNode_ok)); done)
       | ((repeat (first | assumption | exact Src.ok_from (by assumption) | apply Src.ok_next | apply kValue_ok | apply kNode_ok)); done)
       | (have := @Src.pick_lt; grind))
    | (conv => whnf
       first
        | done
        | exact trivial
        | with_reducible refine NilBr.mk (fun h => ?_) ?_
        | with_reducible refine w_andS ?_ ?_
        | with_reducible refine w_andL ?_ ?_
        | with_reducible refine w_kern (by kernel_rfl) ?_
        | with_reducible refine w_true ?_
        | with_reducible refine w_nd ?_ ?_
        | with_reducible refine w_in ?_ ?_
        | with_reducible refine w_and ?_ ?_
        | (with_reducible refine w_brN (fun h => ?_) (fun h => ?_) <;> (try dsimp only [cu, Prod.eta, List.nil_append] at h) <;> (try (exfalso; omega; done)))
        | (with_reducible refine w_brD (fun h => ?_) (fun h => ?_) <;> (try dsimp only [cu, Prod.eta, List.nil_append] at h) <;> (try (exfalso; omega; done)))
        | (with_reducible refine w_br (fun h => ?_) (fun h => ?_) <;> (try dsimp only [cu, Prod.eta, List.nil_append] at h) <;> (try (exfalso; omega; done)))
        | (intro yy (hy : Tag 21 ∧ _)
           obtain ⟨(k : Int), (C : List Col), (q : Src), _⟩ := yy
           replace hy := hy.2
           dsimp only [cu, joinT, ckTys, gts, Prod.eta, List.nil_append] at hy
           obtain ⟨hk, hq, hv, hg⟩ := hy)))
  all_goals (with_reducible refine Leaf.mk ?_
             (try dsimp only [cu, joinT, ckTys, gts, Prod.eta, List.nil_append] at *)
             first
             | (done)
             | (rw [show k.toNat = 0 by omega, kCols] at hg
                simp [kSchema, hg]))
abbrev tb32 : Tbl := (16, c_kschema_ok) :: tb31
theorem tb32_ok : TblOk Try.prog tb32 := TblOk.cons kschema_ok tb31_ok

end Go.Proofs.Ytojdmkkjamakiaa
