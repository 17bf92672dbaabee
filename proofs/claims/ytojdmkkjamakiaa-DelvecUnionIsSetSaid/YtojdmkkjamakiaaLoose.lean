/- Contracts of the makers of records. -/
import Derived.Test.YtojdmkkjamakiaaKValue
namespace Go.Proofs.Ytojdmkkjamakiaa
open Go.Abs
set_option linter.unusedVariables false
set_option linter.unusedSimpArgs false


def kRowGo : List Col → Src → List Val × Src
  | [], q => ([], q)
  | c :: cs, q => ((kValue q c).1 :: (kRowGo cs (kValue q c).2).1, (kRowGo cs (kValue q c).2).2)
theorem kRowGo_ok : ∀ (cs : List Col) (q : Src), Src.ok q → Src.ok (kRowGo cs q).2
  | [], q, h => h
  | c :: cs, q, h => kRowGo_ok cs _ (by apply kValue_ok; exact h)
theorem kRowGo_step {l : List Col} {k : Int} {q : Src} (h : 0 ≤ k ∧ k < l.length) : kRowGo (l.drop k.toNat) q = ((kValue q l[k.toNat]!).1 :: (kRowGo (l.drop (k + 1).toNat) (kValue q l[k.toNat]!).2).1, (kRowGo (l.drop (k + 1).toNat) (kValue q l[k.toNat]!).2).2) := by
  rw [drop_step l k h]; rfl
def looseGo : Nat → Src → Schema → List Rec
  | 0, _, _ => []
  | n + 1, q, x => ((Src.pick q 6, (kRowGo x.1 (Src.next q)).1) : Rec) :: looseGo n (kRowGo x.1 (Src.next q)).2 x
theorem looseGo_step {k : Int} {q : Src} {x : Schema} (h : 0 < k) : looseGo k.toNat q x = ((Src.pick q 6, (kRowGo x.1 (Src.next q)).1) : Rec) :: looseGo (k - 1).toNat (kRowGo x.1 (Src.next q)).2 x := by
  rw [show k.toNat = (k - 1).toNat + 1 by omega]; rfl
def kLoose (x : Schema) (l : List Int) (n : Int) : List Rec := looseGo (Src.pick (l, 0) (n + 1)).toNat (Src.next (l, 0)) x
theorem looseGo_len : ∀ (n : Nat) (q : Src) (x : Schema), (looseGo n q x).length = n
  | 0, _, _ => rfl
  | n + 1, q, x => by simp [looseGo, looseGo_len n]

abbrev c_krow_ok : Ct := .meth tSrc 83 [tSchema] (some (fun (s : Src) (x : Schema) => (Src.ok s) ∧ (x.1.length ≤ 1000))) (fun (s : Src) (x : Schema) => .d (.list tVal) ((kRowGo x.1 s).1)) (fun (s : Src) (x : Schema) => (kRowGo x.1 s).2)
set_option maxRecDepth 100000 in
set_option maxHeartbeats 4000000 in
theorem krow_ok : CtOk Try.prog 38 c_krow_ok := by
  refine CtOk.meth tb29_ok mixed [] [] rfl rfl ?_
  rintro (s : Src) ⟨(x : Schema), _⟩ hpre
  replace hpre := hpre _ rfl
  dsimp only [cu] at hpre
  obtain ⟨hs, hx⟩ := hpre
  refine ⟨[(0, 6, LA.mk [.sl 11 (.int .i64), .lst 5 tVal 81, .ob 0 tSrc 83] (fun y => Tag 19 ∧ cu [.int .i64, .list tVal, tSrc] (fun (k : Int) (M : List Val) (q : Src) => (0 ≤ k ∧ k ≤ x.1.length) ∧ (Src.ok q) ∧ (kRowGo x.1 s = (M ++ (kRowGo (x.1.drop k.toNat) q).1, (kRowGo (x.1.drop k.toNat) q).2)) ∧ ((M.length : Int) ≤ k)) y) (cu [.int .i64, .list tVal, tSrc] (fun (k : Int) (M : List Val) (q : Src) => ((x.1.length : Int) - k).toNat)) (cu [.int .i64, .list tVal, tSrc] (fun (k : Int) (M : List Val) (q : Src) => ([] : List (Nat × Nat × LA)))))], ?_⟩
  repeat' (first
    | (with_reducible refine Side.mk ⟨(⟨⟩ : Tag 19), ?_⟩
       dsimp only [cu, joinT, ckTys, gts, Prod.eta, List.nil_append]
       refine ⟨?_, ?_, ?_, ?_⟩
       · omega
       · (repeat (first | assumption | exact Src.ok_from (by omega) | apply Src.ok_next | apply kValue_ok | apply kRowGo_ok))
       · first
         | (rfl)
         | (rw [hm, kRowGo_step (by omega)]
            simp)
       · first
         | (simp; done)
         | (simp only [List.length_append, List.length_cons, List.length_nil]; omega))
    | (with_reducible refine Side.mk ?_
       (try dsimp only [cu, joinT, ckTys, gts, loK, hiK, Prod.eta, List.nil_append])
       first
       | (done)
       | (with_reducible rfl)
       | (omega)
       | (exact Eq.refl _)
       | (simp only [List.length_append, List.length_cons, List.length_nil]; omega)
       | ((repeat (first | assumption | exact Src.ok_from (by omega) | apply Src.ok_next | apply kValue_ok | apply kRowGo_ok)); done)
       | (refine ⟨?_, by decide⟩
          (repeat (first | assumption | exact Src.ok_from (by omega) | apply Src.ok_next | apply kValue_ok | apply kRowGo_ok)); done)
       | ((try simp only [List.length_cons, List.length_nil])
          omega))
    | (conv => whnf
       first
        | done
        | exact trivial
        | with_reducible refine NilBr.mk (fun h => ?_) ?_
        | with_reducible refine w_andS ?_ ?_
        | with_reducible refine w_andL ?_ ?_
        | with_reducible refine w_kern (by kernel_rfl) ?_
        | with_reducible refine w_true ?_
        | with_reducible refine w_nd ?_ ?_
        | with_reducible refine w_in ?_ ?_
        | with_reducible refine w_and ?_ ?_
        | (with_reducible refine w_brN (fun h => ?_) (fun h => ?_) <;> (try dsimp only [cu, Prod.eta, List.nil_append] at h) <;> (try (exfalso; omega; done)))
        | (with_reducible refine w_brD (fun h => ?_) (fun h => ?_) <;> (try dsimp only [cu, Prod.eta, List.nil_append] at h) <;> (try (exfalso; omega; done)))
        | (with_reducible refine w_br (fun h => ?_) (fun h => ?_) <;> (try dsimp only [cu, Prod.eta, List.nil_append] at h) <;> (try (exfalso; omega; done)))
        | (intro yy (hy : Tag 19 ∧ _)
           obtain ⟨(k : Int), (M : List Val), (q : Src), _⟩ := yy
           replace hy := hy.2
           dsimp only [cu, joinT, ckTys, gts, Prod.eta, List.nil_append] at hy
           obtain ⟨hk, hq, hm, hl⟩ := hy)))
  all_goals (with_reducible refine Leaf.mk ?_
             (try dsimp only [cu, joinT, ckTys, gts, Prod.eta, List.nil_append] at *)
             first
             | (done)
             | (rw [hm, List.drop_eq_nil_of_le (by omega)]
                simp [kRowGo])
             | (rw [hm, List.drop_eq_nil_of_le (by omega)]
                rfl))
abbrev tb30 : Tbl := (38, c_krow_ok) :: tb29
theorem tb30_ok : TblOk Try.prog tb30 := TblOk.cons krow_ok tb29_ok

abbrev c_loose_ok : Ct := .fn [tSchema, .list (.int .i64), .int .i64] (some (fun (x : Schema) (l : List Int) (n : Int) => (x.1.length ≤ 1000) ∧ (l.length ≤ 4611686018427387904) ∧ (0 ≤ n ∧ n ≤ 1000))) (fun (x : Schema) (l : List Int) (n : Int) => .d (.list tRec) (kLoose x l n))
set_option maxRecDepth 100000 in
set_option maxHeartbeats 4000000 in
theorem loose_ok : CtOk Try.prog 17 c_loose_ok := by
  refine CtOk.fn tb30_ok mixed [] [] rfl rfl ?_
  rintro ⟨(x : Schema), (l : List Int), (n : Int), _⟩ hpre
  replace hpre := hpre _ rfl
  dsimp only [cu] at hpre
  obtain ⟨hx, hl0, hn⟩ := hpre
  have hp0 := Src.pick_lt (s := (l, 0)) (n := n + 1) (by omega)
  refine ⟨[(0, 8, LA.mk [.sl 9 (.int .i64), .lst 8 tRec 26, .ob 1 tSrc 83] (fun y => Tag 20 ∧ cu [.int .i64, .list tRec, tSrc] (fun (k : Int) (M : List Rec) (q : Src) => (0 ≤ k ∧ k ≤ 1001) ∧ (Src.ok q) ∧ (kLoose x l n = M ++ looseGo k.toNat q x) ∧ ((M.length : Int) ≤ 1001 - k)) y) (cu [.int .i64, .list tRec, tSrc] (fun (k : Int) (M : List Rec) (q : Src) => k.toNat)) (cu [.int .i64, .list tRec, tSrc] (fun (k : Int) (M : List Rec) (q : Src) => ([] : List (Nat × Nat × LA)))))], ?_⟩
  repeat' (first
    | (with_reducible refine Side.mk ⟨(⟨⟩ : Tag 20), ?_⟩
       dsimp only [cu, joinT, ckTys, gts, Prod.eta, List.nil_append]
       refine ⟨?_, ?_, ?_, ?_⟩
       · omega
       · (repeat (first | assumption | exact Src.ok_from (by omega) | apply Src.ok_next | apply kValue_ok | apply kRowGo_ok))
       · first
         | (rfl)
         | (rw [hm, looseGo_step (by omega), List.append_assoc]
            rfl)
       · first
         | (simp only [List.length_nil]; omega)
         | (simp only [List.length_append, List.length_cons, List.length_nil]; omega))
    | (with_reducible refine Side.mk ?_
       (try dsimp only [cu, joinT, ckTys, gts, loK, hiK, Prod.eta, List.nil_append])
       first
       | (done)
       | (with_reducible rfl)
       | (omega)
       | (exact Eq.refl _)
       | (simp only [List.length_append, List.length_cons, List.length_nil]; omega)
       | (refine ⟨?_, by first | decide | exact u64_ne (by omega)⟩
          (repeat (first | assumption | exact Src.ok_from (by omega) | apply Src.ok_next | apply kValue_ok | apply kRowGo_ok)); done)
       | (exact ⟨by (repeat (first | assumption | exact Src.ok_from (by omega) | apply Src.ok_next | apply kValue_ok | apply kRowGo_ok)), by assumption⟩)
       | ((repeat (first | assumption | exact Src.ok_from (by omega) | apply Src.ok_next | apply kValue_ok | apply kRowGo_ok)); done)
       | ((try simp only [List.length_cons, List.length_nil])
          omega)
       | (have := Src.pick_lt (s := q) (n := 6) (by decide); omega))
    | (conv => whnf
       first
        | done
        | exact trivial
        | with_reducible refine NilBr.mk (fun h => ?_) ?_
        | with_reducible refine w_andS ?_ ?_
        | with_reducible refine w_andL ?_ ?_
        | with_reducible refine w_kern (by kernel_rfl) ?_
        | with_reducible refine w_true ?_
        | with_reducible refine w_nd ?_ ?_
        | with_reducible refine w_in ?_ ?_
        | with_reducible refine w_and ?_ ?_
        | (with_reducible refine w_brN (fun h => ?_) (fun h => ?_) <;> (try dsimp only [cu, Prod.eta, List.nil_append] at h) <;> (try (exfalso; omega; done)))
        | (with_reducible refine w_brD (fun h => ?_) (fun h => ?_) <;> (try dsimp only [cu, Prod.eta, List.nil_append] at h) <;> (try (exfalso; omega; done)))
        | (with_reducible refine w_br (fun h => ?_) (fun h => ?_) <;> (try dsimp only [cu, Prod.eta, List.nil_append] at h) <;> (try (exfalso; omega; done)))
        | (intro yy (hy : Tag 20 ∧ _)
           obtain ⟨(k : Int), (M : List Rec), (q : Src), _⟩ := yy
           replace hy := hy.2
           dsimp only [cu, joinT, ckTys, gts, Prod.eta, List.nil_append] at hy
           obtain ⟨hk, hq, hm, hl⟩ := hy)))
  all_goals (with_reducible refine Leaf.mk ?_
             (try dsimp only [cu, joinT, ckTys, gts, Prod.eta, List.nil_append] at *)
             first
             | (done)
             | (rw [hm, show k.toNat = 0 by omega, looseGo, List.append_nil]))
abbrev tb31 : Tbl := (17, c_loose_ok) :: tb30
theorem tb31_ok : TblOk Try.prog tb31 := TblOk.cons loose_ok tb30_ok

end Go.Proofs.Ytojdmkkjamakiaa
