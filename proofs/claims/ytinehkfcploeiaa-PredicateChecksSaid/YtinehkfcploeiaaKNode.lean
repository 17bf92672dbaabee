/- Contracts of the makers of predicates. -/
import Derived.Test.YtinehkfcploeiaaKRow
namespace Go.Proofs.Ytinehkfcploeiaa
open Go.Abs
set_option linter.unusedVariables false
set_option linter.unusedSimpArgs false


def kVals : Nat → Src → Col → List Val → List Val × Src
  | 0, s, c, acc => (acc, s)
  | n + 1, s, c, acc => kVals n (kValue s c).2 c (acc ++ [(kValue s c).1])
theorem kVals_step {k : Int} (h : k > 0) (s : Src) (c : Col) (acc : List Val) : kVals k.toNat s c acc = kVals (k - 1).toNat (kValue s c).2 c (acc ++ [(kValue s c).1]) := by
  rw [show k.toNat = (k - 1).toNat + 1 by omega]; rfl
def kOp (s : Src) (i : Int) : Int := if 1 + Src.pick s 11 ≥ 9 ∧ i = 0 then 1 + Src.pick s 11 - 8 else 1 + Src.pick s 11
def colN (c : Col) (b : Bool) : Col := ⟨c.1, c.2.1, c.2.2.1, b⟩
def kNode (s : Src) (x : Schema) (i : Int) : Nd × Src :=
  let op := kOp s i; let s1 := Src.next s
  if op ≥ 9 then
    let a := i - 1 - Src.pick s1 (minI i 3); let s2 := Src.next s1
    if op = 11 then (⟨op, 0, ⟨false, 0, EMP⟩, [], a, 0⟩, s2) else (⟨op, 0, ⟨false, 0, EMP⟩, [], a, i - 1 - Src.pick s2 i⟩, Src.next s2)
  else
    let col := Src.pick s1 x.1.length; let s2 := Src.next s1; let c := x.1[col.toNat]!
    if op ≤ 6 then (⟨op, col, (kValue s2 (colN c false)).1, [], 0, 0⟩, (kValue s2 (colN c false)).2)
    else if op = 7 then
      let c' := colN c (decide (Src.pick s2 3 = 0)); let r := kVals (1 + Src.pick (Src.next s2) 4).toNat (Src.next (Src.next s2)) c' []
      (⟨op, col, ⟨false, 0, EMP⟩, r.1, 0, 0⟩, r.2)
    else (⟨op, col, ⟨false, 0, EMP⟩, [], 0, 0⟩, s2)


theorem kVals_ok : ∀ (n : Nat) (s : Src) (c : Col) (acc : List Val), Src.ok s → Src.ok (kVals n s c acc).2
  | 0, s, c, acc, h => h
  | n + 1, s, c, acc, h => kVals_ok n _ c _ (kValue_ok c h)
theorem kNode_ok {s : Src} (x : Schema) (i : Int) (h : Src.ok s) : Src.ok (kNode s x i).2 := by
  have h1 := Src.ok_next h
  have h2 := Src.ok_next h1
  have h3 := Src.ok_next h2
  have h4 := Src.ok_next h3
  unfold kNode
  simp only []
  split
  · split
    · exact h2
    · exact h3
  · split
    · exact kValue_ok _ h2
    · split
      · exact kVals_ok _ _ _ _ h4
      · exact h2


def kCC (s : Src) (x : Schema) : Col := colN x.1[(Src.pick (Src.next s) x.1.length).toNat]! (decide (Src.pick (Src.next (Src.next s)) 3 = 0))
theorem kNode_in {s : Src} {x : Schema} {i : Int} (h : kOp s i = 7) : kNode s x i = (((7, Src.pick (Src.next s) x.1.length, (false, 0, EMP), (kVals (1 + Src.pick (Src.next (Src.next (Src.next s))) 4).toNat (Src.next (Src.next (Src.next (Src.next s)))) (kCC s x) []).1, 0, 0) : Nd), (kVals (1 + Src.pick (Src.next (Src.next (Src.next s))) 4).toNat (Src.next (Src.next (Src.next (Src.next s)))) (kCC s x) []).2) := by
  unfold kNode
  simp only [h]
  rfl
theorem minI_pos {i : Int} (h : 0 < i) : 0 < minI i 3 ∧ minI i 3 ≤ 3 := by unfold minI; split <;> omega

abbrev c_knode_ok : Ct := .meth tSrc 85 [tSchema, .int .i64] (some (fun (s : Src) (x : Schema) (i : Int) => (Src.ok s) ∧ (1 ≤ x.1.length ∧ x.1.length ≤ 12) ∧ (0 ≤ i ∧ i ≤ 64))) (fun (s : Src) (x : Schema) (i : Int) => .d tNd ((kNode s x i).1)) (fun (s : Src) (x : Schema) (i : Int) => (kNode s x i).2)
set_option maxRecDepth 100000 in
set_option maxHeartbeats 4000000 in
theorem knode_ok : CtOk Try.prog 35 c_knode_ok := by
  refine CtOk.meth tb45_ok mixed [] [] rfl rfl ?_
  rintro (s : Src) ⟨(x : Schema), (i : Int), _⟩ hpre
  replace hpre := hpre _ rfl
  dsimp only [cu] at hpre
  obtain ⟨hs, hx, hi⟩ := hpre
  have hp11 := Src.pick_lt (s := s) (n := 11) (by decide)
  refine ⟨[(0, 36, LA.mk [.sl 9 (.int .i64), .row 3 [.same, .same, .same, .same, .same, .own tVal 23, .same, .same], .ob 0 tSrc 85] (fun y => Tag 21 ∧ cu [.int .i64, .list tVal, tSrc] (fun (k : Int) (V : List Val) (q : Src) => (0 ≤ k ∧ k ≤ 4) ∧ (Src.ok q) ∧ ((V.length : Int) ≤ 4 - k) ∧ (kVals (1 + Src.pick (Src.next (Src.next (Src.next s))) 4).toNat (Src.next (Src.next (Src.next (Src.next s)))) (kCC s x) [] = kVals k.toNat q (kCC s x) V)) y) (cu [.int .i64, .list tVal, tSrc] (fun (k : Int) (V : List Val) (q : Src) => k.toNat)) (cu [.int .i64, .list tVal, tSrc] (fun (k : Int) (V : List Val) (q : Src) => ([] : List (Nat × Nat × LA)))))], ?_⟩
  repeat' (first
    | (
 with_reducible refine Side.mk ⟨(⟨⟩ : Tag 21), ?_⟩
 dsimp only [cu, joinT, ckTys, gts, Prod.eta, List.nil_append]
 refine ⟨?_, ?_, ?_, ?_⟩
 · first
   | (omega)
   | (have := @Src.pick_lt; grind)
 · (repeat (first | assumption | exact Src.ok_from (by assumption) | apply Src.ok_next | apply kValue_ok | apply kNode_ok))
 · first
   | (have := @Src.pick_lt; grind)
   | (simp only [List.length_append, List.length_cons, List.length_nil]; omega)
 · first
   | (rfl)
   | (
  rw [hg, kVals_step (by assumption)]
  rfl))
    | (
 with_reducible refine Side.mk ?_
 (try dsimp only [cu, joinT, ckTys, gts, loK, hiK, Prod.eta, List.nil_append])
 first
 | (done)
 | (with_reducible rfl)
 | (omega)
 | (exact Eq.refl _)
 | (simp only [List.length_append, List.length_cons, List.length_nil]; omega)
 | (
  have h1 := minI_pos (i := i) (by omega)
  have h2 := Src.pick_lt (s := Src.next s) (n := minI i 3) (by omega)
  omega)
 | (
  have h2 := Src.pick_lt (s := Src.next (Src.next s)) (n := i) (by omega)
  omega)
 | (
  have h2 := Src.pick_lt (s := Src.next s) (n := x.1.length) (by omega)
  omega)
 | (
  refine ⟨?_, by first | decide | exact u64_ne (by omega) | exact u64_ne (by have := minI_pos (i := i) (by omega); omega)⟩
  (repeat (first | assumption | exact Src.ok_from (by assumption) | apply Src.ok_next | apply kValue_ok | apply kNode_ok)); done)
 | ((repeat (first | assumption | exact Src.ok_from (by assumption) | apply Src.ok_next | apply kValue_ok | apply kNode_ok)); done)
 | (have := @Src.pick_lt; grind))
    | (conv => whnf
       first
        | done
        | exact trivial
        | with_reducible refine NilBr.mk (fun h => ?_) ?_
        | with_reducible first | refine w_andS ?_ ?_ | refine w_andL ?_ ?_ | refine w_kern (by kernel_rfl) ?_ | refine w_true ?_ | refine w_nd ?_ ?_ | refine w_in ?_ ?_ | refine w_and ?_ ?_
        | ((with_reducible first | refine w_brN (fun h => ?_) (fun h => ?_) | refine w_brD (fun h => ?_) (fun h => ?_) | refine w_br (fun h => ?_) (fun h => ?_)) <;> (try dsimp only [cu, Prod.eta, List.nil_append] at h) <;> (try (exfalso; omega; done)))
        | (
 intro yy (hy : Tag 21 ∧ _)
 obtain ⟨(k : Int), (V : List Val), (q : Src), _⟩ := yy
 replace hy := hy.2
 dsimp only [cu, joinT, ckTys, gts, Prod.eta, List.nil_append] at hy
 obtain ⟨hk, hq, hv, hg⟩ := hy)))
  all_goals (
 with_reducible refine Leaf.mk ?_
 (try dsimp only [cu, joinT, ckTys, gts, Prod.eta, List.nil_append] at *)
 first
 | (done)
 | (
  first
    | have hop : kOp s i = 1 + Src.pick s 11 - 8 := if_pos (by omega)
    | have hop : kOp s i = 1 + Src.pick s 11 := if_neg (by omega)
  first
  | (
   rw [show k.toNat = 0 by omega, kVals] at hg
   rw [kNode_in (by omega), hg]
   first | done | rfl | (simp; omega))
  | (
   unfold kNode
   simp only [hop, colN]
   (repeat' split) <;> first | rfl | (exfalso; omega) | grind)))
abbrev tb46 : Tbl := (35, c_knode_ok) :: tb45
theorem tb46_ok : TblOk Try.prog tb46 := TblOk.cons knode_ok tb45_ok

end Go.Proofs.Ytinehkfcploeiaa
