/- Contracts of the makers of rows. -/
import Derived.Test.YtinehkfcploeiaaKValue
namespace Go.Proofs.Ytinehkfcploeiaa
open Go.Abs
set_option linter.unusedVariables false
set_option linter.unusedSimpArgs false


def mRot (l : List Int) (i : Int) : List Int := (List.range l.length).map (fun a : Nat => l[(Int.tmod ((a : Int) + 3 * i) l.length).toNat]!)
def rowVals (s : Schema) (l : List Int) : List Val := (List.range s.1.length).map (fun b : Nat => (kValue ⟨mRot l b, 0⟩ s.1[b]!).1)


theorem rot_in {a k i n : Int} (ha : 0 ≤ a) (hk : k = a + 3 * i) (hi : 0 ≤ i) (hn : 0 < n) : 0 ≤ Int.tmod k n ∧ Int.tmod k n < n :=
  ⟨Int.tmod_nonneg n (by omega), Int.tmod_lt_of_pos k hn⟩

abbrev c_kval_ok : Ct := .fn [tCol, .list (.int .i64)] (some (fun (c : Col) (l : List Int) => (l.length ≤ 9223372036854775807))) (fun (c : Col) (l : List Int) => .d tVal ((kValue (l, 0) c).1))
set_option maxRecDepth 100000 in
set_option maxHeartbeats 4000000 in
theorem kval_ok : CtOk Try.prog 21 c_kval_ok := by
  refine CtOk.fn tb43_ok mixed [] [] rfl rfl ?_
  rintro ⟨(c : Col), (l : List Int), _⟩ hpre
  replace hpre := hpre _ rfl
  dsimp only [cu] at hpre
  have hl := hpre
  refine ⟨[], ?_⟩
  repeat' (first
    | (
 with_reducible refine Side.mk ?_
 (try dsimp only [cu, joinT, ckTys, gts, loK, hiK, Prod.eta, List.nil_append])
 first
 | (done)
 | (with_reducible rfl)
 | (omega)
 | (exact Eq.refl _)
 | (simp only [List.length_append, List.length_cons, List.length_nil]; omega)
 | (exact Src.ok_from hl))
    | (conv => whnf
       first
        | done
        | exact trivial
        | with_reducible refine NilBr.mk (fun h => ?_) ?_
        | with_reducible first | refine w_andS ?_ ?_ | refine w_andL ?_ ?_ | refine w_kern (by kernel_rfl) ?_ | refine w_true ?_ | refine w_nd ?_ ?_ | refine w_in ?_ ?_ | refine w_and ?_ ?_
        | ((with_reducible first | refine w_brN (fun h => ?_) (fun h => ?_) | refine w_brD (fun h => ?_) (fun h => ?_) | refine w_br (fun h => ?_) (fun h => ?_)) <;> (try dsimp only [cu, Prod.eta, List.nil_append] at h) <;> (try (exfalso; omega; done)))))
  all_goals (
 with_reducible refine Leaf.mk ?_
 (try dsimp only [cu, joinT, ckTys, gts, Prod.eta, List.nil_append] at *)
 first
 | (done)
 | (rfl))
abbrev tb44 : Tbl := (21, c_kval_ok) :: tb43
theorem tb44_ok : TblOk Try.prog tb44 := TblOk.cons kval_ok tb43_ok

abbrev c_row_ok : Ct := .fn [tSchema, .list (.int .i64)] (some (fun (s : Schema) (l : List Int) => (s.1.length ≤ 12) ∧ (l.length ≤ 17592186044415))) (fun (s : Schema) (l : List Int) => .d (.list tVal) (rowVals s l))
set_option maxRecDepth 100000 in
set_option maxHeartbeats 4000000 in
theorem row_ok : CtOk Try.prog 19 c_row_ok := by
  refine CtOk.fn tb44_ok mixed [] [] rfl rfl ?_
  rintro ⟨(s : Schema), (l : List Int), _⟩ hpre
  replace hpre := hpre _ rfl
  dsimp only [cu] at hpre
  obtain ⟨hc, hl⟩ := hpre
  refine ⟨[(0, 6, LA.mk [.sl 13 (.int .i64), .lst 5 tVal 23] (fun y => Tag 19 ∧ cu [.int .i64, .list tVal] (fun (i : Int) (O : List Val) => (0 ≤ i ∧ i ≤ s.1.length) ∧ (O = (List.range i.toNat).map (fun b : Nat => (kValue (mRot l b, 0) s.1[b]!).1))) y) (cu [.int .i64, .list tVal] (fun (i : Int) (O : List Val) => ((s.1.length : Int) - i).toNat)) (cu [.int .i64, .list tVal] (fun (i : Int) (O : List Val) => ([(0, 14, LA.mk [.sl 20 (.int .i64), .lst 8 (.int .i64) 3] (fun y => Tag 20 ∧ cu [.int .i64, .list (.int .i64)] (fun (k : Int) (M : List Int) => (0 ≤ k ∧ k ≤ l.length) ∧ (M = (List.range k.toNat).map (fun a : Nat => l[(Int.tmod ((a : Int) + 3 * i) l.length).toNat]!))) y) (cu [.int .i64, .list (.int .i64)] (fun (k : Int) (M : List Int) => ((l.length : Int) - k).toNat)) (cu [.int .i64, .list (.int .i64)] (fun (k : Int) (M : List Int) => ([] : List (Nat × Nat × LA)))))] : List (Nat × Nat × LA)))))], ?_⟩
  repeat' (first
    | (
 with_reducible refine Side.mk ⟨(⟨⟩ : Tag 19), ?_⟩
 dsimp only [cu, joinT, ckTys, gts, Prod.eta, List.nil_append]
 refine ⟨?_, ?_⟩
 · omega
 · first
   | (simp; done)
   | (
  rw [show (i + 1).toNat = i.toNat + 1 by omega, List.range_succ, List.map_append, ← hO]
  simp only [List.map_cons, List.map_nil]
  rw [show ((i.toNat : Nat) : Int) = i by omega, mRot]
  rw [show k.toNat = l.length by omega] at hM
  rw [← hM]))
    | (
 with_reducible refine Side.mk ⟨(⟨⟩ : Tag 20), ?_⟩
 dsimp only [cu, joinT, ckTys, gts, Prod.eta, List.nil_append]
 refine ⟨?_, ?_⟩
 · omega
 · first
   | (simp; done)
   | (
  rw [show (k + 1).toNat = k.toNat + 1 by omega, List.range_succ, List.map_append, ← hM]
  simp only [List.map_cons, List.map_nil]
  rw [show ((k.toNat : Nat) : Int) = k by omega]))
    | (
 with_reducible refine Side.mk ?_
 (try dsimp only [cu, joinT, ckTys, gts, loK, hiK, Prod.eta, List.nil_append])
 first
 | (done)
 | (with_reducible rfl)
 | (omega)
 | (exact Eq.refl _)
 | (simp only [List.length_append, List.length_cons, List.length_nil]; omega)
 | (
  have hml : M.length = k.toNat := by rw [hM]; simp
  (try simp only [List.length_cons, List.length_nil])
  omega)
 | (
  have hol : O.length = i.toNat := by rw [hO]; simp
  (try simp only [List.length_cons, List.length_nil])
  omega)
 | (have := rot_in (k := k + 3 * i) (n := l.length) (by omega) rfl (by omega) (by omega); omega))
    | (conv => whnf
       first
        | done
        | exact trivial
        | with_reducible refine NilBr.mk (fun h => ?_) ?_
        | with_reducible first | refine w_andS ?_ ?_ | refine w_andL ?_ ?_ | refine w_kern (by kernel_rfl) ?_ | refine w_true ?_ | refine w_nd ?_ ?_ | refine w_in ?_ ?_ | refine w_and ?_ ?_
        | ((with_reducible first | refine w_brN (fun h => ?_) (fun h => ?_) | refine w_brD (fun h => ?_) (fun h => ?_) | refine w_br (fun h => ?_) (fun h => ?_)) <;> (try dsimp only [cu, Prod.eta, List.nil_append] at h) <;> (try (exfalso; omega; done)))
        | (
 intro yy (hy : Tag 19 ∧ _)
 obtain ⟨(i : Int), (O : List Val), _⟩ := yy
 replace hy := hy.2
 dsimp only [cu, joinT, ckTys, gts, Prod.eta, List.nil_append] at hy
 obtain ⟨hi, hO⟩ := hy)
        | (
 intro yy (hy : Tag 20 ∧ _)
 obtain ⟨(k : Int), (M : List Int), _⟩ := yy
 replace hy := hy.2
 dsimp only [cu, joinT, ckTys, gts, Prod.eta, List.nil_append] at hy
 obtain ⟨hk, hM⟩ := hy)))
  all_goals (
 with_reducible refine Leaf.mk ?_
 (try dsimp only [cu, joinT, ckTys, gts, Prod.eta, List.nil_append] at *)
 first
 | (done)
 | (
  rw [show i.toNat = s.1.length by omega] at hO
  exact hO))
abbrev tb45 : Tbl := (19, c_row_ok) :: tb44
theorem tb45_ok : TblOk Try.prog tb45 := TblOk.cons row_ok tb44_ok

end Go.Proofs.Ytinehkfcploeiaa
