/- Contract of the words of a dictionary. -/
import Derived.Test.YthomnlfmamagcaaNum
namespace Go.Proofs.Ythomnlfmamagcaa
open Go.Abs
set_option linter.unusedVariables false
set_option linter.unusedSimpArgs false


def sLe (a b : ByteArray) : Bool := strLt a b || decide (a = b)
def wdAt (s : ByteArray) (a : Int) : ByteArray := s.extract (getR s a).2.1.toNat ((getR s a).2.1 + (getR s a).1).toNat
def wdGo (s : ByteArray) : Nat → Int → List ByteArray → List ByteArray × Int × Int
  | 0, a, M => (M, a, 0)
  | n + 1, a, M => if (getR s a).2.2 ≠ 0 then ([], 0, (getR s a).2.2) else if (getR s a).1 > s.size - (getR s a).2.1 then ([], 0, 10)
    else if 0 < M.length ∧ sLe (wdAt s a) M[M.length - 1]! = true then ([], 0, 2) else wdGo s n ((getR s a).2.1 + (getR s a).1) (M ++ [wdAt s a])
termination_by n _ _ => n
theorem wdGo_err {s : ByteArray} {n a : Int} {M : List ByteArray} (h : (M.length : Int) < n) (h1 : ¬ (getR s a).2.2 = 0) : wdGo s (n - M.length).toNat a M = ([], 0, (getR s a).2.2) := by
  rw [show (n - M.length).toNat = (n - M.length - 1).toNat + 1 by omega, wdGo, if_pos h1]
theorem wdGo_short {s : ByteArray} {n a : Int} {M : List ByteArray} (h : (M.length : Int) < n) (h1 : (getR s a).2.2 = 0) (h2 : (getR s a).1 > s.size - (getR s a).2.1) : wdGo s (n - M.length).toNat a M = ([], 0, 10) := by
  rw [show (n - M.length).toNat = (n - M.length - 1).toNat + 1 by omega, wdGo, if_neg (fun q => q h1), if_pos h2]
theorem wdGo_form {s : ByteArray} {n a : Int} {M : List ByteArray} (h : (M.length : Int) < n) (h1 : (getR s a).2.2 = 0) (h2 : ¬ (getR s a).1 > s.size - (getR s a).2.1) (h3 : 0 < M.length ∧ sLe (wdAt s a) M[M.length - 1]! = true) : wdGo s (n - M.length).toNat a M = ([], 0, 2) := by
  rw [show (n - M.length).toNat = (n - M.length - 1).toNat + 1 by omega, wdGo, if_neg (fun q => q h1), if_neg h2, if_pos h3]
theorem wdGo_next {s : ByteArray} {n a : Int} {M : List ByteArray} (h : (M.length : Int) < n) (h1 : (getR s a).2.2 = 0) (h2 : ¬ (getR s a).1 > s.size - (getR s a).2.1) (h3 : ¬ (0 < M.length ∧ sLe (wdAt s a) M[M.length - 1]! = true)) :
    wdGo s (n - M.length).toNat a M = wdGo s (n - (M ++ [wdAt s a]).length).toNat ((getR s a).2.1 + (getR s a).1) (M ++ [wdAt s a]) := by
  rw [show (n - M.length).toNat = (n - (M ++ [wdAt s a]).length).toNat + 1 by simp; omega, wdGo, if_neg (fun q => q h1), if_neg h2, if_neg h3]
theorem wdGo_end {s : ByteArray} {n a : Int} {M : List ByteArray} (h : ¬ (M.length : Int) < n) : wdGo s (n - M.length).toNat a M = (M, a, 0) := by
  rw [show (n - M.length).toNat = 0 by omega, wdGo]
theorem getR_ok {s : ByteArray} {a : Int} (h : (getR s a).2.2 = 0) : 0 ≤ a ∧ a < (getR s a).2.1 ∧ (getR s a).2.1 ≤ s.size := by
  have e : getR s a = ((getR s a).1, (getR s a).2.1, 0) := by
    rw [← h]
  obtain ⟨h1, h2, h3, h4, h5, h6, _⟩ := getR_sound e
  have := put_len (getR s a).1
  exact ⟨h1, by omega, h6⟩
theorem wdGo_ok {s : ByteArray} : ∀ (n : Nat) (a : Int) (M : List ByteArray), (wdGo s n a M).2.2 = 0 → (wdGo s n a M).1.length = M.length + n ∧ ((0 ≤ a ∧ a ≤ s.size) → 0 ≤ (wdGo s n a M).2.1 ∧ (wdGo s n a M).2.1 ≤ s.size)
  | 0, a, M, _ => by rw [wdGo]; exact ⟨rfl, fun h => h⟩
  | n + 1, a, M, h => by
    rw [wdGo] at h ⊢
    split at h
    · rename_i h1; exact absurd h h1
    · rename_i h1
      rw [if_neg h1]
      split at h
      · exact absurd h (by decide)
      · rename_i h2
        rw [if_neg h2]
        split at h
        · exact absurd h (by decide)
        · rename_i h3
          rw [if_neg h3]
          have hg := getR_ok (Decidable.not_not.1 h1)
          have hr := getR_rng s a
          obtain ⟨g1, g2⟩ := wdGo_ok n _ _ h
          exact ⟨by rw [g1]; simp; omega, fun _ => g2 ⟨by omega, by omega⟩⟩

abbrev c_words_ok : Ct := .fn [.str, .int .i64, .int .i64] (some (fun (s : ByteArray) (a0 : Int) (n : Int) => (s.size ≤ 4611686018427387904) ∧ (0 ≤ n ∧ n ≤ 1000000))) (fun (s : ByteArray) (a0 : Int) (n : Int) => .tup [.list .str, .int .i64, .int .i64] ((wdGo s n.toNat a0 []).1, (wdGo s n.toNat a0 []).2.1, (wdGo s n.toNat a0 []).2.2, ()))
set_option maxRecDepth 100000 in
set_option maxHeartbeats 4000000 in
theorem words_ok : CtOk Try.prog 37 c_words_ok := by
  refine CtOk.fn tb14_ok mixed [(0, 6, 5)] [] rfl rfl ?_
  rintro ⟨(s : ByteArray), (a0 : Int), (n : Int), _⟩ hpre
  replace hpre := hpre _ rfl
  dsimp only [cu] at hpre
  obtain ⟨hs, hn⟩ := hpre
  refine ⟨[(0, 4, LA.mk [.sl 1 (.int .i64), .lst 9 .str 9] (fun y => Tag 13 ∧ cu [.int .i64, .list .str] (fun (a : Int) (M : List ByteArray) => (wdGo s n.toNat a0 [] = wdGo s (n - M.length).toNat a M) ∧ ((M.length : Int) ≤ n)) y) (cu [.int .i64, .list .str] (fun (a : Int) (M : List ByteArray) => (n - (M.length : Int)).toNat)) (cu [.int .i64, .list .str] (fun (a : Int) (M : List ByteArray) => ([] : List (Nat × Nat × LA)))))], ?_⟩
  repeat' (first
    | (with_reducible refine Side.mk ⟨(⟨⟩ : Tag 13), ?_⟩
       dsimp only [cu, joinT, ckTys, gts, Prod.eta, List.nil_append]
       refine ⟨?_, ?_⟩
       · first
         | (rw [List.length_nil]; simp; done)
         | (rw [hM]
            exact wdGo_next (by omega) (by assumption) (by assumption) (fun q => by simp_all [sLe, wdAt]))
       · first
         | (simp only [List.length_nil]; omega)
         | (simp only [List.length_append, List.length_cons, List.length_nil]; omega))
    | (with_reducible refine Side.mk ?_
       (try dsimp only [cu, joinT, ckTys, gts, loK, hiK, Prod.eta, List.nil_append])
       first
       | (done)
       | (with_reducible rfl)
       | (omega)
       | (exact Eq.refl _)
       | (simp only [List.length_append, List.length_cons, List.length_nil]; omega)
       | (omega)
       | (with_reducible assumption)
       | (have hr := getR_rng s a
          have hg := getR_ok (s := s) (a := a) (by assumption)
          omega)
       | ((try simp only [List.length_cons, List.length_nil])
          omega)
       | (simp only [List.length_append, List.length_cons, List.length_nil]; omega))
    | (conv => whnf
       first
        | done
        | exact trivial
        | with_reducible refine NilBr.mk (fun h => ?_) ?_
        | with_reducible refine w_andS ?_ ?_
        | with_reducible refine w_andL ?_ ?_
        | with_reducible refine w_kern (by kernel_rfl) ?_
        | with_reducible refine w_true ?_
        | with_reducible refine w_nd ?_ ?_
        | with_reducible refine w_in ?_ ?_
        | with_reducible refine w_and ?_ ?_
        | (with_reducible refine w_brN (fun h => ?_) (fun h => ?_) <;> (try dsimp only [cu, Prod.eta, List.nil_append] at h) <;> (try (exfalso; omega; done)))
        | (with_reducible refine w_brD (fun h => ?_) (fun h => ?_) <;> (try dsimp only [cu, Prod.eta, List.nil_append] at h) <;> (try (exfalso; omega; done)))
        | (with_reducible refine w_br (fun h => ?_) (fun h => ?_) <;> (try dsimp only [cu, Prod.eta, List.nil_append] at h) <;> (try (exfalso; omega; done)))
        | (intro yy (hy : Tag 13 ∧ _)
           obtain ⟨(a : Int), (M : List ByteArray), _⟩ := yy
           replace hy := hy.2
           dsimp only [cu, joinT, ckTys, gts, Prod.eta, List.nil_append] at hy
           obtain ⟨hM, hl⟩ := hy)))
  all_goals (with_reducible refine Leaf.mk ?_
             (try dsimp only [cu, joinT, ckTys, gts, Prod.eta, List.nil_append] at *)
             first
             | (done)
             | (rw [hM, wdGo_err (by omega) (by assumption)])
             | (rw [hM, wdGo_short (by omega) (by assumption) (by assumption)])
             | (rw [hM, wdGo_form (by omega) (by assumption) (by assumption) ⟨by omega, by simp_all [sLe, wdAt]⟩])
             | (rw [hM, wdGo_end (by assumption)])
             | (rw [hM, wdGo_end (by omega)]))
abbrev tb15 : Tbl := (37, c_words_ok) :: tb14
theorem tb15_ok : TblOk Try.prog tb15 := TblOk.cons words_ok tb14_ok

end Go.Proofs.Ythomnlfmamagcaa
