/- Walks of the laws. -/
import Derived.Test.YthomnlfmamagcaaLaws3
namespace Go.Proofs.Ythomnlfmamagcaa
open Go.Abs
set_option linter.unusedVariables false
set_option linter.unusedSimpArgs false


theorem two_of {raw : List ByteArray} {l : List Int} {k : Int} (h : 0 ≤ k ∧ k < 2) (hb : ∀ w, w ∈ raw → w.size ≤ 1073741824) (hr : raw.length ≤ 1073741824) : (∀ w, w ∈ [raw, kList l][k.toNat]! → w.size ≤ 1073741824) ∧ ([raw, kList l][k.toNat]!).length ≤ 1073741824 := by
  rcases (show k = 0 ∨ k = 1 by omega) with q | q
  · subst q; exact ⟨hb, hr⟩
  · subst q; exact ⟨kList_big l, Nat.le_trans (kList_ok l).2 (by decide)⟩

abbrev c_builds_ok : Ct := .fn [.list .str, .list (.int .i64)] (some (fun (raw : List ByteArray) (l : List Int) => (∀ w, w ∈ raw → w.size ≤ 1073741824) ∧ (raw.length ≤ 1073741824) ∧ (l.length ≤ 9223372036854775807))) (fun (raw : List ByteArray) (l : List Int) => .d .bool true)
set_option maxRecDepth 100000 in
set_option maxHeartbeats 4000000 in
theorem builds_ok : CtOk Try.prog 4 c_builds_ok := by
  refine CtOk.fn tb43_ok mixed [] [] rfl rfl ?_
  rintro ⟨(raw : List ByteArray), (l : List Int), _⟩ hpre
  replace hpre := hpre _ rfl
  dsimp only [cu] at hpre
  obtain ⟨hb, hr, hl⟩ := hpre
  refine ⟨[(0, 4, LA.mk [.sl 16 (.int .i64)] (fun y => Tag 33 ∧ cu [.int .i64] (fun (k : Int) => (0 ≤ k ∧ k ≤ 2)) y) (cu [.int .i64] (fun (k : Int) => (2 - k).toNat)) (cu [.int .i64] (fun (k : Int) => ([] : List (Nat × Nat × LA)))))], ?_⟩
  repeat' (first
    | (with_reducible refine Side.mk ⟨(⟨⟩ : Tag 33), ?_⟩
       dsimp only [cu, joinT, ckTys, gts, Prod.eta, List.nil_append]
       omega)
    | (with_reducible refine Side.mk ?_
       (try dsimp only [cu, joinT, ckTys, gts, loK, hiK, Prod.eta, List.nil_append])
       first
       | (done)
       | (with_reducible rfl)
       | (omega)
       | (exact Eq.refl _)
       | (simp only [List.length_append, List.length_cons, List.length_nil]; omega)
       | (assumption)
       | (omega)
       | (have hx := two_of (raw := raw) (l := l) (k := k) (by omega) hb hr
          exact hx.2)
       | (have hx := two_of (raw := raw) (l := l) (k := k) (by omega) hb hr
          exact hx)
       | (have hx := two_of (raw := raw) (l := l) (k := k) (by omega) hb hr
          exact Nat.le_trans (wordsS_len _) (Nat.le_trans hx.2 (by decide)))
       | (have hx := two_of (raw := raw) (l := l) (k := k) (by omega) hb hr
          rw [codesS_len]; exact Nat.le_trans hx.2 (by decide)))
    | (conv => whnf
       first
        | done
        | exact trivial
        | with_reducible refine NilBr.mk (fun h => ?_) ?_
        | with_reducible refine w_andS ?_ ?_
        | with_reducible refine w_andL ?_ ?_
        | with_reducible refine w_kern (by kernel_rfl) ?_
        | with_reducible refine w_true ?_
        | with_reducible refine w_nd ?_ ?_
        | with_reducible refine w_in ?_ ?_
        | with_reducible refine w_and ?_ ?_
        | (with_reducible refine w_brN (fun h => ?_) (fun h => ?_) <;> (try dsimp only [cu, Prod.eta, List.nil_append] at h) <;> (try (exfalso; omega; done)))
        | (with_reducible refine w_brD (fun h => ?_) (fun h => ?_) <;> (try dsimp only [cu, Prod.eta, List.nil_append] at h) <;> (try (exfalso; omega; done)))
        | (with_reducible refine w_br (fun h => ?_) (fun h => ?_) <;> (try dsimp only [cu, Prod.eta, List.nil_append] at h) <;> (try (exfalso; omega; done)))
        | (intro yy (hy : Tag 33 ∧ _)
           obtain ⟨(k : Int), _⟩ := yy
           replace hy := hy.2
           dsimp only [cu, joinT, ckTys, gts, Prod.eta, List.nil_append] at hy
           have hk := hy)))
  all_goals (with_reducible refine Leaf.mk ?_
             (try dsimp only [cu, joinT, ckTys, gts, Prod.eta, List.nil_append] at *)
             first
             | (done)
             | (rfl)
             | (exact absurd rfl (by assumption))
             | (simp_all; done))
abbrev tb44 : Tbl := (4, c_builds_ok) :: tb43
theorem tb44_ok : TblOk Try.prog tb44 := TblOk.cons builds_ok tb43_ok

end Go.Proofs.Ythomnlfmamagcaa
