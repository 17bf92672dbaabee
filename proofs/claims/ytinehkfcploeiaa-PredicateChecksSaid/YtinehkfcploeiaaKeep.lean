/- Contracts of the makers of the statements. -/
import Derived.Test.YtinehkfcploeiaaEval3
namespace Go.Proofs.Ytinehkfcploeiaa
open Go.Abs
set_option linter.unusedVariables false
set_option linter.unusedSimpArgs false

abbrev tSrc : Ty := .pair (.list (.int .i64)) (.int .i64)
abbrev Src : Type := (List Int) × Int
@[reducible] instance : Inhabited Src := instInhabitedDen tSrc


def pick (v n : Int) : Int := IntKind.i64.wrap (Int.tmod (IntKind.u64.wrap v) (IntKind.u64.wrap n))
theorem pick_lt {v n : Int} (h : 0 < n ∧ n ≤ 9223372036854775807) : 0 ≤ pick v n ∧ pick v n < n := by
  have hn : IntKind.u64.wrap n = n := IntWalk.u64_in n (by omega)
  have hv : 0 ≤ IntKind.u64.wrap v := by simp [IntKind.wrap, IntKind.bits, IntKind.signed]; omega
  have h1 := Int.tmod_nonneg (IntKind.u64.wrap n) hv
  have h2 := Int.tmod_lt_of_pos (IntKind.u64.wrap v) (show 0 < IntKind.u64.wrap n by omega)
  rw [hn] at h1 h2
  unfold pick
  rw [hn, wrap64] <;> omega
theorem u64_ne {n : Int} (h : 0 < n ∧ n ≤ 9223372036854775807) : ¬ IntKind.u64.wrap n = 0 := by
  rw [IntWalk.u64_in n (by omega)]; omega
def Src.ok (s : Src) : Prop := (0 : Int) ≤ s.2 ∧ s.1.length ≤ 9223372036854775807
def Src.next (s : Src) : Src := if s.2 ≥ s.1.length then s else ⟨s.1, s.2 + 1⟩
def Src.val (s : Src) : Int := if s.2 ≥ s.1.length then 0 else s.1[s.2.toNat]!
def Src.pick (s : Src) (n : Int) : Int := if s.2 ≥ s.1.length then 0 else Go.Proofs.Ytinehkfcploeiaa.pick s.1[s.2.toNat]! n
theorem Src.ok_next {s : Src} (h : Src.ok s) : Src.ok (Src.next s) := by
  unfold Src.ok Src.next at *
  split
  · exact h
  · exact ⟨show (0 : Int) ≤ s.2 + 1 by have := h.1; omega, h.2⟩
theorem Src.pick_lt {s : Src} {n : Int} (h : 0 < n ∧ n ≤ 9223372036854775807) : 0 ≤ Src.pick s n ∧ Src.pick s n < n := by
  unfold Src.pick
  split
  · omega
  · exact Go.Proofs.Ytinehkfcploeiaa.pick_lt h
theorem Src.ok_from {l : List Int} (h : l.length ≤ 9223372036854775807) : Src.ok (l, 0) := ⟨by simp, h⟩

abbrev c_pick_ok : Ct := .fn [.int .i64, .int .i64] (some (fun (v : Int) (n : Int) => (¬ IntKind.u64.wrap n = 0))) (fun (v : Int) (n : Int) => .d (.int .i64) (pick v n))
set_option maxRecDepth 100000 in
set_option maxHeartbeats 4000000 in
theorem pick_ok : CtOk Try.prog 13 c_pick_ok := by
  refine CtOk.fn tb38_ok mixed [(0, 1, 5)] [] rfl rfl ?_
  rintro ⟨(v : Int), (n : Int), _⟩ hpre
  replace hpre := hpre _ rfl
  dsimp only [cu] at hpre
  have hn := hpre
  refine ⟨[], ?_⟩
  repeat' (first
    | (
 with_reducible refine Side.mk ?_
 (try dsimp only [cu, joinT, ckTys, gts, loK, hiK, Prod.eta, List.nil_append])
 first
 | (done)
 | (with_reducible rfl)
 | (omega)
 | (exact Eq.refl _)
 | (simp only [List.length_append, List.length_cons, List.length_nil]; omega)
 | (assumption))
    | (conv => whnf
       first
        | done
        | exact trivial
        | with_reducible refine NilBr.mk (fun h => ?_) ?_
        | with_reducible first | refine w_andS ?_ ?_ | refine w_andL ?_ ?_ | refine w_kern (by kernel_rfl) ?_ | refine w_true ?_ | refine w_nd ?_ ?_ | refine w_in ?_ ?_ | refine w_and ?_ ?_
        | ((with_reducible first | refine w_brN (fun h => ?_) (fun h => ?_) | refine w_brD (fun h => ?_) (fun h => ?_) | refine w_br (fun h => ?_) (fun h => ?_)) <;> (try dsimp only [cu, Prod.eta, List.nil_append] at h) <;> (try (exfalso; omega; done)))))
  all_goals (
 with_reducible refine Leaf.mk ?_
 (try dsimp only [cu, joinT, ckTys, gts, Prod.eta, List.nil_append] at *)
 first
 | (done)
 | (rfl))
abbrev tb39 : Tbl := (13, c_pick_ok) :: tb38
theorem tb39_ok : TblOk Try.prog tb39 := TblOk.cons pick_ok tb38_ok

abbrev c_next_ok : Ct := .meth tSrc 85 [.int .i64] (some (fun (s : Src) (n : Int) => (Src.ok s) ∧ (¬ IntKind.u64.wrap n = 0))) (fun (s : Src) (n : Int) => .d (.int .i64) (Src.pick s n)) (fun (s : Src) (n : Int) => Src.next s)
set_option maxRecDepth 100000 in
set_option maxHeartbeats 4000000 in
theorem next_ok : CtOk Try.prog 34 c_next_ok := by
  refine CtOk.meth tb39_ok mixed [] [] rfl rfl ?_
  rintro (s : Src) ⟨(n : Int), _⟩ hpre
  replace hpre := hpre _ rfl
  dsimp only [cu] at hpre
  obtain ⟨hs, hn⟩ := hpre
  obtain ⟨hs0, hs1⟩ := hs
  refine ⟨[], ?_⟩
  repeat' (first
    | (
 with_reducible refine Side.mk ?_
 (try dsimp only [cu, joinT, ckTys, gts, loK, hiK, Prod.eta, List.nil_append])
 first
 | (done)
 | (with_reducible rfl)
 | (omega)
 | (exact Eq.refl _)
 | (simp only [List.length_append, List.length_cons, List.length_nil]; omega)
 | (assumption))
    | (conv => whnf
       first
        | done
        | exact trivial
        | with_reducible refine NilBr.mk (fun h => ?_) ?_
        | with_reducible first | refine w_andS ?_ ?_ | refine w_andL ?_ ?_ | refine w_kern (by kernel_rfl) ?_ | refine w_true ?_ | refine w_nd ?_ ?_ | refine w_in ?_ ?_ | refine w_and ?_ ?_
        | ((with_reducible first | refine w_brN (fun h => ?_) (fun h => ?_) | refine w_brD (fun h => ?_) (fun h => ?_) | refine w_br (fun h => ?_) (fun h => ?_)) <;> (try dsimp only [cu, Prod.eta, List.nil_append] at h) <;> (try (exfalso; omega; done)))))
  all_goals (
 with_reducible refine Leaf.mk ?_
 (try dsimp only [cu, joinT, ckTys, gts, Prod.eta, List.nil_append] at *)
 first
 | (done)
 | (rw [Src.pick, if_pos (by omega)])
 | (rw [Src.next, if_pos (by omega)])
 | (
  rw [Src.pick, if_neg (by omega)]
  rw [show s.2 + 1 - 1 = s.2 by omega])
 | (rw [Src.next, if_neg (by omega)]))
abbrev tb40 : Tbl := (34, c_next_ok) :: tb39
theorem tb40_ok : TblOk Try.prog tb40 := TblOk.cons next_ok tb39_ok

abbrev c_raw_ok : Ct := .meth tSrc 85 [] (some (fun (s : Src) => (Src.ok s))) (fun (s : Src) => .d (.int .i64) (Src.val s)) (fun (s : Src) => Src.next s)
set_option maxRecDepth 100000 in
set_option maxHeartbeats 4000000 in
theorem raw_ok : CtOk Try.prog 59 c_raw_ok := by
  refine CtOk.meth tb40_ok mixed [] [] rfl rfl ?_
  rintro (s : Src) ⟨⟩ hpre
  replace hpre := hpre _ rfl
  dsimp only [cu] at hpre
  have hs := hpre
  obtain ⟨hs0, hs1⟩ := hs
  refine ⟨[], ?_⟩
  repeat' (first
    | (
 with_reducible refine Side.mk ?_
 (try dsimp only [cu, joinT, ckTys, gts, loK, hiK, Prod.eta, List.nil_append])
 first
 | (done)
 | (with_reducible rfl)
 | (omega)
 | (exact Eq.refl _)
 | (simp only [List.length_append, List.length_cons, List.length_nil]; omega)
 | (assumption))
    | (conv => whnf
       first
        | done
        | exact trivial
        | with_reducible refine NilBr.mk (fun h => ?_) ?_
        | with_reducible first | refine w_andS ?_ ?_ | refine w_andL ?_ ?_ | refine w_kern (by kernel_rfl) ?_ | refine w_true ?_ | refine w_nd ?_ ?_ | refine w_in ?_ ?_ | refine w_and ?_ ?_
        | ((with_reducible first | refine w_brN (fun h => ?_) (fun h => ?_) | refine w_brD (fun h => ?_) (fun h => ?_) | refine w_br (fun h => ?_) (fun h => ?_)) <;> (try dsimp only [cu, Prod.eta, List.nil_append] at h) <;> (try (exfalso; omega; done)))))
  all_goals (
 with_reducible refine Leaf.mk ?_
 (try dsimp only [cu, joinT, ckTys, gts, Prod.eta, List.nil_append] at *)
 first
 | (done)
 | (rw [Src.val, if_pos (by omega)])
 | (rw [Src.next, if_pos (by omega)])
 | (
  rw [Src.val, if_neg (by omega)]
  rw [show s.2 + 1 - 1 = s.2 by omega])
 | (rw [Src.next, if_neg (by omega)]))
abbrev tb41 : Tbl := (59, c_raw_ok) :: tb40
theorem tb41_ok : TblOk Try.prog tb41 := TblOk.cons raw_ok tb40_ok

abbrev c_from_ok : Ct := .new tSrc 85 [.list (.int .i64)] (none) (fun (l : List Int) => ((l, 0) : Src))
set_option maxRecDepth 100000 in
set_option maxHeartbeats 4000000 in
theorem from_ok : CtOk Try.prog 33 c_from_ok := by
  refine CtOk.new tb41_ok mixed [] [] rfl rfl ?_
  rintro ⟨(l : List Int), _⟩ -
  refine ⟨[], ?_⟩
  repeat' (first
    | (
 with_reducible refine Side.mk ?_
 (try dsimp only [cu, joinT, ckTys, gts, loK, hiK, Prod.eta, List.nil_append])
 first
 | (done)
 | (with_reducible rfl)
 | (omega)
 | (exact Eq.refl _)
 | (simp only [List.length_append, List.length_cons, List.length_nil]; omega)
 | (grind))
    | (conv => whnf
       first
        | done
        | exact trivial
        | with_reducible refine NilBr.mk (fun h => ?_) ?_
        | with_reducible first | refine w_andS ?_ ?_ | refine w_andL ?_ ?_ | refine w_kern (by kernel_rfl) ?_ | refine w_true ?_ | refine w_nd ?_ ?_ | refine w_in ?_ ?_ | refine w_and ?_ ?_
        | ((with_reducible first | refine w_brN (fun h => ?_) (fun h => ?_) | refine w_brD (fun h => ?_) (fun h => ?_) | refine w_br (fun h => ?_) (fun h => ?_)) <;> (try dsimp only [cu, Prod.eta, List.nil_append] at h) <;> (try (exfalso; omega; done)))))
  all_goals (
 with_reducible refine Leaf.mk ?_
 (try dsimp only [cu, joinT, ckTys, gts, Prod.eta, List.nil_append] at *)
 first
 | (done)
 | (rfl))
abbrev tb42 : Tbl := (33, c_from_ok) :: tb41
theorem tb42_ok : TblOk Try.prog tb42 := TblOk.cons from_ok tb41_ok

end Go.Proofs.Ytinehkfcploeiaa
