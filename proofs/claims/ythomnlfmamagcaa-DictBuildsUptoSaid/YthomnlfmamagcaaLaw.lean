/- Walks of the laws. -/
import Derived.Test.YthomnlfmamagcaaDictM
namespace Go.Proofs.Ythomnlfmamagcaa
open Go.Abs
set_option linter.unusedVariables false
set_option linter.unusedSimpArgs false

abbrev tSrc : Ty := .pair (.list (.int .i64)) (.int .i64)
abbrev Src : Type := (List Int) × Int
@[reducible] instance : Inhabited Src := instInhabitedDen tSrc


def pick (v n : Int) : Int := IntKind.i64.wrap (Int.tmod (IntKind.u64.wrap v) (IntKind.u64.wrap n))
theorem pick_lt {v n : Int} (h : 0 < n ∧ n ≤ 9223372036854775807) : 0 ≤ pick v n ∧ pick v n < n := by
  have hn : IntKind.u64.wrap n = n := IntWalk.u64_in n (by omega)
  have hv : 0 ≤ IntKind.u64.wrap v := by simp [IntKind.wrap, IntKind.bits, IntKind.signed]; omega
  have h1 := Int.tmod_nonneg (IntKind.u64.wrap n) hv
  have h2 := Int.tmod_lt_of_pos (IntKind.u64.wrap v) (show 0 < IntKind.u64.wrap n by omega)
  rw [hn] at h1 h2
  unfold pick
  rw [hn, wrap64] <;> omega
theorem u64_ne {n : Int} (h : 0 < n ∧ n ≤ 9223372036854775807) : ¬ IntKind.u64.wrap n = 0 := by
  rw [IntWalk.u64_in n (by omega)]; omega
def Src.ok (s : Src) : Prop := (0 : Int) ≤ s.2 ∧ s.1.length ≤ 9223372036854775807
def Src.next (s : Src) : Src := if s.2 ≥ s.1.length then s else ⟨s.1, s.2 + 1⟩
def Src.val (s : Src) : Int := if s.2 ≥ s.1.length then 0 else s.1[s.2.toNat]!
def Src.pick (s : Src) (n : Int) : Int := if s.2 ≥ s.1.length then 0 else Go.Proofs.Ythomnlfmamagcaa.pick s.1[s.2.toNat]! n
theorem Src.ok_next {s : Src} (h : Src.ok s) : Src.ok (Src.next s) := by
  unfold Src.ok Src.next at *
  split
  · exact h
  · exact ⟨show (0 : Int) ≤ s.2 + 1 by have := h.1; omega, h.2⟩
theorem Src.pick_lt {s : Src} {n : Int} (h : 0 < n ∧ n ≤ 9223372036854775807) : 0 ≤ Src.pick s n ∧ Src.pick s n < n := by
  unfold Src.pick
  split
  · omega
  · exact Go.Proofs.Ythomnlfmamagcaa.pick_lt h
theorem Src.ok_from {l : List Int} (h : l.length ≤ 9223372036854775807) : Src.ok (l, 0) := ⟨by simp, h⟩

abbrev c_pick_ok : Ct := .fn [.int .i64, .int .i64] (some (fun (v : Int) (n : Int) => (¬ IntKind.u64.wrap n = 0))) (fun (v : Int) (n : Int) => .d (.int .i64) (pick v n))
set_option maxRecDepth 100000 in
set_option maxHeartbeats 4000000 in
theorem pick_ok : CtOk Try.prog 19 c_pick_ok := by
  refine CtOk.fn tb29_ok mixed [(0, 1, 5)] [] rfl rfl ?_
  rintro ⟨(v : Int), (n : Int), _⟩ hpre
  replace hpre := hpre _ rfl
  dsimp only [cu] at hpre
  have hn := hpre
  refine ⟨[], ?_⟩
  repeat' (first
    | (with_reducible refine Side.mk ?_
       (try dsimp only [cu, joinT, ckTys, gts, loK, hiK, Prod.eta, List.nil_append])
       first
       | (done)
       | (with_reducible rfl)
       | (omega)
       | (exact Eq.refl _)
       | (simp only [List.length_append, List.length_cons, List.length_nil]; omega)
       | (assumption))
    | (conv => whnf
       first
        | done
        | exact trivial
        | with_reducible refine NilBr.mk (fun h => ?_) ?_
        | with_reducible refine w_andS ?_ ?_
        | with_reducible refine w_andL ?_ ?_
        | with_reducible refine w_kern (by kernel_rfl) ?_
        | with_reducible refine w_true ?_
        | with_reducible refine w_nd ?_ ?_
        | with_reducible refine w_in ?_ ?_
        | with_reducible refine w_and ?_ ?_
        | (with_reducible refine w_brN (fun h => ?_) (fun h => ?_) <;> (try dsimp only [cu, Prod.eta, List.nil_append] at h) <;> (try (exfalso; omega; done)))
        | (with_reducible refine w_brD (fun h => ?_) (fun h => ?_) <;> (try dsimp only [cu, Prod.eta, List.nil_append] at h) <;> (try (exfalso; omega; done)))
        | (with_reducible refine w_br (fun h => ?_) (fun h => ?_) <;> (try dsimp only [cu, Prod.eta, List.nil_append] at h) <;> (try (exfalso; omega; done)))))
  all_goals (with_reducible refine Leaf.mk ?_
             (try dsimp only [cu, joinT, ckTys, gts, Prod.eta, List.nil_append] at *)
             first
             | (done)
             | (rfl))
abbrev tb30 : Tbl := (19, c_pick_ok) :: tb29
theorem tb30_ok : TblOk Try.prog tb30 := TblOk.cons pick_ok tb29_ok

abbrev c_next_ok : Ct := .meth tSrc 70 [.int .i64] (some (fun (s : Src) (n : Int) => (Src.ok s) ∧ (¬ IntKind.u64.wrap n = 0))) (fun (s : Src) (n : Int) => .d (.int .i64) (Src.pick s n)) (fun (s : Src) (n : Int) => Src.next s)
set_option maxRecDepth 100000 in
set_option maxHeartbeats 4000000 in
theorem next_ok : CtOk Try.prog 30 c_next_ok := by
  refine CtOk.meth tb30_ok mixed [] [] rfl rfl ?_
  rintro (s : Src) ⟨(n : Int), _⟩ hpre
  replace hpre := hpre _ rfl
  dsimp only [cu] at hpre
  obtain ⟨hs, hn⟩ := hpre
  obtain ⟨hs0, hs1⟩ := hs
  refine ⟨[], ?_⟩
  repeat' (first
    | (with_reducible refine Side.mk ?_
       (try dsimp only [cu, joinT, ckTys, gts, loK, hiK, Prod.eta, List.nil_append])
       first
       | (done)
       | (with_reducible rfl)
       | (omega)
       | (exact Eq.refl _)
       | (simp only [List.length_append, List.length_cons, List.length_nil]; omega)
       | (assumption)
       | (omega))
    | (conv => whnf
       first
        | done
        | exact trivial
        | with_reducible refine NilBr.mk (fun h => ?_) ?_
        | with_reducible refine w_andS ?_ ?_
        | with_reducible refine w_andL ?_ ?_
        | with_reducible refine w_kern (by kernel_rfl) ?_
        | with_reducible refine w_true ?_
        | with_reducible refine w_nd ?_ ?_
        | with_reducible refine w_in ?_ ?_
        | with_reducible refine w_and ?_ ?_
        | (with_reducible refine w_brN (fun h => ?_) (fun h => ?_) <;> (try dsimp only [cu, Prod.eta, List.nil_append] at h) <;> (try (exfalso; omega; done)))
        | (with_reducible refine w_brD (fun h => ?_) (fun h => ?_) <;> (try dsimp only [cu, Prod.eta, List.nil_append] at h) <;> (try (exfalso; omega; done)))
        | (with_reducible refine w_br (fun h => ?_) (fun h => ?_) <;> (try dsimp only [cu, Prod.eta, List.nil_append] at h) <;> (try (exfalso; omega; done)))))
  all_goals (with_reducible refine Leaf.mk ?_
             (try dsimp only [cu, joinT, ckTys, gts, Prod.eta, List.nil_append] at *)
             first
             | (done)
             | (rw [Src.pick, if_pos (by omega)])
             | (rw [Src.next, if_pos (by omega)])
             | (rw [Src.pick, if_neg (by omega)]
                rw [show s.2 + 1 - 1 = s.2 by omega])
             | (rw [Src.next, if_neg (by omega)]))
abbrev tb31 : Tbl := (30, c_next_ok) :: tb30
theorem tb31_ok : TblOk Try.prog tb31 := TblOk.cons next_ok tb30_ok

abbrev c_from_ok : Ct := .new tSrc 70 [.list (.int .i64)] (none) (fun (l : List Int) => ((l, 0) : Src))
set_option maxRecDepth 100000 in
set_option maxHeartbeats 4000000 in
theorem from_ok : CtOk Try.prog 28 c_from_ok := by
  refine CtOk.new tb31_ok mixed [] [] rfl rfl ?_
  rintro ⟨(l : List Int), _⟩ -
  refine ⟨[], ?_⟩
  repeat' (first
    | (with_reducible refine Side.mk ?_
       (try dsimp only [cu, joinT, ckTys, gts, loK, hiK, Prod.eta, List.nil_append])
       first
       | (done)
       | (with_reducible rfl)
       | (omega)
       | (exact Eq.refl _)
       | (simp only [List.length_append, List.length_cons, List.length_nil]; omega)
       | (grind))
    | (conv => whnf
       first
        | done
        | exact trivial
        | with_reducible refine NilBr.mk (fun h => ?_) ?_
        | with_reducible refine w_andS ?_ ?_
        | with_reducible refine w_andL ?_ ?_
        | with_reducible refine w_kern (by kernel_rfl) ?_
        | with_reducible refine w_true ?_
        | with_reducible refine w_nd ?_ ?_
        | with_reducible refine w_in ?_ ?_
        | with_reducible refine w_and ?_ ?_
        | (with_reducible refine w_brN (fun h => ?_) (fun h => ?_) <;> (try dsimp only [cu, Prod.eta, List.nil_append] at h) <;> (try (exfalso; omega; done)))
        | (with_reducible refine w_brD (fun h => ?_) (fun h => ?_) <;> (try dsimp only [cu, Prod.eta, List.nil_append] at h) <;> (try (exfalso; omega; done)))
        | (with_reducible refine w_br (fun h => ?_) (fun h => ?_) <;> (try dsimp only [cu, Prod.eta, List.nil_append] at h) <;> (try (exfalso; omega; done)))))
  all_goals (with_reducible refine Leaf.mk ?_
             (try dsimp only [cu, joinT, ckTys, gts, Prod.eta, List.nil_append] at *)
             first
             | (done)
             | (rfl))
abbrev tb32 : Tbl := (28, c_from_ok) :: tb31
theorem tb32_ok : TblOk Try.prog tb32 := TblOk.cons from_ok tb31_ok


def ltr (s : Src) : ByteArray := ofInts [IntKind.u8.wrap (97 + Src.pick s 3)]
theorem ltr_size (s : Src) : (ltr s).size = 1 := rfl
def wGo : Nat → Src → ByteArray → ByteArray × Src
  | 0, s, x => (x, s)
  | n + 1, s, x => wGo n (Src.next s) (x ++ ltr s)
theorem wGo_step {k : Int} {s : Src} {x : ByteArray} (h : k > 0) : wGo k.toNat s x = wGo (k - 1).toNat (Src.next s) (x ++ ltr s) := by
  rw [show k.toNat = (k - 1).toNat + 1 by omega]; rfl
def wOf (s : Src) : ByteArray × Src := wGo (Src.pick s 4).toNat (Src.next s) ⟨#[]⟩
def lsGo : Nat → Src → List ByteArray → List ByteArray
  | 0, _, M => M
  | n + 1, s, M => if (s.2 : Int) < s.1.length then lsGo n (wOf s).2 (M ++ [(wOf s).1]) else M
def kList (l : List Int) : List ByteArray := lsGo 120 (l, 0) []
theorem lsGo_step {M : List ByteArray} {s : Src} (h : (M.length : Int) < 120) (h1 : (s.2 : Int) < s.1.length) : lsGo (120 - M.length) s M = lsGo (120 - (M ++ [(wOf s).1]).length) (wOf s).2 (M ++ [(wOf s).1]) := by
  have e : (M ++ [(wOf s).1]).length = M.length + 1 := by simp
  rw [e, show 120 - M.length = (120 - (M.length + 1)) + 1 by omega, lsGo, if_pos h1]
theorem lsGo_end {M : List ByteArray} {s : Src} (h : ¬ (M.length : Int) < 120 ∨ ¬ (s.2 : Int) < s.1.length) : lsGo (120 - M.length) s M = M := by
  rcases Nat.lt_or_ge M.length 120 with q | q
  · rw [show 120 - M.length = (120 - (M.length + 1)) + 1 by omega, lsGo, if_neg]
    rcases h with h | h
    · omega
    · exact h
  · rw [show 120 - M.length = 0 by omega, lsGo]
theorem wGo_size : ∀ (n : Nat) (s : Src) (x : ByteArray), (wGo n s x).1.size = x.size + n
  | 0, s, x => rfl
  | n + 1, s, x => by rw [wGo, wGo_size n, ByteArray.size_append, ltr_size]; omega
theorem wOf_size {s : Src} : (wOf s).1.size ≤ 3 := by
  unfold wOf
  rw [wGo_size]
  have := Src.pick_lt (s := s) (n := 4) ⟨by omega, by omega⟩
  have : ByteArray.size ⟨#[]⟩ = 0 := rfl
  omega
theorem lsGo_ok : ∀ (n : Nat) (s : Src) (M : List ByteArray), (∀ w, w ∈ M → w.size ≤ 3) → (∀ w, w ∈ lsGo n s M → w.size ≤ 3) ∧ (lsGo n s M).length ≤ M.length + n
  | 0, s, M, h => ⟨h, Nat.le_refl _⟩
  | n + 1, s, M, h => by
    rw [lsGo]
    split
    · obtain ⟨h1, h2⟩ := lsGo_ok n (wOf s).2 (M ++ [(wOf s).1]) (fun w hw => by
        rcases List.mem_append.1 hw with q | q
        · exact h w q
        · rw [List.mem_singleton] at q; subst q; exact wOf_size)
      refine ⟨h1, ?_⟩
      simp at h2; omega
    · exact ⟨h, by omega⟩
theorem kList_ok (l : List Int) : (∀ w, w ∈ kList l → w.size ≤ 3) ∧ (kList l).length ≤ 120 := by
  have := lsGo_ok 120 (l, 0) [] (by simp)
  simpa [kList] using this
theorem kList_big (l : List Int) : ∀ w, w ∈ kList l → w.size ≤ 1073741824 := fun w hw => by have := (kList_ok l).1 w hw; omega
theorem encDict_size {l : List ByteArray} (h : ∀ w, w ∈ l → w.size ≤ 1073741824) : (encDict l).size ≤ 4398046584842 := by
  unfold encDict
  split
  · exact Nat.zero_le _
  · rw [ByteArray.size_append]
    have h1 := encWB_take (v := ((wordsS l).length : Int)) (k := (wordsS l).length) h (by omega)
    rw [List.take_of_length_le (Nat.le_refl _)] at h1
    have h2 := packR_size (codesS l) (wdN ((wordsS l).length : Int))
    omega
def AB : List ByteArray := [⟨#[98]⟩, ⟨#[97]⟩, ⟨#[98]⟩]
theorem awake_enc : encDict AB = ⟨#[2, 1, 97, 1, 98, 5]⟩ := by kernel_rfl

abbrev c_left_ok : Ct := .meth tSrc 70 [] (some (fun (s : Src) => (Src.ok s))) (fun (s : Src) => .d .bool (decide ((s.2 : Int) < s.1.length))) (fun (s : Src) => s)
set_option maxRecDepth 100000 in
set_option maxHeartbeats 4000000 in
theorem left_ok : CtOk Try.prog 29 c_left_ok := by
  refine CtOk.meth tb32_ok mixed [] [] rfl rfl ?_
  rintro (s : Src) ⟨⟩ hpre
  replace hpre := hpre _ rfl
  dsimp only [cu] at hpre
  have hs := hpre
  obtain ⟨hs0, hs1⟩ := hs
  refine ⟨[], ?_⟩
  repeat' (first
    | (with_reducible refine Side.mk ?_
       (try dsimp only [cu, joinT, ckTys, gts, loK, hiK, Prod.eta, List.nil_append])
       first
       | (done)
       | (with_reducible rfl)
       | (omega)
       | (exact Eq.refl _)
       | (simp only [List.length_append, List.length_cons, List.length_nil]; omega)
       | (assumption)
       | (omega))
    | (conv => whnf
       first
        | done
        | exact trivial
        | with_reducible refine NilBr.mk (fun h => ?_) ?_
        | with_reducible refine w_andS ?_ ?_
        | with_reducible refine w_andL ?_ ?_
        | with_reducible refine w_kern (by kernel_rfl) ?_
        | with_reducible refine w_true ?_
        | with_reducible refine w_nd ?_ ?_
        | with_reducible refine w_in ?_ ?_
        | with_reducible refine w_and ?_ ?_
        | (with_reducible refine w_brN (fun h => ?_) (fun h => ?_) <;> (try dsimp only [cu, Prod.eta, List.nil_append] at h) <;> (try (exfalso; omega; done)))
        | (with_reducible refine w_brD (fun h => ?_) (fun h => ?_) <;> (try dsimp only [cu, Prod.eta, List.nil_append] at h) <;> (try (exfalso; omega; done)))
        | (with_reducible refine w_br (fun h => ?_) (fun h => ?_) <;> (try dsimp only [cu, Prod.eta, List.nil_append] at h) <;> (try (exfalso; omega; done)))))
  all_goals (with_reducible refine Leaf.mk ?_
             (try dsimp only [cu, joinT, ckTys, gts, Prod.eta, List.nil_append] at *)
             first
             | (done)
             | (rfl))
abbrev tb33 : Tbl := (29, c_left_ok) :: tb32
theorem tb33_ok : TblOk Try.prog tb33 := TblOk.cons left_ok tb32_ok

abbrev c_list_ok : Ct := .fn [.list (.int .i64)] (some (fun (l : List Int) => (l.length ≤ 9223372036854775807))) (fun (l : List Int) => .d (.list .str) (kList l))
set_option maxRecDepth 100000 in
set_option maxHeartbeats 4000000 in
theorem list_ok : CtOk Try.prog 14 c_list_ok := by
  refine CtOk.fn tb33_ok mixed [] [] rfl rfl ?_
  rintro ⟨(l : List Int), _⟩ hpre
  replace hpre := hpre _ rfl
  dsimp only [cu] at hpre
  have hl0 := hpre
  refine ⟨[(0, 6, LA.mk [.ob 0 tSrc 70, .lst 4 .str 9] (fun y => Tag 27 ∧ cu [tSrc, .list .str] (fun (s : Src) (M : List ByteArray) => (Src.ok s) ∧ (kList l = lsGo (120 - M.length) s M) ∧ ((M.length : Int) ≤ 120)) y) (cu [tSrc, .list .str] (fun (s : Src) (M : List ByteArray) => (120 - (M.length : Int)).toNat)) (cu [tSrc, .list .str] (fun (s : Src) (M : List ByteArray) => ([(0, 12, LA.mk [.sl 6 (.int .i64), .sl 5 .str, .ob 0 tSrc 70] (fun y => Tag 28 ∧ cu [.int .i64, .str, tSrc] (fun (k : Int) (x : ByteArray) (q : Src) => (0 ≤ k ∧ k ≤ 3) ∧ (Src.ok q) ∧ ((x.size : Int) ≤ 3 - k) ∧ (wGo k.toNat q x = wOf s)) y) (cu [.int .i64, .str, tSrc] (fun (k : Int) (x : ByteArray) (q : Src) => k.toNat)) (cu [.int .i64, .str, tSrc] (fun (k : Int) (x : ByteArray) (q : Src) => ([] : List (Nat × Nat × LA)))))] : List (Nat × Nat × LA)))))], ?_⟩
  repeat' (first
    | (with_reducible refine Side.mk ⟨(⟨⟩ : Tag 27), ?_⟩
       dsimp only [cu, joinT, ckTys, gts, Prod.eta, List.nil_append]
       refine ⟨?_, ?_, ?_⟩
       · (repeat (first | assumption | exact Src.ok_from (by assumption) | apply Src.ok_next)); done
       · first
         | (rfl)
         | (rw [hM, lsGo_step (by omega) (by assumption), ← hw, show k.toNat = 0 by omega]; rfl)
       · first
         | (simp only [List.length_nil]; omega)
         | (simp only [List.length_append, List.length_cons, List.length_nil]; omega))
    | (with_reducible refine Side.mk ⟨(⟨⟩ : Tag 28), ?_⟩
       dsimp only [cu, joinT, ckTys, gts, Prod.eta, List.nil_append]
       refine ⟨?_, ?_, ?_, ?_⟩
       · first
         | (have := @Src.pick_lt; grind)
         | (omega)
       · (repeat (first | assumption | exact Src.ok_from (by assumption) | apply Src.ok_next)); done
       · first
         | (have h0 : (ByteArray.size ⟨#[]⟩) = 0 := rfl
            have := @Src.pick_lt; grind)
         | (rw [ByteArray.size_append]
            have e1 : (ofInts [IntKind.u8.wrap (97 + Src.pick q 3)]).size = 1 := rfl
            omega)
       · first
         | (rfl)
         | (rw [← hw, wGo_step (k := k) (by omega)]; rfl))
    | (with_reducible refine Side.mk ?_
       (try dsimp only [cu, joinT, ckTys, gts, loK, hiK, Prod.eta, List.nil_append])
       first
       | (done)
       | (with_reducible rfl)
       | (omega)
       | (exact Eq.refl _)
       | (simp only [List.length_append, List.length_cons, List.length_nil]; omega)
       | ((repeat (first | assumption | exact Src.ok_from (by assumption) | apply Src.ok_next)); done)
       | (exact u64_ne (by omega))
       | (have := @Src.pick_lt; grind)
       | (refine ⟨?_, by decide⟩
          (repeat (first | assumption | exact Src.ok_from (by assumption) | apply Src.ok_next)); done)
       | (rw [ByteArray.size_append]; omega)
       | (have e1 : (ofInts [IntKind.u8.wrap (97 + Src.pick q 3)]).size = 1 := rfl
          omega)
       | (simp only [List.length_cons, List.length_nil]; omega))
    | (conv => whnf
       first
        | done
        | exact trivial
        | with_reducible refine NilBr.mk (fun h => ?_) ?_
        | with_reducible refine w_andS ?_ ?_
        | with_reducible refine w_andL ?_ ?_
        | with_reducible refine w_kern (by kernel_rfl) ?_
        | with_reducible refine w_true ?_
        | with_reducible refine w_nd ?_ ?_
        | with_reducible refine w_in ?_ ?_
        | with_reducible refine w_and ?_ ?_
        | (with_reducible refine w_brN (fun h => ?_) (fun h => ?_) <;> (try dsimp only [cu, Prod.eta, List.nil_append] at h) <;> (try (exfalso; omega; done)))
        | (with_reducible refine w_brD (fun h => ?_) (fun h => ?_) <;> (try dsimp only [cu, Prod.eta, List.nil_append] at h) <;> (try (exfalso; omega; done)))
        | (with_reducible refine w_br (fun h => ?_) (fun h => ?_) <;> (try dsimp only [cu, Prod.eta, List.nil_append] at h) <;> (try (exfalso; omega; done)))
        | (intro yy (hy : Tag 27 ∧ _)
           obtain ⟨(s : Src), (M : List ByteArray), _⟩ := yy
           replace hy := hy.2
           dsimp only [cu, joinT, ckTys, gts, Prod.eta, List.nil_append] at hy
           obtain ⟨hs, hM, hl⟩ := hy)
        | (intro yy (hy : Tag 28 ∧ _)
           obtain ⟨(k : Int), (x : ByteArray), (q : Src), _⟩ := yy
           replace hy := hy.2
           dsimp only [cu, joinT, ckTys, gts, Prod.eta, List.nil_append] at hy
           obtain ⟨hk, hq, hx, hw⟩ := hy)))
  all_goals (with_reducible refine Leaf.mk ?_
             (try dsimp only [cu, joinT, ckTys, gts, Prod.eta, List.nil_append] at *)
             first
             | (done)
             | (rw [hM, lsGo_end (.inl (by omega))])
             | (rw [hM, lsGo_end (.inr (by simp_all; done))])
             | (rw [hM, lsGo_end (.inr (by assumption))]))
abbrev tb34 : Tbl := (14, c_list_ok) :: tb33
theorem tb34_ok : TblOk Try.prog tb34 := TblOk.cons list_ok tb33_ok

abbrev c_awake_ok : Ct := .fn [] (none) (.d .bool true)
set_option maxRecDepth 100000 in
set_option maxHeartbeats 4000000 in
theorem awake_ok : CtOk Try.prog 17 c_awake_ok := by
  refine CtOk.fn tb34_ok mixed [] [] rfl rfl ?_
  rintro ⟨⟩ -
  refine ⟨[], ?_⟩
  repeat' (first
    | (with_reducible refine Side.mk ?_
       (try dsimp only [cu, joinT, ckTys, gts, loK, hiK, Prod.eta, List.nil_append])
       first
       | (done)
       | (with_reducible rfl)
       | (omega)
       | (exact Eq.refl _)
       | (simp only [List.length_append, List.length_cons, List.length_nil]; omega)
       | (exact ⟨by decide, by decide⟩)
       | (decide))
    | (conv => whnf
       first
        | done
        | exact trivial
        | with_reducible refine NilBr.mk (fun h => ?_) ?_
        | with_reducible refine w_andS ?_ ?_
        | with_reducible refine w_andL ?_ ?_
        | with_reducible refine w_kern (by kernel_rfl) ?_
        | with_reducible refine w_true ?_
        | with_reducible refine w_nd ?_ ?_
        | with_reducible refine w_in ?_ ?_
        | with_reducible refine w_and ?_ ?_
        | (with_reducible refine w_brN (fun h => ?_) (fun h => ?_) <;> (try dsimp only [cu, Prod.eta, List.nil_append] at h) <;> (try (exfalso; omega; done)))
        | (with_reducible refine w_brD (fun h => ?_) (fun h => ?_) <;> (try dsimp only [cu, Prod.eta, List.nil_append] at h) <;> (try (exfalso; omega; done)))
        | (with_reducible refine w_br (fun h => ?_) (fun h => ?_) <;> (try dsimp only [cu, Prod.eta, List.nil_append] at h) <;> (try (exfalso; omega; done)))))
  all_goals (with_reducible refine Leaf.mk ?_
             (try dsimp only [cu, joinT, ckTys, gts, Prod.eta, List.nil_append] at *)
             first
             | (done)
             | (exact decide_eq_true awake_enc))
abbrev tb35 : Tbl := (17, c_awake_ok) :: tb34
theorem tb35_ok : TblOk Try.prog tb35 := TblOk.cons awake_ok tb34_ok

end Go.Proofs.Ythomnlfmamagcaa
