/- Contracts of the makers of the statements. -/
import Derived.Test.YtojdmkkjamakiaaUnion
namespace Go.Proofs.Ytojdmkkjamakiaa
open Go.Abs
set_option linter.unusedVariables false
set_option linter.unusedSimpArgs false

abbrev tSrc : Ty := .pair (.list (.int .i64)) (.int .i64)
abbrev Src : Type := (List Int) × Int
@[reducible] instance : Inhabited Src := instInhabitedDen tSrc


def pick (v n : Int) : Int := IntKind.i64.wrap (Int.tmod (IntKind.u64.wrap v) (IntKind.u64.wrap n))
theorem pick_lt {v n : Int} (h : 0 < n ∧ n ≤ 9223372036854775807) : 0 ≤ pick v n ∧ pick v n < n := by
  have hn : IntKind.u64.wrap n = n := IntWalk.u64_in n (by omega)
  have hv : 0 ≤ IntKind.u64.wrap v := by simp [IntKind.wrap, IntKind.bits, IntKind.signed]; omega
  have h1 := Int.tmod_nonneg (IntKind.u64.wrap n) hv
  have h2 := Int.tmod_lt_of_pos (IntKind.u64.wrap v) (show 0 < IntKind.u64.wrap n by omega)
  rw [hn] at h1 h2
  unfold pick
  rw [hn, wrap64] <;> omega
theorem u64_ne {n : Int} (h : 0 < n ∧ n ≤ 9223372036854775807) : ¬ IntKind.u64.wrap n = 0 := by
  rw [IntWalk.u64_in n (by omega)]; omega
def Src.ok (s : Src) : Prop := (0 : Int) ≤ s.2 ∧ s.1.length ≤ 9223372036854775807
def Src.next (s : Src) : Src := if s.2 ≥ s.1.length then s else ⟨s.1, s.2 + 1⟩
def Src.val (s : Src) : Int := if s.2 ≥ s.1.length then 0 else s.1[s.2.toNat]!
def Src.pick (s : Src) (n : Int) : Int := if s.2 ≥ s.1.length then 0 else Go.Proofs.Ytojdmkkjamakiaa.pick s.1[s.2.toNat]! n
theorem Src.ok_next {s : Src} (h : Src.ok s) : Src.ok (Src.next s) := by
  unfold Src.ok Src.next at *
  split
  · exact h
  · exact ⟨show (0 : Int) ≤ s.2 + 1 by have := h.1; omega, h.2⟩
theorem Src.pick_lt {s : Src} {n : Int} (h : 0 < n ∧ n ≤ 9223372036854775807) : 0 ≤ Src.pick s n ∧ Src.pick s n < n := by
  unfold Src.pick
  split
  · omega
  · exact Go.Proofs.Ytojdmkkjamakiaa.pick_lt h
theorem Src.ok_from {l : List Int} (h : l.length ≤ 9223372036854775807) : Src.ok (l, 0) := ⟨by simp, h⟩

abbrev c_pick_ok : Ct := .fn [.int .i64, .int .i64] (some (fun (v : Int) (n : Int) => (¬ IntKind.u64.wrap n = 0))) (fun (v : Int) (n : Int) => .d (.int .i64) (pick v n))
set_option maxRecDepth 100000 in
set_option maxHeartbeats 4000000 in
theorem pick_ok : CtOk Try.prog 21 c_pick_ok := by
  refine CtOk.fn tb20_ok mixed [(0, 1, 5)] [] rfl rfl ?_
  rintro ⟨(v : Int), (n : Int), _⟩ hpre
  replace hpre := hpre _ rfl
  dsimp only [cu] at hpre
  have hn := hpre
  refine ⟨[], ?_⟩
  repeat' (first
    | (with_reducible refine Side.mk ?_
       (try dsimp only [cu, joinT, ckTys, gts, loK, hiK, Prod.eta, List.nil_append])
       first
       | (done)
       | (with_reducible rfl)
       | (omega)
       | (exact Eq.refl _)
       | (simp only [List.length_append, List.length_cons, List.length_nil]; omega)
       | (assumption))
    | (conv => whnf
       first
        | done
        | exact trivial
        | with_reducible refine NilBr.mk (fun h => ?_) ?_
        | with_reducible refine w_andS ?_ ?_
        | with_reducible refine w_andL ?_ ?_
        | with_reducible refine w_kern (by kernel_rfl) ?_
        | with_reducible refine w_true ?_
        | with_reducible refine w_nd ?_ ?_
        | with_reducible refine w_in ?_ ?_
        | with_reducible refine w_and ?_ ?_
        | (with_reducible refine w_brN (fun h => ?_) (fun h => ?_) <;> (try dsimp only [cu, Prod.eta, List.nil_append] at h) <;> (try (exfalso; omega; done)))
        | (with_reducible refine w_brD (fun h => ?_) (fun h => ?_) <;> (try dsimp only [cu, Prod.eta, List.nil_append] at h) <;> (try (exfalso; omega; done)))
        | (with_reducible refine w_br (fun h => ?_) (fun h => ?_) <;> (try dsimp only [cu, Prod.eta, List.nil_append] at h) <;> (try (exfalso; omega; done)))))
  all_goals (with_reducible refine Leaf.mk ?_
             (try dsimp only [cu, joinT, ckTys, gts, Prod.eta, List.nil_append] at *)
             first
             | (done)
             | (rfl))
abbrev tb21 : Tbl := (21, c_pick_ok) :: tb20
theorem tb21_ok : TblOk Try.prog tb21 := TblOk.cons pick_ok tb20_ok

abbrev c_next_ok : Ct := .meth tSrc 83 [.int .i64] (some (fun (s : Src) (n : Int) => (Src.ok s) ∧ (¬ IntKind.u64.wrap n = 0))) (fun (s : Src) (n : Int) => .d (.int .i64) (Src.pick s n)) (fun (s : Src) (n : Int) => Src.next s)
set_option maxRecDepth 100000 in
set_option maxHeartbeats 4000000 in
theorem next_ok : CtOk Try.prog 33 c_next_ok := by
  refine CtOk.meth tb21_ok mixed [] [] rfl rfl ?_
  rintro (s : Src) ⟨(n : Int), _⟩ hpre
  replace hpre := hpre _ rfl
  dsimp only [cu] at hpre
  obtain ⟨hs, hn⟩ := hpre
  obtain ⟨hs0, hs1⟩ := hs
  refine ⟨[], ?_⟩
  repeat' (first
    | (with_reducible refine Side.mk ?_
       (try dsimp only [cu, joinT, ckTys, gts, loK, hiK, Prod.eta, List.nil_append])
       first
       | (done)
       | (with_reducible rfl)
       | (omega)
       | (exact Eq.refl _)
       | (simp only [List.length_append, List.length_cons, List.length_nil]; omega)
       | (assumption)
       | (omega))
    | (conv => whnf
       first
        | done
        | exact trivial
        | with_reducible refine NilBr.mk (fun h => ?_) ?_
        | with_reducible refine w_andS ?_ ?_
        | with_reducible refine w_andL ?_ ?_
        | with_reducible refine w_kern (by kernel_rfl) ?_
        | with_reducible refine w_true ?_
        | with_reducible refine w_nd ?_ ?_
        | with_reducible refine w_in ?_ ?_
        | with_reducible refine w_and ?_ ?_
        | (with_reducible refine w_brN (fun h => ?_) (fun h => ?_) <;> (try dsimp only [cu, Prod.eta, List.nil_append] at h) <;> (try (exfalso; omega; done)))
        | (with_reducible refine w_brD (fun h => ?_) (fun h => ?_) <;> (try dsimp only [cu, Prod.eta, List.nil_append] at h) <;> (try (exfalso; omega; done)))
        | (with_reducible refine w_br (fun h => ?_) (fun h => ?_) <;> (try dsimp only [cu, Prod.eta, List.nil_append] at h) <;> (try (exfalso; omega; done)))))
  all_goals (with_reducible refine Leaf.mk ?_
             (try dsimp only [cu, joinT, ckTys, gts, Prod.eta, List.nil_append] at *)
             first
             | (done)
             | (rw [Src.pick, if_pos (by omega)])
             | (rw [Src.next, if_pos (by omega)])
             | (rw [Src.pick, if_neg (by omega)]
                rw [show s.2 + 1 - 1 = s.2 by omega])
             | (rw [Src.next, if_neg (by omega)]))
abbrev tb22 : Tbl := (33, c_next_ok) :: tb21
theorem tb22_ok : TblOk Try.prog tb22 := TblOk.cons next_ok tb21_ok

abbrev c_raw_ok : Ct := .meth tSrc 83 [] (some (fun (s : Src) => (Src.ok s))) (fun (s : Src) => .d (.int .i64) (Src.val s)) (fun (s : Src) => Src.next s)
set_option maxRecDepth 100000 in
set_option maxHeartbeats 4000000 in
theorem raw_ok : CtOk Try.prog 69 c_raw_ok := by
  refine CtOk.meth tb22_ok mixed [] [] rfl rfl ?_
  rintro (s : Src) ⟨⟩ hpre
  replace hpre := hpre _ rfl
  dsimp only [cu] at hpre
  have hs := hpre
  obtain ⟨hs0, hs1⟩ := hs
  refine ⟨[], ?_⟩
  repeat' (first
    | (with_reducible refine Side.mk ?_
       (try dsimp only [cu, joinT, ckTys, gts, loK, hiK, Prod.eta, List.nil_append])
       first
       | (done)
       | (with_reducible rfl)
       | (omega)
       | (exact Eq.refl _)
       | (simp only [List.length_append, List.length_cons, List.length_nil]; omega)
       | (assumption)
       | (omega))
    | (conv => whnf
       first
        | done
        | exact trivial
        | with_reducible refine NilBr.mk (fun h => ?_) ?_
        | with_reducible refine w_andS ?_ ?_
        | with_reducible refine w_andL ?_ ?_
        | with_reducible refine w_kern (by kernel_rfl) ?_
        | with_reducible refine w_true ?_
        | with_reducible refine w_nd ?_ ?_
        | with_reducible refine w_in ?_ ?_
        | with_reducible refine w_and ?_ ?_
        | (with_reducible refine w_brN (fun h => ?_) (fun h => ?_) <;> (try dsimp only [cu, Prod.eta, List.nil_append] at h) <;> (try (exfalso; omega; done)))
        | (with_reducible refine w_brD (fun h => ?_) (fun h => ?_) <;> (try dsimp only [cu, Prod.eta, List.nil_append] at h) <;> (try (exfalso; omega; done)))
        | (with_reducible refine w_br (fun h => ?_) (fun h => ?_) <;> (try dsimp only [cu, Prod.eta, List.nil_append] at h) <;> (try (exfalso; omega; done)))))
  all_goals (with_reducible refine Leaf.mk ?_
             (try dsimp only [cu, joinT, ckTys, gts, Prod.eta, List.nil_append] at *)
             first
             | (done)
             | (rw [Src.val, if_pos (by omega)])
             | (rw [Src.next, if_pos (by omega)])
             | (rw [Src.val, if_neg (by omega)]
                rw [show s.2 + 1 - 1 = s.2 by omega])
             | (rw [Src.next, if_neg (by omega)]))
abbrev tb23 : Tbl := (69, c_raw_ok) :: tb22
theorem tb23_ok : TblOk Try.prog tb23 := TblOk.cons raw_ok tb22_ok

abbrev c_from_ok : Ct := .new tSrc 83 [.list (.int .i64)] (none) (fun (l : List Int) => ((l, 0) : Src))
set_option maxRecDepth 100000 in
set_option maxHeartbeats 4000000 in
theorem from_ok : CtOk Try.prog 32 c_from_ok := by
  refine CtOk.new tb23_ok mixed [] [] rfl rfl ?_
  rintro ⟨(l : List Int), _⟩ -
  refine ⟨[], ?_⟩
  repeat' (first
    | (with_reducible refine Side.mk ?_
       (try dsimp only [cu, joinT, ckTys, gts, loK, hiK, Prod.eta, List.nil_append])
       first
       | (done)
       | (with_reducible rfl)
       | (omega)
       | (exact Eq.refl _)
       | (simp only [List.length_append, List.length_cons, List.length_nil]; omega)
       | (grind))
    | (conv => whnf
       first
        | done
        | exact trivial
        | with_reducible refine NilBr.mk (fun h => ?_) ?_
        | with_reducible refine w_andS ?_ ?_
        | with_reducible refine w_andL ?_ ?_
        | with_reducible refine w_kern (by kernel_rfl) ?_
        | with_reducible refine w_true ?_
        | with_reducible refine w_nd ?_ ?_
        | with_reducible refine w_in ?_ ?_
        | with_reducible refine w_and ?_ ?_
        | (with_reducible refine w_brN (fun h => ?_) (fun h => ?_) <;> (try dsimp only [cu, Prod.eta, List.nil_append] at h) <;> (try (exfalso; omega; done)))
        | (with_reducible refine w_brD (fun h => ?_) (fun h => ?_) <;> (try dsimp only [cu, Prod.eta, List.nil_append] at h) <;> (try (exfalso; omega; done)))
        | (with_reducible refine w_br (fun h => ?_) (fun h => ?_) <;> (try dsimp only [cu, Prod.eta, List.nil_append] at h) <;> (try (exfalso; omega; done)))))
  all_goals (with_reducible refine Leaf.mk ?_
             (try dsimp only [cu, joinT, ckTys, gts, Prod.eta, List.nil_append] at *)
             first
             | (done)
             | (rfl))
abbrev tb24 : Tbl := (32, c_from_ok) :: tb23
theorem tb24_ok : TblOk Try.prog tb24 := TblOk.cons from_ok tb23_ok


/-- The list that the statements make: from k on, with what the source gives. -/
def vecGo : Nat → Src → Int → Int → List Int
  | 0, _, _, _ => []
  | n + 1, s, k, rows => if k < rows ∧ s.2 < s.1.length then k :: vecGo n (Src.next s) (k + (1 + Src.pick s 5)) rows else []
def vec (l : List Int) (rows : Int) : List Int := vecGo (l.length + 1) (Src.next (l, 0)) (Src.pick (l, 0) 4) rows
def srcLeft (s : Src) : Nat := s.1.length - s.2.toNat
theorem vecGo_more : ∀ (n m : Nat) (s : Src) (k rows : Int), (0 : Int) ≤ s.2 → srcLeft s < n → srcLeft s < m → vecGo n s k rows = vecGo m s k rows
  | 0, m, s, k, rows, h0, h1, h2 => by omega
  | n + 1, 0, s, k, rows, h0, h1, h2 => by omega
  | n + 1, m + 1, s, k, rows, h0, h1, h2 => by
    simp only [vecGo]
    split
    · rename_i h
      have hn : Src.next s = ((s.1, s.2 + 1) : Src) := by unfold Src.next; rw [if_neg (by omega)]
      have hl : srcLeft (Src.next s) = srcLeft s - 1 := by
        rw [hn]; show s.1.length - (s.2 + 1).toNat = s.1.length - s.2.toNat - 1; omega
      have : 0 < srcLeft s := by unfold srcLeft; omega
      rw [vecGo_more n m (Src.next s) _ rows (by rw [hn]; show 0 ≤ s.2 + 1; omega) (by omega) (by omega)]
    · rfl
theorem vecGo_step {s : Src} {k rows : Int} (h0 : (0 : Int) ≤ s.2) (h : k < rows ∧ s.2 < s.1.length) : vecGo (srcLeft s + 1) s k rows = k :: vecGo (srcLeft (Src.next s) + 1) (Src.next s) (k + (1 + Src.pick s 5)) rows := by
  have hn : Src.next s = ((s.1, s.2 + 1) : Src) := by unfold Src.next; rw [if_neg (by omega)]
  have hl : srcLeft (Src.next s) + 1 = srcLeft s := by
    rw [hn]; show s.1.length - (s.2 + 1).toNat + 1 = s.1.length - s.2.toNat; omega
  rw [vecGo, if_pos h, hl]
theorem vecGo_end {s : Src} {k rows : Int} (n : Nat) (h : ¬ (k < rows ∧ s.2 < s.1.length)) : vecGo n s k rows = [] := by
  cases n with
  | zero => rfl
  | succ n => rw [vecGo, if_neg h]
theorem vec_start (l : List Int) (rows : Int) : vec l rows = vecGo (srcLeft (Src.next (l, 0)) + 1) (Src.next (l, 0)) (Src.pick (l, 0) 4) rows := by
  have hi : (0 : Int) ≤ (Src.next (l, 0)).2 := by
    unfold Src.next; split
    · exact Int.le_refl 0
    · show (0 : Int) ≤ 0 + 1; omega
  have hl : (Src.next (l, 0)).1 = l := by unfold Src.next; split <;> rfl
  unfold vec
  refine vecGo_more _ _ _ _ _ hi ?_ (by omega)
  unfold srcLeft; rw [hl]; omega
theorem srcLeft_lt {s : Src} (h0 : (0 : Int) ≤ s.2) (h : s.2 < s.1.length) : srcLeft (Src.next s) < srcLeft s := by
  have hn : Src.next s = ((s.1, s.2 + 1) : Src) := by unfold Src.next; rw [if_neg (by omega)]
  rw [hn]; show s.1.length - (s.2 + 1).toNat < s.1.length - s.2.toNat; omega
theorem vecGo_asc : ∀ (n : Nat) (s : Src) (k rows p : Int), p < k → ascF p (vecGo n s k rows) = true ∧ ∀ v, v ∈ vecGo n s k rows → v < rows
  | 0, s, k, rows, p, h => ⟨rfl, fun v h => by simp [vecGo] at h⟩
  | n + 1, s, k, rows, p, h => by
    simp only [vecGo]
    split
    · rename_i hk
      have hp := Src.pick_lt (s := s) (n := 5) (by decide)
      obtain ⟨h1, h2⟩ := vecGo_asc n (Src.next s) (k + (1 + Src.pick s 5)) rows k (by omega)
      refine ⟨by simp [ascF, h, h1], fun v hv => ?_⟩
      rcases List.mem_cons.1 hv with q | q
      · omega
      · exact h2 v q
    · exact ⟨rfl, fun v h => by simp at h⟩
theorem vec_asc (l : List Int) (rows : Int) : asc (vec l rows) = true ∧ ∀ v, v ∈ vec l rows → v < rows := by
  have hp := Src.pick_lt (s := (l, 0)) (n := 4) (by decide)
  exact vecGo_asc _ _ _ _ _ (by omega)
theorem vec_len (l : List Int) (rows : Int) (h : 0 ≤ rows) : ((vec l rows).length : Int) ≤ rows := by
  obtain ⟨h1, h2⟩ := vec_asc l rows
  rcases Nat.eq_zero_or_pos (vec l rows).length with q | q
  · omega
  · have h3 := (ascF_get _ _ h1 ((vec l rows).length - 1) (by omega)).1
    have h4 := h2 (vec l rows)[(vec l rows).length - 1]! (by rw [getElem!_pos _ _ (by omega)]; exact List.getElem_mem _)
    omega

abbrev c_left_ok : Ct := .meth tSrc 83 [] (none) (fun (s : Src) => .d .bool (decide (s.2 < s.1.length))) (fun (s : Src) => s)
set_option maxRecDepth 100000 in
set_option maxHeartbeats 4000000 in
theorem left_ok : CtOk Try.prog 34 c_left_ok := by
  refine CtOk.meth tb24_ok mixed [] [] rfl rfl ?_
  rintro (s : Src) ⟨⟩ -
  refine ⟨[], ?_⟩
  repeat' (first
    | (with_reducible refine Side.mk ?_
       (try dsimp only [cu, joinT, ckTys, gts, loK, hiK, Prod.eta, List.nil_append])
       first
       | (done)
       | (with_reducible rfl)
       | (omega)
       | (exact Eq.refl _)
       | (simp only [List.length_append, List.length_cons, List.length_nil]; omega)
       | (grind))
    | (conv => whnf
       first
        | done
        | exact trivial
        | with_reducible refine NilBr.mk (fun h => ?_) ?_
        | with_reducible refine w_andS ?_ ?_
        | with_reducible refine w_andL ?_ ?_
        | with_reducible refine w_kern (by kernel_rfl) ?_
        | with_reducible refine w_true ?_
        | with_reducible refine w_nd ?_ ?_
        | with_reducible refine w_in ?_ ?_
        | with_reducible refine w_and ?_ ?_
        | (with_reducible refine w_brN (fun h => ?_) (fun h => ?_) <;> (try dsimp only [cu, Prod.eta, List.nil_append] at h) <;> (try (exfalso; omega; done)))
        | (with_reducible refine w_brD (fun h => ?_) (fun h => ?_) <;> (try dsimp only [cu, Prod.eta, List.nil_append] at h) <;> (try (exfalso; omega; done)))
        | (with_reducible refine w_br (fun h => ?_) (fun h => ?_) <;> (try dsimp only [cu, Prod.eta, List.nil_append] at h) <;> (try (exfalso; omega; done)))))
  all_goals (with_reducible refine Leaf.mk ?_
             (try dsimp only [cu, joinT, ckTys, gts, Prod.eta, List.nil_append] at *)
             first
             | (done)
             | (rfl))
abbrev tb25 : Tbl := (34, c_left_ok) :: tb24
theorem tb25_ok : TblOk Try.prog tb25 := TblOk.cons left_ok tb24_ok

abbrev c_vec_ok : Ct := .fn [.list (.int .i64), .int .i64] (some (fun (l : List Int) (rows : Int) => (l.length ≤ 4611686018427387904) ∧ (0 ≤ rows ∧ rows ≤ 100000))) (fun (l : List Int) (rows : Int) => .d (.list (.int .i64)) (vec l rows))
set_option maxRecDepth 100000 in
set_option maxHeartbeats 4000000 in
theorem vec_ok : CtOk Try.prog 12 c_vec_ok := by
  refine CtOk.fn tb25_ok mixed [] [] rfl rfl ?_
  rintro ⟨(l : List Int), (rows : Int), _⟩ hpre
  replace hpre := hpre _ rfl
  dsimp only [cu] at hpre
  obtain ⟨hl, hr⟩ := hpre
  refine ⟨[(0, 8, LA.mk [.sl 7 (.int .i64), .lst 6 (.int .i64) 3, .ob 0 tSrc 83] (fun y => Tag 14 ∧ cu [.int .i64, .list (.int .i64), tSrc] (fun (k : Int) (M : List Int) (q : Src) => (Src.ok q) ∧ (0 ≤ k ∧ k ≤ 100010) ∧ (vec l rows = M ++ vecGo (srcLeft q + 1) q k rows) ∧ ((M.length : Int) ≤ k)) y) (cu [.int .i64, .list (.int .i64), tSrc] (fun (k : Int) (M : List Int) (q : Src) => srcLeft q)) (cu [.int .i64, .list (.int .i64), tSrc] (fun (k : Int) (M : List Int) (q : Src) => ([] : List (Nat × Nat × LA)))))], ?_⟩
  repeat' (first
    | (with_reducible refine Side.mk ⟨(⟨⟩ : Tag 14), ?_⟩
       dsimp only [cu, joinT, ckTys, gts, Prod.eta, List.nil_append]
       refine ⟨?_, ?_, ?_, ?_⟩
       · (repeat (first | assumption | exact Src.ok_from (by omega) | apply Src.ok_next))
       · first
         | (have := Src.pick_lt (s := (l, 0)) (n := 4) (by decide); omega)
         | (have := @Src.pick_lt; grind)
       · first
         | (exact vec_start l rows)
         | (rw [hm, vecGo_step hq.1 (by constructor <;> simp_all)]; simp)
       · first
         | (have := Src.pick_lt (s := (l, 0)) (n := 4) (by decide); simp only [List.length_nil]; omega)
         | (have := @Src.pick_lt; grind))
    | (with_reducible refine Side.mk ?_
       (try dsimp only [cu, joinT, ckTys, gts, loK, hiK, Prod.eta, List.nil_append])
       first
       | (done)
       | (with_reducible rfl)
       | (omega)
       | (exact Eq.refl _)
       | (simp only [List.length_append, List.length_cons, List.length_nil]; omega)
       | (refine ⟨?_, by decide⟩
          (repeat (first | assumption | exact Src.ok_from (by omega) | apply Src.ok_next)); done)
       | (exact srcLeft_lt hq.1 (by simp_all; done))
       | (have := @Src.pick_lt; grind))
    | (conv => whnf
       first
        | done
        | exact trivial
        | with_reducible refine NilBr.mk (fun h => ?_) ?_
        | with_reducible refine w_andS ?_ ?_
        | with_reducible refine w_andL ?_ ?_
        | with_reducible refine w_kern (by kernel_rfl) ?_
        | with_reducible refine w_true ?_
        | with_reducible refine w_nd ?_ ?_
        | with_reducible refine w_in ?_ ?_
        | with_reducible refine w_and ?_ ?_
        | (with_reducible refine w_brN (fun h => ?_) (fun h => ?_) <;> (try dsimp only [cu, Prod.eta, List.nil_append] at h) <;> (try (exfalso; omega; done)))
        | (with_reducible refine w_brD (fun h => ?_) (fun h => ?_) <;> (try dsimp only [cu, Prod.eta, List.nil_append] at h) <;> (try (exfalso; omega; done)))
        | (with_reducible refine w_br (fun h => ?_) (fun h => ?_) <;> (try dsimp only [cu, Prod.eta, List.nil_append] at h) <;> (try (exfalso; omega; done)))
        | (intro yy (hy : Tag 14 ∧ _)
           obtain ⟨(k : Int), (M : List Int), (q : Src), _⟩ := yy
           replace hy := hy.2
           dsimp only [cu, joinT, ckTys, gts, Prod.eta, List.nil_append] at hy
           obtain ⟨hq, hk, hm, hml⟩ := hy)))
  all_goals (with_reducible refine Leaf.mk ?_
             (try dsimp only [cu, joinT, ckTys, gts, Prod.eta, List.nil_append] at *)
             first
             | (done)
             | (have hne : ¬ (k < rows ∧ q.2 < q.1.length) := by omega
                rw [hm, vecGo_end _ hne, List.append_nil])
             | (have hne : ¬ (k < rows ∧ q.2 < q.1.length) := by simp_all
                rw [hm, vecGo_end _ hne, List.append_nil]))
abbrev tb26 : Tbl := (12, c_vec_ok) :: tb25
theorem tb26_ok : TblOk Try.prog tb26 := TblOk.cons vec_ok tb25_ok

end Go.Proofs.Ytojdmkkjamakiaa
