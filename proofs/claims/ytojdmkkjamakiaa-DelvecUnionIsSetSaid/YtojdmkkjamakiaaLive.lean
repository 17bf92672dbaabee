/- Records that are left. -/
import Derived.Test.YtojdmkkjamakiaaRUnion
namespace Go.Proofs.Ytojdmkkjamakiaa
open Go.Abs
set_option linter.unusedVariables false
set_option linter.unusedSimpArgs false

abbrev tRec : Ty := .pair (.int .i64) (.list tVal)
abbrev Rec : Type := Int × List Val
@[reducible] instance : Inhabited Rec := instInhabitedDen tRec


/-- The records whose index is not in an ascending list. -/
def liveG : Int → List Rec → List Int → List Rec
  | _, [], _ => []
  | i, r :: rs, l => if 0 < l.length ∧ l[0]! = i then liveG (i + 1) rs (l.drop 1) else r :: liveG (i + 1) rs l
def liveL (recs : List Rec) (l : List Int) : List Rec := if asc l = true then liveG 0 recs l else []
theorem liveG_step {recs : List Rec} {l : List Int} {k : Int} (h : 0 ≤ k ∧ k < recs.length) : liveG k (recs.drop k.toNat) l = if 0 < l.length ∧ l[0]! = k then liveG (k + 1) (recs.drop (k + 1).toNat) (l.drop 1) else recs[k.toNat]! :: liveG (k + 1) (recs.drop (k + 1).toNat) l := by
  rw [drop_step recs k h]; rfl
theorem ascF_drop1 {l : List Int} {p : Int} (h : ascF p l = true) (h0 : 0 < l.length) : p < l[0]! ∧ ascF l[0]! (l.drop 1) = true := by
  cases l with
  | nil => simp at h0
  | cons v l => simpa [ascF] using h
theorem ascF_mono {l : List Int} {p q : Int} (h : ascF p l = true) (hq : q ≤ p) : ascF q l = true := by
  cases l with
  | nil => rfl
  | cons v l => simp only [ascF, Bool.and_eq_true, decide_eq_true_eq] at h ⊢; exact ⟨by omega, h.2⟩

def dwL (k : Int) (N : List Int) : List Int := N.dropWhile fun v => decide (v < k)
theorem dw_keep {N : List Int} {k : Int} (h : N.length = 0 ∨ k ≤ N[0]!) : dwL k N = N := by
  unfold dwL
  cases N with
  | nil => rfl
  | cons v t =>
    rcases h with h | h
    · simp at h
    · rw [List.dropWhile_cons_of_neg]
      have h : k ≤ v := h
      simp; omega
theorem dw_drop {N : List Int} {k : Int} (h0 : 0 < N.length) (h : N[0]! < k) : dwL k N = dwL k (N.drop 1) := by
  unfold dwL
  cases N with
  | nil => simp at h0
  | cons v t =>
    have h : v < k := h
    rw [List.dropWhile_cons_of_pos (by simpa using h)]; rfl
theorem asc_next {N : List Int} {v k : Int} (h : ascF v N = true) (hk : k ≤ v + 1) : N.length = 0 ∨ k ≤ N[0]! := by
  cases N with
  | nil => exact .inl rfl
  | cons x t =>
    simp only [ascF, Bool.and_eq_true, decide_eq_true_eq] at h
    right
    show k ≤ x
    omega
theorem live_start {recs : List Rec} {l : List Int} (h : asc l = true) : liveL recs l = [] ++ liveG 0 (recs.drop (Int.toNat 0)) (dwL 0 l) := by
  rw [liveL, if_pos h, dw_keep (asc_next (v := -1) h (by omega))]; rfl
theorem live_add {recs : List Rec} {N : List Int} {k : Int} (h : 0 ≤ k ∧ k < recs.length) (hn : N.length = 0 ∨ N[0]! ≠ k) : liveG k (recs.drop k.toNat) N = recs[k.toNat]! :: liveG (k + 1) (recs.drop (k + 1).toNat) N := by
  rw [liveG_step h, if_neg (by omega)]
theorem live_skip {recs : List Rec} {N : List Int} {k : Int} (h : 0 ≤ k ∧ k < recs.length) (h0 : 0 < N.length) (hn : N[0]! = k) : liveG k (recs.drop k.toNat) N = liveG (k + 1) (recs.drop (k + 1).toNat) (N.drop 1) := by
  rw [liveG_step h, if_pos ⟨h0, hn⟩]

abbrev c_rlive_ok : Ct := .fn [.list tRec, .list (.int .i64)] (some (fun (recs : List Rec) (l : List Int) => (recs.length ≤ 1099511627776) ∧ (l.length ≤ 9223372036854775807))) (fun (recs : List Rec) (l : List Int) => .d (.list tRec) (liveL recs l))
set_option maxRecDepth 100000 in
set_option maxHeartbeats 4000000 in
theorem rlive_ok : CtOk Try.prog 20 c_rlive_ok := by
  refine CtOk.fn tb27_ok mixed [] [] rfl rfl ?_
  rintro ⟨(recs : List Rec), (l : List Int), _⟩ hpre
  replace hpre := hpre _ rfl
  dsimp only [cu] at hpre
  obtain ⟨hr, hl0⟩ := hpre
  refine ⟨[(0, 10, LA.mk [.sl 13 (.int .i64), .sl 1 (.list (.int .i64)), .lst 5 tRec 26] (fun y => Tag 16 ∧ cu [.int .i64, .list (.int .i64), .list tRec] (fun (k : Int) (N0 : List Int) (M : List Rec) => (0 ≤ k ∧ k ≤ recs.length) ∧ (liveL recs l = M ++ liveG k (recs.drop k.toNat) (dwL k N0)) ∧ (ascF (-1) N0 = true) ∧ ((M.length : Int) ≤ k)) y) (cu [.int .i64, .list (.int .i64), .list tRec] (fun (k : Int) (N0 : List Int) (M : List Rec) => ((recs.length : Int) - k).toNat)) (cu [.int .i64, .list (.int .i64), .list tRec] (fun (k : Int) (N0 : List Int) (M : List Rec) => ([(0, 14, LA.mk [.sl 1 (.list (.int .i64))] (fun y => Tag 17 ∧ cu [.list (.int .i64)] (fun (N : List Int) => (liveL recs l = M ++ liveG k (recs.drop k.toNat) (dwL k N)) ∧ (ascF (-1) N = true)) y) (cu [.list (.int .i64)] (fun (N : List Int) => N.length)) (cu [.list (.int .i64)] (fun (N : List Int) => ([] : List (Nat × Nat × LA)))))] : List (Nat × Nat × LA)))))], ?_⟩
  repeat' (first
    | (with_reducible refine Side.mk ⟨(⟨⟩ : Tag 16), ?_⟩
       dsimp only [cu, joinT, ckTys, gts, Prod.eta, List.nil_append]
       refine ⟨?_, ?_, ?_, ?_⟩
       · omega
       · first
         | (have h1 : (!asc l) = false := by with_reducible assumption
            rw [Bool.not_eq_false'] at h1
            exact live_start h1)
         | ((try simp only [show (Int.toNat 0) = 0 from rfl, show (Int.toNat 1) = 1 from rfl] at *)
            rw [hn, dw_keep (by omega), live_add (by omega) (by omega), dw_keep (by omega), List.append_assoc]
            rfl)
         | ((try simp only [show (Int.toNat 0) = 0 from rfl, show (Int.toNat 1) = 1 from rfl] at *)
            have hd := ascF_drop1 hN (by omega)
            rw [hn, dw_keep (by omega), live_skip (by omega) (by omega) (by omega), dw_drop (by omega) (by omega), dw_keep (asc_next hd.2 (by omega))])
       · first
         | (have h1 : (!asc l) = false := by with_reducible assumption
            rw [Bool.not_eq_false'] at h1
            exact h1)
         | (assumption)
       · first
         | (simp; done)
         | (simp only [List.length_append, List.length_cons, List.length_nil]; omega)
         | (omega))
    | (with_reducible refine Side.mk ⟨(⟨⟩ : Tag 17), ?_⟩
       dsimp only [cu, joinT, ckTys, gts, Prod.eta, List.nil_append]
       refine ⟨?_, ?_⟩
       · first
         | (assumption)
         | ((try simp only [show (Int.toNat 0) = 0 from rfl, show (Int.toNat 1) = 1 from rfl] at *)
            rw [hn, dw_drop (by omega) (by omega)])
       · first
         | (assumption)
         | ((try simp only [show (Int.toNat 0) = 0 from rfl, show (Int.toNat 1) = 1 from rfl] at *)
            have hd := ascF_drop1 hN (by omega)
            exact ascF_mono hd.2 (by omega)))
    | (with_reducible refine Side.mk ?_
       (try dsimp only [cu, joinT, ckTys, gts, loK, hiK, Prod.eta, List.nil_append])
       first
       | (done)
       | (with_reducible rfl)
       | (omega)
       | (exact Eq.refl _)
       | (simp only [List.length_append, List.length_cons, List.length_nil]; omega)
       | (with_reducible assumption)
       | ((try simp only [show (Int.toNat 0) = 0 from rfl, show (Int.toNat 1) = 1 from rfl] at *)
          omega)
       | (simp only [List.length_drop, show (Int.toNat 1) = 1 from rfl]; omega)
       | ((try simp only [List.length_cons, List.length_nil])
          omega))
    | (conv => whnf
       first
        | done
        | exact trivial
        | with_reducible refine NilBr.mk (fun h => ?_) ?_
        | with_reducible refine w_andS ?_ ?_
        | with_reducible refine w_andL ?_ ?_
        | with_reducible refine w_kern (by kernel_rfl) ?_
        | with_reducible refine w_true ?_
        | with_reducible refine w_nd ?_ ?_
        | with_reducible refine w_in ?_ ?_
        | with_reducible refine w_and ?_ ?_
        | (with_reducible refine w_brN (fun h => ?_) (fun h => ?_) <;> (try dsimp only [cu, Prod.eta, List.nil_append] at h) <;> (try (exfalso; omega; done)))
        | (with_reducible refine w_brD (fun h => ?_) (fun h => ?_) <;> (try dsimp only [cu, Prod.eta, List.nil_append] at h) <;> (try (exfalso; omega; done)))
        | (with_reducible refine w_br (fun h => ?_) (fun h => ?_) <;> (try dsimp only [cu, Prod.eta, List.nil_append] at h) <;> (try (exfalso; omega; done)))
        | (intro yy (hy : Tag 16 ∧ _)
           obtain ⟨(k : Int), (N0 : List Int), (M : List Rec), _⟩ := yy
           replace hy := hy.2
           dsimp only [cu, joinT, ckTys, gts, Prod.eta, List.nil_append] at hy
           obtain ⟨hk, hm, hN0, hl⟩ := hy)
        | (intro yy (hy : Tag 17 ∧ _)
           obtain ⟨(N : List Int), _⟩ := yy
           replace hy := hy.2
           dsimp only [cu, joinT, ckTys, gts, Prod.eta, List.nil_append] at hy
           obtain ⟨hn, hN⟩ := hy)))
  all_goals (with_reducible refine Leaf.mk ?_
             (try dsimp only [cu, joinT, ckTys, gts, Prod.eta, List.nil_append] at *)
             first
             | (done)
             | (have h1 : (!asc l) = true := by with_reducible assumption
                rw [liveL, if_neg (by simp_all)])
             | (rw [hm, List.drop_eq_nil_of_le (by omega), liveG, List.append_nil]))
abbrev tb28 : Tbl := (20, c_rlive_ok) :: tb27
theorem tb28_ok : TblOk Try.prog tb28 := TblOk.cons rlive_ok tb27_ok

end Go.Proofs.Ytojdmkkjamakiaa
