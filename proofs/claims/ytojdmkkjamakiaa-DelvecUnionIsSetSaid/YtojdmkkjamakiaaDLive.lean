/- Records that are left, of their own. -/
import Derived.Test.YtojdmkkjamakiaaOwn
namespace Go.Proofs.Ytojdmkkjamakiaa
open Go.Abs
set_option linter.unusedVariables false
set_option linter.unusedSimpArgs false


theorem rows_app {M : List Rec} {r : Rec} (h : ∀ i : Nat, M[i]!.2.length ≤ 1099511627776) (hr : r.2.length ≤ 1099511627776) (i : Nat) : (M ++ [r])[i]!.2.length ≤ 1099511627776 := by
  rcases Nat.lt_or_ge i M.length with q | q
  · have := h i
    rw [getElem!_pos M i q] at this
    rw [getElem!_pos (M ++ [r]) i (by simp; omega), List.getElem_append_left q]; exact this
  · rcases Nat.eq_or_lt_of_le q with q | q
    · subst q
      rw [getElem!_pos (M ++ [r]) M.length (by simp)]; simpa using hr
    · rw [getElem!_neg (M ++ [r]) i (by simp; omega)]; exact Nat.zero_le _
theorem rows_nil (i : Nat) : ([] : List Rec)[i]!.2.length ≤ 1099511627776 := Nat.zero_le _

abbrev c_live_ok : Ct := .fn [.list tRec, .list (.int .i64)] (some (fun (recs : List Rec) (l : List Int) => (recs.length ≤ 1099511627776) ∧ (∀ i : Nat, recs[i]!.2.length ≤ 1099511627776) ∧ (l.length ≤ 9223372036854775807))) (fun (recs : List Rec) (l : List Int) => .d (.list tRec) (liveL recs l))
set_option maxRecDepth 100000 in
set_option maxHeartbeats 4000000 in
theorem live_ok : CtOk Try.prog 11 c_live_ok := by
  refine CtOk.fn tb33_ok mixed [] [31] rfl rfl ?_
  rintro ⟨(recs : List Rec), (l : List Int), _⟩ hpre
  replace hpre := hpre _ rfl
  dsimp only [cu] at hpre
  obtain ⟨hrl, hr, hl0⟩ := hpre
  refine ⟨[(0, 10, LA.mk [.sl 13 (.int .i64), .sl 1 (.list (.int .i64)), .lst 5 tRec 26] (fun y => Tag 22 ∧ cu [.int .i64, .list (.int .i64), .list tRec] (fun (k : Int) (N : List Int) (M : List Rec) => (0 ≤ k ∧ k ≤ recs.length) ∧ (liveL recs l = M ++ liveG k (recs.drop k.toNat) N) ∧ ((M.length : Int) ≤ k) ∧ (∀ i : Nat, M[i]!.2.length ≤ 1099511627776)) y) (cu [.int .i64, .list (.int .i64), .list tRec] (fun (k : Int) (N : List Int) (M : List Rec) => ((recs.length : Int) - k).toNat)) (cu [.int .i64, .list (.int .i64), .list tRec] (fun (k : Int) (N : List Int) (M : List Rec) => ([] : List (Nat × Nat × LA))))), (0, 23, LA.mk [.lst 5 tRec 26] (fun y => Tag 23 ∧ cu [.list tRec] (fun (M2 : List Rec) => (liveL recs l = M2) ∧ (M2.length ≤ recs.length) ∧ (∀ i : Nat, M2[i]!.2.length ≤ 1099511627776)) y) (cu [.list tRec] (fun (M2 : List Rec) => 0)) (cu [.list tRec] (fun (M2 : List Rec) => ([(31, 6, LA.mk [.sl 8 (.int .i64), .lst 3 tRec 26] (fun y => Tag 24 ∧ cu [.int .i64, .list tRec] (fun (j : Int) (O : List Rec) => (0 ≤ j ∧ j ≤ M2.length) ∧ (O = M2.take j.toNat) ∧ ((O.length : Int) ≤ j)) y) (cu [.int .i64, .list tRec] (fun (j : Int) (O : List Rec) => ((M2.length : Int) - j).toNat)) (cu [.int .i64, .list tRec] (fun (j : Int) (O : List Rec) => ([] : List (Nat × Nat × LA)))))] : List (Nat × Nat × LA)))))], ?_⟩
  repeat' (first
    | (with_reducible refine Side.mk ⟨(⟨⟩ : Tag 22), ?_⟩
       dsimp only [cu, joinT, ckTys, gts, Prod.eta, List.nil_append]
       refine ⟨?_, ?_, ?_, ?_⟩
       · omega
       · first
         | (have h1 : (!asc l) = false := by with_reducible assumption
            rw [Bool.not_eq_false'] at h1
            rw [liveL, if_pos h1]; rfl)
         | ((try simp only [show (Int.toNat 0) = 0 from rfl, show (Int.toNat 1) = 1 from rfl] at *)
            rw [hm, live_skip (by omega) (by omega) (by omega)])
         | ((try simp only [show (Int.toNat 0) = 0 from rfl, show (Int.toNat 1) = 1 from rfl] at *)
            rw [hm, live_add (by omega) (by omega), List.append_assoc]
            rfl)
       · first
         | (simp; done)
         | (simp only [List.length_append, List.length_cons, List.length_nil]; omega)
         | (omega)
       · first
         | (exact rows_nil)
         | (exact rows_app hM (hr _))
         | (exact hM))
    | (with_reducible refine Side.mk ⟨(⟨⟩ : Tag 23), ?_⟩
       dsimp only [cu, joinT, ckTys, gts, Prod.eta, List.nil_append]
       refine ⟨?_, ?_, ?_⟩
       · rw [hm, List.drop_eq_nil_of_le (by omega), liveG, List.append_nil]
       · omega
       · exact hM)
    | (with_reducible refine Side.mk ⟨(⟨⟩ : Tag 24), ?_⟩
       dsimp only [cu, joinT, ckTys, gts, Prod.eta, List.nil_append]
       refine ⟨?_, ?_, ?_⟩
       · omega
       · first
         | (rfl)
         | (have hk2 : j.toNat < M2.length := by omega
            rw [show (j + 1).toNat = j.toNat + 1 by omega, List.take_add_one, ← ho, List.getElem?_eq_getElem hk2, getElem!_pos M2 j.toNat hk2]
            rfl)
       · first
         | (simp; done)
         | (simp only [List.length_append, List.length_cons, List.length_nil]; omega))
    | (with_reducible refine Side.mk ?_
       (try dsimp only [cu, joinT, ckTys, gts, loK, hiK, Prod.eta, List.nil_append])
       first
       | (done)
       | (with_reducible rfl)
       | (omega)
       | (exact Eq.refl _)
       | (simp only [List.length_append, List.length_cons, List.length_nil]; omega)
       | (with_reducible assumption)
       | ((try simp only [show (Int.toNat 0) = 0 from rfl, show (Int.toNat 1) = 1 from rfl] at *)
          omega)
       | (exact hM2 _)
       | (simp only [List.length_drop, show (Int.toNat 1) = 1 from rfl]; omega)
       | ((try simp only [List.length_cons, List.length_nil])
          omega))
    | (conv => whnf
       first
        | done
        | exact trivial
        | with_reducible refine NilBr.mk (fun h => ?_) ?_
        | with_reducible refine w_andS ?_ ?_
        | with_reducible refine w_andL ?_ ?_
        | with_reducible refine w_kern (by kernel_rfl) ?_
        | with_reducible refine w_true ?_
        | with_reducible refine w_nd ?_ ?_
        | with_reducible refine w_in ?_ ?_
        | with_reducible refine w_join ?_ (by kernel_rfl) ?_
        | with_reducible refine w_and ?_ ?_
        | (with_reducible refine w_brN (fun h => ?_) (fun h => ?_) <;> (try dsimp only [cu, Prod.eta, List.nil_append] at h) <;> (try (exfalso; omega; done)))
        | (with_reducible refine w_brD (fun h => ?_) (fun h => ?_) <;> (try dsimp only [cu, Prod.eta, List.nil_append] at h) <;> (try (exfalso; omega; done)))
        | (with_reducible refine w_br (fun h => ?_) (fun h => ?_) <;> (try dsimp only [cu, Prod.eta, List.nil_append] at h) <;> (try (exfalso; omega; done)))
        | (intro yy (hy : Tag 22 ∧ _)
           obtain ⟨(k : Int), (N : List Int), (M : List Rec), _⟩ := yy
           replace hy := hy.2
           dsimp only [cu, joinT, ckTys, gts, Prod.eta, List.nil_append] at hy
           obtain ⟨hk, hm, hl, hM⟩ := hy)
        | (intro yy (hy : Tag 23 ∧ _)
           obtain ⟨(M2 : List Rec), _⟩ := yy
           replace hy := hy.2
           dsimp only [cu, joinT, ckTys, gts, Prod.eta, List.nil_append] at hy
           obtain ⟨hm2, hl2, hM2⟩ := hy)
        | (intro yy (hy : Tag 24 ∧ _)
           obtain ⟨(j : Int), (O : List Rec), _⟩ := yy
           replace hy := hy.2
           dsimp only [cu, joinT, ckTys, gts, Prod.eta, List.nil_append] at hy
           obtain ⟨hj, ho, hol⟩ := hy)))
  all_goals (with_reducible refine Leaf.mk ?_
             (try dsimp only [cu, joinT, ckTys, gts, Prod.eta, List.nil_append] at *)
             first
             | (done)
             | (have h1 : (!asc l) = true := by with_reducible assumption
                rw [liveL, if_neg (by simp_all)])
             | (rw [hm2, ho, List.take_of_length_le (by omega)]))
abbrev tb34 : Tbl := (11, c_live_ok) :: tb33
theorem tb34_ok : TblOk Try.prog tb34 := TblOk.cons live_ok tb33_ok

end Go.Proofs.Ytojdmkkjamakiaa
