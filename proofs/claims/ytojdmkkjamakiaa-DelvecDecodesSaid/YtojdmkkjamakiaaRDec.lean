/- Contracts of the decoding by the reference. -/
import Derived.Test.YtojdmkkjamakiaaDec
namespace Go.Proofs.Ytojdmkkjamakiaa
open Go.Abs
set_option linter.unusedVariables false
set_option linter.unusedSimpArgs false


def nextOf (l : List Int) : Int := if l.length = 0 then 0 else l[((l.length : Int) - 1).toNat]! + 1
theorem nextOf_snoc (l : List Int) (v : Int) : nextOf (l ++ [v]) = v + 1 := by
  unfold nextOf
  rw [if_neg (by simp)]
  have e : (((l ++ [v]).length : Int) - 1).toNat = l.length := by simp
  rw [e, getElem!_pos _ _ (by simp)]
  simp
theorem snoc_len (l : List Int) (v : Int) : ((l ++ [v]).length : Int) = (l.length : Int) + 1 := by simp

abbrev c_rdec_ok : Ct := .fn [.str, .int .i64] (some (fun (s : ByteArray) (rows : Int) => (s.size ≤ 4611686018427387904))) (fun (s : ByteArray) (rows : Int) => .tup [.list (.int .i64), .int .i64] ((rdecR s rows).1, (rdecR s rows).2, ()))
set_option maxRecDepth 100000 in
set_option maxHeartbeats 4000000 in
theorem rdec_ok : CtOk Try.prog 44 c_rdec_ok := by
  refine CtOk.fn tb32_ok mixed [(0, 9, 5)] [] rfl rfl ?_
  rintro ⟨(s : ByteArray), (rows : Int), _⟩ hpre
  replace hpre := hpre _ rfl
  dsimp only [cu] at hpre
  have hs := hpre
  refine ⟨[(0, 30, LA.mk [.lst 11 (.int .i64) 3, .sl 8 (.int .i64)] (fun y => Tag 20 ∧ cu [.list (.int .i64), .int .i64] (fun (M : List Int) (b : Int) => (pGo (s.extract 0 ((s.size : Int) - 4).toNat) (getR (s.extract 0 ((s.size : Int) - 4).toNat) 4).1 ((getR (s.extract 0 ((s.size : Int) - 4).toNat) (getR (s.extract 0 ((s.size : Int) - 4).toNat) 4).2.1).1 - M.length).toNat b (nextOf M) M = pGo (s.extract 0 ((s.size : Int) - 4).toNat) (getR (s.extract 0 ((s.size : Int) - 4).toNat) 4).1 (getR (s.extract 0 ((s.size : Int) - 4).toNat) (getR (s.extract 0 ((s.size : Int) - 4).toNat) 4).2.1).1.toNat (getR (s.extract 0 ((s.size : Int) - 4).toNat) (getR (s.extract 0 ((s.size : Int) - 4).toNat) 4).2.1).2.1 0 []) ∧ ((M.length : Int) ≤ (getR (s.extract 0 ((s.size : Int) - 4).toNat) (getR (s.extract 0 ((s.size : Int) - 4).toNat) 4).2.1).1) ∧ (0 ≤ nextOf M ∧ nextOf M ≤ 1025 * M.length)) y) (cu [.list (.int .i64), .int .i64] (fun (M : List Int) (b : Int) => ((getR (s.extract 0 ((s.size : Int) - 4).toNat) (getR (s.extract 0 ((s.size : Int) - 4).toNat) 4).2.1).1 - M.length).toNat)) (cu [.list (.int .i64), .int .i64] (fun (M : List Int) (b : Int) => ([] : List (Nat × Nat × LA)))))], ?_⟩
  repeat' (first
    | (with_reducible refine Side.mk ⟨(⟨⟩ : Tag 20), ?_⟩
       dsimp only [cu, joinT, ckTys, gts, Prod.eta, List.nil_append]
       refine ⟨?_, ?_, ?_⟩
       · first
         | (have hnx : (getR (s.extract 0 ((s.size : Int) - 4).toNat) b).1 + (M[((M.length : Int) - 1).toNat]! + 1) = nextOf M + (getR (s.extract 0 ((s.size : Int) - 4).toNat) b).1 := by
              unfold nextOf
              rw [if_neg (by omega)]; omega
            rw [← hp, pGo_step (s := (s.extract 0 ((s.size : Int) - 4).toNat)) (lim := (getR (s.extract 0 ((s.size : Int) - 4).toNat) 4).1) (a := b) (q := nextOf M) (m := (getR (s.extract 0 ((s.size : Int) - 4).toNat) (getR (s.extract 0 ((s.size : Int) - 4).toNat) 4).2.1).1) (j := M.length) (acc := M) (by omega), if_neg (by omega), hnx, nextOf_snoc, snoc_len])
         | (have hn0 : nextOf M = 0 := by unfold nextOf; rw [if_pos (by omega)]
            rw [← hp, pGo_step (s := (s.extract 0 ((s.size : Int) - 4).toNat)) (lim := (getR (s.extract 0 ((s.size : Int) - 4).toNat) 4).1) (a := b) (q := nextOf M) (m := (getR (s.extract 0 ((s.size : Int) - 4).toNat) (getR (s.extract 0 ((s.size : Int) - 4).toNat) 4).2.1).1) (j := M.length) (acc := M) (by omega), if_neg (by omega), hn0, Int.zero_add, nextOf_snoc, snoc_len])
         | (rw [show ∀ x : Int, x - (([] : List Int).length : Int) = x from fun x => by simp]
            rfl)
       · first
         | (have hr0 := getR_rng (s.extract 0 ((s.size : Int) - 4).toNat) 4
            have hr1 := getR_rng (s.extract 0 ((s.size : Int) - 4).toNat) (getR (s.extract 0 ((s.size : Int) - 4).toNat) 4).2.1
            simp only [List.length_nil]
            omega)
         | (rw [snoc_len]
            omega)
       · first
         | (have hr := getR_rng (s.extract 0 ((s.size : Int) - 4).toNat) b
            have hnx : nextOf M = M[((M.length : Int) - 1).toNat]! + 1 := by unfold nextOf; rw [if_neg (by omega)]
            rw [nextOf_snoc, snoc_len]
            omega)
         | (have hr := getR_rng (s.extract 0 ((s.size : Int) - 4).toNat) b
            rw [nextOf_snoc, snoc_len]
            omega)
         | (exact ⟨Int.le_refl 0, Int.le_refl 0⟩))
    | (with_reducible refine Side.mk ?_
       (try dsimp only [cu, joinT, ckTys, gts, loK, hiK, Prod.eta, List.nil_append])
       first
       | (done)
       | (with_reducible rfl)
       | (omega)
       | (exact Eq.refl _)
       | (simp only [List.length_append, List.length_cons, List.length_nil]; omega)
       | (have hbs : ((s.extract 0 ((s.size : Int) - 4).toNat)).size ≤ s.size := by rw [ByteArray.size_extract]; omega
          omega)
       | (have hr0 := getR_rng (s.extract 0 ((s.size : Int) - 4).toNat) 4
          have hr1 := getR_rng (s.extract 0 ((s.size : Int) - 4).toNat) (getR (s.extract 0 ((s.size : Int) - 4).toNat) 4).2.1
          omega)
       | (have hr0 := getR_rng (s.extract 0 ((s.size : Int) - 4).toNat) 4
          have hr1 := getR_rng (s.extract 0 ((s.size : Int) - 4).toNat) (getR (s.extract 0 ((s.size : Int) - 4).toNat) 4).2.1
          have hr := getR_rng (s.extract 0 ((s.size : Int) - 4).toNat) b
          omega)
       | (have hr := getR_rng (s.extract 0 ((s.size : Int) - 4).toNat) b
          have hnx : nextOf M = M[((M.length : Int) - 1).toNat]! + 1 := by unfold nextOf; rw [if_neg (by omega)]
          omega)
       | (rw [snoc_len]
          omega))
    | (conv => whnf
       first
        | done
        | exact trivial
        | with_reducible refine w_andS ?_ ?_
        | with_reducible refine w_andL ?_ ?_
        | with_reducible refine w_kern (by kernel_rfl) ?_
        | with_reducible refine w_true ?_
        | with_reducible refine w_nd ?_ ?_
        | with_reducible refine w_in ?_ ?_
        | with_reducible refine w_and ?_ ?_
        | (with_reducible refine w_brN (fun h => ?_) (fun h => ?_) <;> (try dsimp only [cu, Prod.eta, List.nil_append] at h) <;> (try (exfalso; omega; done)))
        | (with_reducible refine w_brD (fun h => ?_) (fun h => ?_) <;> (try dsimp only [cu, Prod.eta, List.nil_append] at h) <;> (try (exfalso; omega; done)))
        | (with_reducible refine w_br (fun h => ?_) (fun h => ?_) <;> (try dsimp only [cu, Prod.eta, List.nil_append] at h) <;> (try (exfalso; omega; done)))
        | (intro yy (hy : Tag 20 ∧ _)
           obtain ⟨(M : List Int), (b : Int), _⟩ := yy
           replace hy := hy.2
           dsimp only [cu, joinT, ckTys, gts, Prod.eta, List.nil_append] at hy
           obtain ⟨hp, hm, hq⟩ := hy)))
  all_goals (with_reducible refine Leaf.mk ?_
             (try dsimp only [cu, joinT, ckTys, gts, Prod.eta, List.nil_append] at *)
             first
             | (done)
             | (rw [rdecR, if_pos (by omega)])
             | (rw [rdecR_sum (by omega) (by omega)])
             | (have hn := rOpt_n0 (b := (s.extract 0 ((s.size : Int) - 4).toNat)) (s := s) (rows := rows) (.inr (by omega))
                rw [rdecR_none (by omega) (by omega) hn])
             | (have hp4 : ¬ s.extract 0 (Int.toNat 4) = DEL1 := by with_reducible assumption
                rw [show Int.toNat 4 = 4 from rfl] at hp4
                have hn := rOpt_n0 (b := (s.extract 0 ((s.size : Int) - 4).toNat)) (s := s) (rows := rows) (.inl hp4)
                rw [rdecR_none (by omega) (by omega) hn])
             | (have hp4 : s.extract 0 (Int.toNat 4) = DEL1 := by with_reducible assumption
                rw [show Int.toNat 4 = 4 from rfl] at hp4
                have h0 : ¬ (s.extract 0 4 ≠ DEL1 ∨ rows < 1 ∨ rows > 1024) := by
                  rintro (q | q)
                  · exact q hp4
                  · omega
                have hn := rOpt_n1 (b := (s.extract 0 ((s.size : Int) - 4).toNat)) (s := s) (rows := rows) h0 (by omega)
                rw [rdecR_none (by omega) (by omega) hn])
             | (have hp4 : s.extract 0 (Int.toNat 4) = DEL1 := by with_reducible assumption
                rw [show Int.toNat 4 = 4 from rfl] at hp4
                have h0 : ¬ (s.extract 0 4 ≠ DEL1 ∨ rows < 1 ∨ rows > 1024) := by
                  rintro (q | q)
                  · exact q hp4
                  · omega
                have h1 : ¬ ((getR (s.extract 0 ((s.size : Int) - 4).toNat) 4).2.2 ≠ 0 ∨ (getR (s.extract 0 ((s.size : Int) - 4).toNat) 4).1 ≠ rows) := by omega
                have hn := rOpt_n2 (b := (s.extract 0 ((s.size : Int) - 4).toNat)) (s := s) (rows := rows) h0 h1 (by omega)
                rw [rdecR_none (by omega) (by omega) hn])
             | (have hp4 : s.extract 0 (Int.toNat 4) = DEL1 := by with_reducible assumption
                rw [show Int.toNat 4 = 4 from rfl] at hp4
                have h0 : ¬ (s.extract 0 4 ≠ DEL1 ∨ rows < 1 ∨ rows > 1024) := by
                  rintro (q | q)
                  · exact q hp4
                  · omega
                have h1 : ¬ ((getR (s.extract 0 ((s.size : Int) - 4).toNat) 4).2.2 ≠ 0 ∨ (getR (s.extract 0 ((s.size : Int) - 4).toNat) 4).1 ≠ rows) := by omega
                have h2 : ¬ ((getR (s.extract 0 ((s.size : Int) - 4).toNat) (getR (s.extract 0 ((s.size : Int) - 4).toNat) 4).2.1).2.2 ≠ 0 ∨ (getR (s.extract 0 ((s.size : Int) - 4).toNat) (getR (s.extract 0 ((s.size : Int) - 4).toNat) 4).2.1).1 > (getR (s.extract 0 ((s.size : Int) - 4).toNat) 4).1) := by omega
                have hn := rOpt_n3 (b := (s.extract 0 ((s.size : Int) - 4).toNat)) (s := s) (rows := rows) h0 h1 h2 (by rw [← hp, pGo_step (s := (s.extract 0 ((s.size : Int) - 4).toNat)) (lim := (getR (s.extract 0 ((s.size : Int) - 4).toNat) 4).1) (a := b) (q := nextOf M) (m := (getR (s.extract 0 ((s.size : Int) - 4).toNat) (getR (s.extract 0 ((s.size : Int) - 4).toNat) 4).2.1).1) (j := M.length) (acc := M) (by omega), if_pos (by omega)])
                rw [rdecR_none (by omega) (by omega) hn])
             | (have hp4 : s.extract 0 (Int.toNat 4) = DEL1 := by with_reducible assumption
                rw [show Int.toNat 4 = 4 from rfl] at hp4
                have h0 : ¬ (s.extract 0 4 ≠ DEL1 ∨ rows < 1 ∨ rows > 1024) := by
                  rintro (q | q)
                  · exact q hp4
                  · omega
                have h1 : ¬ ((getR (s.extract 0 ((s.size : Int) - 4).toNat) 4).2.2 ≠ 0 ∨ (getR (s.extract 0 ((s.size : Int) - 4).toNat) 4).1 ≠ rows) := by omega
                have h2 : ¬ ((getR (s.extract 0 ((s.size : Int) - 4).toNat) (getR (s.extract 0 ((s.size : Int) - 4).toNat) 4).2.1).2.2 ≠ 0 ∨ (getR (s.extract 0 ((s.size : Int) - 4).toNat) (getR (s.extract 0 ((s.size : Int) - 4).toNat) 4).2.1).1 > (getR (s.extract 0 ((s.size : Int) - 4).toNat) 4).1) := by omega
                have hf := rOpt_fin (b := (s.extract 0 ((s.size : Int) - 4).toNat)) (s := s) (rows := rows) (l := M) (e := b) h0 h1 h2 (by rw [← hp, show ((getR (s.extract 0 ((s.size : Int) - 4).toNat) (getR (s.extract 0 ((s.size : Int) - 4).toNat) 4).2.1).1 - (M.length : Int)).toNat = 0 by omega]; rfl)
                have hck : b ≠ ((s.extract 0 ((s.size : Int) - 4).toNat)).size ∨ chk M rows = false := .inl (by omega)
                rw [if_pos hck] at hf
                have hn := hf
                rw [rdecR_none (by omega) (by omega) hn])
             | (have hc1 : (!chk M rows) = true := by with_reducible assumption
                have hc2 : chk M rows = false := by simpa using hc1
                have hp4 : s.extract 0 (Int.toNat 4) = DEL1 := by with_reducible assumption
                rw [show Int.toNat 4 = 4 from rfl] at hp4
                have h0 : ¬ (s.extract 0 4 ≠ DEL1 ∨ rows < 1 ∨ rows > 1024) := by
                  rintro (q | q)
                  · exact q hp4
                  · omega
                have h1 : ¬ ((getR (s.extract 0 ((s.size : Int) - 4).toNat) 4).2.2 ≠ 0 ∨ (getR (s.extract 0 ((s.size : Int) - 4).toNat) 4).1 ≠ rows) := by omega
                have h2 : ¬ ((getR (s.extract 0 ((s.size : Int) - 4).toNat) (getR (s.extract 0 ((s.size : Int) - 4).toNat) 4).2.1).2.2 ≠ 0 ∨ (getR (s.extract 0 ((s.size : Int) - 4).toNat) (getR (s.extract 0 ((s.size : Int) - 4).toNat) 4).2.1).1 > (getR (s.extract 0 ((s.size : Int) - 4).toNat) 4).1) := by omega
                have hf := rOpt_fin (b := (s.extract 0 ((s.size : Int) - 4).toNat)) (s := s) (rows := rows) (l := M) (e := b) h0 h1 h2 (by rw [← hp, show ((getR (s.extract 0 ((s.size : Int) - 4).toNat) (getR (s.extract 0 ((s.size : Int) - 4).toNat) 4).2.1).1 - (M.length : Int)).toNat = 0 by omega]; rfl)
                have hck : b ≠ ((s.extract 0 ((s.size : Int) - 4).toNat)).size ∨ chk M rows = false := .inr hc2
                rw [if_pos hck] at hf
                have hn := hf
                rw [rdecR_none (by omega) (by omega) hn])
             | (have hc1 : (!chk M rows) = false := by with_reducible assumption
                have hc2 : chk M rows = true := by simpa using hc1
                have hp4 : s.extract 0 (Int.toNat 4) = DEL1 := by with_reducible assumption
                rw [show Int.toNat 4 = 4 from rfl] at hp4
                have h0 : ¬ (s.extract 0 4 ≠ DEL1 ∨ rows < 1 ∨ rows > 1024) := by
                  rintro (q | q)
                  · exact q hp4
                  · omega
                have h1 : ¬ ((getR (s.extract 0 ((s.size : Int) - 4).toNat) 4).2.2 ≠ 0 ∨ (getR (s.extract 0 ((s.size : Int) - 4).toNat) 4).1 ≠ rows) := by omega
                have h2 : ¬ ((getR (s.extract 0 ((s.size : Int) - 4).toNat) (getR (s.extract 0 ((s.size : Int) - 4).toNat) 4).2.1).2.2 ≠ 0 ∨ (getR (s.extract 0 ((s.size : Int) - 4).toNat) (getR (s.extract 0 ((s.size : Int) - 4).toNat) 4).2.1).1 > (getR (s.extract 0 ((s.size : Int) - 4).toNat) 4).1) := by omega
                have hf := rOpt_fin (b := (s.extract 0 ((s.size : Int) - 4).toNat)) (s := s) (rows := rows) (l := M) (e := b) h0 h1 h2 (by rw [← hp, show ((getR (s.extract 0 ((s.size : Int) - 4).toNat) (getR (s.extract 0 ((s.size : Int) - 4).toNat) 4).2.1).1 - (M.length : Int)).toNat = 0 by omega]; rfl)
                have hck : ¬ (b ≠ ((s.extract 0 ((s.size : Int) - 4).toNat)).size ∨ chk M rows = false) := by
                  rintro (q | q)
                  · omega
                  · rw [hc2] at q; cases q
                rw [if_neg hck] at hf
                rw [rdecR_some (by omega) (by omega) hf]))
abbrev tb33 : Tbl := (44, c_rdec_ok) :: tb32
theorem tb33_ok : TblOk Try.prog tb33 := TblOk.cons rdec_ok tb32_ok

end Go.Proofs.Ytojdmkkjamakiaa
