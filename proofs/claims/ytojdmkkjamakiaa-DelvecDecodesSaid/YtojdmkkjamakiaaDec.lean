/- Contracts of the decoding of delete vectors. -/
import Derived.Test.YtojdmkkjamakiaaWord
namespace Go.Proofs.Ytojdmkkjamakiaa
open Go.Abs
set_option linter.unusedVariables false
set_option linter.unusedSimpArgs false


theorem pGo_step {s : ByteArray} {lim a q m j : Int} {acc : List Int} (h : 0 ≤ j ∧ j < m) : pGo s lim (m - j).toNat a q acc = if (getR s a).2.2 ≠ 0 ∨ (getR s a).1 > lim then none else pGo s lim (m - (j + 1)).toNat (getR s a).2.1 (q + (getR s a).1 + 1) (acc ++ [q + (getR s a).1]) := by
  rw [show (m - j).toNat = (m - (j + 1)).toNat + 1 by omega]; rfl
theorem decR_none {s : ByteArray} {rows : Int} (h8 : ¬ (s.size : Int) < 8) (hs : sealS (s.extract 0 ((s.size : Int) - 4).toNat) = s) (hn : dOpt (s.extract 0 ((s.size : Int) - 4).toNat) s rows = none) : decR s rows = ([], 2) := by
  rw [decR, if_neg (by omega), if_neg (by simp [hs]), hn]
theorem decR_some {s : ByteArray} {rows : Int} {l : List Int} (h8 : ¬ (s.size : Int) < 8) (hs : sealS (s.extract 0 ((s.size : Int) - 4).toNat) = s) (hn : dOpt (s.extract 0 ((s.size : Int) - 4).toNat) s rows = some l) : decR s rows = (l, 0) := by
  rw [decR, if_neg (by omega), if_neg (by simp [hs]), hn]
theorem rdecR_none {s : ByteArray} {rows : Int} (h8 : ¬ (s.size : Int) < 8) (hs : wordR s ((s.size : Int) - 4) = crcS (s.extract 0 ((s.size : Int) - 4).toNat)) (hn : rOpt (s.extract 0 ((s.size : Int) - 4).toNat) s rows = none) : rdecR s rows = ([], 2) := by
  have h9 : ¬ s.size < 8 := by omega
  rw [rdecR, if_neg h9, if_neg (by simp [(seal_iff h9).1 hs]), hn]
theorem rdecR_some {s : ByteArray} {rows : Int} {l : List Int} (h8 : ¬ (s.size : Int) < 8) (hs : wordR s ((s.size : Int) - 4) = crcS (s.extract 0 ((s.size : Int) - 4).toNat)) (hn : rOpt (s.extract 0 ((s.size : Int) - 4).toNat) s rows = some l) : rdecR s rows = (l, 0) := by
  have h9 : ¬ s.size < 8 := by omega
  rw [rdecR, if_neg h9, if_neg (by simp [(seal_iff h9).1 hs]), hn]
theorem rdecR_sum {s : ByteArray} {rows : Int} (h8 : ¬ (s.size : Int) < 8) (hs : ¬ wordR s ((s.size : Int) - 4) = crcS (s.extract 0 ((s.size : Int) - 4).toNat)) : rdecR s rows = ([], 9) := by
  have h9 : ¬ s.size < 8 := by omega
  rw [rdecR, if_neg h9, if_pos (fun q => hs ((seal_iff h9).2 q))]
theorem dOpt_n0 {b s : ByteArray} {rows : Int} (h : ¬ (getR b 4).2.2 = 0) : dOpt b s rows = none := by rw [dOpt, if_pos h]
theorem dOpt_n1 {b s : ByteArray} {rows : Int} (h0 : (getR b 4).2.2 = 0) (h : ¬ (getR b (getR b 4).2.1).2.2 = 0) : dOpt b s rows = none := by rw [dOpt, if_neg (by simp [h0]), if_pos h]
theorem dOpt_n2 {b s : ByteArray} {rows : Int} (h0 : (getR b 4).2.2 = 0) (h1 : (getR b (getR b 4).2.1).2.2 = 0) (h : (getR b (getR b 4).2.1).1 > 1024) : dOpt b s rows = none := by rw [dOpt, if_neg (by simp [h0]), if_neg (by simp [h1]), if_pos h]
theorem dOpt_n3 {b s : ByteArray} {rows : Int} (h0 : (getR b 4).2.2 = 0) (h1 : (getR b (getR b 4).2.1).2.2 = 0) (h2 : (getR b (getR b 4).2.1).1 ≤ 1024) (h : pGo b 1024 (getR b (getR b 4).2.1).1.toNat (getR b (getR b 4).2.1).2.1 0 [] = none) : dOpt b s rows = none := by
  rw [dOpt, if_neg (by simp [h0]), if_neg (by simp [h1]), if_neg (by omega), h]
theorem dOpt_fin {b s : ByteArray} {rows e : Int} {l : List Int} (h0 : (getR b 4).2.2 = 0) (h1 : (getR b (getR b 4).2.1).2.2 = 0) (h2 : (getR b (getR b 4).2.1).1 ≤ 1024) (h : pGo b 1024 (getR b (getR b 4).2.1).1.toNat (getR b (getR b 4).2.1).2.1 0 [] = some (l, e)) :
    dOpt b s rows = if encE l rows ≠ 0 ∨ encS l rows ≠ s then none else some l := by
  rw [dOpt, if_neg (by simp [h0]), if_neg (by simp [h1]), if_neg (by omega), h]
theorem rOpt_n0 {b s : ByteArray} {rows : Int} (h : s.extract 0 4 ≠ DEL1 ∨ rows < 1 ∨ rows > 1024) : rOpt b s rows = none := by rw [rOpt, if_pos h]
theorem rOpt_n1 {b s : ByteArray} {rows : Int} (h0 : ¬ (s.extract 0 4 ≠ DEL1 ∨ rows < 1 ∨ rows > 1024)) (h : (getR b 4).2.2 ≠ 0 ∨ (getR b 4).1 ≠ rows) : rOpt b s rows = none := by rw [rOpt, if_neg h0, if_pos h]
theorem rOpt_n2 {b s : ByteArray} {rows : Int} (h0 : ¬ (s.extract 0 4 ≠ DEL1 ∨ rows < 1 ∨ rows > 1024)) (h1 : ¬ ((getR b 4).2.2 ≠ 0 ∨ (getR b 4).1 ≠ rows)) (h : (getR b (getR b 4).2.1).2.2 ≠ 0 ∨ (getR b (getR b 4).2.1).1 > (getR b 4).1) : rOpt b s rows = none := by rw [rOpt, if_neg h0, if_neg h1, if_pos h]
theorem rOpt_n3 {b s : ByteArray} {rows : Int} (h0 : ¬ (s.extract 0 4 ≠ DEL1 ∨ rows < 1 ∨ rows > 1024)) (h1 : ¬ ((getR b 4).2.2 ≠ 0 ∨ (getR b 4).1 ≠ rows)) (h2 : ¬ ((getR b (getR b 4).2.1).2.2 ≠ 0 ∨ (getR b (getR b 4).2.1).1 > (getR b 4).1))
    (h : pGo b (getR b 4).1 (getR b (getR b 4).2.1).1.toNat (getR b (getR b 4).2.1).2.1 0 [] = none) : rOpt b s rows = none := by rw [rOpt, if_neg h0, if_neg h1, if_neg h2, h]
theorem rOpt_fin {b s : ByteArray} {rows e : Int} {l : List Int} (h0 : ¬ (s.extract 0 4 ≠ DEL1 ∨ rows < 1 ∨ rows > 1024)) (h1 : ¬ ((getR b 4).2.2 ≠ 0 ∨ (getR b 4).1 ≠ rows)) (h2 : ¬ ((getR b (getR b 4).2.1).2.2 ≠ 0 ∨ (getR b (getR b 4).2.1).1 > (getR b 4).1))
    (h : pGo b (getR b 4).1 (getR b (getR b 4).2.1).1.toNat (getR b (getR b 4).2.1).2.1 0 [] = some (l, e)) : rOpt b s rows = if e ≠ b.size ∨ chk l rows = false then none else some l := by rw [rOpt, if_neg h0, if_neg h1, if_neg h2, h]

abbrev c_dec_ok : Ct := .fn [.str, .int .i64] (some (fun (s : ByteArray) (rows : Int) => (s.size ≤ 4611686018427387904))) (fun (s : ByteArray) (rows : Int) => .tup [.list (.int .i64), .int .i64] ((decR s rows).1, (decR s rows).2, ()))
set_option maxRecDepth 100000 in
set_option maxHeartbeats 4000000 in
theorem dec_ok : CtOk Try.prog 29 c_dec_ok := by
  refine CtOk.fn tb31_ok mixed [(0, 27, 0)] [] rfl rfl ?_
  rintro ⟨(s : ByteArray), (rows : Int), _⟩ hpre
  replace hpre := hpre _ rfl
  dsimp only [cu] at hpre
  have hs := hpre
  refine ⟨[(0, 20, LA.mk [.sl 32 (.int .i64), .sl 8 (.int .i64), .row 0 [.val (.int .u64), .val (.int .u64)]] (fun y => Tag 17 ∧ cu [.int .i64, .int .i64, .int .u64, .int .u64] (fun (k : Int) (a : Int) (x : Int) (y : Int) => (0 ≤ k ∧ k ≤ 2) ∧ ((k = 0 ∧ a = 4 ∧ x = 0 ∧ y = 0) ∨ (k = 1 ∧ (getR (s.extract 0 ((s.size : Int) - 4).toNat) 4).2.2 = 0 ∧ a = (getR (s.extract 0 ((s.size : Int) - 4).toNat) 4).2.1 ∧ x = (getR (s.extract 0 ((s.size : Int) - 4).toNat) 4).1 ∧ y = 0) ∨ (k = 2 ∧ (getR (s.extract 0 ((s.size : Int) - 4).toNat) 4).2.2 = 0 ∧ (getR (s.extract 0 ((s.size : Int) - 4).toNat) (getR (s.extract 0 ((s.size : Int) - 4).toNat) 4).2.1).2.2 = 0 ∧ a = (getR (s.extract 0 ((s.size : Int) - 4).toNat) (getR (s.extract 0 ((s.size : Int) - 4).toNat) 4).2.1).2.1 ∧ x = (getR (s.extract 0 ((s.size : Int) - 4).toNat) 4).1 ∧ y = (getR (s.extract 0 ((s.size : Int) - 4).toNat) (getR (s.extract 0 ((s.size : Int) - 4).toNat) 4).2.1).1))) y) (cu [.int .i64, .int .i64, .int .u64, .int .u64] (fun (k : Int) (a : Int) (x : Int) (y : Int) => (2 - k).toNat)) (cu [.int .i64, .int .i64, .int .u64, .int .u64] (fun (k : Int) (a : Int) (x : Int) (y : Int) => ([] : List (Nat × Nat × LA))))), (0, 35, LA.mk [.sl 8 (.int .i64), .row 0 [.val (.int .u64), .val (.int .u64)]] (fun y => Tag 18 ∧ cu [.int .i64, .int .u64, .int .u64] (fun (a1 : Int) (x1 : Int) (y1 : Int) => (y1 = (getR (s.extract 0 ((s.size : Int) - 4).toNat) (getR (s.extract 0 ((s.size : Int) - 4).toNat) 4).2.1).1 ∧ a1 = (getR (s.extract 0 ((s.size : Int) - 4).toNat) (getR (s.extract 0 ((s.size : Int) - 4).toNat) 4).2.1).2.1 ∧ (getR (s.extract 0 ((s.size : Int) - 4).toNat) 4).2.2 = 0 ∧ (getR (s.extract 0 ((s.size : Int) - 4).toNat) (getR (s.extract 0 ((s.size : Int) - 4).toNat) 4).2.1).2.2 = 0)) y) (cu [.int .i64, .int .u64, .int .u64] (fun (a1 : Int) (x1 : Int) (y1 : Int) => 0)) (cu [.int .i64, .int .u64, .int .u64] (fun (a1 : Int) (x1 : Int) (y1 : Int) => ([(0, 42, LA.mk [.sl 54 (.int .u64), .lst 7 (.int .i64) 3, .sl 8 (.int .i64), .sl 14 (.int .i64)] (fun y => Tag 19 ∧ cu [.int .u64, .list (.int .i64), .int .i64, .int .i64] (fun (j : Int) (M : List Int) (b : Int) (q : Int) => (0 ≤ j ∧ j ≤ y1 ∧ y1 ≤ 1024) ∧ (pGo (s.extract 0 ((s.size : Int) - 4).toNat) 1024 (y1 - j).toNat b q M = pGo (s.extract 0 ((s.size : Int) - 4).toNat) 1024 (getR (s.extract 0 ((s.size : Int) - 4).toNat) (getR (s.extract 0 ((s.size : Int) - 4).toNat) 4).2.1).1.toNat (getR (s.extract 0 ((s.size : Int) - 4).toNat) (getR (s.extract 0 ((s.size : Int) - 4).toNat) 4).2.1).2.1 0 []) ∧ ((M.length : Int) = j) ∧ (0 ≤ q ∧ q ≤ 1025 * j)) y) (cu [.int .u64, .list (.int .i64), .int .i64, .int .i64] (fun (j : Int) (M : List Int) (b : Int) (q : Int) => (y1 - j).toNat)) (cu [.int .u64, .list (.int .i64), .int .i64, .int .i64] (fun (j : Int) (M : List Int) (b : Int) (q : Int) => ([] : List (Nat × Nat × LA)))))] : List (Nat × Nat × LA)))))], ?_⟩
  repeat' (first
    | (with_reducible refine Side.mk ⟨(⟨⟩ : Tag 17), ?_⟩
       dsimp only [cu, joinT, ckTys, gts, Prod.eta, List.nil_append]
       refine ⟨?_, ?_⟩
       · omega
       · first
         | (have h2 : (getR (s.extract 0 ((s.size : Int) - 4).toNat) (getR (s.extract 0 ((s.size : Int) - 4).toNat) 4).2.1).2.2 = 0 := by omega
            exact .inr (.inr ⟨by omega, h1, h2, rfl, rfl, rfl⟩))
         | (have h1 : (getR (s.extract 0 ((s.size : Int) - 4).toNat) 4).2.2 = 0 := by omega
            exact .inr (.inl ⟨by omega, h1, rfl, rfl, rfl⟩))
         | (exact .inl ⟨rfl, rfl, rfl, rfl⟩))
    | (with_reducible refine Side.mk ⟨(⟨⟩ : Tag 18), ?_⟩
       dsimp only [cu, joinT, ckTys, gts, Prod.eta, List.nil_append]
       first
       | (exfalso; omega)
       | (exact ⟨rfl, rfl, h1, h2⟩))
    | (with_reducible refine Side.mk ⟨(⟨⟩ : Tag 19), ?_⟩
       dsimp only [cu, joinT, ckTys, gts, Prod.eta, List.nil_append]
       refine ⟨?_, ?_, ?_, ?_⟩
       · first
         | (have hr := getR_rng (s.extract 0 ((s.size : Int) - 4).toNat) (getR (s.extract 0 ((s.size : Int) - 4).toNat) 4).2.1
            omega)
         | (omega)
       · first
         | (rw [hH.1, hH.2.1, show ∀ x : Int, x - 0 = x from fun x => by omega])
         | (rw [← hp, pGo_step (s := (s.extract 0 ((s.size : Int) - 4).toNat)) (lim := 1024) (a := b) (q := q) (m := y1) (j := j) (acc := M) (by omega), if_neg (by omega)])
       · first
         | (rfl)
         | (simp only [List.length_append, List.length_cons, List.length_nil]; omega)
       · first
         | (omega)
         | (have hr := getR_rng (s.extract 0 ((s.size : Int) - 4).toNat) b
            omega))
    | (with_reducible refine Side.mk ?_
       (try dsimp only [cu, joinT, ckTys, gts, loK, hiK, Prod.eta, List.nil_append])
       first
       | (done)
       | (with_reducible rfl)
       | (omega)
       | (exact Eq.refl _)
       | (simp only [List.length_append, List.length_cons, List.length_nil]; omega)
       | (have hbs : ((s.extract 0 ((s.size : Int) - 4).toNat)).size ≤ s.size := by rw [ByteArray.size_extract]; omega
          omega)
       | (have hr := getR_rng (s.extract 0 ((s.size : Int) - 4).toNat) b
          omega)
       | ((try simp only [List.length_cons, List.length_nil, List.length_append])
          omega))
    | (conv => whnf
       first
        | done
        | exact trivial
        | with_reducible refine w_andS ?_ ?_
        | with_reducible refine w_andL ?_ ?_
        | with_reducible refine w_kern (by kernel_rfl) ?_
        | with_reducible refine w_true ?_
        | with_reducible refine w_nd ?_ ?_
        | with_reducible refine w_in ?_ ?_
        | with_reducible refine w_join ?_ (by kernel_rfl) ?_
        | with_reducible refine w_and ?_ ?_
        | (with_reducible refine w_brN (fun h => ?_) (fun h => ?_) <;> (try dsimp only [cu, Prod.eta, List.nil_append] at h) <;> (try (exfalso; omega; done)))
        | (with_reducible refine w_brD (fun h => ?_) (fun h => ?_) <;> (try dsimp only [cu, Prod.eta, List.nil_append] at h) <;> (try (exfalso; omega; done)))
        | (with_reducible refine w_br (fun h => ?_) (fun h => ?_) <;> (try dsimp only [cu, Prod.eta, List.nil_append] at h) <;> (try (exfalso; omega; done)))
        | (intro yy (hy : Tag 17 ∧ _)
           obtain ⟨(k : Int), (a : Int), (x : Int), (y : Int), _⟩ := yy
           replace hy := hy.2
           dsimp only [cu, joinT, ckTys, gts, Prod.eta, List.nil_append] at hy
           obtain ⟨hk, hh⟩ := hy
           rcases hh with ⟨rfl, rfl, rfl, rfl⟩ | ⟨rfl, h1, rfl, rfl, rfl⟩ | ⟨rfl, h1, h2, rfl, rfl, rfl⟩)
        | (intro yy (hy : Tag 18 ∧ _)
           obtain ⟨(a1 : Int), (x1 : Int), (y1 : Int), _⟩ := yy
           replace hy := hy.2
           dsimp only [cu, joinT, ckTys, gts, Prod.eta, List.nil_append] at hy
           have hH := hy)
        | (intro yy (hy : Tag 19 ∧ _)
           obtain ⟨(j : Int), (M : List Int), (b : Int), (q : Int), _⟩ := yy
           replace hy := hy.2
           dsimp only [cu, joinT, ckTys, gts, Prod.eta, List.nil_append] at hy
           obtain ⟨hj, hp, hm, hq⟩ := hy)))
  all_goals (with_reducible refine Leaf.mk ?_
             (try dsimp only [cu, joinT, ckTys, gts, Prod.eta, List.nil_append] at *)
             first
             | (done)
             | (rw [decR, if_pos (by omega)])
             | (have hne : sealS (s.extract 0 ((s.size : Int) - 4).toNat) ≠ s := by with_reducible assumption
                rw [decR, if_neg (by omega), if_pos hne])
             | (have hn := dOpt_n2 (s := s) (rows := rows) hH.2.2.1 hH.2.2.2 (by rw [← hH.1]; omega)
                rw [decR_none (by omega) (by with_reducible assumption) hn])
             | (have hn := dOpt_n3 (s := s) (rows := rows) hH.2.2.1 hH.2.2.2 (by omega) (by rw [← hp, pGo_step (s := (s.extract 0 ((s.size : Int) - 4).toNat)) (lim := 1024) (a := b) (q := q) (m := y1) (j := j) (acc := M) (by omega), if_pos (by omega)])
                rw [decR_none (by omega) (by with_reducible assumption) hn])
             | (have hf := dOpt_fin (s := s) (rows := rows) (l := M) (e := b) hH.2.2.1 hH.2.2.2 (by omega) (by rw [← hp, show (y1 - j).toNat = 0 by omega]; rfl)
                rw [if_pos (by first | assumption | omega | grind)] at hf
                rw [decR_none (by omega) (by with_reducible assumption) hf])
             | (have hf := dOpt_fin (s := s) (rows := rows) (l := M) (e := b) hH.2.2.1 hH.2.2.2 (by omega) (by rw [← hp, show (y1 - j).toNat = 0 by omega]; rfl)
                rw [if_neg (by first | assumption | omega | grind)] at hf
                rw [decR_some (by omega) (by with_reducible assumption) hf])
             | (rw [decR_none (by omega) (by with_reducible assumption) (dOpt_n0 (by omega))])
             | (rw [decR_none (by omega) (by with_reducible assumption) (dOpt_n1 h1 (by omega))]))
abbrev tb32 : Tbl := (29, c_dec_ok) :: tb31
theorem tb32_ok : TblOk Try.prog tb32 := TblOk.cons dec_ok tb31_ok

end Go.Proofs.Ytojdmkkjamakiaa
