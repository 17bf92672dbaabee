/- Contracts of packing. -/
import Derived.Test.YthomnlfmamagcaaWidth
namespace Go.Proofs.Ythomnlfmamagcaa
open Go.Abs
set_option linter.unusedVariables false
set_option linter.unusedSimpArgs false

abbrev c_pack_ok : Ct := .fn [.list (.int .u64), .int .i64] (some (fun (l : List Int) (w : Int) => (∀ i : Nat, 0 ≤ l[i]! ∧ l[i]! < 18446744073709551616) ∧ (l.length ≤ 4611686018427387904))) (fun (l : List Int) (w : Int) => .tup [.str, .int .i64] ((packR l w).1, (packR l w).2, ()))
set_option maxRecDepth 100000 in
set_option maxHeartbeats 4000000 in
theorem pack_ok : CtOk Try.prog 26 c_pack_ok := by
  refine CtOk.fn tb6_ok mixed [] [] rfl rfl ?_
  rintro ⟨(l : List Int), (w : Int), _⟩ hpre
  replace hpre := hpre _ rfl
  dsimp only [cu] at hpre
  obtain ⟨hlv, hll⟩ := hpre
  refine ⟨[(0, 16, LA.mk [.sl 29 (.int .i64), .sl 7 (.int .i64), .ar 0 (.int .u8) 5] (fun y => Tag 2 ∧ cu [.int .i64, .int .i64, .list (.int .u8)] (fun (i : Int) (a : Int) (M : List Int) => (0 ≤ i ∧ i ≤ l.length) ∧ (a = i * w) ∧ (M = gL (vbit l w.toNat) a.toNat 8 (needR l.length w).toNat) ∧ (∀ j : Nat, (j : Int) < i → lenI l[j]! ≤ w)) y) (cu [.int .i64, .int .i64, .list (.int .u8)] (fun (i : Int) (a : Int) (M : List Int) => ((l.length : Int) - i).toNat)) (cu [.int .i64, .int .i64, .list (.int .u8)] (fun (i : Int) (a : Int) (M : List Int) => ([(0, 26, LA.mk [.sl 38 (.int .i64), .sl 7 (.int .i64), .ar 0 (.int .u8) 5] (fun y => Tag 3 ∧ cu [.int .i64, .int .i64, .list (.int .u8)] (fun (k : Int) (b : Int) (O : List Int) => (0 ≤ k ∧ k ≤ w) ∧ (b = i * w + k) ∧ (O = gL (vbit l w.toNat) b.toNat 8 (needR l.length w).toNat)) y) (cu [.int .i64, .int .i64, .list (.int .u8)] (fun (k : Int) (b : Int) (O : List Int) => ((w : Int) - k).toNat)) (cu [.int .i64, .int .i64, .list (.int .u8)] (fun (k : Int) (b : Int) (O : List Int) => ([] : List (Nat × Nat × LA)))))] : List (Nat × Nat × LA)))))], ?_⟩
  repeat' (first
    | (with_reducible refine Side.mk ⟨(⟨⟩ : Tag 2), ?_⟩
       dsimp only [cu, joinT, ckTys, gts, Prod.eta, List.nil_append]
       refine ⟨?_, ?_, ?_, ?_⟩
       · omega
       · first
         | (omega)
         | (rw [step_mul]; omega)
       · first
         | (exact (gL_zero _ _ _).symm)
         | (rw [hO])
       · first
         | (intro j hj; omega)
         | (intro j hj
            rcases Int.lt_or_le (j : Int) i with q | q
            · exact hwd j q
            · rw [show j = i.toNat by omega]; exact Int.not_lt.1 (by assumption)))
    | (with_reducible refine Side.mk ⟨(⟨⟩ : Tag 3), ?_⟩
       dsimp only [cu, joinT, ckTys, gts, Prod.eta, List.nil_append]
       refine ⟨?_, ?_, ?_⟩
       · omega
       · first
         | (rw [ha]; omega)
         | (omega)
       · first
         | (exact hM)
         | (have hne := need_eq (n := l.length) (w := w) (by omega)
            have hix := idx_lt (i := i) (n := l.length) (k := k) (w := w) (by omega) (by omega) (by omega)
            have hi0 : 0 ≤ i * w := Int.mul_nonneg (by omega) (by omega)
            rw [hO]
            refine pack_set (vbit01 _ _) (by omega) (by omega) ?_ rfl rfl
            show IntKind.u8.wrap (bAnd .u64 (shrI .u64 l[i.toNat]! k) 1) = _
            obtain ⟨q1, q2⟩ := bit_w8 (hlv i.toNat) (k := k) (by omega)
            rw [q1, hb, vbit_eq (by omega)]
            exact u8_id (by omega)))
    | (with_reducible refine Side.mk ?_
       (try dsimp only [cu, joinT, ckTys, gts, loK, hiK, Prod.eta, List.nil_append])
       first
       | (done)
       | (with_reducible rfl)
       | (omega)
       | (exact Eq.refl _)
       | (simp only [List.length_append, List.length_cons, List.length_nil]; omega)
       | (omega)
       | (have hne := need_eq (n := l.length) (w := w) (by omega)
          omega)
       | (exact hlv _)
       | (simp only [hM, gL_len]; done)
       | (simp only [hO, gL_len]; done)
       | (have hne := need_eq (n := l.length) (w := w) (by omega)
          have hix := idx_lt (i := i) (n := l.length) (k := k) (w := w) (by omega) (by omega) (by omega)
          have hi0 : 0 ≤ i * w := Int.mul_nonneg (by omega) (by omega)
          (try rw [Int.tdiv_eq_ediv_of_nonneg (by omega)])
          (try rw [Int.tmod_eq_emod_of_nonneg (by omega)])
          (try simp only [hO, gL_len])
          omega)
       | (have hne := need_eq (n := l.length) (w := w) (by omega)
          have hix := idx_lt (i := i) (n := l.length) (k := k) (w := w) (by omega) (by omega) (by omega)
          have hi0 : 0 ≤ i * w := Int.mul_nonneg (by omega) (by omega)
          (try rw [Int.tdiv_eq_ediv_of_nonneg (by omega)])
          (try rw [Int.tmod_eq_emod_of_nonneg (by omega)])
          omega))
    | (conv => whnf
       first
        | done
        | exact trivial
        | with_reducible refine NilBr.mk (fun h => ?_) ?_
        | with_reducible refine w_andS ?_ ?_
        | with_reducible refine w_andL ?_ ?_
        | with_reducible refine w_kern (by kernel_rfl) ?_
        | with_reducible refine w_true ?_
        | with_reducible refine w_nd ?_ ?_
        | with_reducible refine w_in ?_ ?_
        | with_reducible refine w_and ?_ ?_
        | (with_reducible refine w_brN (fun h => ?_) (fun h => ?_) <;> (try dsimp only [cu, Prod.eta, List.nil_append] at h) <;> (try (exfalso; omega; done)))
        | (with_reducible refine w_brD (fun h => ?_) (fun h => ?_) <;> (try dsimp only [cu, Prod.eta, List.nil_append] at h) <;> (try (exfalso; omega; done)))
        | (with_reducible refine w_br (fun h => ?_) (fun h => ?_) <;> (try dsimp only [cu, Prod.eta, List.nil_append] at h) <;> (try (exfalso; omega; done)))
        | (intro yy (hy : Tag 2 ∧ _)
           obtain ⟨(i : Int), (a : Int), (M : List Int), _⟩ := yy
           replace hy := hy.2
           dsimp only [cu, joinT, ckTys, gts, Prod.eta, List.nil_append] at hy
           obtain ⟨hi, ha, hM, hwd⟩ := hy)
        | (intro yy (hy : Tag 3 ∧ _)
           obtain ⟨(k : Int), (b : Int), (O : List Int), _⟩ := yy
           replace hy := hy.2
           dsimp only [cu, joinT, ckTys, gts, Prod.eta, List.nil_append] at hy
           obtain ⟨hk, hb, hO⟩ := hy)))
  all_goals (with_reducible refine Leaf.mk ?_
             (try dsimp only [cu, joinT, ckTys, gts, Prod.eta, List.nil_append] at *)
             first
             | (done)
             | (rw [packR, if_pos (by omega)])
             | (rw [packR, if_neg (by omega), if_pos (by omega)])
             | (have hyes := wide_yes (l := l) (w := w) (i := i) (by omega) (by assumption)
                have h1 : ¬ (w < 0 ∨ w > 64) := by omega
                have h2 : ¬ l.length > 4096 := by omega
                rw [packR, if_neg h1, if_neg h2, if_pos hyes])
             | (have hil : i = l.length := by omega
                have hno := wide_no (l := l) (w := w) (fun j hj => hwd j (by omega))
                have h1 : ¬ (w < 0 ∨ w > 64) := by omega
                have h2 : ¬ l.length > 4096 := by omega
                have h3 : ¬ anyWide l w = true := by rw [hno]; decide
                rw [packR, if_neg h1, if_neg h2, if_neg h3]
                (try rw [hM, ha, hil])))
abbrev tb7 : Tbl := (26, c_pack_ok) :: tb6
theorem tb7_ok : TblOk Try.prog tb7 := TblOk.cons pack_ok tb6_ok

abbrev c_rpack_ok : Ct := .fn [.list (.int .u64), .int .i64] (some (fun (l : List Int) (w : Int) => (∀ i : Nat, 0 ≤ l[i]! ∧ l[i]! < 18446744073709551616) ∧ (l.length ≤ 4611686018427387904))) (fun (l : List Int) (w : Int) => .tup [.str, .int .i64] ((packR l w).1, (packR l w).2, ()))
set_option maxRecDepth 100000 in
set_option maxHeartbeats 4000000 in
theorem rpack_ok : CtOk Try.prog 33 c_rpack_ok := by
  refine CtOk.fn tb7_ok mixed [] [] rfl rfl ?_
  rintro ⟨(l : List Int), (w : Int), _⟩ hpre
  replace hpre := hpre _ rfl
  dsimp only [cu] at hpre
  obtain ⟨hlv, hll⟩ := hpre
  refine ⟨[(0, 14, LA.mk [.sl 27 (.int .i64), .ar 0 (.int .u8) 5] (fun y => Tag 4 ∧ cu [.int .i64, .list (.int .u8)] (fun (i : Int) (M : List Int) => (0 ≤ i ∧ i ≤ l.length) ∧ (M = gL (vbit l w.toNat) (i * w).toNat 8 (needR l.length w).toNat) ∧ (∀ j : Nat, (j : Int) < i → lenI l[j]! ≤ w)) y) (cu [.int .i64, .list (.int .u8)] (fun (i : Int) (M : List Int) => ((l.length : Int) - i).toNat)) (cu [.int .i64, .list (.int .u8)] (fun (i : Int) (M : List Int) => ([(0, 24, LA.mk [.sl 9 (.int .i64), .ar 0 (.int .u8) 5] (fun y => Tag 5 ∧ cu [.int .i64, .list (.int .u8)] (fun (k : Int) (O : List Int) => (0 ≤ k ∧ k ≤ w) ∧ (O = gL (vbit l w.toNat) (i * w + k).toNat 8 (needR l.length w).toNat)) y) (cu [.int .i64, .list (.int .u8)] (fun (k : Int) (O : List Int) => ((w : Int) - k).toNat)) (cu [.int .i64, .list (.int .u8)] (fun (k : Int) (O : List Int) => ([] : List (Nat × Nat × LA)))))] : List (Nat × Nat × LA)))))], ?_⟩
  repeat' (first
    | (with_reducible refine Side.mk ⟨(⟨⟩ : Tag 4), ?_⟩
       dsimp only [cu, joinT, ckTys, gts, Prod.eta, List.nil_append]
       refine ⟨?_, ?_, ?_⟩
       · omega
       · first
         | (rw [Int.zero_mul]; exact (gL_zero _ _ _).symm)
         | (rw [hO, show k = w by omega, step_mul])
       · first
         | (intro j hj; omega)
         | (intro j hj
            rcases Int.lt_or_le (j : Int) i with q | q
            · exact hwd j q
            · rw [show j = i.toNat by omega]; exact Int.not_lt.1 (by assumption)))
    | (with_reducible refine Side.mk ⟨(⟨⟩ : Tag 5), ?_⟩
       dsimp only [cu, joinT, ckTys, gts, Prod.eta, List.nil_append]
       refine ⟨?_, ?_⟩
       · omega
       · first
         | (rw [hM, Int.add_zero])
         | (have hne := need_eq (n := l.length) (w := w) (by omega)
            have hix := idx_lt (i := i) (n := l.length) (k := k) (w := w) (by omega) (by omega) (by omega)
            have hi0 : 0 ≤ i * w := Int.mul_nonneg (by omega) (by omega)
            rw [hO, show i * w + (k + 1) = i * w + k + 1 by omega]
            obtain ⟨q1, q2⟩ := bit_w8 (hlv i.toNat) (k := k) (by omega)
            rw [u64_id (n := k) (by omega)] at h
            rw [u64_id (n := (i * w + k).tmod 8) (by rw [Int.tmod_eq_emod_of_nonneg (by omega)]; omega)]
            refine pack_set (vbit01 _ _) (by omega) (by omega) ?_ rfl rfl
            rw [vbit_eq (by omega), ← q1]; exact h.symm)
         | (have hne := need_eq (n := l.length) (w := w) (by omega)
            have hix := idx_lt (i := i) (n := l.length) (k := k) (w := w) (by omega) (by omega) (by omega)
            have hi0 : 0 ≤ i * w := Int.mul_nonneg (by omega) (by omega)
            rw [hO, show i * w + (k + 1) = i * w + k + 1 by omega, show (i * w + k + 1).toNat = (i * w + k).toNat + 1 by omega]
            obtain ⟨q1, q2⟩ := bit_w8 (hlv i.toNat) (k := k) (by omega)
            rw [u64_id (n := k) (by omega)] at h
            have h2 : ¬ bAnd .u64 (shrI .u64 l[i.toNat]! k) 1 = 1 := h
            rw [q1] at h2
            refine gL_same (by decide) ?_
            rw [vbit_eq (by omega)]; omega))
    | (with_reducible refine Side.mk ?_
       (try dsimp only [cu, joinT, ckTys, gts, loK, hiK, Prod.eta, List.nil_append])
       first
       | (done)
       | (with_reducible rfl)
       | (omega)
       | (exact Eq.refl _)
       | (simp only [List.length_append, List.length_cons, List.length_nil]; omega)
       | (omega)
       | (have hne := need_eq (n := l.length) (w := w) (by omega)
          omega)
       | (exact hlv _)
       | (simp only [hM, gL_len]; done)
       | (simp only [hO, gL_len]; done)
       | (rw [u64_id (n := k) (by omega)]; omega)
       | (have hne := need_eq (n := l.length) (w := w) (by omega)
          have hix := idx_lt (i := i) (n := l.length) (k := k) (w := w) (by omega) (by omega) (by omega)
          have hi0 : 0 ≤ i * w := Int.mul_nonneg (by omega) (by omega)
          (try rw [Int.tdiv_eq_ediv_of_nonneg (by omega)])
          (try rw [Int.tmod_eq_emod_of_nonneg (by omega)])
          (try simp only [hO, gL_len])
          omega)
       | (have hne := need_eq (n := l.length) (w := w) (by omega)
          have hix := idx_lt (i := i) (n := l.length) (k := k) (w := w) (by omega) (by omega) (by omega)
          have hi0 : 0 ≤ i * w := Int.mul_nonneg (by omega) (by omega)
          rw [u64_id (n := (i * w + k).tmod 8) (by rw [Int.tmod_eq_emod_of_nonneg (by omega)]; omega)]
          (try rw [Int.tdiv_eq_ediv_of_nonneg (by omega)])
          (try rw [Int.tmod_eq_emod_of_nonneg (by omega)])
          omega)
       | (have hne := need_eq (n := l.length) (w := w) (by omega)
          have hix := idx_lt (i := i) (n := l.length) (k := k) (w := w) (by omega) (by omega) (by omega)
          have hi0 : 0 ≤ i * w := Int.mul_nonneg (by omega) (by omega)
          (try rw [Int.tdiv_eq_ediv_of_nonneg (by omega)])
          (try rw [Int.tmod_eq_emod_of_nonneg (by omega)])
          omega))
    | (conv => whnf
       first
        | done
        | exact trivial
        | with_reducible refine NilBr.mk (fun h => ?_) ?_
        | with_reducible refine w_andS ?_ ?_
        | with_reducible refine w_andL ?_ ?_
        | with_reducible refine w_kern (by kernel_rfl) ?_
        | with_reducible refine w_true ?_
        | with_reducible refine w_nd ?_ ?_
        | with_reducible refine w_in ?_ ?_
        | with_reducible refine w_and ?_ ?_
        | (with_reducible refine w_brN (fun h => ?_) (fun h => ?_) <;> (try dsimp only [cu, Prod.eta, List.nil_append] at h) <;> (try (exfalso; omega; done)))
        | (with_reducible refine w_brD (fun h => ?_) (fun h => ?_) <;> (try dsimp only [cu, Prod.eta, List.nil_append] at h) <;> (try (exfalso; omega; done)))
        | (with_reducible refine w_br (fun h => ?_) (fun h => ?_) <;> (try dsimp only [cu, Prod.eta, List.nil_append] at h) <;> (try (exfalso; omega; done)))
        | (intro yy (hy : Tag 4 ∧ _)
           obtain ⟨(i : Int), (M : List Int), _⟩ := yy
           replace hy := hy.2
           dsimp only [cu, joinT, ckTys, gts, Prod.eta, List.nil_append] at hy
           obtain ⟨hi, hM, hwd⟩ := hy)
        | (intro yy (hy : Tag 5 ∧ _)
           obtain ⟨(k : Int), (O : List Int), _⟩ := yy
           replace hy := hy.2
           dsimp only [cu, joinT, ckTys, gts, Prod.eta, List.nil_append] at hy
           obtain ⟨hk, hO⟩ := hy)))
  all_goals (with_reducible refine Leaf.mk ?_
             (try dsimp only [cu, joinT, ckTys, gts, Prod.eta, List.nil_append] at *)
             first
             | (done)
             | (rw [packR, if_pos (by omega)])
             | (rw [packR, if_neg (by omega), if_pos (by omega)])
             | (have hyes := wide_yes (l := l) (w := w) (i := i) (by omega) (by assumption)
                have h1 : ¬ (w < 0 ∨ w > 64) := by omega
                have h2 : ¬ l.length > 4096 := by omega
                rw [packR, if_neg h1, if_neg h2, if_pos hyes])
             | (have hil : i = l.length := by omega
                have hno := wide_no (l := l) (w := w) (fun j hj => hwd j (by omega))
                have h1 : ¬ (w < 0 ∨ w > 64) := by omega
                have h2 : ¬ l.length > 4096 := by omega
                have h3 : ¬ anyWide l w = true := by rw [hno]; decide
                rw [packR, if_neg h1, if_neg h2, if_neg h3]
                (try rw [hM, hil])))
abbrev tb8 : Tbl := (33, c_rpack_ok) :: tb7
theorem tb8_ok : TblOk Try.prog tb8 := TblOk.cons rpack_ok tb7_ok

end Go.Proofs.Ythomnlfmamagcaa
