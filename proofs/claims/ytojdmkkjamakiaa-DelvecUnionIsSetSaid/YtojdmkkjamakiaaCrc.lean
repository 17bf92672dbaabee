/- Contracts of the checksums. -/
import Derived.Test.YtojdmkkjamakiaaBits
namespace Go.Proofs.Ytojdmkkjamakiaa
open Go.Abs
set_option linter.unusedVariables false
set_option linter.unusedSimpArgs false


def rnd (v : Int) : Int := bXor .u32 (shrI .u32 v 1) (IntKind.u32.wrap (2197175160 * bAnd .u32 v 1))
def rndN : Nat → Int → Int
  | 0, v => v
  | n + 1, v => rndN n (rnd v)
theorem rnd_in (v : Int) : 0 ≤ rnd v ∧ rnd v < 4294967296 := bXor_u32 _ _
theorem rnd_one {v : Int} (h : bAnd .u32 v 1 = 1) : rnd v = bXor .u32 (shrI .u32 v 1) 2197175160 := by
  unfold rnd; rw [h]; rfl
theorem rnd_zero {v : Int} (hv : 0 ≤ v ∧ v < 4294967296) (h : ¬ bAnd .u32 v 1 = 1) : rnd v = shrI .u32 v 1 := by
  have h0 : bAnd .u32 v 1 = 0 := by rw [bAnd1 hv] at h ⊢; omega
  unfold rnd
  rw [h0, show IntKind.u32.wrap (2197175160 * 0) = 0 from rfl, bXor0 (by simpa using shr_u32 hv 1)]
theorem rndN_step {k v : Int} (h : 0 ≤ k ∧ k < 8) : rndN (8 - k).toNat v = rndN (8 - (k + 1)).toNat (rnd v) := by
  rw [show (8 - k).toNat = (8 - (k + 1)).toNat + 1 by omega]; rfl
def crcTab : List Int := (List.range 256).map fun i : Nat => rndN 8 (i : Int)
theorem crcTab_len : crcTab.length = 256 := by simp [crcTab]
def cstep (t : List Int) (v b : Int) : Int := bXor .u32 (shrI .u32 v 8) t[(bXor .u8 (IntKind.u8.wrap v) b).toNat]!
def bnot (v : Int) : Int := bXor .u32 (-1) v
def sumR (t : List Int) (s : ByteArray) : Int := if t.length = 256 then bnot ((toInts s).foldl (cstep t) 4294967295) else 0
def crcS (s : ByteArray) : Int := sumR crcTab s
theorem toInts_len (s : ByteArray) : (toInts s).length = s.size := by simp [toInts]
theorem toInts_get (s : ByteArray) (k : Nat) : (toInts s)[k]! = byteAt s k := by
  obtain ⟨d⟩ := s
  show (d.toList.map fun u => (u.toNat : Int))[k]! = ((d[k]!).toNat : Int)
  by_cases h : k < d.size
  · rw [getElem!_pos _ k (by simpa using h), getElem!_pos d k h]
    simp
  · rw [getElem!_neg _ k (by simpa using h), getElem!_neg d k h]
    rfl
theorem fold_step {t : List Int} {s : ByteArray} {k v : Int} (h : 0 ≤ k ∧ k < s.size) : ((toInts s).drop k.toNat).foldl (cstep t) v = ((toInts s).drop (k + 1).toNat).foldl (cstep t) (cstep t v (byteAt s k.toNat)) := by
  rw [drop_step (toInts s) k (by rw [toInts_len]; exact h), List.foldl_cons, toInts_get]

abbrev c_step_ok : Ct := .fn [.list (.int .u32), .int .u32, .int .u8] (some (fun (t : List Int) (v : Int) (b : Int) => (t.length = 256))) (fun (t : List Int) (v : Int) (b : Int) => .d (.int .u32) (cstep t v b))
set_option maxRecDepth 100000 in
set_option maxHeartbeats 4000000 in
theorem step_ok : CtOk Try.prog 70 c_step_ok := by
  refine CtOk.fn TblOk.nil mixed [] [] rfl rfl ?_
  rintro ⟨(t : List Int), (v : Int), (b : Int), _⟩ hpre
  replace hpre := hpre _ rfl
  dsimp only [cu] at hpre
  have ht := hpre
  refine ⟨[], ?_⟩
  repeat' (first
    | (with_reducible refine Side.mk ?_
       (try dsimp only [cu, joinT, ckTys, gts, loK, hiK, Prod.eta, List.nil_append])
       first
       | (done)
       | (with_reducible rfl)
       | (omega)
       | (exact Eq.refl _)
       | (simp only [List.length_append, List.length_cons, List.length_nil]; omega)
       | (have hx := bXor_u8 (IntKind.u8.wrap v) b; omega)
       | (have hx := bXor_u8 (IntKind.u8.wrap v) (byteAt s k.toNat); omega))
    | (conv => whnf
       first
        | done
        | exact trivial
        | with_reducible refine NilBr.mk (fun h => ?_) ?_
        | with_reducible refine w_andS ?_ ?_
        | with_reducible refine w_andL ?_ ?_
        | with_reducible refine w_kern (by kernel_rfl) ?_
        | with_reducible refine w_true ?_
        | with_reducible refine w_nd ?_ ?_
        | with_reducible refine w_in ?_ ?_
        | with_reducible refine w_and ?_ ?_
        | (with_reducible refine w_brN (fun h => ?_) (fun h => ?_) <;> (try dsimp only [cu, Prod.eta, List.nil_append] at h) <;> (try (exfalso; omega; done)))
        | (with_reducible refine w_brD (fun h => ?_) (fun h => ?_) <;> (try dsimp only [cu, Prod.eta, List.nil_append] at h) <;> (try (exfalso; omega; done)))
        | (with_reducible refine w_br (fun h => ?_) (fun h => ?_) <;> (try dsimp only [cu, Prod.eta, List.nil_append] at h) <;> (try (exfalso; omega; done)))))
  all_goals (with_reducible refine Leaf.mk ?_
             (try dsimp only [cu, joinT, ckTys, gts, Prod.eta, List.nil_append] at *)
             first
             | (done)
             | (rfl))
abbrev tb1 : Tbl := (70, c_step_ok) :: ([] : Tbl)
theorem tb1_ok : TblOk Try.prog tb1 := TblOk.cons step_ok TblOk.nil

abbrev c_sum_ok : Ct := .fn [.list (.int .u32), .str] (some (fun (t : List Int) (s : ByteArray) => (s.size ≤ 9223372036854775807))) (fun (t : List Int) (s : ByteArray) => .d (.int .u32) (sumR t s))
set_option maxRecDepth 100000 in
set_option maxHeartbeats 4000000 in
theorem sum_ok : CtOk Try.prog 54 c_sum_ok := by
  refine CtOk.fn tb1_ok mixed [] [] rfl rfl ?_
  rintro ⟨(t : List Int), (s : ByteArray), _⟩ hpre
  replace hpre := hpre _ rfl
  dsimp only [cu] at hpre
  have hs := hpre
  refine ⟨[(0, 10, LA.mk [.sl 12 (.int .i64), .sl 5 (.int .u32)] (fun y => Tag 1 ∧ cu [.int .i64, .int .u32] (fun (k : Int) (v : Int) => (0 ≤ k ∧ k ≤ s.size) ∧ (((toInts s).drop k.toNat).foldl (cstep t) v = (toInts s).foldl (cstep t) 4294967295)) y) (cu [.int .i64, .int .u32] (fun (k : Int) (v : Int) => ((s.size : Int) - k).toNat)) (cu [.int .i64, .int .u32] (fun (k : Int) (v : Int) => ([] : List (Nat × Nat × LA)))))], ?_⟩
  repeat' (first
    | (with_reducible refine Side.mk ⟨(⟨⟩ : Tag 1), ?_⟩
       dsimp only [cu, joinT, ckTys, gts, Prod.eta, List.nil_append]
       refine ⟨?_, ?_⟩
       · omega
       · first
         | (simp; done)
         | (rw [← hv, fold_step (k := k) (v := v) (by omega)]; (try rfl)))
    | (with_reducible refine Side.mk ?_
       (try dsimp only [cu, joinT, ckTys, gts, loK, hiK, Prod.eta, List.nil_append])
       first
       | (done)
       | (with_reducible rfl)
       | (omega)
       | (exact Eq.refl _)
       | (simp only [List.length_append, List.length_cons, List.length_nil]; omega)
       | (have hx := bXor_u8 (IntKind.u8.wrap v) b; omega)
       | (have hx := bXor_u8 (IntKind.u8.wrap v) (byteAt s k.toNat); omega)
       | (assumption))
    | (conv => whnf
       first
        | done
        | exact trivial
        | with_reducible refine NilBr.mk (fun h => ?_) ?_
        | with_reducible refine w_andS ?_ ?_
        | with_reducible refine w_andL ?_ ?_
        | with_reducible refine w_kern (by kernel_rfl) ?_
        | with_reducible refine w_true ?_
        | with_reducible refine w_nd ?_ ?_
        | with_reducible refine w_in ?_ ?_
        | with_reducible refine w_and ?_ ?_
        | (with_reducible refine w_brN (fun h => ?_) (fun h => ?_) <;> (try dsimp only [cu, Prod.eta, List.nil_append] at h) <;> (try (exfalso; omega; done)))
        | (with_reducible refine w_brD (fun h => ?_) (fun h => ?_) <;> (try dsimp only [cu, Prod.eta, List.nil_append] at h) <;> (try (exfalso; omega; done)))
        | (with_reducible refine w_br (fun h => ?_) (fun h => ?_) <;> (try dsimp only [cu, Prod.eta, List.nil_append] at h) <;> (try (exfalso; omega; done)))
        | (intro yy (hy : Tag 1 ∧ _)
           obtain ⟨(k : Int), (v : Int), _⟩ := yy
           replace hy := hy.2
           dsimp only [cu, joinT, ckTys, gts, Prod.eta, List.nil_append] at hy
           obtain ⟨hk, hv⟩ := hy)))
  all_goals (with_reducible refine Leaf.mk ?_
             (try dsimp only [cu, joinT, ckTys, gts, Prod.eta, List.nil_append] at *)
             first
             | (done)
             | (have h256 : ¬ t.length = 256 := by omega
                rw [sumR, if_neg h256])
             | (have h256 : t.length = 256 := by omega
                rw [sumR, if_pos h256, ← hv, List.drop_eq_nil_of_le (by rw [toInts_len]; omega)]
                rfl))
abbrev tb2 : Tbl := (54, c_sum_ok) :: tb1
theorem tb2_ok : TblOk Try.prog tb2 := TblOk.cons sum_ok tb1_ok

abbrev c_rsum_ok : Ct := .fn [.list (.int .u32), .str] (some (fun (t : List Int) (s : ByteArray) => (s.size ≤ 9223372036854775807))) (fun (t : List Int) (s : ByteArray) => .d (.int .u32) (sumR t s))
set_option maxRecDepth 100000 in
set_option maxHeartbeats 4000000 in
theorem rsum_ok : CtOk Try.prog 45 c_rsum_ok := by
  refine CtOk.fn tb2_ok mixed [] [] rfl rfl ?_
  rintro ⟨(t : List Int), (s : ByteArray), _⟩ hpre
  replace hpre := hpre _ rfl
  dsimp only [cu] at hpre
  have hs := hpre
  refine ⟨[(0, 10, LA.mk [.sl 6 (.int .i64), .sl 5 (.int .u32)] (fun y => Tag 2 ∧ cu [.int .i64, .int .u32] (fun (k : Int) (v : Int) => (0 ≤ k ∧ k ≤ s.size) ∧ (((toInts s).drop k.toNat).foldl (cstep t) v = (toInts s).foldl (cstep t) 4294967295)) y) (cu [.int .i64, .int .u32] (fun (k : Int) (v : Int) => ((s.size : Int) - k).toNat)) (cu [.int .i64, .int .u32] (fun (k : Int) (v : Int) => ([] : List (Nat × Nat × LA)))))], ?_⟩
  repeat' (first
    | (with_reducible refine Side.mk ⟨(⟨⟩ : Tag 2), ?_⟩
       dsimp only [cu, joinT, ckTys, gts, Prod.eta, List.nil_append]
       refine ⟨?_, ?_⟩
       · omega
       · first
         | (simp; done)
         | (rw [← hv, fold_step (k := k) (v := v) (by omega)]; (try rfl)))
    | (with_reducible refine Side.mk ?_
       (try dsimp only [cu, joinT, ckTys, gts, loK, hiK, Prod.eta, List.nil_append])
       first
       | (done)
       | (with_reducible rfl)
       | (omega)
       | (exact Eq.refl _)
       | (simp only [List.length_append, List.length_cons, List.length_nil]; omega)
       | (have hx := bXor_u8 (IntKind.u8.wrap v) b; omega)
       | (have hx := bXor_u8 (IntKind.u8.wrap v) (byteAt s k.toNat); omega)
       | (assumption))
    | (conv => whnf
       first
        | done
        | exact trivial
        | with_reducible refine NilBr.mk (fun h => ?_) ?_
        | with_reducible refine w_andS ?_ ?_
        | with_reducible refine w_andL ?_ ?_
        | with_reducible refine w_kern (by kernel_rfl) ?_
        | with_reducible refine w_true ?_
        | with_reducible refine w_nd ?_ ?_
        | with_reducible refine w_in ?_ ?_
        | with_reducible refine w_and ?_ ?_
        | (with_reducible refine w_brN (fun h => ?_) (fun h => ?_) <;> (try dsimp only [cu, Prod.eta, List.nil_append] at h) <;> (try (exfalso; omega; done)))
        | (with_reducible refine w_brD (fun h => ?_) (fun h => ?_) <;> (try dsimp only [cu, Prod.eta, List.nil_append] at h) <;> (try (exfalso; omega; done)))
        | (with_reducible refine w_br (fun h => ?_) (fun h => ?_) <;> (try dsimp only [cu, Prod.eta, List.nil_append] at h) <;> (try (exfalso; omega; done)))
        | (intro yy (hy : Tag 2 ∧ _)
           obtain ⟨(k : Int), (v : Int), _⟩ := yy
           replace hy := hy.2
           dsimp only [cu, joinT, ckTys, gts, Prod.eta, List.nil_append] at hy
           obtain ⟨hk, hv⟩ := hy)))
  all_goals (with_reducible refine Leaf.mk ?_
             (try dsimp only [cu, joinT, ckTys, gts, Prod.eta, List.nil_append] at *)
             first
             | (done)
             | (have h256 : ¬ t.length = 256 := by omega
                rw [sumR, if_neg h256])
             | (have h256 : t.length = 256 := by omega
                rw [sumR, if_pos h256, ← hv, List.drop_eq_nil_of_le (by rw [toInts_len]; omega)]
                rfl))
abbrev tb3 : Tbl := (45, c_rsum_ok) :: tb2
theorem tb3_ok : TblOk Try.prog tb3 := TblOk.cons rsum_ok tb2_ok

abbrev c_table_ok : Ct := .fn [] (none) (.d (.list (.int .u32)) crcTab)
set_option maxRecDepth 100000 in
set_option maxHeartbeats 4000000 in
theorem table_ok : CtOk Try.prog 55 c_table_ok := by
  refine CtOk.fn tb3_ok mixed [(0, 5, 1)] [] rfl rfl ?_
  rintro ⟨⟩ -
  refine ⟨[(0, 6, LA.mk [.sl 7 (.int .i64), .ar 0 (.int .u32) 50] (fun y => Tag 3 ∧ cu [.int .i64, .list (.int .u32)] (fun (k : Int) (M : List Int) => (0 ≤ k ∧ k ≤ 256) ∧ (M.length = 256) ∧ (M.take k.toNat = (List.range k.toNat).map (fun i : Nat => rndN 8 (i : Int)))) y) (cu [.int .i64, .list (.int .u32)] (fun (k : Int) (M : List Int) => ((256 : Int) - k).toNat)) (cu [.int .i64, .list (.int .u32)] (fun (k : Int) (M : List Int) => ([(0, 14, LA.mk [.sl 12 (.int .i64), .sl 3 (.int .u32)] (fun y => Tag 4 ∧ cu [.int .i64, .int .u32] (fun (j : Int) (v : Int) => (0 ≤ j ∧ j ≤ 8) ∧ (rndN (8 - j).toNat v = rndN 8 k)) y) (cu [.int .i64, .int .u32] (fun (j : Int) (v : Int) => ((8 : Int) - j).toNat)) (cu [.int .i64, .int .u32] (fun (j : Int) (v : Int) => ([] : List (Nat × Nat × LA)))))] : List (Nat × Nat × LA)))))], ?_⟩
  repeat' (first
    | (with_reducible refine Side.mk ⟨(⟨⟩ : Tag 3), ?_⟩
       dsimp only [cu, joinT, ckTys, gts, Prod.eta, List.nil_append]
       refine ⟨?_, ?_, ?_⟩
       · omega
       · first
         | (simp; done)
         | (simp; omega)
       · first
         | (simp; done)
         | (rw [show (k + 1).toNat = k.toNat + 1 by omega, take_set _ _ _ (by omega), hm, List.range_succ, List.map_append]
            simp only [List.map_cons, List.map_nil]
            rw [show ((k.toNat : Nat) : Int) = k by omega, ← hj, show (8 - j).toNat = 0 by omega]
            rfl))
    | (with_reducible refine Side.mk ⟨(⟨⟩ : Tag 4), ?_⟩
       dsimp only [cu, joinT, ckTys, gts, Prod.eta, List.nil_append]
       refine ⟨?_, ?_⟩
       · omega
       · first
         | (rfl)
         | (rw [← hj, rndN_step (k := j) (v := v) (by omega)]; (try rfl)))
    | (with_reducible refine Side.mk ?_
       (try dsimp only [cu, joinT, ckTys, gts, loK, hiK, Prod.eta, List.nil_append])
       first
       | (done)
       | (with_reducible rfl)
       | (omega)
       | (exact Eq.refl _)
       | (simp only [List.length_append, List.length_cons, List.length_nil]; omega)
       | (omega))
    | (conv => whnf
       first
        | done
        | exact trivial
        | with_reducible refine NilBr.mk (fun h => ?_) ?_
        | with_reducible refine w_andS ?_ ?_
        | with_reducible refine w_andL ?_ ?_
        | with_reducible refine w_kern (by kernel_rfl) ?_
        | with_reducible refine w_true ?_
        | with_reducible refine w_nd ?_ ?_
        | with_reducible refine w_in ?_ ?_
        | with_reducible refine w_and ?_ ?_
        | (with_reducible refine w_brN (fun h => ?_) (fun h => ?_) <;> (try dsimp only [cu, Prod.eta, List.nil_append] at h) <;> (try (exfalso; omega; done)))
        | (with_reducible refine w_brD (fun h => ?_) (fun h => ?_) <;> (try dsimp only [cu, Prod.eta, List.nil_append] at h) <;> (try (exfalso; omega; done)))
        | (with_reducible refine w_br (fun h => ?_) (fun h => ?_) <;> (try dsimp only [cu, Prod.eta, List.nil_append] at h) <;> (try (exfalso; omega; done)))
        | (intro yy (hy : Tag 3 ∧ _)
           obtain ⟨(k : Int), (M : List Int), _⟩ := yy
           replace hy := hy.2
           dsimp only [cu, joinT, ckTys, gts, Prod.eta, List.nil_append] at hy
           obtain ⟨hk, hl, hm⟩ := hy)
        | (intro yy (hy : Tag 4 ∧ _)
           obtain ⟨(j : Int), (v : Int), _⟩ := yy
           replace hy := hy.2
           dsimp only [cu, joinT, ckTys, gts, Prod.eta, List.nil_append] at hy
           obtain ⟨hj, hj⟩ := hy)))
  all_goals (with_reducible refine Leaf.mk ?_
             (try dsimp only [cu, joinT, ckTys, gts, Prod.eta, List.nil_append] at *)
             first
             | (done)
             | (rw [show k.toNat = 256 by omega, List.take_of_length_le (by omega)] at hm
                exact hm))
abbrev tb4 : Tbl := (55, c_table_ok) :: tb3
theorem tb4_ok : TblOk Try.prog tb4 := TblOk.cons table_ok tb3_ok

abbrev c_rtable_ok : Ct := .fn [] (none) (.d (.list (.int .u32)) crcTab)
set_option maxRecDepth 100000 in
set_option maxHeartbeats 4000000 in
theorem rtable_ok : CtOk Try.prog 46 c_rtable_ok := by
  refine CtOk.fn tb4_ok mixed [(0, 4, 1)] [] rfl rfl ?_
  rintro ⟨⟩ -
  refine ⟨[(0, 6, LA.mk [.sl 2 (.int .u32), .lst 1 (.int .u32) 50] (fun y => Tag 5 ∧ cu [.int .u32, .list (.int .u32)] (fun (k : Int) (M : List Int) => (0 ≤ k ∧ k ≤ 256) ∧ (M = (List.range k.toNat).map (fun i : Nat => rndN 8 (i : Int)))) y) (cu [.int .u32, .list (.int .u32)] (fun (k : Int) (M : List Int) => (256 - k).toNat)) (cu [.int .u32, .list (.int .u32)] (fun (k : Int) (M : List Int) => ([(0, 14, LA.mk [.sl 4 (.int .i64), .sl 3 (.int .u32)] (fun y => Tag 6 ∧ cu [.int .i64, .int .u32] (fun (j : Int) (v : Int) => (0 ≤ j ∧ j ≤ 8) ∧ (0 ≤ v ∧ v < 4294967296) ∧ (rndN (8 - j).toNat v = rndN 8 k)) y) (cu [.int .i64, .int .u32] (fun (j : Int) (v : Int) => ((8 : Int) - j).toNat)) (cu [.int .i64, .int .u32] (fun (j : Int) (v : Int) => ([] : List (Nat × Nat × LA)))))] : List (Nat × Nat × LA)))))], ?_⟩
  repeat' (first
    | (with_reducible refine Side.mk ⟨(⟨⟩ : Tag 5), ?_⟩
       dsimp only [cu, joinT, ckTys, gts, Prod.eta, List.nil_append]
       refine ⟨?_, ?_⟩
       · omega
       · first
         | (simp; done)
         | (rw [show (k + 1).toNat = k.toNat + 1 by omega, List.range_succ, List.map_append, hm]
            simp only [List.map_cons, List.map_nil]
            rw [show ((k.toNat : Nat) : Int) = k by omega, ← hj, show (8 - j).toNat = 0 by omega]
            rfl))
    | (with_reducible refine Side.mk ⟨(⟨⟩ : Tag 6), ?_⟩
       dsimp only [cu, joinT, ckTys, gts, Prod.eta, List.nil_append]
       refine ⟨?_, ?_, ?_⟩
       · omega
       · first
         | (omega)
         | (exact bXor_u32 _ _)
         | (simpa using shr_u32 (by assumption) 1)
       · first
         | (rfl)
         | (rw [← hj, rndN_step (k := j) (v := v) (by omega), rnd_one (by assumption)])
         | (rw [← hj, rndN_step (k := j) (v := v) (by omega), rnd_zero (by assumption) (by assumption)]))
    | (with_reducible refine Side.mk ?_
       (try dsimp only [cu, joinT, ckTys, gts, loK, hiK, Prod.eta, List.nil_append])
       first
       | (done)
       | (with_reducible rfl)
       | (omega)
       | (exact Eq.refl _)
       | (simp only [List.length_append, List.length_cons, List.length_nil]; omega)
       | (have hml : M.length = k.toNat := by rw [hm]; simp
          simp only [List.length_cons, List.length_nil]
          omega)
       | (omega))
    | (conv => whnf
       first
        | done
        | exact trivial
        | with_reducible refine NilBr.mk (fun h => ?_) ?_
        | with_reducible refine w_andS ?_ ?_
        | with_reducible refine w_andL ?_ ?_
        | with_reducible refine w_kern (by kernel_rfl) ?_
        | with_reducible refine w_true ?_
        | with_reducible refine w_nd ?_ ?_
        | with_reducible refine w_in ?_ ?_
        | with_reducible refine w_and ?_ ?_
        | (with_reducible refine w_brN (fun h => ?_) (fun h => ?_) <;> (try dsimp only [cu, Prod.eta, List.nil_append] at h) <;> (try (exfalso; omega; done)))
        | (with_reducible refine w_brD (fun h => ?_) (fun h => ?_) <;> (try dsimp only [cu, Prod.eta, List.nil_append] at h) <;> (try (exfalso; omega; done)))
        | (with_reducible refine w_br (fun h => ?_) (fun h => ?_) <;> (try dsimp only [cu, Prod.eta, List.nil_append] at h) <;> (try (exfalso; omega; done)))
        | (intro yy (hy : Tag 5 ∧ _)
           obtain ⟨(k : Int), (M : List Int), _⟩ := yy
           replace hy := hy.2
           dsimp only [cu, joinT, ckTys, gts, Prod.eta, List.nil_append] at hy
           obtain ⟨hk, hm⟩ := hy)
        | (intro yy (hy : Tag 6 ∧ _)
           obtain ⟨(j : Int), (v : Int), _⟩ := yy
           replace hy := hy.2
           dsimp only [cu, joinT, ckTys, gts, Prod.eta, List.nil_append] at hy
           obtain ⟨hj, hv, hj⟩ := hy)))
  all_goals (with_reducible refine Leaf.mk ?_
             (try dsimp only [cu, joinT, ckTys, gts, Prod.eta, List.nil_append] at *)
             first
             | (done)
             | (rw [show k.toNat = 256 by omega] at hm
                exact hm))
abbrev tb5 : Tbl := (46, c_rtable_ok) :: tb4
theorem tb5_ok : TblOk Try.prog tb5 := TblOk.cons rtable_ok tb4_ok

abbrev c_rcrc_ok : Ct := .fn [.str] (some (fun (s : ByteArray) => (s.size ≤ 9223372036854775807))) (fun (s : ByteArray) => .d (.int .u32) (crcS s))
set_option maxRecDepth 100000 in
set_option maxHeartbeats 4000000 in
theorem rcrc_ok : CtOk Try.prog 28 c_rcrc_ok := by
  refine CtOk.fn tb5_ok mixed [] [] rfl rfl ?_
  rintro ⟨(s : ByteArray), _⟩ hpre
  replace hpre := hpre _ rfl
  dsimp only [cu] at hpre
  have hs := hpre
  refine ⟨[], ?_⟩
  repeat' (first
    | (with_reducible refine Side.mk ?_
       (try dsimp only [cu, joinT, ckTys, gts, loK, hiK, Prod.eta, List.nil_append])
       first
       | (done)
       | (with_reducible rfl)
       | (omega)
       | (exact Eq.refl _)
       | (simp only [List.length_append, List.length_cons, List.length_nil]; omega)
       | (assumption))
    | (conv => whnf
       first
        | done
        | exact trivial
        | with_reducible refine NilBr.mk (fun h => ?_) ?_
        | with_reducible refine w_andS ?_ ?_
        | with_reducible refine w_andL ?_ ?_
        | with_reducible refine w_kern (by kernel_rfl) ?_
        | with_reducible refine w_true ?_
        | with_reducible refine w_nd ?_ ?_
        | with_reducible refine w_in ?_ ?_
        | with_reducible refine w_and ?_ ?_
        | (with_reducible refine w_brN (fun h => ?_) (fun h => ?_) <;> (try dsimp only [cu, Prod.eta, List.nil_append] at h) <;> (try (exfalso; omega; done)))
        | (with_reducible refine w_brD (fun h => ?_) (fun h => ?_) <;> (try dsimp only [cu, Prod.eta, List.nil_append] at h) <;> (try (exfalso; omega; done)))
        | (with_reducible refine w_br (fun h => ?_) (fun h => ?_) <;> (try dsimp only [cu, Prod.eta, List.nil_append] at h) <;> (try (exfalso; omega; done)))))
  all_goals (with_reducible refine Leaf.mk ?_
             (try dsimp only [cu, joinT, ckTys, gts, Prod.eta, List.nil_append] at *)
             first
             | (done)
             | (rfl))
abbrev tb6 : Tbl := (28, c_rcrc_ok) :: tb5
theorem tb6_ok : TblOk Try.prog tb6 := TblOk.cons rcrc_ok tb5_ok

end Go.Proofs.Ytojdmkkjamakiaa
