/- Contracts of the checksums and bitmaps. -/
import Derived.Test.YtlamfjhhjfgemaaGreatRDecode
namespace Go.Proofs.YtlamfjhhjfgemaaGreat
open Go.Abs
set_option linter.unusedVariables false
set_option linter.unusedSimpArgs false


def rnd (v : Int) : Int := bXor .u32 (shrI .u32 v 1) (IntKind.u32.wrap (2197175160 * bAnd .u32 v 1))
def rndN : Nat → Int → Int
  | 0, v => v
  | n + 1, v => rndN n (rnd v)
theorem rnd_one {v : Int} (h : bAnd .u32 v 1 = 1) : rnd v = bXor .u32 (shrI .u32 v 1) 2197175160 := by
  unfold rnd; rw [h]; rfl
theorem rnd_zero {v : Int} (hv : 0 ≤ v ∧ v < 4294967296) (h : ¬ bAnd .u32 v 1 = 1) : rnd v = shrI .u32 v 1 := by
  have h0 : bAnd .u32 v 1 = 0 := by rw [bAnd1 hv] at h ⊢; omega
  unfold rnd
  rw [h0, show IntKind.u32.wrap (2197175160 * 0) = 0 from rfl, bXor0 (by simpa using shr_u32 hv 1)]
theorem rndN_step {k v : Int} (h : 0 ≤ k ∧ k < 8) : rndN (8 - k).toNat v = rndN (8 - (k + 1)).toNat (rnd v) := by
  rw [show (8 - k).toNat = (8 - (k + 1)).toNat + 1 by omega]; rfl
def crcTab : List Int := (List.range 256).map fun i : Nat => rndN 8 (i : Int)
theorem crcTab_len : crcTab.length = 256 := by simp [crcTab]
def cstep (t : List Int) (v b : Int) : Int := bXor .u32 (shrI .u32 v 8) t[(bXor .u8 (IntKind.u8.wrap v) b).toNat]!
def bnot (v : Int) : Int := bXor .u32 (-1) v
def sumR (t : List Int) (s : ByteArray) : Int := if t.length = 256 then bnot ((toInts s).foldl (cstep t) 4294967295) else 0
def crcS (s : ByteArray) : Int := sumR crcTab s
theorem fold_step {t : List Int} {s : ByteArray} {k v : Int} (h : 0 ≤ k ∧ k < s.size) : ((toInts s).drop k.toNat).foldl (cstep t) v = ((toInts s).drop (k + 1).toNat).foldl (cstep t) (cstep t v (byteAt s k.toNat)) := by
  rw [drop_step (toInts s) k (by rw [toInts_len]; exact h), List.foldl_cons, toInts_get]

abbrev c_step_ok : Ct := .fn [.list (.int .u32), .int .u32, .int .u8] (some (fun (t : List Int) (v : Int) (b : Int) => (t.length = 256))) (fun (t : List Int) (v : Int) (b : Int) => .d (.int .u32) (cstep t v b))
set_option maxRecDepth 100000 in
set_option maxHeartbeats 4000000 in
theorem step_ok : CtOk Tryz.prog 53 c_step_ok := by
  refine CtOk.fn tb29_ok mixed [] [] rfl rfl ?_
  rintro ⟨(t : List Int), (v : Int), (b : Int), _⟩ hpre
  replace hpre := hpre _ rfl
  dsimp only [cu] at hpre
  have ht := hpre
  refine ⟨[], ?_⟩
  repeat' (first
    | (
 with_reducible refine Side.mk ?_
 (try dsimp only [cu, joinT, ckTys, gts, loK, hiK, Prod.eta, List.nil_append])
 first
 | (done)
 | (with_reducible rfl)
 | (omega)
 | (exact Eq.refl _)
 | (simp only [List.length_append, List.length_cons, List.length_nil]; omega)
 | (have hx := bXor_u8 (IntKind.u8.wrap v) b; omega)
 | (have hx := bXor_u8 (IntKind.u8.wrap v) (byteAt s k.toNat); omega))
    | (conv => whnf
       first
        | done
        | exact trivial
        | with_reducible refine NilBr.mk (fun h => ?_) ?_
        | with_reducible first | refine w_andS ?_ ?_ | refine w_andL ?_ ?_ | refine w_kern (by kernel_rfl) ?_ | refine w_true ?_ | refine w_nd ?_ ?_ | refine w_in ?_ ?_ | refine w_and ?_ ?_
        | ((with_reducible first | refine w_brN (fun h => ?_) (fun h => ?_) | refine w_brD (fun h => ?_) (fun h => ?_) | refine w_br (fun h => ?_) (fun h => ?_)) <;> (try dsimp only [cu, Prod.eta, List.nil_append] at h) <;> (try (exfalso; omega; done)))))
  all_goals (
 with_reducible refine Leaf.mk ?_
 (try dsimp only [cu, joinT, ckTys, gts, Prod.eta, List.nil_append] at *)
 first
 | (done)
 | (rfl))
abbrev tb30 : Tbl := (53, c_step_ok) :: tb29
theorem tb30_ok : TblOk Tryz.prog tb30 := TblOk.cons step_ok tb29_ok

abbrev c_sum_ok : Ct := .fn [.list (.int .u32), .str] (some (fun (t : List Int) (s : ByteArray) => (s.size ≤ 9223372036854775807))) (fun (t : List Int) (s : ByteArray) => .d (.int .u32) (sumR t s))
set_option maxRecDepth 100000 in
set_option maxHeartbeats 4000000 in
theorem sum_ok : CtOk Tryz.prog 35 c_sum_ok := by
  refine CtOk.fn tb30_ok mixed [] [] rfl rfl ?_
  rintro ⟨(t : List Int), (s : ByteArray), _⟩ hpre
  replace hpre := hpre _ rfl
  dsimp only [cu] at hpre
  have hs := hpre
  refine ⟨[(0, 10, LA.mk [.sl 12 (.int .i64), .sl 5 (.int .u32)] (fun y => Tag 22 ∧ cu [.int .i64, .int .u32] (fun (k : Int) (v : Int) => (0 ≤ k ∧ k ≤ s.size) ∧ (((toInts s).drop k.toNat).foldl (cstep t) v = (toInts s).foldl (cstep t) 4294967295)) y) (cu [.int .i64, .int .u32] (fun (k : Int) (v : Int) => ((s.size : Int) - k).toNat)) (cu [.int .i64, .int .u32] (fun (k : Int) (v : Int) => ([] : List (Nat × Nat × LA)))))], ?_⟩
  repeat' (first
    | (
 with_reducible refine Side.mk ⟨(⟨⟩ : Tag 22), ?_⟩
 dsimp only [cu, joinT, ckTys, gts, Prod.eta, List.nil_append]
 refine ⟨?_, ?_⟩
 · omega
 · first
   | (simp; done)
   | (rw [← hv, fold_step (k := k) (v := v) (by omega)]; (try rfl)))
    | (
 with_reducible refine Side.mk ?_
 (try dsimp only [cu, joinT, ckTys, gts, loK, hiK, Prod.eta, List.nil_append])
 first
 | (done)
 | (with_reducible rfl)
 | (omega)
 | (exact Eq.refl _)
 | (simp only [List.length_append, List.length_cons, List.length_nil]; omega)
 | (have hx := bXor_u8 (IntKind.u8.wrap v) b; omega)
 | (have hx := bXor_u8 (IntKind.u8.wrap v) (byteAt s k.toNat); omega)
 | (assumption))
    | (conv => whnf
       first
        | done
        | exact trivial
        | with_reducible refine NilBr.mk (fun h => ?_) ?_
        | with_reducible first | refine w_andS ?_ ?_ | refine w_andL ?_ ?_ | refine w_kern (by kernel_rfl) ?_ | refine w_true ?_ | refine w_nd ?_ ?_ | refine w_in ?_ ?_ | refine w_and ?_ ?_
        | ((with_reducible first | refine w_brN (fun h => ?_) (fun h => ?_) | refine w_brD (fun h => ?_) (fun h => ?_) | refine w_br (fun h => ?_) (fun h => ?_)) <;> (try dsimp only [cu, Prod.eta, List.nil_append] at h) <;> (try (exfalso; omega; done)))
        | (
 intro yy (hy : Tag 22 ∧ _)
 obtain ⟨(k : Int), (v : Int), _⟩ := yy
 replace hy := hy.2
 dsimp only [cu, joinT, ckTys, gts, Prod.eta, List.nil_append] at hy
 obtain ⟨hk, hv⟩ := hy)))
  all_goals (
 with_reducible refine Leaf.mk ?_
 (try dsimp only [cu, joinT, ckTys, gts, Prod.eta, List.nil_append] at *)
 first
 | (done)
 | (
  have h256 : ¬ t.length = 256 := by omega
  rw [sumR, if_neg h256])
 | (
  have h256 : t.length = 256 := by omega
  rw [sumR, if_pos h256, ← hv, List.drop_eq_nil_of_le (by rw [toInts_len]; omega)]
  rfl))
abbrev tb31 : Tbl := (35, c_sum_ok) :: tb30
theorem tb31_ok : TblOk Tryz.prog tb31 := TblOk.cons sum_ok tb30_ok

abbrev c_rsum_ok : Ct := .fn [.list (.int .u32), .str] (some (fun (t : List Int) (s : ByteArray) => (s.size ≤ 9223372036854775807))) (fun (t : List Int) (s : ByteArray) => .d (.int .u32) (sumR t s))
set_option maxRecDepth 100000 in
set_option maxHeartbeats 4000000 in
theorem rsum_ok : CtOk Tryz.prog 67 c_rsum_ok := by
  refine CtOk.fn tb31_ok mixed [] [] rfl rfl ?_
  rintro ⟨(t : List Int), (s : ByteArray), _⟩ hpre
  replace hpre := hpre _ rfl
  dsimp only [cu] at hpre
  have hs := hpre
  refine ⟨[(0, 10, LA.mk [.sl 6 (.int .i64), .sl 5 (.int .u32)] (fun y => Tag 23 ∧ cu [.int .i64, .int .u32] (fun (k : Int) (v : Int) => (0 ≤ k ∧ k ≤ s.size) ∧ (((toInts s).drop k.toNat).foldl (cstep t) v = (toInts s).foldl (cstep t) 4294967295)) y) (cu [.int .i64, .int .u32] (fun (k : Int) (v : Int) => ((s.size : Int) - k).toNat)) (cu [.int .i64, .int .u32] (fun (k : Int) (v : Int) => ([] : List (Nat × Nat × LA)))))], ?_⟩
  repeat' (first
    | (
 with_reducible refine Side.mk ⟨(⟨⟩ : Tag 23), ?_⟩
 dsimp only [cu, joinT, ckTys, gts, Prod.eta, List.nil_append]
 refine ⟨?_, ?_⟩
 · omega
 · first
   | (simp; done)
   | (rw [← hv, fold_step (k := k) (v := v) (by omega)]; (try rfl)))
    | (
 with_reducible refine Side.mk ?_
 (try dsimp only [cu, joinT, ckTys, gts, loK, hiK, Prod.eta, List.nil_append])
 first
 | (done)
 | (with_reducible rfl)
 | (omega)
 | (exact Eq.refl _)
 | (simp only [List.length_append, List.length_cons, List.length_nil]; omega)
 | (have hx := bXor_u8 (IntKind.u8.wrap v) b; omega)
 | (have hx := bXor_u8 (IntKind.u8.wrap v) (byteAt s k.toNat); omega)
 | (assumption))
    | (conv => whnf
       first
        | done
        | exact trivial
        | with_reducible refine NilBr.mk (fun h => ?_) ?_
        | with_reducible first | refine w_andS ?_ ?_ | refine w_andL ?_ ?_ | refine w_kern (by kernel_rfl) ?_ | refine w_true ?_ | refine w_nd ?_ ?_ | refine w_in ?_ ?_ | refine w_and ?_ ?_
        | ((with_reducible first | refine w_brN (fun h => ?_) (fun h => ?_) | refine w_brD (fun h => ?_) (fun h => ?_) | refine w_br (fun h => ?_) (fun h => ?_)) <;> (try dsimp only [cu, Prod.eta, List.nil_append] at h) <;> (try (exfalso; omega; done)))
        | (
 intro yy (hy : Tag 23 ∧ _)
 obtain ⟨(k : Int), (v : Int), _⟩ := yy
 replace hy := hy.2
 dsimp only [cu, joinT, ckTys, gts, Prod.eta, List.nil_append] at hy
 obtain ⟨hk, hv⟩ := hy)))
  all_goals (
 with_reducible refine Leaf.mk ?_
 (try dsimp only [cu, joinT, ckTys, gts, Prod.eta, List.nil_append] at *)
 first
 | (done)
 | (
  have h256 : ¬ t.length = 256 := by omega
  rw [sumR, if_neg h256])
 | (
  have h256 : t.length = 256 := by omega
  rw [sumR, if_pos h256, ← hv, List.drop_eq_nil_of_le (by rw [toInts_len]; omega)]
  rfl))
abbrev tb32 : Tbl := (67, c_rsum_ok) :: tb31
theorem tb32_ok : TblOk Tryz.prog tb32 := TblOk.cons rsum_ok tb31_ok

abbrev c_table_ok : Ct := .fn [] (none) (.d (.list (.int .u32)) crcTab)
set_option maxRecDepth 100000 in
set_option maxHeartbeats 4000000 in
theorem table_ok : CtOk Tryz.prog 36 c_table_ok := by
  refine CtOk.fn tb32_ok mixed [(0, 5, 1)] [] rfl rfl ?_
  rintro ⟨⟩ -
  refine ⟨[(0, 6, LA.mk [.sl 7 (.int .i64), .ar 0 (.int .u32) 78] (fun y => Tag 24 ∧ cu [.int .i64, .list (.int .u32)] (fun (k : Int) (M : List Int) => (0 ≤ k ∧ k ≤ 256) ∧ (M.length = 256) ∧ (M.take k.toNat = (List.range k.toNat).map (fun i : Nat => rndN 8 (i : Int)))) y) (cu [.int .i64, .list (.int .u32)] (fun (k : Int) (M : List Int) => ((256 : Int) - k).toNat)) (cu [.int .i64, .list (.int .u32)] (fun (k : Int) (M : List Int) => ([(0, 14, LA.mk [.sl 12 (.int .i64), .sl 3 (.int .u32)] (fun y => Tag 25 ∧ cu [.int .i64, .int .u32] (fun (j : Int) (v : Int) => (0 ≤ j ∧ j ≤ 8) ∧ (rndN (8 - j).toNat v = rndN 8 k)) y) (cu [.int .i64, .int .u32] (fun (j : Int) (v : Int) => ((8 : Int) - j).toNat)) (cu [.int .i64, .int .u32] (fun (j : Int) (v : Int) => ([] : List (Nat × Nat × LA)))))] : List (Nat × Nat × LA)))))], ?_⟩
  repeat' (first
    | (
 with_reducible refine Side.mk ⟨(⟨⟩ : Tag 24), ?_⟩
 dsimp only [cu, joinT, ckTys, gts, Prod.eta, List.nil_append]
 refine ⟨?_, ?_, ?_⟩
 · omega
 · first
   | (simp; done)
   | (simp; omega)
 · first
   | (simp; done)
   | (
  rw [show (k + 1).toNat = k.toNat + 1 by omega, take_set _ _ _ (by omega), hm, List.range_succ, List.map_append]
  simp only [List.map_cons, List.map_nil]
  rw [show ((k.toNat : Nat) : Int) = k by omega, ← hj, show (8 - j).toNat = 0 by omega]
  rfl))
    | (
 with_reducible refine Side.mk ⟨(⟨⟩ : Tag 25), ?_⟩
 dsimp only [cu, joinT, ckTys, gts, Prod.eta, List.nil_append]
 refine ⟨?_, ?_⟩
 · omega
 · first
   | (rfl)
   | (rw [← hj, rndN_step (k := j) (v := v) (by omega)]; (try rfl)))
    | (
 with_reducible refine Side.mk ?_
 (try dsimp only [cu, joinT, ckTys, gts, loK, hiK, Prod.eta, List.nil_append])
 first
 | (done)
 | (with_reducible rfl)
 | (omega)
 | (exact Eq.refl _)
 | (simp only [List.length_append, List.length_cons, List.length_nil]; omega))
    | (conv => whnf
       first
        | done
        | exact trivial
        | with_reducible refine NilBr.mk (fun h => ?_) ?_
        | with_reducible first | refine w_andS ?_ ?_ | refine w_andL ?_ ?_ | refine w_kern (by kernel_rfl) ?_ | refine w_true ?_ | refine w_nd ?_ ?_ | refine w_in ?_ ?_ | refine w_and ?_ ?_
        | ((with_reducible first | refine w_brN (fun h => ?_) (fun h => ?_) | refine w_brD (fun h => ?_) (fun h => ?_) | refine w_br (fun h => ?_) (fun h => ?_)) <;> (try dsimp only [cu, Prod.eta, List.nil_append] at h) <;> (try (exfalso; omega; done)))
        | (
 intro yy (hy : Tag 24 ∧ _)
 obtain ⟨(k : Int), (M : List Int), _⟩ := yy
 replace hy := hy.2
 dsimp only [cu, joinT, ckTys, gts, Prod.eta, List.nil_append] at hy
 obtain ⟨hk, hl, hm⟩ := hy)
        | (
 intro yy (hy : Tag 25 ∧ _)
 obtain ⟨(j : Int), (v : Int), _⟩ := yy
 replace hy := hy.2
 dsimp only [cu, joinT, ckTys, gts, Prod.eta, List.nil_append] at hy
 obtain ⟨hj, hj⟩ := hy)))
  all_goals (
 with_reducible refine Leaf.mk ?_
 (try dsimp only [cu, joinT, ckTys, gts, Prod.eta, List.nil_append] at *)
 first
 | (done)
 | (
  rw [show k.toNat = 256 by omega, List.take_of_length_le (by omega)] at hm
  exact hm))
abbrev tb33 : Tbl := (36, c_table_ok) :: tb32
theorem tb33_ok : TblOk Tryz.prog tb33 := TblOk.cons table_ok tb32_ok

abbrev c_rtable_ok : Ct := .fn [] (none) (.d (.list (.int .u32)) crcTab)
set_option maxRecDepth 100000 in
set_option maxHeartbeats 4000000 in
theorem rtable_ok : CtOk Tryz.prog 68 c_rtable_ok := by
  refine CtOk.fn tb33_ok mixed [(0, 4, 1)] [] rfl rfl ?_
  rintro ⟨⟩ -
  refine ⟨[(0, 6, LA.mk [.sl 2 (.int .u32), .lst 1 (.int .u32) 78] (fun y => Tag 26 ∧ cu [.int .u32, .list (.int .u32)] (fun (k : Int) (M : List Int) => (0 ≤ k ∧ k ≤ 256) ∧ (M = (List.range k.toNat).map (fun i : Nat => rndN 8 (i : Int)))) y) (cu [.int .u32, .list (.int .u32)] (fun (k : Int) (M : List Int) => (256 - k).toNat)) (cu [.int .u32, .list (.int .u32)] (fun (k : Int) (M : List Int) => ([(0, 14, LA.mk [.sl 4 (.int .i64), .sl 3 (.int .u32)] (fun y => Tag 27 ∧ cu [.int .i64, .int .u32] (fun (j : Int) (v : Int) => (0 ≤ j ∧ j ≤ 8) ∧ (0 ≤ v ∧ v < 4294967296) ∧ (rndN (8 - j).toNat v = rndN 8 k)) y) (cu [.int .i64, .int .u32] (fun (j : Int) (v : Int) => ((8 : Int) - j).toNat)) (cu [.int .i64, .int .u32] (fun (j : Int) (v : Int) => ([] : List (Nat × Nat × LA)))))] : List (Nat × Nat × LA)))))], ?_⟩
  repeat' (first
    | (
 with_reducible refine Side.mk ⟨(⟨⟩ : Tag 26), ?_⟩
 dsimp only [cu, joinT, ckTys, gts, Prod.eta, List.nil_append]
 refine ⟨?_, ?_⟩
 · omega
 · first
   | (simp; done)
   | (
  rw [show (k + 1).toNat = k.toNat + 1 by omega, List.range_succ, List.map_append, hm]
  simp only [List.map_cons, List.map_nil]
  rw [show ((k.toNat : Nat) : Int) = k by omega, ← hj, show (8 - j).toNat = 0 by omega]
  rfl))
    | (
 with_reducible refine Side.mk ⟨(⟨⟩ : Tag 27), ?_⟩
 dsimp only [cu, joinT, ckTys, gts, Prod.eta, List.nil_append]
 refine ⟨?_, ?_, ?_⟩
 · omega
 · first
   | (omega)
   | (exact bXor_u32 _ _)
   | (simpa using shr_u32 (by assumption) 1)
 · first
   | (rfl)
   | (rw [← hj, rndN_step (k := j) (v := v) (by omega), rnd_one (by assumption)])
   | (rw [← hj, rndN_step (k := j) (v := v) (by omega), rnd_zero (by assumption) (by assumption)]))
    | (
 with_reducible refine Side.mk ?_
 (try dsimp only [cu, joinT, ckTys, gts, loK, hiK, Prod.eta, List.nil_append])
 first
 | (done)
 | (with_reducible rfl)
 | (omega)
 | (exact Eq.refl _)
 | (simp only [List.length_append, List.length_cons, List.length_nil]; omega)
 | (
  have hml : M.length = k.toNat := by rw [hm]; simp
  simp only [List.length_cons, List.length_nil]
  omega))
    | (conv => whnf
       first
        | done
        | exact trivial
        | with_reducible refine NilBr.mk (fun h => ?_) ?_
        | with_reducible first | refine w_andS ?_ ?_ | refine w_andL ?_ ?_ | refine w_kern (by kernel_rfl) ?_ | refine w_true ?_ | refine w_nd ?_ ?_ | refine w_in ?_ ?_ | refine w_and ?_ ?_
        | ((with_reducible first | refine w_brN (fun h => ?_) (fun h => ?_) | refine w_brD (fun h => ?_) (fun h => ?_) | refine w_br (fun h => ?_) (fun h => ?_)) <;> (try dsimp only [cu, Prod.eta, List.nil_append] at h) <;> (try (exfalso; omega; done)))
        | (
 intro yy (hy : Tag 26 ∧ _)
 obtain ⟨(k : Int), (M : List Int), _⟩ := yy
 replace hy := hy.2
 dsimp only [cu, joinT, ckTys, gts, Prod.eta, List.nil_append] at hy
 obtain ⟨hk, hm⟩ := hy)
        | (
 intro yy (hy : Tag 27 ∧ _)
 obtain ⟨(j : Int), (v : Int), _⟩ := yy
 replace hy := hy.2
 dsimp only [cu, joinT, ckTys, gts, Prod.eta, List.nil_append] at hy
 obtain ⟨hj, hv, hj⟩ := hy)))
  all_goals (
 with_reducible refine Leaf.mk ?_
 (try dsimp only [cu, joinT, ckTys, gts, Prod.eta, List.nil_append] at *)
 first
 | (done)
 | (
  rw [show k.toNat = 256 by omega] at hm
  exact hm))
abbrev tb34 : Tbl := (68, c_rtable_ok) :: tb33
theorem tb34_ok : TblOk Tryz.prog tb34 := TblOk.cons rtable_ok tb33_ok

abbrev c_rcrc_ok : Ct := .fn [.str] (some (fun (s : ByteArray) => (s.size ≤ 9223372036854775807))) (fun (s : ByteArray) => .d (.int .u32) (crcS s))
set_option maxRecDepth 100000 in
set_option maxHeartbeats 4000000 in
theorem rcrc_ok : CtOk Tryz.prog 45 c_rcrc_ok := by
  refine CtOk.fn tb34_ok mixed [] [] rfl rfl ?_
  rintro ⟨(s : ByteArray), _⟩ hpre
  replace hpre := hpre _ rfl
  dsimp only [cu] at hpre
  have hs := hpre
  refine ⟨[], ?_⟩
  repeat' (first
    | (
 with_reducible refine Side.mk ?_
 (try dsimp only [cu, joinT, ckTys, gts, loK, hiK, Prod.eta, List.nil_append])
 first
 | (done)
 | (with_reducible rfl)
 | (omega)
 | (exact Eq.refl _)
 | (simp only [List.length_append, List.length_cons, List.length_nil]; omega)
 | (assumption))
    | (conv => whnf
       first
        | done
        | exact trivial
        | with_reducible refine NilBr.mk (fun h => ?_) ?_
        | with_reducible first | refine w_andS ?_ ?_ | refine w_andL ?_ ?_ | refine w_kern (by kernel_rfl) ?_ | refine w_true ?_ | refine w_nd ?_ ?_ | refine w_in ?_ ?_ | refine w_and ?_ ?_
        | ((with_reducible first | refine w_brN (fun h => ?_) (fun h => ?_) | refine w_brD (fun h => ?_) (fun h => ?_) | refine w_br (fun h => ?_) (fun h => ?_)) <;> (try dsimp only [cu, Prod.eta, List.nil_append] at h) <;> (try (exfalso; omega; done)))))
  all_goals (
 with_reducible refine Leaf.mk ?_
 (try dsimp only [cu, joinT, ckTys, gts, Prod.eta, List.nil_append] at *)
 first
 | (done)
 | (rfl))
abbrev tb35 : Tbl := (45, c_rcrc_ok) :: tb34
theorem tb35_ok : TblOk Tryz.prog tb35 := TblOk.cons rcrc_ok tb34_ok


/- Bitmaps. -/
def fB (l : List Bool) (q : Nat) : Int := if l[q]! = true then 1 else 0
theorem fB01 (l : List Bool) : bit01 (fB l) := fun q => by unfold fB; split <;> simp
def packB (l : List Bool) : ByteArray := ofInts (gL (fB l) l.length 8 (((l.length : Int) + 7).tdiv 8).toNat)
def bitB (s : ByteArray) (q : Nat) : Bool := decide (sbit s q = 1)
def bitsB (s : ByteArray) (n : Nat) : List Bool := (List.range n).map (bitB s)
def unpB (s : ByteArray) (n : Int) : List Bool × Int :=
  if n < 0 ∨ n > 4096 then ([], 4) else if (s.size : Int) < (n + 7).tdiv 8 then ([], 10) else if (s.size : Int) > (n + 7).tdiv 8 then ([], 2)
  else if tailBad s n.toNat = true then ([], 2) else (bitsB s n.toNat, 0)
def cntTo (s : ByteArray) : Nat → Int
  | 0 => 0
  | m + 1 => cntTo s m + sbit s m
def onesN (n : Nat) : Int := ((n % 2 + n / 2 % 2 + n / 4 % 2 + n / 8 % 2 + n / 16 % 2 + n / 32 % 2 + n / 64 % 2 + n / 128 % 2 : Nat) : Int)
def cntB (s : ByteArray) : Int := cntTo s (8 * s.size)
theorem all256_eq {f g : Nat → Int} (h : (List.range 256).all (fun n => decide (f n = g n)) = true) {n : Int} (hn : 0 ≤ n ∧ n < 256) : f n.toNat = g n.toNat := of_decide_eq_true (all256 h hn)
theorem lt_size {b : ByteArray} {x : Int} (h : b.size = 256) (hx : x < 256) : x < (b.size : Int) := by omega
theorem cntTo_rng (s : ByteArray) : ∀ m, 0 ≤ cntTo s m ∧ cntTo s m ≤ m
  | 0 => by simp [cntTo]
  | m + 1 => by
    have := cntTo_rng s m
    have := sbit01 s m
    rw [cntTo]; omega
theorem sbit_at (s : ByteArray) (k u : Nat) (hu : u < 8) : sbit s (8 * k + u) = byteAt s k / 2 ^ u % 2 := by
  unfold sbit
  rw [show (8 * k + u) / 8 = k by omega, show (8 * k + u) % 8 = u by omega]
theorem onesN_rng (n : Nat) : 0 ≤ onesN n ∧ onesN n ≤ 8 := by unfold onesN; omega
theorem cnt_byte (s : ByteArray) (k : Nat) : cntTo s (8 * (k + 1)) = cntTo s (8 * k) + onesN (byteAt s k).toNat := by
  have hb := byteAt_rng s k
  obtain ⟨b, hbb⟩ := Int.eq_ofNat_of_zero_le hb.1
  have e : ∀ u, u < 8 → sbit s (8 * k + u) = ((b / 2 ^ u % 2 : Nat) : Int) := fun u hu => by
    rw [sbit_at s k u hu, hbb]; simp
  rw [hbb, Int.toNat_natCast, show 8 * (k + 1) = 8 * k + 7 + 1 by omega]
  simp only [cntTo, e 7 (by decide), e 6 (by decide), e 5 (by decide), e 4 (by decide), e 3 (by decide), e 2 (by decide), e 1 (by decide)]
  have e0 := e 0 (by decide)
  rw [Nat.add_zero] at e0
  rw [e0]
  simp only [onesN, Nat.reducePow]
  omega
theorem tdiv8 {n : Int} (h : 0 ≤ n) : n.tdiv 8 = n / 8 := Int.tdiv_eq_ediv_of_nonneg h
theorem tmod8 {n : Int} (h : 0 ≤ n) : n.tmod 8 = n % 8 := Int.tmod_eq_emod_of_nonneg h
theorem bitsB_len (s : ByteArray) (n : Nat) : (bitsB s n).length = n := by simp [bitsB]
theorem bitsB_succ (s : ByteArray) {k : Int} (h : 0 ≤ k) : bitsB s (k + 1).toNat = bitsB s k.toNat ++ [bitB s k.toNat] := by
  rw [show (k + 1).toNat = k.toNat + 1 by omega]
  simp [bitsB, List.range_succ]
theorem bitB_t {s : ByteArray} {q : Nat} (h : bitB s q = true) : sbit s q = 1 := of_decide_eq_true h
theorem bitB_f {s : ByteArray} {q : Nat} (h : bitB s q = false) : sbit s q ≠ 1 := of_decide_eq_false h
abbrev c_npack_ok : Ct := .fn [.list .bool] (some (fun (l : List Bool) => (l.length ≤ 1073741824))) (fun (l : List Bool) => .d .str (packB l))
set_option maxRecDepth 100000 in
set_option maxHeartbeats 4000000 in
theorem npack_ok : CtOk Tryz.prog 19 c_npack_ok := by
  refine CtOk.fn tb35_ok mixed [] [] rfl rfl ?_
  rintro ⟨(l : List Bool), _⟩ hpre
  replace hpre := hpre _ rfl
  dsimp only [cu] at hpre
  have hl := hpre
  refine ⟨[(0, 6, LA.mk [.sl 13 (.int .i64), .ar 0 (.int .u8) 5] (fun y => Tag 28 ∧ cu [.int .i64, .list (.int .u8)] (fun (k : Int) (O : List Int) => (0 ≤ k ∧ k ≤ l.length) ∧ (O = gL (fB l) k.toNat 8 (((l.length : Int) + 7).tdiv 8).toNat)) y) (cu [.int .i64, .list (.int .u8)] (fun (k : Int) (O : List Int) => ((l.length : Int) - k).toNat)) (cu [.int .i64, .list (.int .u8)] (fun (k : Int) (O : List Int) => ([] : List (Nat × Nat × LA)))))], ?_⟩
  repeat' (first
    | (
 with_reducible refine Side.mk ⟨(⟨⟩ : Tag 28), ?_⟩
 dsimp only [cu, joinT, ckTys, gts, Prod.eta, List.nil_append]
 refine ⟨?_, ?_⟩
 · omega
 · first
   | (exact (gL_zero _ _ _).symm)
   | (
  rw [hO]
  first
  | (
   have hd1 := tdiv8 (n := k) (by omega)
   have hd2 := tdiv8 (n := (l.length : Int) + 7) (by omega)
   have hk : l[k.toNat]! = true := by first | assumption | (simp_all; done)
   refine pack_set (fB01 _) (by omega) (by omega) ?_ rfl rfl
   rw [fB, if_pos hk])
  | (
   rw [u64_id (n := k.tmod 8) (by rw [tmod8 (by omega)]; omega)]
   have hd1 := tdiv8 (n := k) (by omega)
   have hd2 := tdiv8 (n := (l.length : Int) + 7) (by omega)
   have hk : l[k.toNat]! = true := by first | assumption | (simp_all; done)
   refine pack_set (fB01 _) (by omega) (by omega) ?_ rfl rfl
   rw [fB, if_pos hk]))
   | (
  rw [hO, show (k + 1).toNat = k.toNat + 1 by omega]
  have hk : ¬ l[k.toNat]! = true := by first | assumption | (simp_all; done)
  refine gL_same (by decide) ?_
  rw [fB, if_neg hk]))
    | (
 with_reducible refine Side.mk ?_
 (try dsimp only [cu, joinT, ckTys, gts, loK, hiK, Prod.eta, List.nil_append])
 first
 | (done)
 | (with_reducible rfl)
 | (omega)
 | (exact Eq.refl _)
 | (simp only [List.length_append, List.length_cons, List.length_nil]; omega)
 | (
  have hd1 := tdiv8 (n := k) (by omega)
  have hd2 := tdiv8 (n := (l.length : Int) + 7) (by omega)
  omega)
 | (rw [tdiv8 (by omega)]; omega)
 | (rw [tmod8 (by omega)]; omega)
 | (rw [hO, gL_len, tdiv8 (by omega), tdiv8 (by omega)]; omega)
 | (
  rw [u64_id (n := k.tmod 8) (by rw [tmod8 (by omega)]; omega)]
  rw [tmod8 (by omega)]; omega)
 | (simp only [hO, gL_len]; done))
    | (conv => whnf
       first
        | done
        | exact trivial
        | with_reducible refine NilBr.mk (fun h => ?_) ?_
        | with_reducible first | refine w_andS ?_ ?_ | refine w_andL ?_ ?_ | refine w_kern (by kernel_rfl) ?_ | refine w_true ?_ | refine w_nd ?_ ?_ | refine w_in ?_ ?_ | refine w_and ?_ ?_
        | ((with_reducible first | refine w_brN (fun h => ?_) (fun h => ?_) | refine w_brD (fun h => ?_) (fun h => ?_) | refine w_br (fun h => ?_) (fun h => ?_)) <;> (try dsimp only [cu, Prod.eta, List.nil_append] at h) <;> (try (exfalso; omega; done)))
        | (
 intro yy (hy : Tag 28 ∧ _)
 obtain ⟨(k : Int), (O : List Int), _⟩ := yy
 replace hy := hy.2
 dsimp only [cu, joinT, ckTys, gts, Prod.eta, List.nil_append] at hy
 obtain ⟨hk, hO⟩ := hy)))
  all_goals (
 with_reducible refine Leaf.mk ?_
 (try dsimp only [cu, joinT, ckTys, gts, Prod.eta, List.nil_append] at *)
 first
 | (done)
 | (rw [hO, show k.toNat = l.length by omega]; rfl))
abbrev tb36 : Tbl := (19, c_npack_ok) :: tb35
theorem tb36_ok : TblOk Tryz.prog tb36 := TblOk.cons npack_ok tb35_ok

abbrev c_rnpack_ok : Ct := .fn [.list .bool] (some (fun (l : List Bool) => (l.length ≤ 1073741824))) (fun (l : List Bool) => .d .str (packB l))
set_option maxRecDepth 100000 in
set_option maxHeartbeats 4000000 in
theorem rnpack_ok : CtOk Tryz.prog 42 c_rnpack_ok := by
  refine CtOk.fn tb36_ok mixed [] [] rfl rfl ?_
  rintro ⟨(l : List Bool), _⟩ hpre
  replace hpre := hpre _ rfl
  dsimp only [cu] at hpre
  have hl := hpre
  refine ⟨[(0, 6, LA.mk [.sl 13 (.int .i64), .ar 0 (.int .u8) 5] (fun y => Tag 29 ∧ cu [.int .i64, .list (.int .u8)] (fun (k : Int) (O : List Int) => (0 ≤ k ∧ k ≤ l.length) ∧ (O = gL (fB l) k.toNat 8 (((l.length : Int) + 7).tdiv 8).toNat)) y) (cu [.int .i64, .list (.int .u8)] (fun (k : Int) (O : List Int) => ((l.length : Int) - k).toNat)) (cu [.int .i64, .list (.int .u8)] (fun (k : Int) (O : List Int) => ([] : List (Nat × Nat × LA)))))], ?_⟩
  repeat' (first
    | (
 with_reducible refine Side.mk ⟨(⟨⟩ : Tag 29), ?_⟩
 dsimp only [cu, joinT, ckTys, gts, Prod.eta, List.nil_append]
 refine ⟨?_, ?_⟩
 · omega
 · first
   | (exact (gL_zero _ _ _).symm)
   | (
  rw [hO]
  first
  | (
   have hd1 := tdiv8 (n := k) (by omega)
   have hd2 := tdiv8 (n := (l.length : Int) + 7) (by omega)
   have hk : l[k.toNat]! = true := by first | assumption | (simp_all; done)
   refine pack_set (fB01 _) (by omega) (by omega) ?_ rfl rfl
   rw [fB, if_pos hk])
  | (
   rw [u64_id (n := k.tmod 8) (by rw [tmod8 (by omega)]; omega)]
   have hd1 := tdiv8 (n := k) (by omega)
   have hd2 := tdiv8 (n := (l.length : Int) + 7) (by omega)
   have hk : l[k.toNat]! = true := by first | assumption | (simp_all; done)
   refine pack_set (fB01 _) (by omega) (by omega) ?_ rfl rfl
   rw [fB, if_pos hk]))
   | (
  rw [hO, show (k + 1).toNat = k.toNat + 1 by omega]
  have hk : ¬ l[k.toNat]! = true := by first | assumption | (simp_all; done)
  refine gL_same (by decide) ?_
  rw [fB, if_neg hk]))
    | (
 with_reducible refine Side.mk ?_
 (try dsimp only [cu, joinT, ckTys, gts, loK, hiK, Prod.eta, List.nil_append])
 first
 | (done)
 | (with_reducible rfl)
 | (omega)
 | (exact Eq.refl _)
 | (simp only [List.length_append, List.length_cons, List.length_nil]; omega)
 | (
  have hd1 := tdiv8 (n := k) (by omega)
  have hd2 := tdiv8 (n := (l.length : Int) + 7) (by omega)
  omega)
 | (rw [tdiv8 (by omega)]; omega)
 | (rw [tmod8 (by omega)]; omega)
 | (rw [hO, gL_len, tdiv8 (by omega), tdiv8 (by omega)]; omega)
 | (
  rw [u64_id (n := k.tmod 8) (by rw [tmod8 (by omega)]; omega)]
  rw [tmod8 (by omega)]; omega)
 | (simp only [hO, gL_len]; done))
    | (conv => whnf
       first
        | done
        | exact trivial
        | with_reducible refine NilBr.mk (fun h => ?_) ?_
        | with_reducible first | refine w_andS ?_ ?_ | refine w_andL ?_ ?_ | refine w_kern (by kernel_rfl) ?_ | refine w_true ?_ | refine w_nd ?_ ?_ | refine w_in ?_ ?_ | refine w_and ?_ ?_
        | ((with_reducible first | refine w_brN (fun h => ?_) (fun h => ?_) | refine w_brD (fun h => ?_) (fun h => ?_) | refine w_br (fun h => ?_) (fun h => ?_)) <;> (try dsimp only [cu, Prod.eta, List.nil_append] at h) <;> (try (exfalso; omega; done)))
        | (
 intro yy (hy : Tag 29 ∧ _)
 obtain ⟨(k : Int), (O : List Int), _⟩ := yy
 replace hy := hy.2
 dsimp only [cu, joinT, ckTys, gts, Prod.eta, List.nil_append] at hy
 obtain ⟨hk, hO⟩ := hy)))
  all_goals (
 with_reducible refine Leaf.mk ?_
 (try dsimp only [cu, joinT, ckTys, gts, Prod.eta, List.nil_append] at *)
 first
 | (done)
 | (rw [hO, show k.toNat = l.length by omega]; rfl))
abbrev tb37 : Tbl := (42, c_rnpack_ok) :: tb36
theorem tb37_ok : TblOk Tryz.prog tb37 := TblOk.cons rnpack_ok tb36_ok

abbrev c_nbit_ok : Ct := .fn [.str, .int .i64] (some (fun (s : ByteArray) (i : Int) => (s.size ≤ 288230376151711744) ∧ (0 ≤ i ∧ i < 8 * s.size))) (fun (s : ByteArray) (i : Int) => .d .bool (bitB s i.toNat))
set_option maxRecDepth 100000 in
set_option maxHeartbeats 4000000 in
theorem nbit_ok : CtOk Tryz.prog 56 c_nbit_ok := by
  refine CtOk.fn tb37_ok mixed [] [] rfl rfl ?_
  rintro ⟨(s : ByteArray), (i : Int), _⟩ hpre
  replace hpre := hpre _ rfl
  dsimp only [cu] at hpre
  obtain ⟨hs, hi⟩ := hpre
  refine ⟨[], ?_⟩
  repeat' (first
    | (
 with_reducible refine Side.mk ?_
 (try dsimp only [cu, joinT, ckTys, gts, loK, hiK, Prod.eta, List.nil_append])
 first
 | (done)
 | (with_reducible rfl)
 | (omega)
 | (exact Eq.refl _)
 | (simp only [List.length_append, List.length_cons, List.length_nil]; omega)
 | (rw [tdiv8 (by omega)]; omega)
 | (rw [tmod8 (by omega)]; omega)
 | (
  rw [u64_id (n := i.tmod 8) (by rw [tmod8 (by omega)]; omega)]
  rw [tmod8 (by omega)]; omega))
    | (conv => whnf
       first
        | done
        | exact trivial
        | with_reducible refine NilBr.mk (fun h => ?_) ?_
        | with_reducible first | refine w_andS ?_ ?_ | refine w_andL ?_ ?_ | refine w_kern (by kernel_rfl) ?_ | refine w_true ?_ | refine w_nd ?_ ?_ | refine w_in ?_ ?_ | refine w_and ?_ ?_
        | ((with_reducible first | refine w_brN (fun h => ?_) (fun h => ?_) | refine w_brD (fun h => ?_) (fun h => ?_) | refine w_br (fun h => ?_) (fun h => ?_)) <;> (try dsimp only [cu, Prod.eta, List.nil_append] at h) <;> (try (exfalso; omega; done)))))
  all_goals (
 with_reducible refine Leaf.mk ?_
 (try dsimp only [cu, joinT, ckTys, gts, Prod.eta, List.nil_append] at *)
 first
 | (done)
 | (
  unfold bitB
  first
  | (rw [(bit_s8 s (a := i) (by omega)).1])
  | (
   rw [u64_id (n := i.tmod 8) (by rw [tmod8 (by omega)]; omega)]
   rw [(bit_s8 s (a := i) (by omega)).1])))
abbrev tb38 : Tbl := (56, c_nbit_ok) :: tb37
theorem tb38_ok : TblOk Tryz.prog tb38 := TblOk.cons nbit_ok tb37_ok

abbrev c_ones_ok : Ct := .fn [.int .u8] (some (fun (x : Int) => (0 ≤ x ∧ x < 256))) (fun (x : Int) => .d (.int .i64) (onesN x.toNat))
set_option maxRecDepth 100000 in
set_option maxHeartbeats 4000000 in
theorem ones_ok : CtOk Tryz.prog 55 c_ones_ok := by
  refine CtOk.fn tb38_ok mixed [] [] rfl rfl ?_
  rintro ⟨(x : Int), _⟩ hpre
  replace hpre := hpre _ rfl
  dsimp only [cu] at hpre
  have hx := hpre
  refine ⟨[], ?_⟩
  repeat' (first
    | (
 with_reducible refine Side.mk ?_
 (try dsimp only [cu, joinT, ckTys, gts, loK, hiK, Prod.eta, List.nil_append])
 first
 | (done)
 | (with_reducible rfl)
 | (omega)
 | (exact Eq.refl _)
 | (simp only [List.length_append, List.length_cons, List.length_nil]; omega)
 | (exact lt_size (by kernel_rfl) hx.2)
 | (exact ⟨Int.le_trans (by decide) (byteAt_rng _ _).1, Int.le_trans (Int.le_of_lt (byteAt_rng _ _).2) (by decide)⟩))
    | (conv => whnf
       first
        | done
        | exact trivial
        | with_reducible refine NilBr.mk (fun h => ?_) ?_
        | with_reducible first | refine w_andS ?_ ?_ | refine w_andL ?_ ?_ | refine w_kern (by kernel_rfl) ?_ | refine w_true ?_ | refine w_nd ?_ ?_ | refine w_in ?_ ?_ | refine w_and ?_ ?_
        | ((with_reducible first | refine w_brN (fun h => ?_) (fun h => ?_) | refine w_brD (fun h => ?_) (fun h => ?_) | refine w_br (fun h => ?_) (fun h => ?_)) <;> (try dsimp only [cu, Prod.eta, List.nil_append] at h) <;> (try (exfalso; omega; done)))))
  all_goals (
 with_reducible refine Leaf.mk ?_
 (try dsimp only [cu, joinT, ckTys, gts, Prod.eta, List.nil_append] at *)
 first
 | (done)
 | (exact all256_eq (by kernel_rfl) hx)
 | (
  refine (?_ : _ = onesN x.toNat)
  exact all256_eq (by kernel_rfl) hx))
abbrev tb39 : Tbl := (55, c_ones_ok) :: tb38
theorem tb39_ok : TblOk Tryz.prog tb39 := TblOk.cons ones_ok tb38_ok

abbrev c_ncount_ok : Ct := .fn [.str] (some (fun (s : ByteArray) => (s.size ≤ 288230376151711744))) (fun (s : ByteArray) => .d (.int .i64) (cntB s))
set_option maxRecDepth 100000 in
set_option maxHeartbeats 4000000 in
theorem ncount_ok : CtOk Tryz.prog 38 c_ncount_ok := by
  refine CtOk.fn tb39_ok mixed [] [] rfl rfl ?_
  rintro ⟨(s : ByteArray), _⟩ hpre
  replace hpre := hpre _ rfl
  dsimp only [cu] at hpre
  have hs := hpre
  refine ⟨[(0, 6, LA.mk [.sl 7 (.int .i64), .sl 3 (.int .i64)] (fun y => Tag 30 ∧ cu [.int .i64, .int .i64] (fun (k : Int) (c : Int) => (0 ≤ k ∧ k ≤ s.size) ∧ (c = cntTo s (8 * k.toNat))) y) (cu [.int .i64, .int .i64] (fun (k : Int) (c : Int) => ((s.size : Int) - k).toNat)) (cu [.int .i64, .int .i64] (fun (k : Int) (c : Int) => ([] : List (Nat × Nat × LA)))))], ?_⟩
  repeat' (first
    | (
 with_reducible refine Side.mk ⟨(⟨⟩ : Tag 30), ?_⟩
 dsimp only [cu, joinT, ckTys, gts, Prod.eta, List.nil_append]
 refine ⟨?_, ?_⟩
 · omega
 · first
   | (rfl)
   | (rw [show (k + 1).toNat = k.toNat + 1 by omega, cnt_byte, hc]))
    | (
 with_reducible refine Side.mk ?_
 (try dsimp only [cu, joinT, ckTys, gts, loK, hiK, Prod.eta, List.nil_append])
 first
 | (done)
 | (with_reducible rfl)
 | (omega)
 | (exact Eq.refl _)
 | (simp only [List.length_append, List.length_cons, List.length_nil]; omega)
 | (exact byteAt_rng _ _)
 | (
  have := cntTo_rng s (8 * k.toNat)
  have := onesN_rng (byteAt s k.toNat).toNat
  omega))
    | (conv => whnf
       first
        | done
        | exact trivial
        | with_reducible refine NilBr.mk (fun h => ?_) ?_
        | with_reducible first | refine w_andS ?_ ?_ | refine w_andL ?_ ?_ | refine w_kern (by kernel_rfl) ?_ | refine w_true ?_ | refine w_nd ?_ ?_ | refine w_in ?_ ?_ | refine w_and ?_ ?_
        | ((with_reducible first | refine w_brN (fun h => ?_) (fun h => ?_) | refine w_brD (fun h => ?_) (fun h => ?_) | refine w_br (fun h => ?_) (fun h => ?_)) <;> (try dsimp only [cu, Prod.eta, List.nil_append] at h) <;> (try (exfalso; omega; done)))
        | (
 intro yy (hy : Tag 30 ∧ _)
 obtain ⟨(k : Int), (c : Int), _⟩ := yy
 replace hy := hy.2
 dsimp only [cu, joinT, ckTys, gts, Prod.eta, List.nil_append] at hy
 obtain ⟨hk, hc⟩ := hy)))
  all_goals (
 with_reducible refine Leaf.mk ?_
 (try dsimp only [cu, joinT, ckTys, gts, Prod.eta, List.nil_append] at *)
 first
 | (done)
 | (rw [hc, show k.toNat = s.size by omega]; rfl))
abbrev tb40 : Tbl := (38, c_ncount_ok) :: tb39
theorem tb40_ok : TblOk Tryz.prog tb40 := TblOk.cons ncount_ok tb39_ok

abbrev c_nunpack_ok : Ct := .fn [.str, .int .i64] (some (fun (s : ByteArray) (n : Int) => (s.size ≤ 288230376151711744))) (fun (s : ByteArray) (n : Int) => .tup [.list .bool, .int .i64] ((unpB s n).1, (unpB s n).2, ()))
set_option maxRecDepth 100000 in
set_option maxHeartbeats 4000000 in
theorem nunpack_ok : CtOk Tryz.prog 39 c_nunpack_ok := by
  refine CtOk.fn tb40_ok mixed [] [] rfl rfl ?_
  rintro ⟨(s : ByteArray), (n : Int), _⟩ hpre
  replace hpre := hpre _ rfl
  dsimp only [cu] at hpre
  have hs := hpre
  refine ⟨[(0, 18, LA.mk [.sl 48 (.int .i64), .ar 0 .bool 4] (fun y => Tag 31 ∧ cu [.int .i64, .list .bool] (fun (k : Int) (O : List Bool) => (0 ≤ k ∧ k ≤ n) ∧ (O.length = n.toNat) ∧ (O.take k.toNat = bitsB s k.toNat)) y) (cu [.int .i64, .list .bool] (fun (k : Int) (O : List Bool) => ((n : Int) - k).toNat)) (cu [.int .i64, .list .bool] (fun (k : Int) (O : List Bool) => ([] : List (Nat × Nat × LA)))))], ?_⟩
  repeat' (first
    | (
 with_reducible refine Side.mk ⟨(⟨⟩ : Tag 31), ?_⟩
 dsimp only [cu, joinT, ckTys, gts, Prod.eta, List.nil_append]
 refine ⟨?_, ?_, ?_⟩
 · omega
 · first
   | (simp; done)
   | (simp; omega)
 · first
   | (rfl)
   | (rw [show (k + 1).toNat = k.toNat + 1 by omega, take_set _ _ _ (by omega), hO, ← show (k + 1).toNat = k.toNat + 1 by omega, bitsB_succ s (by omega)]))
    | (
 with_reducible refine Side.mk ?_
 (try dsimp only [cu, joinT, ckTys, gts, loK, hiK, Prod.eta, List.nil_append])
 first
 | (done)
 | (with_reducible rfl)
 | (omega)
 | (exact Eq.refl _)
 | (simp only [List.length_append, List.length_cons, List.length_nil]; omega)
 | (
  have hd := tdiv8 (n := n + 7) (by omega)
  have hd2 := tdiv8 (n := n) (by omega)
  have hm2 := tmod8 (n := n) (by omega)
  omega)
 | (exact ⟨hs, by omega⟩)
 | (
  have hd := tdiv8 (n := n + 7) (by omega)
  have hd2 := tdiv8 (n := n) (by omega)
  have hm2 := tmod8 (n := n) (by omega)
  exact ⟨hs, by omega⟩))
    | (conv => whnf
       first
        | done
        | exact trivial
        | with_reducible refine NilBr.mk (fun h => ?_) ?_
        | with_reducible first | refine w_andS ?_ ?_ | refine w_andL ?_ ?_ | refine w_kern (by kernel_rfl) ?_ | refine w_true ?_ | refine w_nd ?_ ?_ | refine w_in ?_ ?_ | refine w_and ?_ ?_
        | ((with_reducible first | refine w_brN (fun h => ?_) (fun h => ?_) | refine w_brD (fun h => ?_) (fun h => ?_) | refine w_br (fun h => ?_) (fun h => ?_)) <;> (try dsimp only [cu, Prod.eta, List.nil_append] at h) <;> (try (exfalso; omega; done)))
        | (
 intro yy (hy : Tag 31 ∧ _)
 obtain ⟨(k : Int), (O : List Bool), _⟩ := yy
 replace hy := hy.2
 dsimp only [cu, joinT, ckTys, gts, Prod.eta, List.nil_append] at hy
 obtain ⟨hk, hl, hO⟩ := hy)))
  all_goals (
 with_reducible refine Leaf.mk ?_
 (try dsimp only [cu, joinT, ckTys, gts, Prod.eta, List.nil_append] at *)
 first
 | (done)
 | (
  have q : n < 0 ∨ n > 4096 := by omega
  rw [unpB, if_pos q])
 | (
  have h1 : ¬ (n < 0 ∨ n > 4096) := by omega
  first
  | (
   have h2 : (s.size : Int) < (n + 7).tdiv 8 := by omega
   rw [unpB, if_neg h1, if_pos h2])
  | (
   have h2 : ¬ (s.size : Int) < (n + 7).tdiv 8 := by omega
   have h3 : (s.size : Int) > (n + 7).tdiv 8 := by omega
   rw [unpB, if_neg h1, if_neg h2, if_pos h3]))
 | (
  have hd := tdiv8 (n := n + 7) (by omega)
  have hd2 := tdiv8 (n := n) (by omega)
  have hm2 := tmod8 (n := n) (by omega)
  have h1 : ¬ (n < 0 ∨ n > 4096) := by omega
  have h2 : ¬ (s.size : Int) < (n + 7).tdiv 8 := by omega
  have h3 : ¬ (s.size : Int) > (n + 7).tdiv 8 := by omega
  have ht := tail_iff (s := s) (m := n.toNat) (by omega)
  obtain ⟨t1, t2⟩ := tail_byte s (a := n) (by omega)
  first
  | (
   have h4 : tailBad s n.toNat = true := ht.2 ⟨by omega, by rw [← t1]; assumption⟩
   rw [unpB, if_neg h1, if_neg h2, if_neg h3, if_pos h4])
  | (
   have h4 : ¬ tailBad s n.toNat = true := by
     intro q
     obtain ⟨g1, g2⟩ := ht.1 q
     rw [← t1] at g2
     first | omega | (simp_all; done)
   rw [unpB, if_neg h1, if_neg h2, if_neg h3, if_neg h4]
   (try rw [List.take_of_length_le (by omega), show k.toNat = n.toNat by omega] at hO)
   first | done | rfl | exact hO)))
abbrev tb41 : Tbl := (39, c_nunpack_ok) :: tb40
theorem tb41_ok : TblOk Tryz.prog tb41 := TblOk.cons nunpack_ok tb40_ok

end Go.Proofs.YtlamfjhhjfgemaaGreat
