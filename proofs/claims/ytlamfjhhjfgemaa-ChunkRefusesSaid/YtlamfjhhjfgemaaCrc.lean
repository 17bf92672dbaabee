/- Contracts of the checksums and bitmaps. -/
import Derived.Test.YtlamfjhhjfgemaaRDecode
namespace Go.Proofs.Ytlamfjhhjfgemaa
open Go.Abs
set_option linter.unusedVariables false
set_option linter.unusedSimpArgs false


def rnd (v : Int) : Int := bXor .u32 (shrI .u32 v 1) (IntKind.u32.wrap (2197175160 * bAnd .u32 v 1))
def rndN : Nat → Int → Int
  | 0, v => v
  | n + 1, v => rndN n (rnd v)
theorem rnd_in (v : Int) : 0 ≤ rnd v ∧ rnd v < 4294967296 := bXor_u32 _ _
theorem rnd_one {v : Int} (h : bAnd .u32 v 1 = 1) : rnd v = bXor .u32 (shrI .u32 v 1) 2197175160 := by
  unfold rnd; rw [h]; rfl
theorem rnd_zero {v : Int} (hv : 0 ≤ v ∧ v < 4294967296) (h : ¬ bAnd .u32 v 1 = 1) : rnd v = shrI .u32 v 1 := by
  have h0 : bAnd .u32 v 1 = 0 := by rw [bAnd1 hv] at h ⊢; omega
  unfold rnd
  rw [h0, show IntKind.u32.wrap (2197175160 * 0) = 0 from rfl, bXor0 (by simpa using shr_u32 hv 1)]
theorem rndN_step {k v : Int} (h : 0 ≤ k ∧ k < 8) : rndN (8 - k).toNat v = rndN (8 - (k + 1)).toNat (rnd v) := by
  rw [show (8 - k).toNat = (8 - (k + 1)).toNat + 1 by omega]; rfl
def crcTab : List Int := (List.range 256).map fun i : Nat => rndN 8 (i : Int)
theorem crcTab_len : crcTab.length = 256 := by simp [crcTab]
def cstep (t : List Int) (v b : Int) : Int := bXor .u32 (shrI .u32 v 8) t[(bXor .u8 (IntKind.u8.wrap v) b).toNat]!
def bnot (v : Int) : Int := bXor .u32 (-1) v
def sumR (t : List Int) (s : ByteArray) : Int := if t.length = 256 then bnot ((toInts s).foldl (cstep t) 4294967295) else 0
def crcS (s : ByteArray) : Int := sumR crcTab s
theorem fold_step {t : List Int} {s : ByteArray} {k v : Int} (h : 0 ≤ k ∧ k < s.size) : ((toInts s).drop k.toNat).foldl (cstep t) v = ((toInts s).drop (k + 1).toNat).foldl (cstep t) (cstep t v (byteAt s k.toNat)) := by
  rw [drop_step (toInts s) k (by rw [toInts_len]; exact h), List.foldl_cons, toInts_get]

abbrev c_step_ok : Ct := .fn [.list (.int .u32), .int .u32, .int .u8] (some (fun (t : List Int) (v : Int) (b : Int) => (t.length = 256))) (fun (t : List Int) (v : Int) (b : Int) => .d (.int .u32) (cstep t v b))
set_option maxRecDepth 100000 in
set_option maxHeartbeats 4000000 in
theorem step_ok : CtOk Try.prog 92 c_step_ok := by
  refine CtOk.fn tb25_ok mixed [] [] rfl rfl ?_
  rintro ⟨(t : List Int), (v : Int), (b : Int), _⟩ hpre
  replace hpre := hpre _ rfl
  dsimp only [cu] at hpre
  have ht := hpre
  refine ⟨[], ?_⟩
  repeat' (first
    | (
 with_reducible refine Side.mk ?_
 (try dsimp only [cu, joinT, ckTys, gts, loK, hiK, Prod.eta, List.nil_append])
 first
 | (done)
 | (with_reducible rfl)
 | (omega)
 | (exact Eq.refl _)
 | (simp only [List.length_append, List.length_cons, List.length_nil]; omega)
 | (have hx := bXor_u8 (IntKind.u8.wrap v) b; omega)
 | (have hx := bXor_u8 (IntKind.u8.wrap v) (byteAt s k.toNat); omega))
    | (conv => whnf
       first
        | done
        | exact trivial
        | with_reducible refine NilBr.mk (fun h => ?_) ?_
        | with_reducible first | refine w_andS ?_ ?_ | refine w_andL ?_ ?_ | refine w_kern (by kernel_rfl) ?_ | refine w_true ?_ | refine w_nd ?_ ?_ | refine w_in ?_ ?_ | refine w_and ?_ ?_
        | ((with_reducible first | refine w_brN (fun h => ?_) (fun h => ?_) | refine w_brD (fun h => ?_) (fun h => ?_) | refine w_br (fun h => ?_) (fun h => ?_)) <;> (try dsimp only [cu, Prod.eta, List.nil_append] at h) <;> (try (exfalso; omega; done)))))
  all_goals (
 with_reducible refine Leaf.mk ?_
 (try dsimp only [cu, joinT, ckTys, gts, Prod.eta, List.nil_append] at *)
 first
 | (done)
 | (rfl))
abbrev tb26 : Tbl := (92, c_step_ok) :: tb25
theorem tb26_ok : TblOk Try.prog tb26 := TblOk.cons step_ok tb25_ok

abbrev c_sum_ok : Ct := .fn [.list (.int .u32), .str] (some (fun (t : List Int) (s : ByteArray) => (s.size ≤ 9223372036854775807))) (fun (t : List Int) (s : ByteArray) => .d (.int .u32) (sumR t s))
set_option maxRecDepth 100000 in
set_option maxHeartbeats 4000000 in
theorem sum_ok : CtOk Try.prog 68 c_sum_ok := by
  refine CtOk.fn tb26_ok mixed [] [] rfl rfl ?_
  rintro ⟨(t : List Int), (s : ByteArray), _⟩ hpre
  replace hpre := hpre _ rfl
  dsimp only [cu] at hpre
  have hs := hpre
  refine ⟨[(0, 10, LA.mk [.sl 12 (.int .i64), .sl 5 (.int .u32)] (fun y => Tag 16 ∧ cu [.int .i64, .int .u32] (fun (k : Int) (v : Int) => (0 ≤ k ∧ k ≤ s.size) ∧ (((toInts s).drop k.toNat).foldl (cstep t) v = (toInts s).foldl (cstep t) 4294967295)) y) (cu [.int .i64, .int .u32] (fun (k : Int) (v : Int) => ((s.size : Int) - k).toNat)) (cu [.int .i64, .int .u32] (fun (k : Int) (v : Int) => ([] : List (Nat × Nat × LA)))))], ?_⟩
  repeat' (first
    | (
 with_reducible refine Side.mk ⟨(⟨⟩ : Tag 16), ?_⟩
 dsimp only [cu, joinT, ckTys, gts, Prod.eta, List.nil_append]
 refine ⟨?_, ?_⟩
 · omega
 · first
   | (simp; done)
   | (rw [← hv, fold_step (k := k) (v := v) (by omega)]; (try rfl)))
    | (
 with_reducible refine Side.mk ?_
 (try dsimp only [cu, joinT, ckTys, gts, loK, hiK, Prod.eta, List.nil_append])
 first
 | (done)
 | (with_reducible rfl)
 | (omega)
 | (exact Eq.refl _)
 | (simp only [List.length_append, List.length_cons, List.length_nil]; omega)
 | (have hx := bXor_u8 (IntKind.u8.wrap v) b; omega)
 | (have hx := bXor_u8 (IntKind.u8.wrap v) (byteAt s k.toNat); omega)
 | (assumption))
    | (conv => whnf
       first
        | done
        | exact trivial
        | with_reducible refine NilBr.mk (fun h => ?_) ?_
        | with_reducible first | refine w_andS ?_ ?_ | refine w_andL ?_ ?_ | refine w_kern (by kernel_rfl) ?_ | refine w_true ?_ | refine w_nd ?_ ?_ | refine w_in ?_ ?_ | refine w_and ?_ ?_
        | ((with_reducible first | refine w_brN (fun h => ?_) (fun h => ?_) | refine w_brD (fun h => ?_) (fun h => ?_) | refine w_br (fun h => ?_) (fun h => ?_)) <;> (try dsimp only [cu, Prod.eta, List.nil_append] at h) <;> (try (exfalso; omega; done)))
        | (
 intro yy (hy : Tag 16 ∧ _)
 obtain ⟨(k : Int), (v : Int), _⟩ := yy
 replace hy := hy.2
 dsimp only [cu, joinT, ckTys, gts, Prod.eta, List.nil_append] at hy
 obtain ⟨hk, hv⟩ := hy)))
  all_goals (
 with_reducible refine Leaf.mk ?_
 (try dsimp only [cu, joinT, ckTys, gts, Prod.eta, List.nil_append] at *)
 first
 | (done)
 | (
  have h256 : ¬ t.length = 256 := by omega
  rw [sumR, if_neg h256])
 | (
  have h256 : t.length = 256 := by omega
  rw [sumR, if_pos h256, ← hv, List.drop_eq_nil_of_le (by rw [toInts_len]; omega)]
  rfl))
abbrev tb27 : Tbl := (68, c_sum_ok) :: tb26
theorem tb27_ok : TblOk Try.prog tb27 := TblOk.cons sum_ok tb26_ok

abbrev c_rsum_ok : Ct := .fn [.list (.int .u32), .str] (some (fun (t : List Int) (s : ByteArray) => (s.size ≤ 9223372036854775807))) (fun (t : List Int) (s : ByteArray) => .d (.int .u32) (sumR t s))
set_option maxRecDepth 100000 in
set_option maxHeartbeats 4000000 in
theorem rsum_ok : CtOk Try.prog 51 c_rsum_ok := by
  refine CtOk.fn tb27_ok mixed [] [] rfl rfl ?_
  rintro ⟨(t : List Int), (s : ByteArray), _⟩ hpre
  replace hpre := hpre _ rfl
  dsimp only [cu] at hpre
  have hs := hpre
  refine ⟨[(0, 10, LA.mk [.sl 6 (.int .i64), .sl 5 (.int .u32)] (fun y => Tag 17 ∧ cu [.int .i64, .int .u32] (fun (k : Int) (v : Int) => (0 ≤ k ∧ k ≤ s.size) ∧ (((toInts s).drop k.toNat).foldl (cstep t) v = (toInts s).foldl (cstep t) 4294967295)) y) (cu [.int .i64, .int .u32] (fun (k : Int) (v : Int) => ((s.size : Int) - k).toNat)) (cu [.int .i64, .int .u32] (fun (k : Int) (v : Int) => ([] : List (Nat × Nat × LA)))))], ?_⟩
  repeat' (first
    | (
 with_reducible refine Side.mk ⟨(⟨⟩ : Tag 17), ?_⟩
 dsimp only [cu, joinT, ckTys, gts, Prod.eta, List.nil_append]
 refine ⟨?_, ?_⟩
 · omega
 · first
   | (simp; done)
   | (rw [← hv, fold_step (k := k) (v := v) (by omega)]; (try rfl)))
    | (
 with_reducible refine Side.mk ?_
 (try dsimp only [cu, joinT, ckTys, gts, loK, hiK, Prod.eta, List.nil_append])
 first
 | (done)
 | (with_reducible rfl)
 | (omega)
 | (exact Eq.refl _)
 | (simp only [List.length_append, List.length_cons, List.length_nil]; omega)
 | (have hx := bXor_u8 (IntKind.u8.wrap v) b; omega)
 | (have hx := bXor_u8 (IntKind.u8.wrap v) (byteAt s k.toNat); omega)
 | (assumption))
    | (conv => whnf
       first
        | done
        | exact trivial
        | with_reducible refine NilBr.mk (fun h => ?_) ?_
        | with_reducible first | refine w_andS ?_ ?_ | refine w_andL ?_ ?_ | refine w_kern (by kernel_rfl) ?_ | refine w_true ?_ | refine w_nd ?_ ?_ | refine w_in ?_ ?_ | refine w_and ?_ ?_
        | ((with_reducible first | refine w_brN (fun h => ?_) (fun h => ?_) | refine w_brD (fun h => ?_) (fun h => ?_) | refine w_br (fun h => ?_) (fun h => ?_)) <;> (try dsimp only [cu, Prod.eta, List.nil_append] at h) <;> (try (exfalso; omega; done)))
        | (
 intro yy (hy : Tag 17 ∧ _)
 obtain ⟨(k : Int), (v : Int), _⟩ := yy
 replace hy := hy.2
 dsimp only [cu, joinT, ckTys, gts, Prod.eta, List.nil_append] at hy
 obtain ⟨hk, hv⟩ := hy)))
  all_goals (
 with_reducible refine Leaf.mk ?_
 (try dsimp only [cu, joinT, ckTys, gts, Prod.eta, List.nil_append] at *)
 first
 | (done)
 | (
  have h256 : ¬ t.length = 256 := by omega
  rw [sumR, if_neg h256])
 | (
  have h256 : t.length = 256 := by omega
  rw [sumR, if_pos h256, ← hv, List.drop_eq_nil_of_le (by rw [toInts_len]; omega)]
  rfl))
abbrev tb28 : Tbl := (51, c_rsum_ok) :: tb27
theorem tb28_ok : TblOk Try.prog tb28 := TblOk.cons rsum_ok tb27_ok

abbrev c_table_ok : Ct := .fn [] (none) (.d (.list (.int .u32)) crcTab)
set_option maxRecDepth 100000 in
set_option maxHeartbeats 4000000 in
theorem table_ok : CtOk Try.prog 69 c_table_ok := by
  refine CtOk.fn tb28_ok mixed [(0, 5, 1)] [] rfl rfl ?_
  rintro ⟨⟩ -
  refine ⟨[(0, 6, LA.mk [.sl 7 (.int .i64), .ar 0 (.int .u32) 60] (fun y => Tag 18 ∧ cu [.int .i64, .list (.int .u32)] (fun (k : Int) (M : List Int) => (0 ≤ k ∧ k ≤ 256) ∧ (M.length = 256) ∧ (M.take k.toNat = (List.range k.toNat).map (fun i : Nat => rndN 8 (i : Int)))) y) (cu [.int .i64, .list (.int .u32)] (fun (k : Int) (M : List Int) => ((256 : Int) - k).toNat)) (cu [.int .i64, .list (.int .u32)] (fun (k : Int) (M : List Int) => ([(0, 14, LA.mk [.sl 12 (.int .i64), .sl 3 (.int .u32)] (fun y => Tag 19 ∧ cu [.int .i64, .int .u32] (fun (j : Int) (v : Int) => (0 ≤ j ∧ j ≤ 8) ∧ (rndN (8 - j).toNat v = rndN 8 k)) y) (cu [.int .i64, .int .u32] (fun (j : Int) (v : Int) => ((8 : Int) - j).toNat)) (cu [.int .i64, .int .u32] (fun (j : Int) (v : Int) => ([] : List (Nat × Nat × LA)))))] : List (Nat × Nat × LA)))))], ?_⟩
  repeat' (first
    | (
 with_reducible refine Side.mk ⟨(⟨⟩ : Tag 18), ?_⟩
 dsimp only [cu, joinT, ckTys, gts, Prod.eta, List.nil_append]
 refine ⟨?_, ?_, ?_⟩
 · omega
 · first
   | (simp; done)
   | (simp; omega)
 · first
   | (simp; done)
   | (
  rw [show (k + 1).toNat = k.toNat + 1 by omega, take_set _ _ _ (by omega), hm, List.range_succ, List.map_append]
  simp only [List.map_cons, List.map_nil]
  rw [show ((k.toNat : Nat) : Int) = k by omega, ← hj, show (8 - j).toNat = 0 by omega]
  rfl))
    | (
 with_reducible refine Side.mk ⟨(⟨⟩ : Tag 19), ?_⟩
 dsimp only [cu, joinT, ckTys, gts, Prod.eta, List.nil_append]
 refine ⟨?_, ?_⟩
 · omega
 · first
   | (rfl)
   | (rw [← hj, rndN_step (k := j) (v := v) (by omega)]; (try rfl)))
    | (
 with_reducible refine Side.mk ?_
 (try dsimp only [cu, joinT, ckTys, gts, loK, hiK, Prod.eta, List.nil_append])
 first
 | (done)
 | (with_reducible rfl)
 | (omega)
 | (exact Eq.refl _)
 | (simp only [List.length_append, List.length_cons, List.length_nil]; omega))
    | (conv => whnf
       first
        | done
        | exact trivial
        | with_reducible refine NilBr.mk (fun h => ?_) ?_
        | with_reducible first | refine w_andS ?_ ?_ | refine w_andL ?_ ?_ | refine w_kern (by kernel_rfl) ?_ | refine w_true ?_ | refine w_nd ?_ ?_ | refine w_in ?_ ?_ | refine w_and ?_ ?_
        | ((with_reducible first | refine w_brN (fun h => ?_) (fun h => ?_) | refine w_brD (fun h => ?_) (fun h => ?_) | refine w_br (fun h => ?_) (fun h => ?_)) <;> (try dsimp only [cu, Prod.eta, List.nil_append] at h) <;> (try (exfalso; omega; done)))
        | (
 intro yy (hy : Tag 18 ∧ _)
 obtain ⟨(k : Int), (M : List Int), _⟩ := yy
 replace hy := hy.2
 dsimp only [cu, joinT, ckTys, gts, Prod.eta, List.nil_append] at hy
 obtain ⟨hk, hl, hm⟩ := hy)
        | (
 intro yy (hy : Tag 19 ∧ _)
 obtain ⟨(j : Int), (v : Int), _⟩ := yy
 replace hy := hy.2
 dsimp only [cu, joinT, ckTys, gts, Prod.eta, List.nil_append] at hy
 obtain ⟨hj, hj⟩ := hy)))
  all_goals (
 with_reducible refine Leaf.mk ?_
 (try dsimp only [cu, joinT, ckTys, gts, Prod.eta, List.nil_append] at *)
 first
 | (done)
 | (
  rw [show k.toNat = 256 by omega, List.take_of_length_le (by omega)] at hm
  exact hm))
abbrev tb29 : Tbl := (69, c_table_ok) :: tb28
theorem tb29_ok : TblOk Try.prog tb29 := TblOk.cons table_ok tb28_ok

abbrev c_rtable_ok : Ct := .fn [] (none) (.d (.list (.int .u32)) crcTab)
set_option maxRecDepth 100000 in
set_option maxHeartbeats 4000000 in
theorem rtable_ok : CtOk Try.prog 52 c_rtable_ok := by
  refine CtOk.fn tb29_ok mixed [(0, 4, 1)] [] rfl rfl ?_
  rintro ⟨⟩ -
  refine ⟨[(0, 6, LA.mk [.sl 2 (.int .u32), .lst 1 (.int .u32) 60] (fun y => Tag 20 ∧ cu [.int .u32, .list (.int .u32)] (fun (k : Int) (M : List Int) => (0 ≤ k ∧ k ≤ 256) ∧ (M = (List.range k.toNat).map (fun i : Nat => rndN 8 (i : Int)))) y) (cu [.int .u32, .list (.int .u32)] (fun (k : Int) (M : List Int) => (256 - k).toNat)) (cu [.int .u32, .list (.int .u32)] (fun (k : Int) (M : List Int) => ([(0, 14, LA.mk [.sl 4 (.int .i64), .sl 3 (.int .u32)] (fun y => Tag 21 ∧ cu [.int .i64, .int .u32] (fun (j : Int) (v : Int) => (0 ≤ j ∧ j ≤ 8) ∧ (0 ≤ v ∧ v < 4294967296) ∧ (rndN (8 - j).toNat v = rndN 8 k)) y) (cu [.int .i64, .int .u32] (fun (j : Int) (v : Int) => ((8 : Int) - j).toNat)) (cu [.int .i64, .int .u32] (fun (j : Int) (v : Int) => ([] : List (Nat × Nat × LA)))))] : List (Nat × Nat × LA)))))], ?_⟩
  repeat' (first
    | (
 with_reducible refine Side.mk ⟨(⟨⟩ : Tag 20), ?_⟩
 dsimp only [cu, joinT, ckTys, gts, Prod.eta, List.nil_append]
 refine ⟨?_, ?_⟩
 · omega
 · first
   | (simp; done)
   | (
  rw [show (k + 1).toNat = k.toNat + 1 by omega, List.range_succ, List.map_append, hm]
  simp only [List.map_cons, List.map_nil]
  rw [show ((k.toNat : Nat) : Int) = k by omega, ← hj, show (8 - j).toNat = 0 by omega]
  rfl))
    | (
 with_reducible refine Side.mk ⟨(⟨⟩ : Tag 21), ?_⟩
 dsimp only [cu, joinT, ckTys, gts, Prod.eta, List.nil_append]
 refine ⟨?_, ?_, ?_⟩
 · omega
 · first
   | (omega)
   | (exact bXor_u32 _ _)
   | (simpa using shr_u32 (by assumption) 1)
 · first
   | (rfl)
   | (rw [← hj, rndN_step (k := j) (v := v) (by omega), rnd_one (by assumption)])
   | (rw [← hj, rndN_step (k := j) (v := v) (by omega), rnd_zero (by assumption) (by assumption)]))
    | (
 with_reducible refine Side.mk ?_
 (try dsimp only [cu, joinT, ckTys, gts, loK, hiK, Prod.eta, List.nil_append])
 first
 | (done)
 | (with_reducible rfl)
 | (omega)
 | (exact Eq.refl _)
 | (simp only [List.length_append, List.length_cons, List.length_nil]; omega)
 | (
  have hml : M.length = k.toNat := by rw [hm]; simp
  simp only [List.length_cons, List.length_nil]
  omega))
    | (conv => whnf
       first
        | done
        | exact trivial
        | with_reducible refine NilBr.mk (fun h => ?_) ?_
        | with_reducible first | refine w_andS ?_ ?_ | refine w_andL ?_ ?_ | refine w_kern (by kernel_rfl) ?_ | refine w_true ?_ | refine w_nd ?_ ?_ | refine w_in ?_ ?_ | refine w_and ?_ ?_
        | ((with_reducible first | refine w_brN (fun h => ?_) (fun h => ?_) | refine w_brD (fun h => ?_) (fun h => ?_) | refine w_br (fun h => ?_) (fun h => ?_)) <;> (try dsimp only [cu, Prod.eta, List.nil_append] at h) <;> (try (exfalso; omega; done)))
        | (
 intro yy (hy : Tag 20 ∧ _)
 obtain ⟨(k : Int), (M : List Int), _⟩ := yy
 replace hy := hy.2
 dsimp only [cu, joinT, ckTys, gts, Prod.eta, List.nil_append] at hy
 obtain ⟨hk, hm⟩ := hy)
        | (
 intro yy (hy : Tag 21 ∧ _)
 obtain ⟨(j : Int), (v : Int), _⟩ := yy
 replace hy := hy.2
 dsimp only [cu, joinT, ckTys, gts, Prod.eta, List.nil_append] at hy
 obtain ⟨hj, hv, hj⟩ := hy)))
  all_goals (
 with_reducible refine Leaf.mk ?_
 (try dsimp only [cu, joinT, ckTys, gts, Prod.eta, List.nil_append] at *)
 first
 | (done)
 | (
  rw [show k.toNat = 256 by omega] at hm
  exact hm))
abbrev tb30 : Tbl := (52, c_rtable_ok) :: tb29
theorem tb30_ok : TblOk Try.prog tb30 := TblOk.cons rtable_ok tb29_ok

abbrev c_rcrc_ok : Ct := .fn [.str] (some (fun (s : ByteArray) => (s.size ≤ 9223372036854775807))) (fun (s : ByteArray) => .d (.int .u32) (crcS s))
set_option maxRecDepth 100000 in
set_option maxHeartbeats 4000000 in
theorem rcrc_ok : CtOk Try.prog 29 c_rcrc_ok := by
  refine CtOk.fn tb30_ok mixed [] [] rfl rfl ?_
  rintro ⟨(s : ByteArray), _⟩ hpre
  replace hpre := hpre _ rfl
  dsimp only [cu] at hpre
  have hs := hpre
  refine ⟨[], ?_⟩
  repeat' (first
    | (
 with_reducible refine Side.mk ?_
 (try dsimp only [cu, joinT, ckTys, gts, loK, hiK, Prod.eta, List.nil_append])
 first
 | (done)
 | (with_reducible rfl)
 | (omega)
 | (exact Eq.refl _)
 | (simp only [List.length_append, List.length_cons, List.length_nil]; omega)
 | (assumption))
    | (conv => whnf
       first
        | done
        | exact trivial
        | with_reducible refine NilBr.mk (fun h => ?_) ?_
        | with_reducible first | refine w_andS ?_ ?_ | refine w_andL ?_ ?_ | refine w_kern (by kernel_rfl) ?_ | refine w_true ?_ | refine w_nd ?_ ?_ | refine w_in ?_ ?_ | refine w_and ?_ ?_
        | ((with_reducible first | refine w_brN (fun h => ?_) (fun h => ?_) | refine w_brD (fun h => ?_) (fun h => ?_) | refine w_br (fun h => ?_) (fun h => ?_)) <;> (try dsimp only [cu, Prod.eta, List.nil_append] at h) <;> (try (exfalso; omega; done)))))
  all_goals (
 with_reducible refine Leaf.mk ?_
 (try dsimp only [cu, joinT, ckTys, gts, Prod.eta, List.nil_append] at *)
 first
 | (done)
 | (rfl))
abbrev tb31 : Tbl := (29, c_rcrc_ok) :: tb30
theorem tb31_ok : TblOk Try.prog tb31 := TblOk.cons rcrc_ok tb30_ok


/- Bitmaps. -/
def fB (l : List Bool) (q : Nat) : Int := if l[q]! = true then 1 else 0
theorem fB01 (l : List Bool) : bit01 (fB l) := fun q => by unfold fB; split <;> simp
def packB (l : List Bool) : ByteArray := ofInts (gL (fB l) l.length 8 (((l.length : Int) + 7).tdiv 8).toNat)
def bitB (s : ByteArray) (q : Nat) : Bool := decide (sbit s q = 1)
def bitsB (s : ByteArray) (n : Nat) : List Bool := (List.range n).map (bitB s)
def unpB (s : ByteArray) (n : Int) : List Bool × Int :=
  if n < 0 ∨ n > 4096 then ([], 4) else if (s.size : Int) < (n + 7).tdiv 8 then ([], 10) else if (s.size : Int) > (n + 7).tdiv 8 then ([], 2)
  else if tailBad s n.toNat = true then ([], 2) else (bitsB s n.toNat, 0)
def cntTo (s : ByteArray) : Nat → Int
  | 0 => 0
  | m + 1 => cntTo s m + sbit s m
def onesN (n : Nat) : Int := ((n % 2 + n / 2 % 2 + n / 4 % 2 + n / 8 % 2 + n / 16 % 2 + n / 32 % 2 + n / 64 % 2 + n / 128 % 2 : Nat) : Int)
def cntB (s : ByteArray) : Int := cntTo s (8 * s.size)
theorem all256_eq {f g : Nat → Int} (h : (List.range 256).all (fun n => decide (f n = g n)) = true) {n : Int} (hn : 0 ≤ n ∧ n < 256) : f n.toNat = g n.toNat := of_decide_eq_true (all256 h hn)
theorem lt_size {b : ByteArray} {x : Int} (h : b.size = 256) (hx : x < 256) : x < (b.size : Int) := by omega
theorem cntTo_rng (s : ByteArray) : ∀ m, 0 ≤ cntTo s m ∧ cntTo s m ≤ m
  | 0 => by simp [cntTo]
  | m + 1 => by
    have := cntTo_rng s m
    have := sbit01 s m
    rw [cntTo]; omega
theorem sbit_at (s : ByteArray) (k u : Nat) (hu : u < 8) : sbit s (8 * k + u) = byteAt s k / 2 ^ u % 2 := by
  unfold sbit
  rw [show (8 * k + u) / 8 = k by omega, show (8 * k + u) % 8 = u by omega]
theorem onesN_rng (n : Nat) : 0 ≤ onesN n ∧ onesN n ≤ 8 := by unfold onesN; omega
theorem cnt_byte (s : ByteArray) (k : Nat) : cntTo s (8 * (k + 1)) = cntTo s (8 * k) + onesN (byteAt s k).toNat := by
  have hb := byteAt_rng s k
  obtain ⟨b, hbb⟩ := Int.eq_ofNat_of_zero_le hb.1
  have e : ∀ u, u < 8 → sbit s (8 * k + u) = ((b / 2 ^ u % 2 : Nat) : Int) := fun u hu => by
    rw [sbit_at s k u hu, hbb]; simp
  rw [hbb, Int.toNat_natCast, show 8 * (k + 1) = 8 * k + 7 + 1 by omega]
  simp only [cntTo, e 7 (by decide), e 6 (by decide), e 5 (by decide), e 4 (by decide), e 3 (by decide), e 2 (by decide), e 1 (by decide)]
  have e0 := e 0 (by decide)
  rw [Nat.add_zero] at e0
  rw [e0]
  simp only [onesN, Nat.reducePow]
  omega
theorem tdiv8 {n : Int} (h : 0 ≤ n) : n.tdiv 8 = n / 8 := Int.tdiv_eq_ediv_of_nonneg h
theorem tmod8 {n : Int} (h : 0 ≤ n) : n.tmod 8 = n % 8 := Int.tmod_eq_emod_of_nonneg h
theorem bitsB_len (s : ByteArray) (n : Nat) : (bitsB s n).length = n := by simp [bitsB]
theorem bitsB_succ (s : ByteArray) {k : Int} (h : 0 ≤ k) : bitsB s (k + 1).toNat = bitsB s k.toNat ++ [bitB s k.toNat] := by
  rw [show (k + 1).toNat = k.toNat + 1 by omega]
  simp [bitsB, List.range_succ]
theorem bitB_t {s : ByteArray} {q : Nat} (h : bitB s q = true) : sbit s q = 1 := of_decide_eq_true h
theorem bitB_f {s : ByteArray} {q : Nat} (h : bitB s q = false) : sbit s q ≠ 1 := of_decide_eq_false h
theorem cntTo_t {s : ByteArray} {k : Int} (h : 0 ≤ k) (hb : bitB s k.toNat = true) : cntTo s (k + 1).toNat = cntTo s k.toNat + 1 := by
  rw [show (k + 1).toNat = k.toNat + 1 by omega, cntTo, bitB_t hb]
theorem cntTo_f {s : ByteArray} {k : Int} (h : 0 ≤ k) (hb : bitB s k.toNat = false) : cntTo s (k + 1).toNat = cntTo s k.toNat := by
  have h1 := bitB_f hb
  have h2 := sbit01 s k.toNat
  rw [show (k + 1).toNat = k.toNat + 1 by omega, cntTo]; omega

abbrev c_npack_ok : Ct := .fn [.list .bool] (some (fun (l : List Bool) => (l.length ≤ 1073741824))) (fun (l : List Bool) => .d .str (packB l))
set_option maxRecDepth 100000 in
set_option maxHeartbeats 4000000 in
theorem npack_ok : CtOk Try.prog 43 c_npack_ok := by
  refine CtOk.fn tb31_ok mixed [] [] rfl rfl ?_
  rintro ⟨(l : List Bool), _⟩ hpre
  replace hpre := hpre _ rfl
  dsimp only [cu] at hpre
  have hl := hpre
  refine ⟨[(0, 6, LA.mk [.sl 13 (.int .i64), .ar 0 (.int .u8) 5] (fun y => Tag 22 ∧ cu [.int .i64, .list (.int .u8)] (fun (k : Int) (O : List Int) => (0 ≤ k ∧ k ≤ l.length) ∧ (O = gL (fB l) k.toNat 8 (((l.length : Int) + 7).tdiv 8).toNat)) y) (cu [.int .i64, .list (.int .u8)] (fun (k : Int) (O : List Int) => ((l.length : Int) - k).toNat)) (cu [.int .i64, .list (.int .u8)] (fun (k : Int) (O : List Int) => ([] : List (Nat × Nat × LA)))))], ?_⟩
  repeat' (first
    | (
 with_reducible refine Side.mk ⟨(⟨⟩ : Tag 22), ?_⟩
 dsimp only [cu, joinT, ckTys, gts, Prod.eta, List.nil_append]
 refine ⟨?_, ?_⟩
 · omega
 · first
   | (exact (gL_zero _ _ _).symm)
   | (
  rw [hO]
  first
  | (
   have hd1 := tdiv8 (n := k) (by omega)
   have hd2 := tdiv8 (n := (l.length : Int) + 7) (by omega)
   have hk : l[k.toNat]! = true := by first | assumption | (simp_all; done)
   refine pack_set (fB01 _) (by omega) (by omega) ?_ rfl rfl
   rw [fB, if_pos hk])
  | (
   rw [u64_id (n := k.tmod 8) (by rw [tmod8 (by omega)]; omega)]
   have hd1 := tdiv8 (n := k) (by omega)
   have hd2 := tdiv8 (n := (l.length : Int) + 7) (by omega)
   have hk : l[k.toNat]! = true := by first | assumption | (simp_all; done)
   refine pack_set (fB01 _) (by omega) (by omega) ?_ rfl rfl
   rw [fB, if_pos hk]))
   | (
  rw [hO, show (k + 1).toNat = k.toNat + 1 by omega]
  have hk : ¬ l[k.toNat]! = true := by first | assumption | (simp_all; done)
  refine gL_same (by decide) ?_
  rw [fB, if_neg hk]))
    | (
 with_reducible refine Side.mk ?_
 (try dsimp only [cu, joinT, ckTys, gts, loK, hiK, Prod.eta, List.nil_append])
 first
 | (done)
 | (with_reducible rfl)
 | (omega)
 | (exact Eq.refl _)
 | (simp only [List.length_append, List.length_cons, List.length_nil]; omega)
 | (
  have hd1 := tdiv8 (n := k) (by omega)
  have hd2 := tdiv8 (n := (l.length : Int) + 7) (by omega)
  omega)
 | (rw [tdiv8 (by omega)]; omega)
 | (rw [tmod8 (by omega)]; omega)
 | (rw [hO, gL_len, tdiv8 (by omega), tdiv8 (by omega)]; omega)
 | (
  rw [u64_id (n := k.tmod 8) (by rw [tmod8 (by omega)]; omega)]
  rw [tmod8 (by omega)]; omega)
 | (simp only [hO, gL_len]; done))
    | (conv => whnf
       first
        | done
        | exact trivial
        | with_reducible refine NilBr.mk (fun h => ?_) ?_
        | with_reducible first | refine w_andS ?_ ?_ | refine w_andL ?_ ?_ | refine w_kern (by kernel_rfl) ?_ | refine w_true ?_ | refine w_nd ?_ ?_ | refine w_in ?_ ?_ | refine w_and ?_ ?_
        | ((with_reducible first | refine w_brN (fun h => ?_) (fun h => ?_) | refine w_brD (fun h => ?_) (fun h => ?_) | refine w_br (fun h => ?_) (fun h => ?_)) <;> (try dsimp only [cu, Prod.eta, List.nil_append] at h) <;> (try (exfalso; omega; done)))
        | (
 intro yy (hy : Tag 22 ∧ _)
 obtain ⟨(k : Int), (O : List Int), _⟩ := yy
 replace hy := hy.2
 dsimp only [cu, joinT, ckTys, gts, Prod.eta, List.nil_append] at hy
 obtain ⟨hk, hO⟩ := hy)))
  all_goals (
 with_reducible refine Leaf.mk ?_
 (try dsimp only [cu, joinT, ckTys, gts, Prod.eta, List.nil_append] at *)
 first
 | (done)
 | (rw [hO, show k.toNat = l.length by omega]; rfl))
abbrev tb32 : Tbl := (43, c_npack_ok) :: tb31
theorem tb32_ok : TblOk Try.prog tb32 := TblOk.cons npack_ok tb31_ok

abbrev c_rnpack_ok : Ct := .fn [.list .bool] (some (fun (l : List Bool) => (l.length ≤ 1073741824))) (fun (l : List Bool) => .d .str (packB l))
set_option maxRecDepth 100000 in
set_option maxHeartbeats 4000000 in
theorem rnpack_ok : CtOk Try.prog 26 c_rnpack_ok := by
  refine CtOk.fn tb32_ok mixed [] [] rfl rfl ?_
  rintro ⟨(l : List Bool), _⟩ hpre
  replace hpre := hpre _ rfl
  dsimp only [cu] at hpre
  have hl := hpre
  refine ⟨[(0, 6, LA.mk [.sl 13 (.int .i64), .ar 0 (.int .u8) 5] (fun y => Tag 23 ∧ cu [.int .i64, .list (.int .u8)] (fun (k : Int) (O : List Int) => (0 ≤ k ∧ k ≤ l.length) ∧ (O = gL (fB l) k.toNat 8 (((l.length : Int) + 7).tdiv 8).toNat)) y) (cu [.int .i64, .list (.int .u8)] (fun (k : Int) (O : List Int) => ((l.length : Int) - k).toNat)) (cu [.int .i64, .list (.int .u8)] (fun (k : Int) (O : List Int) => ([] : List (Nat × Nat × LA)))))], ?_⟩
  repeat' (first
    | (
 with_reducible refine Side.mk ⟨(⟨⟩ : Tag 23), ?_⟩
 dsimp only [cu, joinT, ckTys, gts, Prod.eta, List.nil_append]
 refine ⟨?_, ?_⟩
 · omega
 · first
   | (exact (gL_zero _ _ _).symm)
   | (
  rw [hO]
  first
  | (
   have hd1 := tdiv8 (n := k) (by omega)
   have hd2 := tdiv8 (n := (l.length : Int) + 7) (by omega)
   have hk : l[k.toNat]! = true := by first | assumption | (simp_all; done)
   refine pack_set (fB01 _) (by omega) (by omega) ?_ rfl rfl
   rw [fB, if_pos hk])
  | (
   rw [u64_id (n := k.tmod 8) (by rw [tmod8 (by omega)]; omega)]
   have hd1 := tdiv8 (n := k) (by omega)
   have hd2 := tdiv8 (n := (l.length : Int) + 7) (by omega)
   have hk : l[k.toNat]! = true := by first | assumption | (simp_all; done)
   refine pack_set (fB01 _) (by omega) (by omega) ?_ rfl rfl
   rw [fB, if_pos hk]))
   | (
  rw [hO, show (k + 1).toNat = k.toNat + 1 by omega]
  have hk : ¬ l[k.toNat]! = true := by first | assumption | (simp_all; done)
  refine gL_same (by decide) ?_
  rw [fB, if_neg hk]))
    | (
 with_reducible refine Side.mk ?_
 (try dsimp only [cu, joinT, ckTys, gts, loK, hiK, Prod.eta, List.nil_append])
 first
 | (done)
 | (with_reducible rfl)
 | (omega)
 | (exact Eq.refl _)
 | (simp only [List.length_append, List.length_cons, List.length_nil]; omega)
 | (
  have hd1 := tdiv8 (n := k) (by omega)
  have hd2 := tdiv8 (n := (l.length : Int) + 7) (by omega)
  omega)
 | (rw [tdiv8 (by omega)]; omega)
 | (rw [tmod8 (by omega)]; omega)
 | (rw [hO, gL_len, tdiv8 (by omega), tdiv8 (by omega)]; omega)
 | (
  rw [u64_id (n := k.tmod 8) (by rw [tmod8 (by omega)]; omega)]
  rw [tmod8 (by omega)]; omega)
 | (simp only [hO, gL_len]; done))
    | (conv => whnf
       first
        | done
        | exact trivial
        | with_reducible refine NilBr.mk (fun h => ?_) ?_
        | with_reducible first | refine w_andS ?_ ?_ | refine w_andL ?_ ?_ | refine w_kern (by kernel_rfl) ?_ | refine w_true ?_ | refine w_nd ?_ ?_ | refine w_in ?_ ?_ | refine w_and ?_ ?_
        | ((with_reducible first | refine w_brN (fun h => ?_) (fun h => ?_) | refine w_brD (fun h => ?_) (fun h => ?_) | refine w_br (fun h => ?_) (fun h => ?_)) <;> (try dsimp only [cu, Prod.eta, List.nil_append] at h) <;> (try (exfalso; omega; done)))
        | (
 intro yy (hy : Tag 23 ∧ _)
 obtain ⟨(k : Int), (O : List Int), _⟩ := yy
 replace hy := hy.2
 dsimp only [cu, joinT, ckTys, gts, Prod.eta, List.nil_append] at hy
 obtain ⟨hk, hO⟩ := hy)))
  all_goals (
 with_reducible refine Leaf.mk ?_
 (try dsimp only [cu, joinT, ckTys, gts, Prod.eta, List.nil_append] at *)
 first
 | (done)
 | (rw [hO, show k.toNat = l.length by omega]; rfl))
abbrev tb33 : Tbl := (26, c_rnpack_ok) :: tb32
theorem tb33_ok : TblOk Try.prog tb33 := TblOk.cons rnpack_ok tb32_ok

end Go.Proofs.Ytlamfjhhjfgemaa
