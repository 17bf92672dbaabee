/- Contracts of unpacking; numbers of variable length. -/
import Derived.Test.YtlamfjhhjfgemaaGreatBits
namespace Go.Proofs.YtlamfjhhjfgemaaGreat
open Go.Abs
set_option linter.unusedVariables false
set_option linter.unusedSimpArgs false


def tailBad (s : ByteArray) (m : Nat) : Bool := (List.range (8 * s.size)).any fun q => decide (m ≤ q) && decide (sbit s q = 1)
def unpackR (s : ByteArray) (n w : Int) : List Int × Int :=
  if ¬ permB n w = true then ([], 4) else if (s.size : Int) < needR n w then ([], 10) else if (s.size : Int) > needR n w then ([], 2)
  else if tailBad s (n * w).toNat = true then ([], 2) else (gL (sbit s) (n * w).toNat w.toNat n.toNat, 0)
theorem byte_tail {B : Int} (hB : 0 ≤ B ∧ B < 256) {t : Nat} (ht : t < 8) (h : B / 2 ^ t ≠ 0) : ∃ u, t ≤ u ∧ u < 8 ∧ B / 2 ^ u % 2 = 1 := by
  have h1 := all256 (p := fun n => (List.range 8).all fun t => decide ((n : Int) / 2 ^ t = 0) || (List.range 8).any fun u => decide (t ≤ u) && decide ((n : Int) / 2 ^ u % 2 = 1)) (by kernel_rfl) hB
  have h2 := List.all_eq_true.1 h1 t (by simp; omega)
  rw [Int.toNat_of_nonneg hB.1] at h2
  rw [Bool.or_eq_true] at h2
  rcases h2 with q | q
  · exact absurd (of_decide_eq_true q) h
  · obtain ⟨u, hu, hq⟩ := List.any_eq_true.1 q
    simp only [Bool.and_eq_true, decide_eq_true_eq] at hq
    exact ⟨u, hq.1, by simpa using hu, hq.2⟩
theorem tail_yes {s : ByteArray} {m q : Nat} (h1 : m ≤ q) (h2 : q < 8 * s.size) (h3 : sbit s q = 1) : tailBad s m = true := by
  unfold tailBad
  rw [List.any_eq_true]
  exact ⟨q, by simpa using h2, by simp [h1, h3]⟩
theorem tail_no {s : ByteArray} {m : Nat} (h : ∀ q, m ≤ q → q < 8 * s.size → sbit s q ≠ 1) : ¬ tailBad s m = true := by
  intro hq
  unfold tailBad at hq
  obtain ⟨q, h1, h2⟩ := List.any_eq_true.1 hq
  simp only [Bool.and_eq_true, decide_eq_true_eq] at h2
  exact h q h2.1 (by simpa using h1) h2.2
theorem tail_iff {s : ByteArray} {m : Nat} (h : s.size = (m + 7) / 8) : tailBad s m = true ↔ m % 8 ≠ 0 ∧ byteAt s (m / 8) / 2 ^ (m % 8) ≠ 0 := by
  have hb := byteAt_rng s (m / 8)
  constructor
  · intro hq
    unfold tailBad at hq
    obtain ⟨q, h1, h2⟩ := List.any_eq_true.1 hq
    simp only [Bool.and_eq_true, decide_eq_true_eq] at h2
    have h1 : q < 8 * s.size := by simpa using h1
    have hm : m % 8 ≠ 0 := by omega
    refine ⟨hm, fun h0 => ?_⟩
    have e1 : q / 8 = m / 8 := by omega
    have h3 := h2.2
    unfold sbit at h3
    rw [e1] at h3
    have hlt : byteAt s (m / 8) < 2 ^ (m % 8) := by
      have hp := pow2_pos (m % 8)
      have := Int.emod_add_mul_ediv (byteAt s (m / 8)) (2 ^ (m % 8))
      rw [h0, Int.mul_zero] at this
      have := Int.emod_lt_of_pos (byteAt s (m / 8)) hp
      omega
    have hle : (2 : Int) ^ (m % 8) ≤ 2 ^ (q % 8) := by
      have := Nat.pow_le_pow_right (show 0 < 2 by decide) (show m % 8 ≤ q % 8 by omega)
      rw [← two_pow_cast, ← two_pow_cast]; omega
    rw [Int.ediv_eq_zero_of_lt hb.1 (by omega)] at h3
    omega
  · rintro ⟨h1, h2⟩
    obtain ⟨u, u1, u2, u3⟩ := byte_tail hb (by omega) h2
    refine tail_yes (q := 8 * (m / 8) + u) (by omega) (by omega) ?_
    unfold sbit
    rw [show (8 * (m / 8) + u) / 8 = m / 8 by omega, show (8 * (m / 8) + u) % 8 = u by omega]
    exact u3
theorem tail_byte (s : ByteArray) {a : Int} (ha : 0 ≤ a) : shrI .u8 (byteAt s (a.tdiv 8).toNat) (a.tmod 8) = byteAt s (a.toNat / 8) / 2 ^ (a.toNat % 8) ∧ (a.tmod 8 = 0 ↔ a.toNat % 8 = 0) := by
  have e1 : (a.tdiv 8).toNat = a.toNat / 8 := by rw [Int.tdiv_eq_ediv_of_nonneg ha]; omega
  have e2 : (a.tmod 8).toNat = a.toNat % 8 := by rw [Int.tmod_eq_emod_of_nonneg ha]; omega
  have e3 : 0 ≤ a.tmod 8 ∧ a.tmod 8 < 8 := by rw [Int.tmod_eq_emod_of_nonneg ha]; omega
  rw [shr_div8 e3, e1, e2]
  exact ⟨rfl, by omega⟩
abbrev c_unpack_ok : Ct := .fn [.str, .int .i64, .int .i64] (some (fun (s : ByteArray) (n : Int) (w : Int) => (s.size ≤ 4611686018427387904))) (fun (s : ByteArray) (n : Int) (w : Int) => .tup [.list (.int .u64), .int .i64] ((unpackR s n w).1, (unpackR s n w).2, ()))
set_option maxRecDepth 100000 in
set_option maxHeartbeats 4000000 in
theorem unpack_ok : CtOk Tryz.prog 80 c_unpack_ok := by
  refine CtOk.fn tb8_ok mixed [] [] rfl rfl ?_
  rintro ⟨(s : ByteArray), (n : Int), (w : Int), _⟩ hpre
  replace hpre := hpre _ rfl
  dsimp only [cu] at hpre
  have hs := hpre
  refine ⟨[(0, 20, LA.mk [.sl 35 (.int .i64), .sl 9 (.int .i64), .ar 0 (.int .u64) 49] (fun y => Tag 6 ∧ cu [.int .i64, .int .i64, .list (.int .u64)] (fun (i : Int) (a : Int) (M : List Int) => (0 ≤ i ∧ i ≤ n) ∧ (a = i * w) ∧ (M = gL (sbit s) a.toNat w.toNat n.toNat)) y) (cu [.int .i64, .int .i64, .list (.int .u64)] (fun (i : Int) (a : Int) (M : List Int) => ((n : Int) - i).toNat)) (cu [.int .i64, .int .i64, .list (.int .u64)] (fun (i : Int) (a : Int) (M : List Int) => ([(0, 26, LA.mk [.sl 39 (.int .i64), .sl 9 (.int .i64), .ar 0 (.int .u64) 49] (fun y => Tag 7 ∧ cu [.int .i64, .int .i64, .list (.int .u64)] (fun (k : Int) (b : Int) (O : List Int) => (0 ≤ k ∧ k ≤ w) ∧ (b = i * w + k) ∧ (O = gL (sbit s) b.toNat w.toNat n.toNat)) y) (cu [.int .i64, .int .i64, .list (.int .u64)] (fun (k : Int) (b : Int) (O : List Int) => ((w : Int) - k).toNat)) (cu [.int .i64, .int .i64, .list (.int .u64)] (fun (k : Int) (b : Int) (O : List Int) => ([] : List (Nat × Nat × LA)))))] : List (Nat × Nat × LA)))))], ?_⟩
  repeat' (first
    | (
 with_reducible refine Side.mk ⟨(⟨⟩ : Tag 6), ?_⟩
 dsimp only [cu, joinT, ckTys, gts, Prod.eta, List.nil_append]
 refine ⟨?_, ?_, ?_⟩
 · first
   | (omega)
   | (
  have hpb := (permB_iff n w).1 (by first | assumption | simp_all)
  have hne := need_eq hpb
  omega)
 · first
   | (omega)
   | (rw [step_mul]; omega)
 · first
   | (exact (gL_zero _ _ _).symm)
   | (rw [hO]))
    | (
 with_reducible refine Side.mk ⟨(⟨⟩ : Tag 7), ?_⟩
 dsimp only [cu, joinT, ckTys, gts, Prod.eta, List.nil_append]
 refine ⟨?_, ?_, ?_⟩
 · first
   | (omega)
   | (
  have hpb := (permB_iff n w).1 (by first | assumption | simp_all)
  have hne := need_eq hpb
  omega)
 · first
   | (rw [ha]; omega)
   | (omega)
 · first
   | (exact hM)
   | (
  have hpb := (permB_iff n w).1 (by first | assumption | simp_all)
  have hne := need_eq hpb
  have hix := idx_lt (i := i) (n := n) (k := k) (w := w) (by omega) (by omega) (by omega)
  have hi0 : 0 ≤ i * w := Int.mul_nonneg (by omega) (by omega)
  rw [hO]
  obtain ⟨q1, q2⟩ := bit_s8 s (a := b) (by omega)
  obtain ⟨p1, p2⟩ := place_of (i := i) (k := k) (w := w) (by omega)
  rw [← hb] at p1 p2
  refine unpack_set (sbit01 _) (by omega) (by omega) (by omega) (by omega) p1 p2 ?_
  rw [q1]
  exact u64_id (by omega)))
    | (
 with_reducible refine Side.mk ?_
 (try dsimp only [cu, joinT, ckTys, gts, loK, hiK, Prod.eta, List.nil_append])
 first
 | (done)
 | (with_reducible rfl)
 | (omega)
 | (exact Eq.refl _)
 | (simp only [List.length_append, List.length_cons, List.length_nil]; omega)
 | (
  have hpb := (permB_iff n w).1 (by first | assumption | simp_all)
  have hne := need_eq hpb
  omega)
 | (simp only [hM, gL_len]; done)
 | (simp only [hO, gL_len]; done)
 | (
  have hpb := (permB_iff n w).1 (by first | assumption | simp_all)
  have hne := need_eq hpb
  first
  | (
   have hix := idx_lt (i := i) (n := n) (k := k) (w := w) (by omega) (by omega) (by omega)
   have hi0 : 0 ≤ i * w := Int.mul_nonneg (by omega) (by omega)
   (try rw [Int.tdiv_eq_ediv_of_nonneg (by omega)])
   (try rw [Int.tmod_eq_emod_of_nonneg (by omega)])
   first
   | (
    (try simp only [hO, gL_len])
    omega)
   | (omega))
  | (rw [gL_len]; omega)
  | (
   (try rw [Int.tdiv_eq_ediv_of_nonneg (by omega)])
   (try rw [Int.tmod_eq_emod_of_nonneg (by omega)])
   omega)
  | (
   have hin : i = n := by omega
   rw [hin] at ha
   rw [Int.tdiv_eq_ediv_of_nonneg (by omega)]
   rw [Int.tmod_eq_emod_of_nonneg (by omega)] at *
   omega)
  | (
   have hi0 : 0 ≤ i * w := Int.mul_nonneg (by omega) (by omega)
   rw [Int.tmod_eq_emod_of_nonneg (by omega)]; omega)))
    | (conv => whnf
       first
        | done
        | exact trivial
        | with_reducible refine NilBr.mk (fun h => ?_) ?_
        | with_reducible first | refine w_andS ?_ ?_ | refine w_andL ?_ ?_ | refine w_kern (by kernel_rfl) ?_ | refine w_true ?_ | refine w_nd ?_ ?_ | refine w_in ?_ ?_ | refine w_and ?_ ?_
        | ((with_reducible first | refine w_brN (fun h => ?_) (fun h => ?_) | refine w_brD (fun h => ?_) (fun h => ?_) | refine w_br (fun h => ?_) (fun h => ?_)) <;> (try dsimp only [cu, Prod.eta, List.nil_append] at h) <;> (try (exfalso; omega; done)))
        | (
 intro yy (hy : Tag 6 ∧ _)
 obtain ⟨(i : Int), (a : Int), (M : List Int), _⟩ := yy
 replace hy := hy.2
 dsimp only [cu, joinT, ckTys, gts, Prod.eta, List.nil_append] at hy
 obtain ⟨hi, ha, hM⟩ := hy)
        | (
 intro yy (hy : Tag 7 ∧ _)
 obtain ⟨(k : Int), (b : Int), (O : List Int), _⟩ := yy
 replace hy := hy.2
 dsimp only [cu, joinT, ckTys, gts, Prod.eta, List.nil_append] at hy
 obtain ⟨hk, hb, hO⟩ := hy)))
  all_goals (
 with_reducible refine Leaf.mk ?_
 (try dsimp only [cu, joinT, ckTys, gts, Prod.eta, List.nil_append] at *)
 first
 | (done)
 | (
  have q : ¬ permB n w = true := by simp_all; done
  rw [unpackR, if_pos q])
 | (
  have h1 : ¬ ¬ permB n w = true := by simp_all; done
  first
  | (
   have h2 : (s.size : Int) < needR n w := by omega
   rw [unpackR, if_neg h1, if_pos h2])
  | (
   have h2 : ¬ (s.size : Int) < needR n w := by omega
   have h3 : (s.size : Int) > needR n w := by omega
   rw [unpackR, if_neg h1, if_neg h2, if_pos h3]))
 | (
  have hpb := (permB_iff n w).1 (by first | assumption | simp_all)
  have hne := need_eq hpb
  have hin : i = n := by omega
  rw [hin] at ha
  obtain ⟨t1, t2⟩ := tail_byte s (a := a) (by omega)
  have hsz : s.size = ((n * w).toNat + 7) / 8 := by omega
  have ht := tail_iff hsz
  rw [← ha] at ht
  have h1 : ¬ ¬ permB n w = true := by simp_all; done
  have h2 : ¬ (s.size : Int) < needR n w := by omega
  have h3 : ¬ (s.size : Int) > needR n w := by omega
  first
  | (
   have h4 : tailBad s (n * w).toNat = true := by
     rw [← ha]
     refine ht.2 ⟨fun q => ?_, fun q => ?_⟩
     · exact absurd (t2.2 q) (by assumption)
     · rw [← t1] at q; exact absurd q (by assumption)
   rw [unpackR, if_neg h1, if_neg h2, if_neg h3, if_pos h4])
  | (
   have h4 : ¬ tailBad s (n * w).toNat = true := by
     rw [← ha]
     intro q
     obtain ⟨g1, g2⟩ := ht.1 q
     rw [← t1] at g2
     simp_all
   rw [unpackR, if_neg h1, if_neg h2, if_neg h3, if_neg h4]
   (try rw [hM, ha]))))
abbrev tb9 : Tbl := (80, c_unpack_ok) :: tb8
theorem tb9_ok : TblOk Tryz.prog tb9 := TblOk.cons unpack_ok tb8_ok


def putF : Nat → Int → List Int
  | 0, v => [v]
  | n + 1, v => if v < 128 then [v] else (v % 128 + 128) :: putF n (v / 128)
/-- The groups of a number. -/
def put (v : Int) : List Int := putF 9 v
theorem putF_len : ∀ (n : Nat) (v : Int), (putF n v).length ≤ n + 1 ∧ 1 ≤ (putF n v).length
  | 0, v => by simp [putF]
  | n + 1, v => by
    unfold putF
    split
    · simp
    · have := putF_len n (v / 128); simp; omega
theorem put_len (v : Int) : (put v).length ≤ 10 ∧ 1 ≤ (put v).length := putF_len 9 v
theorem putF_more : ∀ (n : Nat) (v : Int), 0 ≤ v → v < 128 ^ (n + 1) → ∀ m, n ≤ m → putF m v = putF n v
  | 0, v, h0, h, m, _ => by
    have : v < 128 := by simpa using h
    cases m with
    | zero => rfl
    | succ m => simp [putF, this]
  | n + 1, v, h0, h, 0, hm => by omega
  | n + 1, v, h0, h, m + 1, hm => by
    unfold putF
    split
    · rfl
    · rw [putF_more n (v / 128) (Int.ediv_nonneg h0 (by decide)) (by
        rw [Int.pow_succ] at h
        exact Int.ediv_lt_of_lt_mul (by decide) h) m (by omega)]
theorem put_step {v : Int} (h : 0 ≤ v ∧ v < 18446744073709551616) (h1 : ¬ v < 128) : put v = (v % 128 + 128) :: put (v / 128) := by
  have e : put v = (v % 128 + 128) :: putF 8 (v / 128) := by unfold put; rw [putF, if_neg h1]
  rw [e, put, putF_more 8 (v / 128) (Int.ediv_nonneg h.1 (by decide)) (by
    have : (128 : Int) ^ (8 + 1) = 9223372036854775808 := by decide
    rw [this]; omega) 9 (by omega)]
theorem put_last {v : Int} (h1 : v < 128) : put v = [v] := by unfold put; rw [putF, if_pos h1]
theorem put_byte {v : Int} (h : 0 ≤ v ∧ v < 18446744073709551616) (h1 : ¬ v < 128) : put v = bOr .u8 (IntKind.u8.wrap v) 128 :: put (shrI .u64 v 7) := by
  rw [put_step h h1, shr7, u8_mod, or128 (by omega)]
  rw [show v % 256 % 128 = v % 128 by omega]
theorem put_lastb {v : Int} (h : 0 ≤ v) (h1 : v < 128) : put v = [IntKind.u8.wrap v] := by rw [put_last h1, u8_id (by omega)]

abbrev c_put_ok : Ct := .fn [.int .u64] (some (fun (v0 : Int) => (0 ≤ v0 ∧ v0 < 18446744073709551616))) (fun (v0 : Int) => .d .str (ofInts (put v0)))
set_option maxRecDepth 100000 in
set_option maxHeartbeats 4000000 in
theorem put_ok : CtOk Tryz.prog 18 c_put_ok := by
  refine CtOk.fn tb9_ok mixed [] [] rfl rfl ?_
  rintro ⟨(v0 : Int), _⟩ hpre
  replace hpre := hpre _ rfl
  dsimp only [cu] at hpre
  have hv0 := hpre
  refine ⟨[(0, 4, LA.mk [.sl 0 (.int .u64), .lst 3 (.int .u8) 5] (fun y => Tag 8 ∧ cu [.int .u64, .list (.int .u8)] (fun (v : Int) (M : List Int) => (0 ≤ v ∧ v < 18446744073709551616) ∧ (put v0 = M ++ put v)) y) (cu [.int .u64, .list (.int .u8)] (fun (v : Int) (M : List Int) => v.toNat)) (cu [.int .u64, .list (.int .u8)] (fun (v : Int) (M : List Int) => ([] : List (Nat × Nat × LA)))))], ?_⟩
  repeat' (first
    | (
 with_reducible refine Side.mk ⟨(⟨⟩ : Tag 8), ?_⟩
 dsimp only [cu, joinT, ckTys, gts, Prod.eta, List.nil_append]
 refine ⟨?_, ?_⟩
 · first
   | (omega)
   | (
  have h7 := shr7 v
  omega)
 · first
   | (simp; done)
   | (rw [hb, put_byte hv (by omega)]; simp))
    | (
 with_reducible refine Side.mk ?_
 (try dsimp only [cu, joinT, ckTys, gts, loK, hiK, Prod.eta, List.nil_append])
 first
 | (done)
 | (with_reducible rfl)
 | (omega)
 | (exact Eq.refl _)
 | (simp only [List.length_append, List.length_cons, List.length_nil]; omega)
 | (
  have h7 := shr7 v
  omega)
 | (
  have hb2 := congrArg List.length hb
  have := put_len v0
  have := put_len v
  simp only [List.length_append] at hb2
  (try simp only [List.length_cons, List.length_nil])
  omega))
    | (conv => whnf
       first
        | done
        | exact trivial
        | with_reducible refine NilBr.mk (fun h => ?_) ?_
        | with_reducible first | refine w_andS ?_ ?_ | refine w_andL ?_ ?_ | refine w_kern (by kernel_rfl) ?_ | refine w_true ?_ | refine w_nd ?_ ?_ | refine w_in ?_ ?_ | refine w_and ?_ ?_
        | ((with_reducible first | refine w_brN (fun h => ?_) (fun h => ?_) | refine w_brD (fun h => ?_) (fun h => ?_) | refine w_br (fun h => ?_) (fun h => ?_)) <;> (try dsimp only [cu, Prod.eta, List.nil_append] at h) <;> (try (exfalso; omega; done)))
        | (
 intro yy (hy : Tag 8 ∧ _)
 obtain ⟨(v : Int), (M : List Int), _⟩ := yy
 replace hy := hy.2
 dsimp only [cu, joinT, ckTys, gts, Prod.eta, List.nil_append] at hy
 obtain ⟨hv, hb⟩ := hy)))
  all_goals (
 with_reducible refine Leaf.mk ?_
 (try dsimp only [cu, joinT, ckTys, gts, Prod.eta, List.nil_append] at *)
 first
 | (done)
 | (rw [hb, put_lastb hv.1 (by omega)]))
abbrev tb10 : Tbl := (18, c_put_ok) :: tb9
theorem tb10_ok : TblOk Tryz.prog tb10 := TblOk.cons put_ok tb9_ok

abbrev c_rput_ok : Ct := .fn [.int .u64] (some (fun (v0 : Int) => (0 ≤ v0 ∧ v0 < 18446744073709551616))) (fun (v0 : Int) => .d .str (ofInts (put v0)))
set_option maxRecDepth 100000 in
set_option maxHeartbeats 4000000 in
theorem rput_ok : CtOk Tryz.prog 41 c_rput_ok := by
  refine CtOk.fn tb10_ok mixed [] [] rfl rfl ?_
  rintro ⟨(v0 : Int), _⟩ hpre
  replace hpre := hpre _ rfl
  dsimp only [cu] at hpre
  have hv0 := hpre
  refine ⟨[(0, 4, LA.mk [.sl 0 (.int .u64), .sl 3 .str] (fun y => Tag 9 ∧ cu [.int .u64, .str] (fun (v : Int) (x : ByteArray) => (0 ≤ v ∧ v < 18446744073709551616) ∧ (ofInts (put v0) = x ++ ofInts (put v))) y) (cu [.int .u64, .str] (fun (v : Int) (x : ByteArray) => v.toNat)) (cu [.int .u64, .str] (fun (v : Int) (x : ByteArray) => ([] : List (Nat × Nat × LA)))))], ?_⟩
  repeat' (first
    | (
 with_reducible refine Side.mk ⟨(⟨⟩ : Tag 9), ?_⟩
 dsimp only [cu, joinT, ckTys, gts, Prod.eta, List.nil_append]
 refine ⟨?_, ?_⟩
 · first
   | (omega)
   | (
  have h7 := shr7 v
  omega)
 · first
   | (rw [show (⟨#[]⟩ : ByteArray) = ByteArray.empty from rfl, ByteArray.empty_append])
   | (rw [hb, put_byte hv (by omega), ByteArray.append_assoc, ← ofInts_app]; rfl))
    | (
 with_reducible refine Side.mk ?_
 (try dsimp only [cu, joinT, ckTys, gts, loK, hiK, Prod.eta, List.nil_append])
 first
 | (done)
 | (with_reducible rfl)
 | (omega)
 | (exact Eq.refl _)
 | (simp only [List.length_append, List.length_cons, List.length_nil]; omega)
 | (
  have h7 := shr7 v
  omega)
 | (
  have hb2 := congrArg ByteArray.size hb
  have := put_len v0
  have := put_len v
  simp only [ByteArray.size_append, ofInts_len, List.length_cons, List.length_nil] at hb2 ⊢
  omega))
    | (conv => whnf
       first
        | done
        | exact trivial
        | with_reducible refine NilBr.mk (fun h => ?_) ?_
        | with_reducible first | refine w_andS ?_ ?_ | refine w_andL ?_ ?_ | refine w_kern (by kernel_rfl) ?_ | refine w_true ?_ | refine w_nd ?_ ?_ | refine w_in ?_ ?_ | refine w_and ?_ ?_
        | ((with_reducible first | refine w_brN (fun h => ?_) (fun h => ?_) | refine w_brD (fun h => ?_) (fun h => ?_) | refine w_br (fun h => ?_) (fun h => ?_)) <;> (try dsimp only [cu, Prod.eta, List.nil_append] at h) <;> (try (exfalso; omega; done)))
        | (
 intro yy (hy : Tag 9 ∧ _)
 obtain ⟨(v : Int), (x : ByteArray), _⟩ := yy
 replace hy := hy.2
 dsimp only [cu, joinT, ckTys, gts, Prod.eta, List.nil_append] at hy
 obtain ⟨hv, hb⟩ := hy)))
  all_goals (
 with_reducible refine Leaf.mk ?_
 (try dsimp only [cu, joinT, ckTys, gts, Prod.eta, List.nil_append] at *)
 first
 | (done)
 | (rw [hb, put_lastb hv.1 (by omega)]))
abbrev tb11 : Tbl := (41, c_rput_ok) :: tb10
theorem tb11_ok : TblOk Tryz.prog tb11 := TblOk.cons rput_ok tb10_ok


def gv (v b k : Int) : Int := bOr .u64 v (shlI .u64 (b % 128) (7 * k))
def getGo (s : ByteArray) (at' : Int) : Nat → Int → Int → Int × Int × Int
  | 0, _, _ => (0, 0, 8)
  | n + 1, k, v => if k ≥ s.size - at' then (0, 0, 10) else if k = 9 ∧ byteAt s (at' + k).toNat > 1 then (0, 0, 8)
    else if byteAt s (at' + k).toNat ≥ 128 then getGo s at' n (k + 1) (gv v (byteAt s (at' + k).toNat) k)
    else if byteAt s (at' + k).toNat = 0 ∧ k > 0 then (0, 0, 2) else (gv v (byteAt s (at' + k).toNat) k, at' + k + 1, 0)
termination_by n _ _ => n
def getR (s : ByteArray) (at' : Int) : Int × Int × Int := if at' < 0 ∨ at' > s.size then (0, 0, 4) else getGo s at' 10 0 0
theorem getGo_step {s : ByteArray} {a k v : Int} (h : 0 ≤ k ∧ k < 10) : getGo s a (10 - k).toNat k v = if k ≥ s.size - a then (0, 0, 10) else if k = 9 ∧ byteAt s (a + k).toNat > 1 then (0, 0, 8)
    else if byteAt s (a + k).toNat ≥ 128 then getGo s a (10 - (k + 1)).toNat (k + 1) (gv v (byteAt s (a + k).toNat) k)
    else if byteAt s (a + k).toNat = 0 ∧ k > 0 then (0, 0, 2) else (gv v (byteAt s (a + k).toNat) k, a + k + 1, 0) := by
  rw [show (10 - k).toNat = (10 - (k + 1)).toNat + 1 by omega, getGo]
theorem gv_andn (s : ByteArray) (v k : Int) (i : Nat) : bOr .u64 v (shlI .u64 (bAndN .u8 (byteAt s i) 128) (7 * k)) = gv v (byteAt s i) k := by rw [andn128 (byteAt_rng s i)]; rfl
theorem and_rng (s : ByteArray) (i : Nat) : 0 ≤ bAnd .u8 (byteAt s i) 127 ∧ bAnd .u8 (byteAt s i) 127 < 256 := u8_wrap _
theorem andn_rng (s : ByteArray) (i : Nat) : 0 ≤ bAndN .u8 (byteAt s i) 128 ∧ bAndN .u8 (byteAt s i) 128 < 256 := u8_wrap _

abbrev c_get_ok : Ct := .fn [.str, .int .i64] (some (fun (s : ByteArray) (a : Int) => (s.size ≤ 4611686018427387904))) (fun (s : ByteArray) (a : Int) => .tup [.int .u64, .int .i64, .int .i64] ((getR s a).1, (getR s a).2.1, (getR s a).2.2, ()))
set_option maxRecDepth 100000 in
set_option maxHeartbeats 4000000 in
theorem get_ok : CtOk Tryz.prog 54 c_get_ok := by
  refine CtOk.fn tb11_ok mixed [(0, 11, 3)] [] rfl rfl ?_
  rintro ⟨(s : ByteArray), (a : Int), _⟩ hpre
  replace hpre := hpre _ rfl
  dsimp only [cu] at hpre
  have hs := hpre
  refine ⟨[(0, 10, LA.mk [.sl 18 (.int .i64), .sl 7 (.int .u64)] (fun y => Tag 10 ∧ cu [.int .i64, .int .u64] (fun (k : Int) (v : Int) => (0 ≤ k ∧ k ≤ 10) ∧ (getR s a = getGo s a (10 - k).toNat k v)) y) (cu [.int .i64, .int .u64] (fun (k : Int) (v : Int) => (10 - k).toNat)) (cu [.int .i64, .int .u64] (fun (k : Int) (v : Int) => ([] : List (Nat × Nat × LA)))))], ?_⟩
  repeat' (first
    | (
 with_reducible refine Side.mk ⟨(⟨⟩ : Tag 10), ?_⟩
 dsimp only [cu, joinT, ckTys, gts, Prod.eta, List.nil_append]
 refine ⟨?_, ?_⟩
 · omega
 · first
   | (
  rw [getR, if_neg (by omega)]
  rfl)
   | (
  rw [hg, getGo_step (k := k) (v := v) (by omega), gv_andn]
  rw [if_neg (by omega), if_neg (by omega), if_pos (by omega)]))
    | (
 with_reducible refine Side.mk ?_
 (try dsimp only [cu, joinT, ckTys, gts, loK, hiK, Prod.eta, List.nil_append])
 first
 | (done)
 | (with_reducible rfl)
 | (omega)
 | (exact Eq.refl _)
 | (simp only [List.length_append, List.length_cons, List.length_nil]; omega)
 | (
  have := andn_rng s (a + k).toNat
  have := and_rng s (a + k).toNat
  omega))
    | (conv => whnf
       first
        | done
        | exact trivial
        | with_reducible refine NilBr.mk (fun h => ?_) ?_
        | with_reducible first | refine w_andS ?_ ?_ | refine w_andL ?_ ?_ | refine w_kern (by kernel_rfl) ?_ | refine w_true ?_ | refine w_nd ?_ ?_ | refine w_in ?_ ?_ | refine w_and ?_ ?_
        | ((with_reducible first | refine w_brN (fun h => ?_) (fun h => ?_) | refine w_brD (fun h => ?_) (fun h => ?_) | refine w_br (fun h => ?_) (fun h => ?_)) <;> (try dsimp only [cu, Prod.eta, List.nil_append] at h) <;> (try (exfalso; omega; done)))
        | (
 intro yy (hy : Tag 10 ∧ _)
 obtain ⟨(k : Int), (v : Int), _⟩ := yy
 replace hy := hy.2
 dsimp only [cu, joinT, ckTys, gts, Prod.eta, List.nil_append] at hy
 obtain ⟨hk, hg⟩ := hy)))
  all_goals (
 with_reducible refine Leaf.mk ?_
 (try dsimp only [cu, joinT, ckTys, gts, Prod.eta, List.nil_append] at *)
 first
 | (done)
 | (rw [getR, if_pos (by omega)])
 | (
  simp only [hg, getGo_step (k := k) (v := v) (show 0 ≤ k ∧ k < 10 by omega)]
  simp [*]; done)
 | (
  simp only [hg, getGo_step (k := k) (v := v) (show 0 ≤ k ∧ k < 10 by omega), gv_andn]
  grind)
 | (rw [hg, show (10 - k).toNat = 0 by omega, getGo]))
abbrev tb12 : Tbl := (54, c_get_ok) :: tb11
theorem tb12_ok : TblOk Tryz.prog tb12 := TblOk.cons get_ok tb11_ok

theorem toInts_len (s : ByteArray) : (toInts s).length = s.size := by simp [toInts]
theorem toInts_get (s : ByteArray) (k : Nat) : (toInts s)[k]! = byteAt s k := by
  obtain ⟨d⟩ := s
  show (d.toList.map fun u => (u.toNat : Int))[k]! = ((d[k]!).toNat : Int)
  by_cases h : k < d.size
  · rw [getElem!_pos _ k (by simpa using h), getElem!_pos d k h]
    simp
  · rw [getElem!_neg _ k (by simpa using h), getElem!_neg d k h]
    rfl

theorem bOr64 {a c : Int} (ha : 0 ≤ a ∧ a < 18446744073709551616) (hc : 0 ≤ c ∧ c < 18446744073709551616) : bOr .u64 a c = ((a.toNat ||| c.toNat : Nat) : Int) := by
  have q : ∀ x : Int, 0 ≤ x ∧ x < 18446744073709551616 → (BitVec.ofInt IntKind.u64.bits x).toNat = x.toNat := by
    intro x hx
    rw [BitVec.toNat_ofInt]
    simp [IntKind.bits]; omega
  unfold bOr
  rw [BitVec.toNat_or, q a ha, q c hc]
  have : a.toNat ||| c.toNat < 2 ^ 64 := Nat.or_lt_two_pow (by omega) (by omega)
  exact u64_id (by omega)
theorem or_add (a b n : Nat) (h : a < 2 ^ n) : a ||| (b * 2 ^ n) = a + b * 2 ^ n := by
  have := Nat.shiftLeft_add_eq_or_of_lt h b
  rw [Nat.shiftLeft_eq] at this
  rw [Nat.or_comm, ← this]; omega
theorem shl64 {b : Int} {n : Nat} (hn : n ≤ 64) (h : 0 ≤ b * 2 ^ n ∧ b * 2 ^ n < 18446744073709551616) : shlI .u64 b n = b * 2 ^ n := by
  unfold shlI
  rw [show min ((n : Int)).toNat IntKind.u64.bits = n by simp [IntKind.bits]; omega]
  exact u64_id h
theorem or_shl64 {a b : Int} {n : Nat} (hn : n ≤ 64) (ha : 0 ≤ a ∧ a < 2 ^ n) (hb : 0 ≤ b) (h : a + b * 2 ^ n < 18446744073709551616) : bOr .u64 a (shlI .u64 b n) = a + b * 2 ^ n := by
  have h0 : 0 ≤ b * 2 ^ n := Int.mul_nonneg hb (Int.le_of_lt (Int.pow_pos (by decide)))
  rw [shl64 hn ⟨h0, by omega⟩, bOr64 (by omega) (by omega)]
  have e : (b * 2 ^ n).toNat = b.toNat * 2 ^ n := by
    obtain ⟨m, rfl⟩ := Int.eq_ofNat_of_zero_le hb
    have : ((m : Int) * 2 ^ n) = ((m * 2 ^ n : Nat) : Int) := by push_cast; rfl
    rw [this]; rfl
  have ha' : a.toNat < 2 ^ n := by
    have : ((2 ^ n : Nat) : Int) = 2 ^ n := by push_cast; rfl
    omega
  rw [e, or_add _ _ _ ha']
  have : ((b.toNat * 2 ^ n : Nat) : Int) = b * 2 ^ n := by push_cast; rw [Int.toNat_of_nonneg hb]
  omega
theorem pow128 (k : Nat) : (2 : Int) ^ (7 * k) = 128 ^ k := by
  rw [Int.pow_mul]; rfl
theorem gv_eq {v b : Int} {k : Nat} (hk : k ≤ 9) (hv : 0 ≤ v ∧ v < 128 ^ k) (h : v + b % 128 * 128 ^ k < 18446744073709551616) : gv v b k = v + b % 128 * 128 ^ k := by
  have := or_shl64 (a := v) (b := b % 128) (n := 7 * k) (by omega) (by rw [pow128]; exact hv) (by omega) (by rw [pow128]; exact h)
  rw [pow128] at this
  unfold gv
  rw [show (7 * (k : Int)) = ((7 * k : Nat) : Int) by push_cast; rfl]
  exact this
theorem toInts_rng {s : ByteArray} {b : Int} (h : b ∈ toInts s) : 0 ≤ b ∧ b < 256 := by
  unfold toInts at h
  obtain ⟨u, _, rfl⟩ := List.mem_map.1 h
  have := u.toNat_lt
  omega
theorem drop_byte {s : ByteArray} {i : Nat} (h : i < s.size) : (toInts s).drop i = byteAt s i :: (toInts s).drop (i + 1) := by
  have := drop_step (toInts s) (i : Int) (by rw [toInts_len]; omega)
  rw [toInts_get] at this
  simpa using this
theorem p128_pos (k : Nat) : (0 : Int) < 128 ^ k := Int.pow_pos (by decide)
theorem p128_succ (k : Nat) : (128 : Int) ^ (k + 1) = 128 ^ k * 128 := Int.pow_succ _ _
theorem p128_mono {k : Nat} (h : k ≤ 8) : (128 : Int) ^ k ≤ 72057594037927936 := by
  have h1 : k = 0 ∨ k = 1 ∨ k = 2 ∨ k = 3 ∨ k = 4 ∨ k = 5 ∨ k = 6 ∨ k = 7 ∨ k = 8 := by omega
  rcases h1 with rfl | rfl | rfl | rfl | rfl | rfl | rfl | rfl | rfl <;> decide
theorem getGo_sound (s : ByteArray) (a : Nat) : ∀ (n k : Nat) (v x e : Int), n + k = 10 → 0 ≤ v → v < 128 ^ k → getGo s a n k v = (x, e, 0) →
    ∃ u, 0 ≤ u ∧ x = v + u * 128 ^ k ∧ x < 18446744073709551616 ∧ e = a + k + (put u).length ∧ e ≤ s.size ∧ (toInts s).drop (a + k) = put u ++ (toInts s).drop e.toNat ∧ (0 < k → 0 < u)
  | 0, k, v, x, e, _, _, _, h => by simp [getGo] at h
  | n + 1, k, v, x, e, hk, h0, h1, h => by
    rw [getGo] at h
    have hp := p128_pos k
    split at h
    · simp at h
    · rename_i h2
      have hi : a + k < s.size := by omega
      rw [show ((a : Int) + (k : Int)).toNat = a + k by omega] at h
      have hb := byteAt_rng s (a + k)
      have hd := drop_byte hi
      generalize hbb : byteAt s (a + k) = b at h hb hd
      split at h
      · simp at h
      · rename_i h3
        split at h
        · rename_i h4
          have hk8 : k ≤ 8 := by omega
          have hm : b % 128 * 128 ^ k ≤ 127 * 128 ^ k := Int.mul_le_mul_of_nonneg_right (by omega) (Int.le_of_lt hp)
          have hpm := p128_mono hk8
          have hg := gv_eq (v := v) (b := b) (k := k) (by omega) ⟨h0, h1⟩ (by omega)
          have hg0 : 0 ≤ b % 128 * 128 ^ k := Int.mul_nonneg (by omega) (Int.le_of_lt hp)
          rw [hg, show ((k : Int) + 1) = ((k + 1 : Nat) : Int) by push_cast; rfl] at h
          obtain ⟨u, u0, u1, u2, u3, u4, u5, u6⟩ := getGo_sound s a n (k + 1) _ x e (by omega) (by omega) (by rw [p128_succ]; omega) h
          have up := u6 (by omega)
          have e1 : (b % 128 + 128 * u) * 128 ^ k = b % 128 * 128 ^ k + u * 128 ^ (k + 1) := by rw [p128_succ, Int.add_mul, Int.mul_comm 128 u, Int.mul_assoc, Int.mul_comm 128]
          have hle : b % 128 + 128 * u ≤ (b % 128 + 128 * u) * 128 ^ k := by
            have := Int.mul_le_mul_of_nonneg_left (show (1 : Int) ≤ 128 ^ k by omega) (show 0 ≤ b % 128 + 128 * u by omega)
            omega
          have hput : put (b % 128 + 128 * u) = b :: put u := by
            rw [put_step (by omega) (by omega), show (b % 128 + 128 * u) / 128 = u by omega, show (b % 128 + 128 * u) % 128 + 128 = b by omega]
          refine ⟨b % 128 + 128 * u, by omega, by omega, u2, ?_, u4, ?_, fun _ => by omega⟩
          · rw [hput]; simp; omega
          · rw [hput, hd, show a + k + 1 = a + (k + 1) by omega, u5]; rfl
        · rename_i h4
          split at h
          · simp at h
          · rename_i h5
            have hm : b % 128 = b := by omega
            have hbp : v + b % 128 * 128 ^ k < 18446744073709551616 := by
              rcases Nat.lt_or_ge k 9 with hk9 | hk9
              · have hpm := p128_mono (show k ≤ 8 by omega)
                have : b % 128 * 128 ^ k ≤ 127 * 128 ^ k := Int.mul_le_mul_of_nonneg_right (by omega) (Int.le_of_lt hp)
                omega
              · have h9 : k = 9 := by omega
                subst h9
                have : (128 : Int) ^ 9 = 9223372036854775808 := by decide
                rw [this] at h1 ⊢
                omega
            have hg := gv_eq (v := v) (b := b) (k := k) (by omega) ⟨h0, h1⟩ hbp
            injection h with q1 q2; injection q2 with q2 q3
            refine ⟨b, hb.1, by rw [← q1, hg, hm], by rw [← q1, hg]; exact hbp, by rw [put_last (by omega), ← q2]; simp, by omega, ?_, fun hk0 => by omega⟩
            rw [put_last (by omega), hd, ← q2, show ((a : Int) + (k : Int) + 1).toNat = a + k + 1 by omega]
            rfl
theorem getGo_complete (s : ByteArray) (a : Nat) : ∀ (n k : Nat) (v u : Int) (r : List Int), n + k = 10 → 0 ≤ v → v < 128 ^ k → 0 ≤ u → v + u * 128 ^ k < 18446744073709551616 → (0 < k → 0 < u) → (toInts s).drop (a + k) = put u ++ r →
    getGo s a n k v = (v + u * 128 ^ k, (a : Int) + k + (put u).length, 0)
  | 0, k, v, u, r, hk, h0, h1, u0, u1, u2, hd => by
    exfalso
    have h9 : k = 10 := by omega
    subst h9
    have : (128 : Int) ^ 10 = 1180591620717411303424 := by decide
    rw [this] at u1
    omega
  | n + 1, k, v, u, r, hk, h0, h1, u0, u1, u2, hd => by
    have hp := p128_pos k
    have hl : a + k < s.size := by
      rcases Nat.lt_or_ge (a + k) s.size with q | q
      · exact q
      · rw [List.drop_eq_nil_of_le (by rw [toInts_len]; exact q)] at hd
        have := congrArg List.length hd
        have := put_len u
        simp at *; omega
    have hdb := drop_byte hl
    have hb := byteAt_rng s (a + k)
    have hu9 : k = 9 → u ≤ 1 := by
      rintro rfl
      have : (128 : Int) ^ 9 = 9223372036854775808 := by decide
      rw [this] at u1; omega
    rw [getGo, if_neg (by omega), show ((a : Int) + (k : Int)).toNat = a + k by omega]
    by_cases hu : u < 128
    · rw [put_last hu] at hd ⊢
      have hbu : byteAt s (a + k) = u := by
        rw [hdb] at hd; injection hd
      rw [hbu, if_neg (by omega), if_neg (by omega), if_neg (by omega)]
      have hg := gv_eq (v := v) (b := u) (k := k) (by omega) ⟨h0, h1⟩ (by rw [show u % 128 = u by omega]; exact u1)
      rw [hg, show u % 128 = u by omega]
      simp
    · have hle : u ≤ u * 128 ^ k := by
        have := Int.mul_le_mul_of_nonneg_left (show (1 : Int) ≤ 128 ^ k by omega) u0
        omega
      rw [put_step (by omega) hu] at hd ⊢
      have hbu : byteAt s (a + k) = u % 128 + 128 ∧ (toInts s).drop (a + k + 1) = put (u / 128) ++ r := by
        rw [hdb] at hd; injection hd with q1 q2; exact ⟨q1, q2⟩
      have e1 : u * 128 ^ k = u % 128 * 128 ^ k + (u / 128) * 128 ^ (k + 1) := by
        rw [p128_succ, Int.mul_comm (128 ^ k) 128, ← Int.mul_assoc, ← Int.add_mul]
        congr 1; omega
      have hm0 : 0 ≤ (u / 128) * 128 ^ (k + 1) := Int.mul_nonneg (by omega) (Int.le_of_lt (p128_pos _))
      have hm1 : u % 128 * 128 ^ k ≤ 127 * 128 ^ k := Int.mul_le_mul_of_nonneg_right (by omega) (Int.le_of_lt hp)
      have hm2 : 0 ≤ u % 128 * 128 ^ k := Int.mul_nonneg (by omega) (Int.le_of_lt hp)
      have hg := gv_eq (v := v) (b := u % 128 + 128) (k := k) (by omega) ⟨h0, h1⟩ (by rw [show (u % 128 + 128) % 128 = u % 128 by omega]; omega)
      rw [hbu.1, if_neg (by omega), if_pos (by omega), hg, show (u % 128 + 128) % 128 = u % 128 by omega, show ((k : Int) + 1) = ((k + 1 : Nat) : Int) by push_cast; rfl]
      rw [getGo_complete s a n (k + 1) _ (u / 128) r (by omega) (by omega) (by rw [p128_succ]; omega) (by omega) (by omega) (fun _ => by omega) (by rw [← Nat.add_assoc]; exact hbu.2)]
      simp only [Prod.mk.injEq, List.length_cons]
      refine ⟨by omega, by push_cast; omega, trivial⟩
theorem getR_sound {s : ByteArray} {a v e : Int} (h : getR s a = (v, e, 0)) : 0 ≤ a ∧ a ≤ s.size ∧ 0 ≤ v ∧ v < 18446744073709551616 ∧ e = a + (put v).length ∧ e ≤ s.size ∧ (toInts s).drop a.toNat = put v ++ (toInts s).drop e.toNat := by
  unfold getR at h
  split at h
  · simp at h
  · rename_i hr
    obtain ⟨m, rfl⟩ := Int.eq_ofNat_of_zero_le (show 0 ≤ a by omega)
    obtain ⟨u, u0, u1, u2, u3, u4, u5, _⟩ := getGo_sound s m 10 0 0 v e rfl (by decide) (by decide) h
    have hu : v = u := by rw [u1]; simp
    subst hu
    refine ⟨by omega, by omega, u0, u2, ?_, u4, ?_⟩
    · simpa using u3
    · simpa using u5
theorem getR_complete {s : ByteArray} {a : Nat} {u : Int} {r : List Int} (h : 0 ≤ u ∧ u < 18446744073709551616) (hd : (toInts s).drop a = put u ++ r) : getR s a = (u, (a : Int) + (put u).length, 0) := by
  have hl : a ≤ s.size := by
    rcases Nat.lt_or_ge s.size a with q | q
    · rw [List.drop_eq_nil_of_le (by rw [toInts_len]; omega)] at hd
      have := congrArg List.length hd
      have := put_len u
      simp at *; omega
    · exact q
  unfold getR
  rw [if_neg (by omega)]
  have := getGo_complete s a 10 0 0 u r rfl (by decide) (by decide) h.1 (by simpa using h.2) (by omega) (by simpa using hd)
  simpa using this

theorem toInts_app (a b : ByteArray) : toInts (a ++ b) = toInts a ++ toInts b := by
  unfold toInts; simp
theorem toInts_ofInts {l : List Int} (h : ∀ b, b ∈ l → 0 ≤ b ∧ b < 256) : toInts (ofInts l) = l := by
  unfold toInts ofInts
  simp only [List.map_map]
  conv => rhs; rw [← List.map_id l]
  refine List.map_congr_left fun b hb => ?_
  have := h b hb
  show ((UInt8.ofNat b.toNat).toNat : Int) = b
  have hb' : b.toNat < 256 := by omega
  rw [UInt8.toNat_ofNat_of_lt' hb']
  omega
theorem toInts_inj {a b : ByteArray} (h : toInts a = toInts b) : a = b := by
  apply ByteArray.ext
  apply Array.ext'
  unfold toInts at h
  refine List.map_inj_right (f := fun u : UInt8 => (u.toNat : Int)) (fun x y hxy => ?_) |>.1 h
  exact UInt8.toNat_inj.1 (Int.ofNat.inj hxy)
theorem putF_rng : ∀ (n : Nat) (v : Int), 0 ≤ v → v < 128 ^ (n + 1) → ∀ b, b ∈ putF n v → 0 ≤ b ∧ b < 256
  | 0, v, h0, h, b, hb => by
    simp [putF] at hb
    have : v < 128 := by simpa using h
    rw [hb]; omega
  | n + 1, v, h0, h, b, hb => by
    unfold putF at hb
    split at hb
    · simp at hb; omega
    · rcases List.mem_cons.1 hb with q | q
      · omega
      · exact putF_rng n (v / 128) (Int.ediv_nonneg h0 (by decide)) (by
          rw [Int.pow_succ] at h
          exact Int.ediv_lt_of_lt_mul (by decide) h) b q
theorem put_rng {v : Int} (h : 0 ≤ v ∧ v < 18446744073709551616) : ∀ b, b ∈ put v → 0 ≤ b ∧ b < 256 :=
  putF_rng 9 v h.1 (by have : (128 : Int) ^ (9 + 1) = 1180591620717411303424 := by decide
                       rw [this]; omega)
theorem getR_rng (s : ByteArray) (a : Int) : 0 ≤ (getR s a).1 ∧ (getR s a).1 < 18446744073709551616 := by
  have go : ∀ (n : Nat) (k v : Int), 0 ≤ v ∧ v < 18446744073709551616 → 0 ≤ (getGo s a n k v).1 ∧ (getGo s a n k v).1 < 18446744073709551616 := by
    intro n
    induction n with
    | zero => intro k v h; simp [getGo]
    | succ n ih =>
      intro k v h
      rw [getGo]
      repeat' split
      · simp
      · simp
      · exact ih _ _ (u64_wrap _)
      · simp
      · exact u64_wrap _
  unfold getR
  split
  · simp
  · exact go _ _ _ (by decide)

end Go.Proofs.YtlamfjhhjfgemaaGreat
