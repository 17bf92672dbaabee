/- Contracts of unpacking. -/
import Derived.Test.YthomnlfmamagcaaPack
namespace Go.Proofs.Ythomnlfmamagcaa
open Go.Abs
set_option linter.unusedVariables false
set_option linter.unusedSimpArgs false


def tailBad (s : ByteArray) (m : Nat) : Bool := (List.range (8 * s.size)).any fun q => decide (m ≤ q) && decide (sbit s q = 1)
def unpackR (s : ByteArray) (n w : Int) : List Int × Int :=
  if ¬ permB n w = true then ([], 4) else if (s.size : Int) < needR n w then ([], 10) else if (s.size : Int) > needR n w then ([], 2)
  else if tailBad s (n * w).toNat = true then ([], 2) else (gL (sbit s) (n * w).toNat w.toNat n.toNat, 0)
theorem byte_tail {B : Int} (hB : 0 ≤ B ∧ B < 256) {t : Nat} (ht : t < 8) (h : B / 2 ^ t ≠ 0) : ∃ u, t ≤ u ∧ u < 8 ∧ B / 2 ^ u % 2 = 1 := by
  have h1 := all256 (p := fun n => (List.range 8).all fun t => decide ((n : Int) / 2 ^ t = 0) || (List.range 8).any fun u => decide (t ≤ u) && decide ((n : Int) / 2 ^ u % 2 = 1)) (by kernel_rfl) hB
  have h2 := List.all_eq_true.1 h1 t (by simp; omega)
  rw [Int.toNat_of_nonneg hB.1] at h2
  rw [Bool.or_eq_true] at h2
  rcases h2 with q | q
  · exact absurd (of_decide_eq_true q) h
  · obtain ⟨u, hu, hq⟩ := List.any_eq_true.1 q
    simp only [Bool.and_eq_true, decide_eq_true_eq] at hq
    exact ⟨u, hq.1, by simpa using hu, hq.2⟩
theorem tail_yes {s : ByteArray} {m q : Nat} (h1 : m ≤ q) (h2 : q < 8 * s.size) (h3 : sbit s q = 1) : tailBad s m = true := by
  unfold tailBad
  rw [List.any_eq_true]
  exact ⟨q, by simpa using h2, by simp [h1, h3]⟩
theorem tail_no {s : ByteArray} {m : Nat} (h : ∀ q, m ≤ q → q < 8 * s.size → sbit s q ≠ 1) : ¬ tailBad s m = true := by
  intro hq
  unfold tailBad at hq
  obtain ⟨q, h1, h2⟩ := List.any_eq_true.1 hq
  simp only [Bool.and_eq_true, decide_eq_true_eq] at h2
  exact h q h2.1 (by simpa using h1) h2.2
theorem tail_iff {s : ByteArray} {m : Nat} (h : s.size = (m + 7) / 8) : tailBad s m = true ↔ m % 8 ≠ 0 ∧ byteAt s (m / 8) / 2 ^ (m % 8) ≠ 0 := by
  have hb := byteAt_rng s (m / 8)
  constructor
  · intro hq
    unfold tailBad at hq
    obtain ⟨q, h1, h2⟩ := List.any_eq_true.1 hq
    simp only [Bool.and_eq_true, decide_eq_true_eq] at h2
    have h1 : q < 8 * s.size := by simpa using h1
    have hm : m % 8 ≠ 0 := by omega
    refine ⟨hm, fun h0 => ?_⟩
    have e1 : q / 8 = m / 8 := by omega
    have h3 := h2.2
    unfold sbit at h3
    rw [e1] at h3
    have hlt : byteAt s (m / 8) < 2 ^ (m % 8) := by
      have hp := pow2_pos (m % 8)
      have := Int.emod_add_mul_ediv (byteAt s (m / 8)) (2 ^ (m % 8))
      rw [h0, Int.mul_zero] at this
      have := Int.emod_lt_of_pos (byteAt s (m / 8)) hp
      omega
    have hle : (2 : Int) ^ (m % 8) ≤ 2 ^ (q % 8) := by
      have := Nat.pow_le_pow_right (show 0 < 2 by decide) (show m % 8 ≤ q % 8 by omega)
      rw [← two_pow_cast, ← two_pow_cast]; omega
    rw [Int.ediv_eq_zero_of_lt hb.1 (by omega)] at h3
    omega
  · rintro ⟨h1, h2⟩
    obtain ⟨u, u1, u2, u3⟩ := byte_tail hb (by omega) h2
    refine tail_yes (q := 8 * (m / 8) + u) (by omega) (by omega) ?_
    unfold sbit
    rw [show (8 * (m / 8) + u) / 8 = m / 8 by omega, show (8 * (m / 8) + u) % 8 = u by omega]
    exact u3
theorem tail_byte (s : ByteArray) {a : Int} (ha : 0 ≤ a) : shrI .u8 (byteAt s (a.tdiv 8).toNat) (a.tmod 8) = byteAt s (a.toNat / 8) / 2 ^ (a.toNat % 8) ∧ (a.tmod 8 = 0 ↔ a.toNat % 8 = 0) := by
  have e1 : (a.tdiv 8).toNat = a.toNat / 8 := by rw [Int.tdiv_eq_ediv_of_nonneg ha]; omega
  have e2 : (a.tmod 8).toNat = a.toNat % 8 := by rw [Int.tmod_eq_emod_of_nonneg ha]; omega
  have e3 : 0 ≤ a.tmod 8 ∧ a.tmod 8 < 8 := by rw [Int.tmod_eq_emod_of_nonneg ha]; omega
  rw [shr_div8 e3, e1, e2]
  exact ⟨rfl, by omega⟩
theorem bit_s64 (s : ByteArray) {a : Int} (ha : 0 ≤ a) : bAnd .u64 (shrI .u64 (byteAt s (a.tdiv 8).toNat) (a.tmod 8)) 1 = sbit s a.toNat := by
  have e1 : (a.tdiv 8).toNat = a.toNat / 8 := by rw [Int.tdiv_eq_ediv_of_nonneg ha]; omega
  have e2 : (a.tmod 8).toNat = a.toNat % 8 := by rw [Int.tmod_eq_emod_of_nonneg ha]; omega
  have e3 : 0 ≤ a.tmod 8 ∧ a.tmod 8 < 8 := by rw [Int.tmod_eq_emod_of_nonneg ha]; omega
  have hb := byteAt_rng s (a.toNat / 8)
  have hp := pow2_pos (a.toNat % 8)
  have h0 : 0 ≤ byteAt s (a.toNat / 8) / 2 ^ (a.toNat % 8) := Int.ediv_nonneg hb.1 (by omega)
  have h1 : byteAt s (a.toNat / 8) / 2 ^ (a.toNat % 8) ≤ byteAt s (a.toNat / 8) := Int.ediv_le_self _ hb.1
  rw [e1, shr_div hb.1 (by omega), e2, and1_64 (by omega)]
  rfl
theorem quot_lt {j n w : Int} (h : j < n * w) (h0 : 0 ≤ j) (hw : 0 ≤ w) : 0 < w ∧ j / w < n ∧ 0 ≤ j / w ∧ 0 ≤ j % w ∧ j % w < w := by
  have hw0 : 0 < w := by
    rcases Int.lt_or_eq_of_le hw with q | q
    · exact q
    · rw [← q, Int.mul_zero] at h; omega
  exact ⟨hw0, Int.ediv_lt_of_lt_mul hw0 h, Int.ediv_nonneg h0 hw, Int.emod_nonneg _ (by omega), Int.emod_lt_of_pos _ hw0⟩
theorem natdiv {j w : Int} (h0 : 0 ≤ j) (hw : 0 < w) : j.toNat / w.toNat = (j / w).toNat ∧ j.toNat % w.toNat = (j % w).toNat := by
  obtain ⟨a, rfl⟩ := Int.eq_ofNat_of_zero_le h0
  obtain ⟨b, rfl⟩ := Int.eq_ofNat_of_zero_le (show 0 ≤ w by omega)
  refine ⟨?_, ?_⟩
  · rw [← Int.natCast_ediv]; rfl
  · rw [← Int.natCast_emod]; rfl

abbrev c_unpack_ok : Ct := .fn [.str, .int .i64, .int .i64] (some (fun (s : ByteArray) (n : Int) (w : Int) => (s.size ≤ 4611686018427387904))) (fun (s : ByteArray) (n : Int) (w : Int) => .tup [.list (.int .u64), .int .i64] ((unpackR s n w).1, (unpackR s n w).2, ()))
set_option maxRecDepth 100000 in
set_option maxHeartbeats 4000000 in
theorem unpack_ok : CtOk Try.prog 38 c_unpack_ok := by
  refine CtOk.fn tb8_ok mixed [] [] rfl rfl ?_
  rintro ⟨(s : ByteArray), (n : Int), (w : Int), _⟩ hpre
  replace hpre := hpre _ rfl
  dsimp only [cu] at hpre
  have hs := hpre
  refine ⟨[(0, 20, LA.mk [.sl 35 (.int .i64), .sl 9 (.int .i64), .ar 0 (.int .u64) 48] (fun y => Tag 6 ∧ cu [.int .i64, .int .i64, .list (.int .u64)] (fun (i : Int) (a : Int) (M : List Int) => (0 ≤ i ∧ i ≤ n) ∧ (a = i * w) ∧ (M = gL (sbit s) a.toNat w.toNat n.toNat)) y) (cu [.int .i64, .int .i64, .list (.int .u64)] (fun (i : Int) (a : Int) (M : List Int) => ((n : Int) - i).toNat)) (cu [.int .i64, .int .i64, .list (.int .u64)] (fun (i : Int) (a : Int) (M : List Int) => ([(0, 26, LA.mk [.sl 39 (.int .i64), .sl 9 (.int .i64), .ar 0 (.int .u64) 48] (fun y => Tag 7 ∧ cu [.int .i64, .int .i64, .list (.int .u64)] (fun (k : Int) (b : Int) (O : List Int) => (0 ≤ k ∧ k ≤ w) ∧ (b = i * w + k) ∧ (O = gL (sbit s) b.toNat w.toNat n.toNat)) y) (cu [.int .i64, .int .i64, .list (.int .u64)] (fun (k : Int) (b : Int) (O : List Int) => ((w : Int) - k).toNat)) (cu [.int .i64, .int .i64, .list (.int .u64)] (fun (k : Int) (b : Int) (O : List Int) => ([] : List (Nat × Nat × LA)))))] : List (Nat × Nat × LA)))))], ?_⟩
  repeat' (first
    | (with_reducible refine Side.mk ⟨(⟨⟩ : Tag 6), ?_⟩
       dsimp only [cu, joinT, ckTys, gts, Prod.eta, List.nil_append]
       refine ⟨?_, ?_, ?_⟩
       · first
         | (omega)
         | (have hpb := (permB_iff n w).1 (by first | assumption | simp_all)
            have hne := need_eq hpb
            omega)
       · first
         | (omega)
         | (rw [step_mul]; omega)
       · first
         | (exact (gL_zero _ _ _).symm)
         | (rw [hO]))
    | (with_reducible refine Side.mk ⟨(⟨⟩ : Tag 7), ?_⟩
       dsimp only [cu, joinT, ckTys, gts, Prod.eta, List.nil_append]
       refine ⟨?_, ?_, ?_⟩
       · first
         | (omega)
         | (have hpb := (permB_iff n w).1 (by first | assumption | simp_all)
            have hne := need_eq hpb
            omega)
       · first
         | (rw [ha]; omega)
         | (omega)
       · first
         | (exact hM)
         | (have hpb := (permB_iff n w).1 (by first | assumption | simp_all)
            have hne := need_eq hpb
            have hix := idx_lt (i := i) (n := n) (k := k) (w := w) (by omega) (by omega) (by omega)
            have hi0 : 0 ≤ i * w := Int.mul_nonneg (by omega) (by omega)
            rw [hO]
            obtain ⟨q1, q2⟩ := bit_s8 s (a := b) (by omega)
            obtain ⟨p1, p2⟩ := place_of (i := i) (k := k) (w := w) (by omega)
            rw [← hb] at p1 p2
            refine unpack_set (sbit01 _) (by omega) (by omega) (by omega) (by omega) p1 p2 ?_
            rw [q1]
            exact u64_id (by omega)))
    | (with_reducible refine Side.mk ?_
       (try dsimp only [cu, joinT, ckTys, gts, loK, hiK, Prod.eta, List.nil_append])
       first
       | (done)
       | (with_reducible rfl)
       | (omega)
       | (exact Eq.refl _)
       | (simp only [List.length_append, List.length_cons, List.length_nil]; omega)
       | (omega)
       | (have hpb := (permB_iff n w).1 (by first | assumption | simp_all)
          have hne := need_eq hpb
          omega)
       | (simp only [hM, gL_len]; done)
       | (simp only [hO, gL_len]; done)
       | (have hpb := (permB_iff n w).1 (by first | assumption | simp_all)
          have hne := need_eq hpb
          have hix := idx_lt (i := i) (n := n) (k := k) (w := w) (by omega) (by omega) (by omega)
          have hi0 : 0 ≤ i * w := Int.mul_nonneg (by omega) (by omega)
          (try rw [Int.tdiv_eq_ediv_of_nonneg (by omega)])
          (try rw [Int.tmod_eq_emod_of_nonneg (by omega)])
          (try simp only [hO, gL_len])
          omega)
       | (have hpb := (permB_iff n w).1 (by first | assumption | simp_all)
          have hne := need_eq hpb
          have hix := idx_lt (i := i) (n := n) (k := k) (w := w) (by omega) (by omega) (by omega)
          have hi0 : 0 ≤ i * w := Int.mul_nonneg (by omega) (by omega)
          (try rw [Int.tdiv_eq_ediv_of_nonneg (by omega)])
          (try rw [Int.tmod_eq_emod_of_nonneg (by omega)])
          omega)
       | (have hpb := (permB_iff n w).1 (by first | assumption | simp_all)
          have hne := need_eq hpb
          rw [gL_len]; omega)
       | (have hpb := (permB_iff n w).1 (by first | assumption | simp_all)
          have hne := need_eq hpb
          (try rw [Int.tdiv_eq_ediv_of_nonneg (by omega)])
          (try rw [Int.tmod_eq_emod_of_nonneg (by omega)])
          omega)
       | (have hpb := (permB_iff n w).1 (by first | assumption | simp_all)
          have hne := need_eq hpb
          have hin : i = n := by omega
          rw [hin] at ha
          rw [Int.tdiv_eq_ediv_of_nonneg (by omega)]
          rw [Int.tmod_eq_emod_of_nonneg (by omega)] at *
          omega)
       | (have hpb := (permB_iff n w).1 (by first | assumption | simp_all)
          have hne := need_eq hpb
          have hi0 : 0 ≤ i * w := Int.mul_nonneg (by omega) (by omega)
          rw [Int.tmod_eq_emod_of_nonneg (by omega)]; omega))
    | (conv => whnf
       first
        | done
        | exact trivial
        | with_reducible refine NilBr.mk (fun h => ?_) ?_
        | with_reducible refine w_andS ?_ ?_
        | with_reducible refine w_andL ?_ ?_
        | with_reducible refine w_kern (by kernel_rfl) ?_
        | with_reducible refine w_true ?_
        | with_reducible refine w_nd ?_ ?_
        | with_reducible refine w_in ?_ ?_
        | with_reducible refine w_and ?_ ?_
        | (with_reducible refine w_brN (fun h => ?_) (fun h => ?_) <;> (try dsimp only [cu, Prod.eta, List.nil_append] at h) <;> (try (exfalso; omega; done)))
        | (with_reducible refine w_brD (fun h => ?_) (fun h => ?_) <;> (try dsimp only [cu, Prod.eta, List.nil_append] at h) <;> (try (exfalso; omega; done)))
        | (with_reducible refine w_br (fun h => ?_) (fun h => ?_) <;> (try dsimp only [cu, Prod.eta, List.nil_append] at h) <;> (try (exfalso; omega; done)))
        | (intro yy (hy : Tag 6 ∧ _)
           obtain ⟨(i : Int), (a : Int), (M : List Int), _⟩ := yy
           replace hy := hy.2
           dsimp only [cu, joinT, ckTys, gts, Prod.eta, List.nil_append] at hy
           obtain ⟨hi, ha, hM⟩ := hy)
        | (intro yy (hy : Tag 7 ∧ _)
           obtain ⟨(k : Int), (b : Int), (O : List Int), _⟩ := yy
           replace hy := hy.2
           dsimp only [cu, joinT, ckTys, gts, Prod.eta, List.nil_append] at hy
           obtain ⟨hk, hb, hO⟩ := hy)))
  all_goals (with_reducible refine Leaf.mk ?_
             (try dsimp only [cu, joinT, ckTys, gts, Prod.eta, List.nil_append] at *)
             first
             | (done)
             | (have q : ¬ permB n w = true := by simp_all; done
                rw [unpackR, if_pos q])
             | (have h1 : ¬ ¬ permB n w = true := by simp_all; done
                have h2 : (s.size : Int) < needR n w := by omega
                rw [unpackR, if_neg h1, if_pos h2])
             | (have h1 : ¬ ¬ permB n w = true := by simp_all; done
                have h2 : ¬ (s.size : Int) < needR n w := by omega
                have h3 : (s.size : Int) > needR n w := by omega
                rw [unpackR, if_neg h1, if_neg h2, if_pos h3])
             | (have hpb := (permB_iff n w).1 (by first | assumption | simp_all)
                have hne := need_eq hpb
                have hin : i = n := by omega
                rw [hin] at ha
                obtain ⟨t1, t2⟩ := tail_byte s (a := a) (by omega)
                have hsz : s.size = ((n * w).toNat + 7) / 8 := by omega
                have ht := tail_iff hsz
                rw [← ha] at ht
                have h1 : ¬ ¬ permB n w = true := by simp_all; done
                have h2 : ¬ (s.size : Int) < needR n w := by omega
                have h3 : ¬ (s.size : Int) > needR n w := by omega
                have h4 : tailBad s (n * w).toNat = true := by
                  rw [← ha]
                  refine ht.2 ⟨fun q => ?_, fun q => ?_⟩
                  · exact absurd (t2.2 q) (by assumption)
                  · rw [← t1] at q; exact absurd q (by assumption)
                rw [unpackR, if_neg h1, if_neg h2, if_neg h3, if_pos h4])
             | (have hpb := (permB_iff n w).1 (by first | assumption | simp_all)
                have hne := need_eq hpb
                have hin : i = n := by omega
                rw [hin] at ha
                obtain ⟨t1, t2⟩ := tail_byte s (a := a) (by omega)
                have hsz : s.size = ((n * w).toNat + 7) / 8 := by omega
                have ht := tail_iff hsz
                rw [← ha] at ht
                have h1 : ¬ ¬ permB n w = true := by simp_all; done
                have h2 : ¬ (s.size : Int) < needR n w := by omega
                have h3 : ¬ (s.size : Int) > needR n w := by omega
                have h4 : ¬ tailBad s (n * w).toNat = true := by
                  rw [← ha]
                  intro q
                  obtain ⟨g1, g2⟩ := ht.1 q
                  rw [← t1] at g2
                  simp_all
                rw [unpackR, if_neg h1, if_neg h2, if_neg h3, if_neg h4]
                (try rw [hM, ha])))
abbrev tb9 : Tbl := (38, c_unpack_ok) :: tb8
theorem tb9_ok : TblOk Try.prog tb9 := TblOk.cons unpack_ok tb8_ok

abbrev c_runpack_ok : Ct := .fn [.str, .int .i64, .int .i64] (some (fun (s : ByteArray) (n : Int) (w : Int) => (s.size ≤ 288230376151711744))) (fun (s : ByteArray) (n : Int) (w : Int) => .tup [.list (.int .u64), .int .i64] ((unpackR s n w).1, (unpackR s n w).2, ()))
set_option maxRecDepth 100000 in
set_option maxHeartbeats 4000000 in
theorem runpack_ok : CtOk Try.prog 49 c_runpack_ok := by
  refine CtOk.fn tb9_ok mixed [] [] rfl rfl ?_
  rintro ⟨(s : ByteArray), (n : Int), (w : Int), _⟩ hpre
  replace hpre := hpre _ rfl
  dsimp only [cu] at hpre
  have hs := hpre
  refine ⟨[(0, 18, LA.mk [.sl 9 (.int .i64), .ar 0 (.int .u64) 48] (fun y => Tag 8 ∧ cu [.int .i64, .list (.int .u64)] (fun (j : Int) (M : List Int) => (0 ≤ j ∧ j ≤ 8 * s.size) ∧ (M = gL (sbit s) (min j (n * w)).toNat w.toNat n.toNat) ∧ (∀ q : Nat, (n * w) ≤ q → (q : Int) < j → sbit s q ≠ 1)) y) (cu [.int .i64, .list (.int .u64)] (fun (j : Int) (M : List Int) => (8 * (s.size : Int) - j).toNat)) (cu [.int .i64, .list (.int .u64)] (fun (j : Int) (M : List Int) => ([] : List (Nat × Nat × LA)))))], ?_⟩
  repeat' (first
    | (with_reducible refine Side.mk ⟨(⟨⟩ : Tag 8), ?_⟩
       dsimp only [cu, joinT, ckTys, gts, Prod.eta, List.nil_append]
       refine ⟨?_, ?_, ?_⟩
       · omega
       · first
         | (have hne := need_eq (n := n) (w := w) (by omega)
            rw [show (min 0 (n * w)).toNat = 0 by omega]; exact (gL_zero _ _ _).symm)
         | (have hne := need_eq (n := n) (w := w) (by omega)
            rw [hM, show min (j + 1) (n * w) = min j (n * w) by omega])
         | (have hne := need_eq (n := n) (w := w) (by omega)
            have hq := quot_lt (j := j) (n := n) (w := w) (by omega) (by omega) (by omega)
            obtain ⟨d1, d2⟩ := natdiv (j := j) (w := w) (by omega) (by omega)
            rw [hM, show min (j + 1) (n * w) = j + 1 by omega, show min j (n * w) = j by omega]
            rw [u64_id (n := j.tmod w) (by rw [Int.tmod_eq_emod_of_nonneg (by omega)]; omega), u64_id (n := j.tmod 8) (by rw [Int.tmod_eq_emod_of_nonneg (by omega)]; omega), u64_id (n := byteAt s (j.tdiv 8).toNat) (by have := byteAt_rng s (j.tdiv 8).toNat; omega), bit_s64 s (by omega), Int.tdiv_eq_ediv_of_nonneg (by omega), Int.tmod_eq_emod_of_nonneg (by omega)]
            exact unpack_set (sbit01 _) (by omega) (by omega) (by omega) (by omega) d1 d2 rfl)
       · first
         | (intro q h1 h2; omega)
         | (intro q h1 h2
            rcases Int.lt_or_le (q : Int) j with p | p
            · exact ht q h1 p
            · have e := bit_s64 s (a := j) (by omega)
              rw [u64_id (n := j.tmod 8) (by rw [Int.tmod_eq_emod_of_nonneg (by omega)]; omega), u64_id (n := byteAt s (j.tdiv 8).toNat) (by have := byteAt_rng s (j.tdiv 8).toNat; omega), e] at h
              rw [show q = j.toNat by omega]
              exact h)
         | (intro q h1 h2
            rcases Int.lt_or_le (q : Int) j with p | p
            · exact ht q h1 p
            · omega))
    | (with_reducible refine Side.mk ?_
       (try dsimp only [cu, joinT, ckTys, gts, loK, hiK, Prod.eta, List.nil_append])
       first
       | (done)
       | (with_reducible rfl)
       | (omega)
       | (exact Eq.refl _)
       | (simp only [List.length_append, List.length_cons, List.length_nil]; omega)
       | (omega)
       | (have hne := need_eq (n := n) (w := w) (by omega)
          omega)
       | (simp only [hM, gL_len]; done)
       | (rw [u64_id (n := j.tmod 8) (by rw [Int.tmod_eq_emod_of_nonneg (by omega)]; omega)]
          rw [Int.tmod_eq_emod_of_nonneg (by omega)]; omega)
       | (have hne := need_eq (n := n) (w := w) (by omega)
          have hq := quot_lt (j := j) (n := n) (w := w) (by omega) (by omega) (by omega)
          rw [u64_id (n := j.tmod w) (by rw [Int.tmod_eq_emod_of_nonneg (by omega)]; omega)]
          rw [Int.tmod_eq_emod_of_nonneg (by omega)]; omega)
       | (have hne := need_eq (n := n) (w := w) (by omega)
          have hq := quot_lt (j := j) (n := n) (w := w) (by omega) (by omega) (by omega)
          (try rw [Int.tdiv_eq_ediv_of_nonneg (by omega)])
          (try rw [Int.tmod_eq_emod_of_nonneg (by omega)])
          (try simp only [hM, gL_len])
          omega)
       | (have hne := need_eq (n := n) (w := w) (by omega)
          (try rw [Int.tdiv_eq_ediv_of_nonneg (by omega)])
          (try rw [Int.tmod_eq_emod_of_nonneg (by omega)])
          omega))
    | (conv => whnf
       first
        | done
        | exact trivial
        | with_reducible refine NilBr.mk (fun h => ?_) ?_
        | with_reducible refine w_andS ?_ ?_
        | with_reducible refine w_andL ?_ ?_
        | with_reducible refine w_kern (by kernel_rfl) ?_
        | with_reducible refine w_true ?_
        | with_reducible refine w_nd ?_ ?_
        | with_reducible refine w_in ?_ ?_
        | with_reducible refine w_and ?_ ?_
        | (with_reducible refine w_brN (fun h => ?_) (fun h => ?_) <;> (try dsimp only [cu, Prod.eta, List.nil_append] at h) <;> (try (exfalso; omega; done)))
        | (with_reducible refine w_brD (fun h => ?_) (fun h => ?_) <;> (try dsimp only [cu, Prod.eta, List.nil_append] at h) <;> (try (exfalso; omega; done)))
        | (with_reducible refine w_br (fun h => ?_) (fun h => ?_) <;> (try dsimp only [cu, Prod.eta, List.nil_append] at h) <;> (try (exfalso; omega; done)))
        | (intro yy (hy : Tag 8 ∧ _)
           obtain ⟨(j : Int), (M : List Int), _⟩ := yy
           replace hy := hy.2
           dsimp only [cu, joinT, ckTys, gts, Prod.eta, List.nil_append] at hy
           obtain ⟨hj, hM, ht⟩ := hy)))
  all_goals (with_reducible refine Leaf.mk ?_
             (try dsimp only [cu, joinT, ckTys, gts, Prod.eta, List.nil_append] at *)
             first
             | (done)
             | (have q : ¬ permB n w = true := fun q => by have := (permB_iff n w).1 q; omega
                rw [unpackR, if_pos q])
             | (have h1 : ¬ ¬ permB n w = true := fun q => q ((permB_iff n w).2 (by omega))
                have h2 : (s.size : Int) < needR n w := by omega
                rw [unpackR, if_neg h1, if_pos h2])
             | (have h1 : ¬ ¬ permB n w = true := fun q => q ((permB_iff n w).2 (by omega))
                have h2 : ¬ (s.size : Int) < needR n w := by omega
                have h3 : (s.size : Int) > needR n w := by omega
                rw [unpackR, if_neg h1, if_neg h2, if_pos h3])
             | (have hne := need_eq (n := n) (w := w) (by omega)
                have h1 : ¬ ¬ permB n w = true := fun q => q ((permB_iff n w).2 (by omega))
                have h2 : ¬ (s.size : Int) < needR n w := by omega
                have h3 : ¬ (s.size : Int) > needR n w := by omega
                have e := bit_s64 s (a := j) (by omega)
                rw [u64_id (n := j.tmod 8) (by rw [Int.tmod_eq_emod_of_nonneg (by omega)]; omega), u64_id (n := byteAt s (j.tdiv 8).toNat) (by have := byteAt_rng s (j.tdiv 8).toNat; omega), e] at h
                have h4 : tailBad s (n * w).toNat = true := tail_yes (q := j.toNat) (by omega) (by omega) h
                rw [unpackR, if_neg h1, if_neg h2, if_neg h3, if_pos h4])
             | (have hne := need_eq (n := n) (w := w) (by omega)
                have h1 : ¬ ¬ permB n w = true := fun q => q ((permB_iff n w).2 (by omega))
                have h2 : ¬ (s.size : Int) < needR n w := by omega
                have h3 : ¬ (s.size : Int) > needR n w := by omega
                have h4 : ¬ tailBad s (n * w).toNat = true := tail_no (fun q g1 g2 => ht q (by omega) (by omega))
                rw [unpackR, if_neg h1, if_neg h2, if_neg h3, if_neg h4]
                (try rw [hM, show min j (n * w) = n * w by omega])))
abbrev tb10 : Tbl := (49, c_runpack_ok) :: tb9
theorem tb10_ok : TblOk Try.prog tb10 := TblOk.cons runpack_ok tb9_ok

end Go.Proofs.Ythomnlfmamagcaa
