/- Contracts of the numbers of variable length. -/
import Derived.Test.YthomnlfmamagcaaUnpack
namespace Go.Proofs.Ythomnlfmamagcaa
open Go.Abs
set_option linter.unusedVariables false
set_option linter.unusedSimpArgs false


def putF : Nat → Int → List Int
  | 0, v => [v]
  | n + 1, v => if v < 128 then [v] else (v % 128 + 128) :: putF n (v / 128)
/-- The groups of a number. -/
def put (v : Int) : List Int := putF 9 v
theorem putF_len : ∀ (n : Nat) (v : Int), (putF n v).length ≤ n + 1 ∧ 1 ≤ (putF n v).length
  | 0, v => by simp [putF]
  | n + 1, v => by
    unfold putF
    split
    · simp
    · have := putF_len n (v / 128); simp; omega
theorem put_len (v : Int) : (put v).length ≤ 10 ∧ 1 ≤ (put v).length := putF_len 9 v
theorem putF_more : ∀ (n : Nat) (v : Int), 0 ≤ v → v < 128 ^ (n + 1) → ∀ m, n ≤ m → putF m v = putF n v
  | 0, v, h0, h, m, _ => by
    have : v < 128 := by simpa using h
    cases m with
    | zero => rfl
    | succ m => simp [putF, this]
  | n + 1, v, h0, h, 0, hm => by omega
  | n + 1, v, h0, h, m + 1, hm => by
    unfold putF
    split
    · rfl
    · rw [putF_more n (v / 128) (Int.ediv_nonneg h0 (by decide)) (by
        rw [Int.pow_succ] at h
        exact Int.ediv_lt_of_lt_mul (by decide) h) m (by omega)]
theorem put_step {v : Int} (h : 0 ≤ v ∧ v < 18446744073709551616) (h1 : ¬ v < 128) : put v = (v % 128 + 128) :: put (v / 128) := by
  have e : put v = (v % 128 + 128) :: putF 8 (v / 128) := by unfold put; rw [putF, if_neg h1]
  rw [e, put, putF_more 8 (v / 128) (Int.ediv_nonneg h.1 (by decide)) (by
    have : (128 : Int) ^ (8 + 1) = 9223372036854775808 := by decide
    rw [this]; omega) 9 (by omega)]
theorem put_last {v : Int} (h1 : v < 128) : put v = [v] := by unfold put; rw [putF, if_pos h1]
theorem put_byte {v : Int} (h : 0 ≤ v ∧ v < 18446744073709551616) (h1 : ¬ v < 128) : put v = bOr .u8 (IntKind.u8.wrap v) 128 :: put (shrI .u64 v 7) := by
  rw [put_step h h1, shr7, u8_mod, or128 (by omega)]
  rw [show v % 256 % 128 = v % 128 by omega]
theorem put_lastb {v : Int} (h : 0 ≤ v) (h1 : v < 128) : put v = [IntKind.u8.wrap v] := by rw [put_last h1, u8_id (by omega)]

abbrev c_put_ok : Ct := .fn [.int .u64] (some (fun (v0 : Int) => (0 ≤ v0 ∧ v0 < 18446744073709551616))) (fun (v0 : Int) => .d .str (ofInts (put v0)))
set_option maxRecDepth 100000 in
set_option maxHeartbeats 4000000 in
theorem put_ok : CtOk Try.prog 25 c_put_ok := by
  refine CtOk.fn tb10_ok mixed [] [] rfl rfl ?_
  rintro ⟨(v0 : Int), _⟩ hpre
  replace hpre := hpre _ rfl
  dsimp only [cu] at hpre
  have hv0 := hpre
  refine ⟨[(0, 4, LA.mk [.sl 0 (.int .u64), .lst 3 (.int .u8) 5] (fun y => Tag 9 ∧ cu [.int .u64, .list (.int .u8)] (fun (v : Int) (M : List Int) => (0 ≤ v ∧ v < 18446744073709551616) ∧ (put v0 = M ++ put v)) y) (cu [.int .u64, .list (.int .u8)] (fun (v : Int) (M : List Int) => v.toNat)) (cu [.int .u64, .list (.int .u8)] (fun (v : Int) (M : List Int) => ([] : List (Nat × Nat × LA)))))], ?_⟩
  repeat' (first
    | (with_reducible refine Side.mk ⟨(⟨⟩ : Tag 9), ?_⟩
       dsimp only [cu, joinT, ckTys, gts, Prod.eta, List.nil_append]
       refine ⟨?_, ?_⟩
       · first
         | (omega)
         | (have h7 := shr7 v
            omega)
       · first
         | (simp; done)
         | (rw [hb, put_byte hv (by omega)]; simp))
    | (with_reducible refine Side.mk ?_
       (try dsimp only [cu, joinT, ckTys, gts, loK, hiK, Prod.eta, List.nil_append])
       first
       | (done)
       | (with_reducible rfl)
       | (omega)
       | (exact Eq.refl _)
       | (simp only [List.length_append, List.length_cons, List.length_nil]; omega)
       | (have h7 := shr7 v
          omega)
       | (have hb2 := congrArg List.length hb
          have := put_len v0
          have := put_len v
          simp only [List.length_append] at hb2
          (try simp only [List.length_cons, List.length_nil])
          omega))
    | (conv => whnf
       first
        | done
        | exact trivial
        | with_reducible refine NilBr.mk (fun h => ?_) ?_
        | with_reducible refine w_andS ?_ ?_
        | with_reducible refine w_andL ?_ ?_
        | with_reducible refine w_kern (by kernel_rfl) ?_
        | with_reducible refine w_true ?_
        | with_reducible refine w_nd ?_ ?_
        | with_reducible refine w_in ?_ ?_
        | with_reducible refine w_and ?_ ?_
        | (with_reducible refine w_brN (fun h => ?_) (fun h => ?_) <;> (try dsimp only [cu, Prod.eta, List.nil_append] at h) <;> (try (exfalso; omega; done)))
        | (with_reducible refine w_brD (fun h => ?_) (fun h => ?_) <;> (try dsimp only [cu, Prod.eta, List.nil_append] at h) <;> (try (exfalso; omega; done)))
        | (with_reducible refine w_br (fun h => ?_) (fun h => ?_) <;> (try dsimp only [cu, Prod.eta, List.nil_append] at h) <;> (try (exfalso; omega; done)))
        | (intro yy (hy : Tag 9 ∧ _)
           obtain ⟨(v : Int), (M : List Int), _⟩ := yy
           replace hy := hy.2
           dsimp only [cu, joinT, ckTys, gts, Prod.eta, List.nil_append] at hy
           obtain ⟨hv, hb⟩ := hy)))
  all_goals (with_reducible refine Leaf.mk ?_
             (try dsimp only [cu, joinT, ckTys, gts, Prod.eta, List.nil_append] at *)
             first
             | (done)
             | (rw [hb, put_lastb hv.1 (by omega)]))
abbrev tb11 : Tbl := (25, c_put_ok) :: tb10
theorem tb11_ok : TblOk Try.prog tb11 := TblOk.cons put_ok tb10_ok

abbrev c_rput_ok : Ct := .fn [.int .u64] (some (fun (v0 : Int) => (0 ≤ v0 ∧ v0 < 18446744073709551616))) (fun (v0 : Int) => .d .str (ofInts (put v0)))
set_option maxRecDepth 100000 in
set_option maxHeartbeats 4000000 in
theorem rput_ok : CtOk Try.prog 32 c_rput_ok := by
  refine CtOk.fn tb11_ok mixed [] [] rfl rfl ?_
  rintro ⟨(v0 : Int), _⟩ hpre
  replace hpre := hpre _ rfl
  dsimp only [cu] at hpre
  have hv0 := hpre
  refine ⟨[(0, 4, LA.mk [.sl 0 (.int .u64), .sl 3 .str] (fun y => Tag 10 ∧ cu [.int .u64, .str] (fun (v : Int) (x : ByteArray) => (0 ≤ v ∧ v < 18446744073709551616) ∧ (ofInts (put v0) = x ++ ofInts (put v))) y) (cu [.int .u64, .str] (fun (v : Int) (x : ByteArray) => v.toNat)) (cu [.int .u64, .str] (fun (v : Int) (x : ByteArray) => ([] : List (Nat × Nat × LA)))))], ?_⟩
  repeat' (first
    | (with_reducible refine Side.mk ⟨(⟨⟩ : Tag 10), ?_⟩
       dsimp only [cu, joinT, ckTys, gts, Prod.eta, List.nil_append]
       refine ⟨?_, ?_⟩
       · first
         | (omega)
         | (have h7 := shr7 v
            omega)
       · first
         | (rw [show (⟨#[]⟩ : ByteArray) = ByteArray.empty from rfl, ByteArray.empty_append])
         | (rw [hb, put_byte hv (by omega), ByteArray.append_assoc, ← ofInts_app]; rfl))
    | (with_reducible refine Side.mk ?_
       (try dsimp only [cu, joinT, ckTys, gts, loK, hiK, Prod.eta, List.nil_append])
       first
       | (done)
       | (with_reducible rfl)
       | (omega)
       | (exact Eq.refl _)
       | (simp only [List.length_append, List.length_cons, List.length_nil]; omega)
       | (have h7 := shr7 v
          omega)
       | (have hb2 := congrArg ByteArray.size hb
          have := put_len v0
          have := put_len v
          simp only [ByteArray.size_append, ofInts_len, List.length_cons, List.length_nil] at hb2 ⊢
          omega))
    | (conv => whnf
       first
        | done
        | exact trivial
        | with_reducible refine NilBr.mk (fun h => ?_) ?_
        | with_reducible refine w_andS ?_ ?_
        | with_reducible refine w_andL ?_ ?_
        | with_reducible refine w_kern (by kernel_rfl) ?_
        | with_reducible refine w_true ?_
        | with_reducible refine w_nd ?_ ?_
        | with_reducible refine w_in ?_ ?_
        | with_reducible refine w_and ?_ ?_
        | (with_reducible refine w_brN (fun h => ?_) (fun h => ?_) <;> (try dsimp only [cu, Prod.eta, List.nil_append] at h) <;> (try (exfalso; omega; done)))
        | (with_reducible refine w_brD (fun h => ?_) (fun h => ?_) <;> (try dsimp only [cu, Prod.eta, List.nil_append] at h) <;> (try (exfalso; omega; done)))
        | (with_reducible refine w_br (fun h => ?_) (fun h => ?_) <;> (try dsimp only [cu, Prod.eta, List.nil_append] at h) <;> (try (exfalso; omega; done)))
        | (intro yy (hy : Tag 10 ∧ _)
           obtain ⟨(v : Int), (x : ByteArray), _⟩ := yy
           replace hy := hy.2
           dsimp only [cu, joinT, ckTys, gts, Prod.eta, List.nil_append] at hy
           obtain ⟨hv, hb⟩ := hy)))
  all_goals (with_reducible refine Leaf.mk ?_
             (try dsimp only [cu, joinT, ckTys, gts, Prod.eta, List.nil_append] at *)
             first
             | (done)
             | (rw [hb, put_lastb hv.1 (by omega)]))
abbrev tb12 : Tbl := (32, c_rput_ok) :: tb11
theorem tb12_ok : TblOk Try.prog tb12 := TblOk.cons rput_ok tb11_ok


def gv (v b k : Int) : Int := bOr .u64 v (shlI .u64 (b % 128) (7 * k))
def getGo (s : ByteArray) (at' : Int) : Nat → Int → Int → Int × Int × Int
  | 0, _, _ => (0, 0, 8)
  | n + 1, k, v => if k ≥ s.size - at' then (0, 0, 10) else if k = 9 ∧ byteAt s (at' + k).toNat > 1 then (0, 0, 8)
    else if byteAt s (at' + k).toNat ≥ 128 then getGo s at' n (k + 1) (gv v (byteAt s (at' + k).toNat) k)
    else if byteAt s (at' + k).toNat = 0 ∧ k > 0 then (0, 0, 2) else (gv v (byteAt s (at' + k).toNat) k, at' + k + 1, 0)
termination_by n _ _ => n
def getR (s : ByteArray) (at' : Int) : Int × Int × Int := if at' < 0 ∨ at' > s.size then (0, 0, 4) else getGo s at' 10 0 0
theorem getGo_step {s : ByteArray} {a k v : Int} (h : 0 ≤ k ∧ k < 10) : getGo s a (10 - k).toNat k v = if k ≥ s.size - a then (0, 0, 10) else if k = 9 ∧ byteAt s (a + k).toNat > 1 then (0, 0, 8)
    else if byteAt s (a + k).toNat ≥ 128 then getGo s a (10 - (k + 1)).toNat (k + 1) (gv v (byteAt s (a + k).toNat) k)
    else if byteAt s (a + k).toNat = 0 ∧ k > 0 then (0, 0, 2) else (gv v (byteAt s (a + k).toNat) k, a + k + 1, 0) := by
  rw [show (10 - k).toNat = (10 - (k + 1)).toNat + 1 by omega, getGo]
theorem gv_and (s : ByteArray) (v k : Int) (i : Nat) : bOr .u64 v (shlI .u64 (bAnd .u8 (byteAt s i) 127) (7 * k)) = gv v (byteAt s i) k := by rw [and127 (byteAt_rng s i)]; rfl
theorem gv_andn (s : ByteArray) (v k : Int) (i : Nat) : bOr .u64 v (shlI .u64 (bAndN .u8 (byteAt s i) 128) (7 * k)) = gv v (byteAt s i) k := by rw [andn128 (byteAt_rng s i)]; rfl
theorem and_rng (s : ByteArray) (i : Nat) : 0 ≤ bAnd .u8 (byteAt s i) 127 ∧ bAnd .u8 (byteAt s i) 127 < 256 := u8_wrap _
theorem andn_rng (s : ByteArray) (i : Nat) : 0 ≤ bAndN .u8 (byteAt s i) 128 ∧ bAndN .u8 (byteAt s i) 128 < 256 := u8_wrap _

abbrev c_get_ok : Ct := .fn [.str, .int .i64] (some (fun (s : ByteArray) (a : Int) => (s.size ≤ 4611686018427387904))) (fun (s : ByteArray) (a : Int) => .tup [.int .u64, .int .i64, .int .i64] ((getR s a).1, (getR s a).2.1, (getR s a).2.2, ()))
set_option maxRecDepth 100000 in
set_option maxHeartbeats 4000000 in
theorem get_ok : CtOk Try.prog 36 c_get_ok := by
  refine CtOk.fn tb12_ok mixed [(0, 11, 3)] [] rfl rfl ?_
  rintro ⟨(s : ByteArray), (a : Int), _⟩ hpre
  replace hpre := hpre _ rfl
  dsimp only [cu] at hpre
  have hs := hpre
  refine ⟨[(0, 10, LA.mk [.sl 18 (.int .i64), .sl 7 (.int .u64)] (fun y => Tag 11 ∧ cu [.int .i64, .int .u64] (fun (k : Int) (v : Int) => (0 ≤ k ∧ k ≤ 10) ∧ (getR s a = getGo s a (10 - k).toNat k v)) y) (cu [.int .i64, .int .u64] (fun (k : Int) (v : Int) => (10 - k).toNat)) (cu [.int .i64, .int .u64] (fun (k : Int) (v : Int) => ([] : List (Nat × Nat × LA)))))], ?_⟩
  repeat' (first
    | (with_reducible refine Side.mk ⟨(⟨⟩ : Tag 11), ?_⟩
       dsimp only [cu, joinT, ckTys, gts, Prod.eta, List.nil_append]
       refine ⟨?_, ?_⟩
       · omega
       · first
         | (rw [getR, if_neg (by omega)]
            rfl)
         | (rw [hg, getGo_step (k := k) (v := v) (by omega), gv_andn]
            rw [if_neg (by omega), if_neg (by omega), if_pos (by omega)]))
    | (with_reducible refine Side.mk ?_
       (try dsimp only [cu, joinT, ckTys, gts, loK, hiK, Prod.eta, List.nil_append])
       first
       | (done)
       | (with_reducible rfl)
       | (omega)
       | (exact Eq.refl _)
       | (simp only [List.length_append, List.length_cons, List.length_nil]; omega)
       | (have := andn_rng s (a + k).toNat
          have := and_rng s (a + k).toNat
          omega))
    | (conv => whnf
       first
        | done
        | exact trivial
        | with_reducible refine NilBr.mk (fun h => ?_) ?_
        | with_reducible refine w_andS ?_ ?_
        | with_reducible refine w_andL ?_ ?_
        | with_reducible refine w_kern (by kernel_rfl) ?_
        | with_reducible refine w_true ?_
        | with_reducible refine w_nd ?_ ?_
        | with_reducible refine w_in ?_ ?_
        | with_reducible refine w_and ?_ ?_
        | (with_reducible refine w_brN (fun h => ?_) (fun h => ?_) <;> (try dsimp only [cu, Prod.eta, List.nil_append] at h) <;> (try (exfalso; omega; done)))
        | (with_reducible refine w_brD (fun h => ?_) (fun h => ?_) <;> (try dsimp only [cu, Prod.eta, List.nil_append] at h) <;> (try (exfalso; omega; done)))
        | (with_reducible refine w_br (fun h => ?_) (fun h => ?_) <;> (try dsimp only [cu, Prod.eta, List.nil_append] at h) <;> (try (exfalso; omega; done)))
        | (intro yy (hy : Tag 11 ∧ _)
           obtain ⟨(k : Int), (v : Int), _⟩ := yy
           replace hy := hy.2
           dsimp only [cu, joinT, ckTys, gts, Prod.eta, List.nil_append] at hy
           obtain ⟨hk, hg⟩ := hy)))
  all_goals (with_reducible refine Leaf.mk ?_
             (try dsimp only [cu, joinT, ckTys, gts, Prod.eta, List.nil_append] at *)
             first
             | (done)
             | (rw [getR, if_pos (by omega)])
             | (simp only [hg, getGo_step (k := k) (v := v) (show 0 ≤ k ∧ k < 10 by omega)]
                simp [*]; done)
             | (simp only [hg, getGo_step (k := k) (v := v) (show 0 ≤ k ∧ k < 10 by omega), gv_andn]
                grind)
             | (rw [hg, show (10 - k).toNat = 0 by omega, getGo]))
abbrev tb13 : Tbl := (36, c_get_ok) :: tb12
theorem tb13_ok : TblOk Try.prog tb13 := TblOk.cons get_ok tb12_ok

abbrev c_rget_ok : Ct := .fn [.str, .int .i64] (some (fun (s : ByteArray) (a : Int) => (s.size ≤ 4611686018427387904))) (fun (s : ByteArray) (a : Int) => .tup [.int .u64, .int .i64, .int .i64] ((getR s a).1, (getR s a).2.1, (getR s a).2.2, ()))
set_option maxRecDepth 100000 in
set_option maxHeartbeats 4000000 in
theorem rget_ok : CtOk Try.prog 48 c_rget_ok := by
  refine CtOk.fn tb13_ok mixed [(0, 12, 3), (0, 12, 5), (0, 12, 6)] [] rfl rfl ?_
  rintro ⟨(s : ByteArray), (a : Int), _⟩ hpre
  replace hpre := hpre _ rfl
  dsimp only [cu] at hpre
  have hs := hpre
  refine ⟨[(0, 10, LA.mk [.sl 8 (.int .i64), .sl 7 (.int .u64)] (fun y => Tag 12 ∧ cu [.int .i64, .int .u64] (fun (k : Int) (v : Int) => (0 ≤ k ∧ k ≤ 10) ∧ (getR s a = getGo s a (10 - k).toNat k v)) y) (cu [.int .i64, .int .u64] (fun (k : Int) (v : Int) => (10 - k).toNat)) (cu [.int .i64, .int .u64] (fun (k : Int) (v : Int) => ([] : List (Nat × Nat × LA)))))], ?_⟩
  repeat' (first
    | (with_reducible refine Side.mk ⟨(⟨⟩ : Tag 12), ?_⟩
       dsimp only [cu, joinT, ckTys, gts, Prod.eta, List.nil_append]
       refine ⟨?_, ?_⟩
       · omega
       · first
         | (rw [getR, if_neg (by omega)]
            rfl)
         | (rw [hg, getGo_step (k := k) (v := v) (by omega), gv_and]
            rw [if_neg (by omega), if_neg (by omega), if_pos (by omega)]))
    | (with_reducible refine Side.mk ?_
       (try dsimp only [cu, joinT, ckTys, gts, loK, hiK, Prod.eta, List.nil_append])
       first
       | (done)
       | (with_reducible rfl)
       | (omega)
       | (exact Eq.refl _)
       | (simp only [List.length_append, List.length_cons, List.length_nil]; omega)
       | (have := andn_rng s (a + k).toNat
          have := and_rng s (a + k).toNat
          omega))
    | (conv => whnf
       first
        | done
        | exact trivial
        | with_reducible refine NilBr.mk (fun h => ?_) ?_
        | with_reducible refine w_andS ?_ ?_
        | with_reducible refine w_andL ?_ ?_
        | with_reducible refine w_kern (by kernel_rfl) ?_
        | with_reducible refine w_true ?_
        | with_reducible refine w_nd ?_ ?_
        | with_reducible refine w_in ?_ ?_
        | with_reducible refine w_and ?_ ?_
        | (with_reducible refine w_brN (fun h => ?_) (fun h => ?_) <;> (try dsimp only [cu, Prod.eta, List.nil_append] at h) <;> (try (exfalso; omega; done)))
        | (with_reducible refine w_brD (fun h => ?_) (fun h => ?_) <;> (try dsimp only [cu, Prod.eta, List.nil_append] at h) <;> (try (exfalso; omega; done)))
        | (with_reducible refine w_br (fun h => ?_) (fun h => ?_) <;> (try dsimp only [cu, Prod.eta, List.nil_append] at h) <;> (try (exfalso; omega; done)))
        | (intro yy (hy : Tag 12 ∧ _)
           obtain ⟨(k : Int), (v : Int), _⟩ := yy
           replace hy := hy.2
           dsimp only [cu, joinT, ckTys, gts, Prod.eta, List.nil_append] at hy
           obtain ⟨hk, hg⟩ := hy)))
  all_goals (with_reducible refine Leaf.mk ?_
             (try dsimp only [cu, joinT, ckTys, gts, Prod.eta, List.nil_append] at *)
             first
             | (done)
             | (rw [getR, if_pos (by omega)])
             | (simp only [hg, getGo_step (k := k) (v := v) (show 0 ≤ k ∧ k < 10 by omega)]
                simp [*]; done)
             | (simp only [hg, getGo_step (k := k) (v := v) (show 0 ≤ k ∧ k < 10 by omega), gv_and]
                grind)
             | (rw [hg, show (10 - k).toNat = 0 by omega, getGo]))
abbrev tb14 : Tbl := (48, c_rget_ok) :: tb13
theorem tb14_ok : TblOk Try.prog tb14 := TblOk.cons rget_ok tb13_ok

end Go.Proofs.Ythomnlfmamagcaa
