/- Contracts of numbers with sign and of runs. -/
import Derived.Test.YtlamfjhhjfgemaaGreatCrc
namespace Go.Proofs.YtlamfjhhjfgemaaGreat
open Go.Abs
set_option linter.unusedVariables false
set_option linter.unusedSimpArgs false


/- Numbers with sign. -/
def inI (n : Int) : Prop := -9223372036854775808 ≤ n ∧ n ≤ 9223372036854775807
def zigS (n : Int) : Int := if n < 0 then (-(n + 1)) * 2 + 1 else n * 2
def zagS (v : Int) : Int := if v % 2 = 1 then -(v / 2) - 1 else v / 2
theorem zig_rng {n : Int} (h : inI n) : 0 ≤ zigS n ∧ zigS n < 18446744073709551616 := by unfold inI at h; unfold zigS; split <;> omega
theorem zag_zig (n : Int) : zagS (zigS n) = n := by unfold zigS zagS; split <;> split <;> omega
theorem xorU0 {a : Int} (h : 0 ≤ a ∧ a < 18446744073709551616) : bXor .u64 a 0 = a := by
  unfold bXor
  rw [show BitVec.ofInt IntKind.u64.bits 0 = 0#IntKind.u64.bits from rfl, BitVec.xor_zero, BitVec.toNat_ofInt]
  have : ((a % ((2 ^ IntKind.u64.bits : Nat) : Int)).toNat : Int) = a := by
    simp [IntKind.bits]; omega
  rw [this, u64_id h]
theorem xorU1 {a : Int} (h : 0 ≤ a ∧ a < 18446744073709551616) : bXor .u64 a 18446744073709551615 = 18446744073709551615 - a := by
  unfold bXor
  rw [show BitVec.ofInt IntKind.u64.bits 18446744073709551615 = BitVec.allOnes IntKind.u64.bits from rfl, BitVec.xor_allOnes, BitVec.toNat_not, BitVec.toNat_ofInt]
  have e : ((a % ((2 ^ IntKind.u64.bits : Nat) : Int)).toNat : Int) = a := by
    simp [IntKind.bits]; omega
  have e2 : (2 : Nat) ^ IntKind.u64.bits = 18446744073709551616 := rfl
  have e3 : ((2 ^ IntKind.u64.bits - 1 - (a % ((2 ^ IntKind.u64.bits : Nat) : Int)).toNat : Nat) : Int) = 18446744073709551615 - a := by
    rw [e2] at e ⊢; omega
  rw [e3, u64_id (by omega)]
theorem i64_id {a : Int} (h : inI a) : IntKind.i64.wrap a = a := by unfold inI at h; simp [IntKind.wrap, IntKind.bits, IntKind.signed]; omega
theorem xorI0 {a : Int} (h : inI a) : bXor .i64 a 0 = a := by
  unfold bXor
  rw [show BitVec.ofInt IntKind.i64.bits 0 = 0#IntKind.i64.bits from rfl, BitVec.xor_zero, BitVec.toNat_ofInt]
  unfold inI at h
  simp [IntKind.wrap, IntKind.bits, IntKind.signed]; omega
theorem xorI1 {a : Int} (h : 0 ≤ a ∧ a ≤ 9223372036854775807) : bXor .i64 a (-1) = -a - 1 := by
  unfold bXor
  rw [show BitVec.ofInt IntKind.i64.bits (-1) = BitVec.allOnes IntKind.i64.bits from rfl, BitVec.xor_allOnes, BitVec.toNat_not, BitVec.toNat_ofInt]
  have e2 : (2 : Nat) ^ IntKind.i64.bits = 18446744073709551616 := rfl
  have e3 : ((2 ^ IntKind.i64.bits - 1 - (a % ((2 ^ IntKind.i64.bits : Nat) : Int)).toNat : Nat) : Int) = 18446744073709551615 - a := by
    rw [e2]; omega
  rw [e3]
  simp [IntKind.wrap, IntKind.bits, IntKind.signed]; omega
theorem zig_eq {n : Int} (h : inI n) : bXor .u64 (IntKind.u64.wrap (shlI .i64 n 1)) (IntKind.u64.wrap (shrI .i64 n 63)) = zigS n := by
  have h1 : shrI .i64 n 63 = n / 9223372036854775808 := by
    unfold shrI
    rw [show min ((63 : Int).toNat) IntKind.i64.bits = 63 from rfl, show ((2 : Int) ^ 63) = 9223372036854775808 from rfl, Int.fdiv_eq_ediv_of_nonneg _ (by decide)]
  have h2 : IntKind.u64.wrap (shlI .i64 n 1) = IntKind.u64.wrap (2 * n) := by
    unfold shlI
    rw [show min ((1 : Int).toNat) IntKind.i64.bits = 1 from rfl, show ((2 : Int) ^ 1) = 2 from rfl]
    simp [IntKind.wrap, IntKind.bits, IntKind.signed]; omega
  unfold inI at h
  rw [h1, h2]
  unfold zigS
  split
  · rw [show n / 9223372036854775808 = -1 by omega, show IntKind.u64.wrap (-1) = 18446744073709551615 from rfl, xorU1 (u64_wrap _)]
    simp [IntKind.wrap, IntKind.bits, IntKind.signed]; omega
  · rw [show n / 9223372036854775808 = 0 by omega, show IntKind.u64.wrap 0 = 0 from rfl, xorU0 (u64_wrap _), u64_id (by omega)]; omega
theorem zag_eq {v : Int} (h : 0 ≤ v ∧ v < 18446744073709551616) : bXor .i64 (shrI .u64 v 1) (IntKind.i64.wrap (0 - bAnd .u64 v 1)) = zagS v := by
  rw [shr1 h.1, and1_64 h]
  unfold zagS
  have : inI (v / 2) := by unfold inI; omega
  split
  · rename_i q
    rw [q, show IntKind.i64.wrap (0 - 1) = -1 from rfl, xorI1 (by omega)]
  · rename_i q
    rw [show v % 2 = 0 by omega, show IntKind.i64.wrap (0 - 0) = 0 from rfl, xorI0 this]

abbrev c_zig_ok : Ct := .fn [.int .i64] (some (fun (n : Int) => (inI n))) (fun (n : Int) => .d (.int .u64) (zigS n))
set_option maxRecDepth 100000 in
set_option maxHeartbeats 4000000 in
theorem zig_ok : CtOk Tryz.prog 30 c_zig_ok := by
  refine CtOk.fn tb41_ok mixed [] [] rfl rfl ?_
  rintro ⟨(n : Int), _⟩ hpre
  replace hpre := hpre _ rfl
  dsimp only [cu] at hpre
  have hn := hpre
  refine ⟨[], ?_⟩
  repeat' (first
    | (
 with_reducible refine Side.mk ?_
 (try dsimp only [cu, joinT, ckTys, gts, loK, hiK, Prod.eta, List.nil_append])
 first
 | (done)
 | (with_reducible rfl)
 | (omega)
 | (exact Eq.refl _)
 | (simp only [List.length_append, List.length_cons, List.length_nil]; omega))
    | (conv => whnf
       first
        | done
        | exact trivial
        | with_reducible refine NilBr.mk (fun h => ?_) ?_
        | with_reducible first | refine w_andS ?_ ?_ | refine w_andL ?_ ?_ | refine w_kern (by kernel_rfl) ?_ | refine w_true ?_ | refine w_nd ?_ ?_ | refine w_in ?_ ?_ | refine w_and ?_ ?_
        | ((with_reducible first | refine w_brN (fun h => ?_) (fun h => ?_) | refine w_brD (fun h => ?_) (fun h => ?_) | refine w_br (fun h => ?_) (fun h => ?_)) <;> (try dsimp only [cu, Prod.eta, List.nil_append] at h) <;> (try (exfalso; omega; done)))))
  all_goals (
 with_reducible refine Leaf.mk ?_
 (try dsimp only [cu, joinT, ckTys, gts, Prod.eta, List.nil_append] at *)
 first
 | (done)
 | (exact zig_eq hn))
abbrev tb42 : Tbl := (30, c_zig_ok) :: tb41
theorem tb42_ok : TblOk Tryz.prog tb42 := TblOk.cons zig_ok tb41_ok

abbrev c_rzig_ok : Ct := .fn [.int .i64] (some (fun (n : Int) => (inI n))) (fun (n : Int) => .d (.int .u64) (zigS n))
set_option maxRecDepth 100000 in
set_option maxHeartbeats 4000000 in
theorem rzig_ok : CtOk Tryz.prog 66 c_rzig_ok := by
  refine CtOk.fn tb42_ok mixed [] [] rfl rfl ?_
  rintro ⟨(n : Int), _⟩ hpre
  replace hpre := hpre _ rfl
  dsimp only [cu] at hpre
  have hn := hpre
  unfold inI at hn
  refine ⟨[], ?_⟩
  repeat' (first
    | (
 with_reducible refine Side.mk ?_
 (try dsimp only [cu, joinT, ckTys, gts, loK, hiK, Prod.eta, List.nil_append])
 first
 | (done)
 | (with_reducible rfl)
 | (omega)
 | (exact Eq.refl _)
 | (simp only [List.length_append, List.length_cons, List.length_nil]; omega))
    | (conv => whnf
       first
        | done
        | exact trivial
        | with_reducible refine NilBr.mk (fun h => ?_) ?_
        | with_reducible first | refine w_andS ?_ ?_ | refine w_andL ?_ ?_ | refine w_kern (by kernel_rfl) ?_ | refine w_true ?_ | refine w_nd ?_ ?_ | refine w_in ?_ ?_ | refine w_and ?_ ?_
        | ((with_reducible first | refine w_brN (fun h => ?_) (fun h => ?_) | refine w_brD (fun h => ?_) (fun h => ?_) | refine w_br (fun h => ?_) (fun h => ?_)) <;> (try dsimp only [cu, Prod.eta, List.nil_append] at h) <;> (try (exfalso; omega; done)))))
  all_goals (
 with_reducible refine Leaf.mk ?_
 (try dsimp only [cu, joinT, ckTys, gts, Prod.eta, List.nil_append] at *)
 first
 | (done)
 | (
  have q : ¬ n < 0 := by assumption
  rw [zigS, if_neg q, u64_id (n := n) (by omega), u64_id (by omega)])
 | (
  have q : n < 0 := by assumption
  rw [zigS, if_pos q, i64_id (a := 0 - (n + 1)) (by unfold inI; omega), u64_id (n := 0 - (n + 1)) (by omega), u64_id (n := (0 - (n + 1)) * 2) (by omega), u64_id (by omega)]
  show (_ : Int) = _
  omega))
abbrev tb43 : Tbl := (66, c_rzig_ok) :: tb42
theorem tb43_ok : TblOk Tryz.prog tb43 := TblOk.cons rzig_ok tb42_ok

abbrev c_zag_ok : Ct := .fn [.int .u64] (some (fun (v : Int) => (0 ≤ v ∧ v < 18446744073709551616))) (fun (v : Int) => .d (.int .i64) (zagS v))
set_option maxRecDepth 100000 in
set_option maxHeartbeats 4000000 in
theorem zag_ok : CtOk Tryz.prog 78 c_zag_ok := by
  refine CtOk.fn tb43_ok mixed [] [] rfl rfl ?_
  rintro ⟨(v : Int), _⟩ hpre
  replace hpre := hpre _ rfl
  dsimp only [cu] at hpre
  have hv := hpre
  refine ⟨[], ?_⟩
  repeat' (first
    | (
 with_reducible refine Side.mk ?_
 (try dsimp only [cu, joinT, ckTys, gts, loK, hiK, Prod.eta, List.nil_append])
 first
 | (done)
 | (with_reducible rfl)
 | (omega)
 | (exact Eq.refl _)
 | (simp only [List.length_append, List.length_cons, List.length_nil]; omega)
 | (
  have h1 := and1_64 hv
  have h2 := shr1 hv.1
  first
  | (
   rw [h2]
   omega)
  | (
   rw [h1]
   omega)))
    | (conv => whnf
       first
        | done
        | exact trivial
        | with_reducible refine NilBr.mk (fun h => ?_) ?_
        | with_reducible first | refine w_andS ?_ ?_ | refine w_andL ?_ ?_ | refine w_kern (by kernel_rfl) ?_ | refine w_true ?_ | refine w_nd ?_ ?_ | refine w_in ?_ ?_ | refine w_and ?_ ?_
        | ((with_reducible first | refine w_brN (fun h => ?_) (fun h => ?_) | refine w_brD (fun h => ?_) (fun h => ?_) | refine w_br (fun h => ?_) (fun h => ?_)) <;> (try dsimp only [cu, Prod.eta, List.nil_append] at h) <;> (try (exfalso; omega; done)))))
  all_goals (
 with_reducible refine Leaf.mk ?_
 (try dsimp only [cu, joinT, ckTys, gts, Prod.eta, List.nil_append] at *)
 first
 | (done)
 | (rw [zag_eq hv]))
abbrev tb44 : Tbl := (78, c_zag_ok) :: tb43
theorem tb44_ok : TblOk Tryz.prog tb44 := TblOk.cons zag_ok tb43_ok


/- Runs. -/
def runLen (v : Int) : List Int → Nat
  | [] => 0
  | x :: l => if x = v then runLen v l + 1 else 0
theorem runLen_le (v : Int) : ∀ l : List Int, runLen v l ≤ l.length
  | [] => Nat.le_refl _
  | x :: l => by
    have := runLen_le v l
    unfold runLen; split <;> simp <;> omega
theorem runLen_eq {v : Int} : ∀ {l : List Int} {m : Nat}, m ≤ l.length → (∀ j, j < m → l[j]! = v) → (m = l.length ∨ ¬ l[m]! = v) → runLen v l = m
  | [], m, h, _, _ => by simp at h; subst h; rfl
  | x :: l, 0, _, _, h => by
    rcases h with h | h
    · simp at h
    · unfold runLen; rw [if_neg (by simpa using h)]
  | x :: l, m + 1, h, h1, h2 => by
    have h0 : x = v := by simpa using h1 0 (by omega)
    unfold runLen
    rw [if_pos h0, runLen_eq (m := m) (by simpa using h) (fun j hj => by simpa using h1 (j + 1) (by omega)) (by simpa using h2)]
def runs : List Int → List (Int × Int)
  | [] => []
  | v :: l => ((runLen v l : Int) + 1, v) :: runs (l.drop (runLen v l))
termination_by l => l.length
decreasing_by simp; omega
theorem drop_get (l : List Int) (a j : Nat) : (l.drop a)[j]! = l[a + j]! := by
  simp [List.getElem!_eq_getElem?_getD, List.getElem?_drop]
theorem runs_step {l : List Int} {i k : Int} (h : 0 ≤ i ∧ i < k ∧ k ≤ l.length) (he : ∀ j : Nat, i ≤ j → (j : Int) < k → l[j]! = l[i.toNat]!) (hn : k = l.length ∨ ¬ l[k.toNat]! = l[i.toNat]!) :
    runs (l.drop i.toNat) = (k - i, l[i.toNat]!) :: runs (l.drop k.toNat) := by
  have e : runLen l[i.toNat]! (l.drop (i + 1).toNat) = (k - i - 1).toNat := by
    refine runLen_eq (by simp; omega) (fun j hj => ?_) ?_
    · rw [drop_get]; exact he _ (by omega) (by omega)
    · rcases hn with q | q
      · left; simp; omega
      · right; rw [drop_get, show (i + 1).toNat + (k - i - 1).toNat = k.toNat by omega]; exact q
  rw [drop_step l i (by omega), runs, e, List.drop_drop, show (i + 1).toNat + (k - i - 1).toNat = k.toNat by omega, show (((k - i - 1).toNat : Nat) : Int) + 1 = k - i by omega]
def encR : List (Int × Int) → List Int
  | [] => []
  | (n, v) :: r => put n ++ (put (zigS v) ++ encR r)
def encRuns (l : List Int) : ByteArray := ofInts (encR (runs l))
theorem inI_at {l : List Int} (h : ∀ x, x ∈ l → inI x) (k : Nat) : inI l[k]! := by
  by_cases q : k < l.length
  · rw [getElem!_pos l k q]; exact h _ (List.getElem_mem q)
  · rw [getElem!_neg l k q]; unfold inI; exact ⟨by decide, by decide⟩
def dGo (s : ByteArray) (n a : Int) (M : List Int) : List Int × Int :=
  if h0 : (M.length : Int) < n then
    if (getR s a).2.2 ≠ 0 then ([], (getR s a).2.2)
    else if h1 : (getR s a).1 = 0 ∨ (getR s a).1 > n - M.length then ([], 2)
    else if (getR s (getR s a).2.1).2.2 ≠ 0 then ([], (getR s (getR s a).2.1).2.2)
    else if 0 < M.length ∧ M[M.length - 1]! = zagS (getR s (getR s a).2.1).1 then ([], 2)
    else dGo s n (getR s (getR s a).2.1).2.1 (M ++ List.replicate (getR s a).1.toNat (zagS (getR s (getR s a).2.1).1))
  else if a < s.size then ([], 2) else (M, 0)
termination_by (n - M.length).toNat
decreasing_by
  have := getR_rng s a
  simp only [List.length_append, List.length_replicate]
  omega
def decRuns (s : ByteArray) (n : Int) : List Int × Int := if n < 0 ∨ n > 4096 then ([], 4) else dGo s n 0 []
theorem dGo_1 {s : ByteArray} {n a : Int} {M : List Int} (h : (M.length : Int) < n) (h1 : ¬ (getR s a).2.2 = 0) : dGo s n a M = ([], (getR s a).2.2) := by rw [dGo, dif_pos h, if_pos h1]
theorem dGo_2 {s : ByteArray} {n a : Int} {M : List Int} (h : (M.length : Int) < n) (h1 : (getR s a).2.2 = 0) (h2 : (getR s a).1 = 0 ∨ (getR s a).1 > n - M.length) : dGo s n a M = ([], 2) := by rw [dGo, dif_pos h, if_neg (fun q => q h1), dif_pos h2]
theorem dGo_3 {s : ByteArray} {n a : Int} {M : List Int} (h : (M.length : Int) < n) (h1 : (getR s a).2.2 = 0) (h2 : ¬ ((getR s a).1 = 0 ∨ (getR s a).1 > n - M.length)) (h3 : ¬ (getR s (getR s a).2.1).2.2 = 0) : dGo s n a M = ([], (getR s (getR s a).2.1).2.2) := by
  rw [dGo, dif_pos h, if_neg (fun q => q h1), dif_neg h2, if_pos h3]
theorem dGo_4 {s : ByteArray} {n a : Int} {M : List Int} (h : (M.length : Int) < n) (h1 : (getR s a).2.2 = 0) (h2 : ¬ ((getR s a).1 = 0 ∨ (getR s a).1 > n - M.length)) (h3 : (getR s (getR s a).2.1).2.2 = 0) (h4 : 0 < M.length ∧ M[M.length - 1]! = zagS (getR s (getR s a).2.1).1) : dGo s n a M = ([], 2) := by
  rw [dGo, dif_pos h, if_neg (fun q => q h1), dif_neg h2, if_neg (fun q => q h3), if_pos h4]
theorem dGo_5 {s : ByteArray} {n a : Int} {M : List Int} (h : (M.length : Int) < n) (h1 : (getR s a).2.2 = 0) (h2 : ¬ ((getR s a).1 = 0 ∨ (getR s a).1 > n - M.length)) (h3 : (getR s (getR s a).2.1).2.2 = 0) (h4 : ¬ (0 < M.length ∧ M[M.length - 1]! = zagS (getR s (getR s a).2.1).1)) :
    dGo s n a M = dGo s n (getR s (getR s a).2.1).2.1 (M ++ List.replicate (getR s a).1.toNat (zagS (getR s (getR s a).2.1).1)) := by
  rw [dGo, dif_pos h, if_neg (fun q => q h1), dif_neg h2, if_neg (fun q => q h3), if_neg h4]
theorem dGo_6 {s : ByteArray} {n a : Int} {M : List Int} (h : ¬ (M.length : Int) < n) : dGo s n a M = if a < s.size then ([], 2) else (M, 0) := by rw [dGo, dif_neg h]
theorem rep_step {M : List Int} {u v : Int} (h : 0 ≤ u) : M ++ List.replicate (u + 1).toNat v = M ++ List.replicate u.toNat v ++ [v] := by
  rw [show (u + 1).toNat = u.toNat + 1 by omega, List.replicate_succ', List.append_assoc]

abbrev c_run_ok : Ct := .fn [.list (.int .i64)] (some (fun (l : List Int) => (1 ≤ l.length ∧ l.length ≤ 1073741824))) (fun (l : List Int) => .d (.int .i64) ((runLen l[0]! (l.drop 1) : Int) + 1))
set_option maxRecDepth 100000 in
set_option maxHeartbeats 4000000 in
theorem run_ok : CtOk Tryz.prog 47 c_run_ok := by
  refine CtOk.fn tb44_ok mixed [] [] rfl rfl ?_
  rintro ⟨(l : List Int), _⟩ hpre
  replace hpre := hpre _ rfl
  dsimp only [cu] at hpre
  have hl := hpre
  refine ⟨[(0, 4, LA.mk [.sl 3 (.int .i64)] (fun y => Tag 32 ∧ cu [.int .i64] (fun (n : Int) => (1 ≤ n ∧ n ≤ l.length) ∧ (∀ j : Nat, (j : Int) < n → l[j]! = l[0]!)) y) (cu [.int .i64] (fun (n : Int) => ((l.length : Int) - n).toNat)) (cu [.int .i64] (fun (n : Int) => ([] : List (Nat × Nat × LA)))))], ?_⟩
  repeat' (first
    | (
 with_reducible refine Side.mk ⟨(⟨⟩ : Tag 32), ?_⟩
 dsimp only [cu, joinT, ckTys, gts, Prod.eta, List.nil_append]
 refine ⟨?_, ?_⟩
 · omega
 · first
   | (
  intro j hj
  first
  | (rw [show j = 0 by omega])
  | (
   rcases Int.lt_or_le (j : Int) n with q | q
   · exact he j q
   · rw [show j = n.toNat by omega]; first | assumption | (simp_all; done))))
    | (
 with_reducible refine Side.mk ?_
 (try dsimp only [cu, joinT, ckTys, gts, loK, hiK, Prod.eta, List.nil_append])
 first
 | (done)
 | (with_reducible rfl)
 | (omega)
 | (exact Eq.refl _)
 | (simp only [List.length_append, List.length_cons, List.length_nil]; omega))
    | (conv => whnf
       first
        | done
        | exact trivial
        | with_reducible refine NilBr.mk (fun h => ?_) ?_
        | with_reducible first | refine w_andS ?_ ?_ | refine w_andL ?_ ?_ | refine w_kern (by kernel_rfl) ?_ | refine w_true ?_ | refine w_nd ?_ ?_ | refine w_in ?_ ?_ | refine w_and ?_ ?_
        | ((with_reducible first | refine w_brN (fun h => ?_) (fun h => ?_) | refine w_brD (fun h => ?_) (fun h => ?_) | refine w_br (fun h => ?_) (fun h => ?_)) <;> (try dsimp only [cu, Prod.eta, List.nil_append] at h) <;> (try (exfalso; omega; done)))
        | (
 intro yy (hy : Tag 32 ∧ _)
 obtain ⟨(n : Int), _⟩ := yy
 replace hy := hy.2
 dsimp only [cu, joinT, ckTys, gts, Prod.eta, List.nil_append] at hy
 obtain ⟨hn, he⟩ := hy)))
  all_goals (
 with_reducible refine Leaf.mk ?_
 (try dsimp only [cu, joinT, ckTys, gts, Prod.eta, List.nil_append] at *)
 first
 | (done)
 | (
  have e : runLen l[0]! (l.drop 1) = (n - 1).toNat := by
    refine runLen_eq (by simp; omega) (fun j hj => by rw [drop_get]; exact he _ (by omega)) ?_
    first
    | (left; simp; omega)
    | (right; rw [drop_get, show 1 + (n - 1).toNat = n.toNat by omega]; first | assumption | (simp_all; done))
  rw [e]
  show (_ : Int) = _
  omega))
abbrev tb45 : Tbl := (47, c_run_ok) :: tb44
theorem tb45_ok : TblOk Tryz.prog tb45 := TblOk.cons run_ok tb44_ok

abbrev c_rencR_ok : Ct := .fn [.list (.int .i64)] (some (fun (l : List Int) => (l.length ≤ 1073741824) ∧ (∀ x, x ∈ l → inI x))) (fun (l : List Int) => .d .str (encRuns l))
set_option maxRecDepth 100000 in
set_option maxHeartbeats 4000000 in
theorem rencR_ok : CtOk Tryz.prog 61 c_rencR_ok := by
  refine CtOk.fn tb45_ok mixed [] [] rfl rfl ?_
  rintro ⟨(l : List Int), _⟩ hpre
  replace hpre := hpre _ rfl
  dsimp only [cu] at hpre
  obtain ⟨hl, hv⟩ := hpre
  refine ⟨[(0, 6, LA.mk [.sl 4 (.int .i64), .sl 3 .str] (fun y => Tag 33 ∧ cu [.int .i64, .str] (fun (i : Int) (x : ByteArray) => (0 ≤ i ∧ i ≤ l.length) ∧ (encRuns l = x ++ ofInts (encR (runs (l.drop i.toNat)))) ∧ ((x.size : Int) ≤ 20 * i)) y) (cu [.int .i64, .str] (fun (i : Int) (x : ByteArray) => ((l.length : Int) - i).toNat)) (cu [.int .i64, .str] (fun (i : Int) (x : ByteArray) => ([(0, 10, LA.mk [.sl 5 (.int .i64)] (fun y => Tag 34 ∧ cu [.int .i64] (fun (k : Int) => (i ≤ k ∧ k ≤ l.length) ∧ (∀ j : Nat, i ≤ j → (j : Int) < k → l[j]! = l[i.toNat]!)) y) (cu [.int .i64] (fun (k : Int) => ((l.length : Int) - k).toNat)) (cu [.int .i64] (fun (k : Int) => ([] : List (Nat × Nat × LA)))))] : List (Nat × Nat × LA)))))], ?_⟩
  repeat' (first
    | (
 with_reducible refine Side.mk ⟨(⟨⟩ : Tag 33), ?_⟩
 dsimp only [cu, joinT, ckTys, gts, Prod.eta, List.nil_append]
 refine ⟨?_, ?_, ?_⟩
 · omega
 · first
   | (rw [show (⟨#[]⟩ : ByteArray) = ByteArray.empty from rfl, ByteArray.empty_append]; rfl)
   | (
  have hik : i < k := by
    rcases Int.lt_or_le i k with q | q
    · exact q
    · exfalso
      have e : k = i := by omega
      subst e
      first | omega | (simp_all; done)
  have hst := runs_step (l := l) (i := i) (k := k) (by omega) he (by first | (left; omega) | (right; assumption) | (right; simp_all; done))
  have p1 := put_len (k - i)
  have p2 := put_len (zigS l[i.toNat]!)
  have hui := u64_id (n := k - i) (by omega)
  rw [hx, hst, encR, hui]
  simp only [ofInts_app, ByteArray.append_assoc])
 · first
   | (exact Int.le_refl _)
   | (
  have hik : i < k := by
    rcases Int.lt_or_le i k with q | q
    · exact q
    · exfalso
      have e : k = i := by omega
      subst e
      first | omega | (simp_all; done)
  have p1 := put_len (k - i)
  have p2 := put_len (zigS l[i.toNat]!)
  have hui := u64_id (n := k - i) (by omega)
  simp only [ByteArray.size_append, ofInts_len, hui]
  omega))
    | (
 with_reducible refine Side.mk ⟨(⟨⟩ : Tag 34), ?_⟩
 dsimp only [cu, joinT, ckTys, gts, Prod.eta, List.nil_append]
 refine ⟨?_, ?_⟩
 · omega
 · first
   | (intro j h1 h2; omega)
   | (
  intro j h1 h2
  rcases Int.lt_or_le (j : Int) k with q | q
  · exact he j h1 q
  · rw [show j = k.toNat by omega]; first | assumption | (simp_all; done)))
    | (
 with_reducible refine Side.mk ?_
 (try dsimp only [cu, joinT, ckTys, gts, loK, hiK, Prod.eta, List.nil_append])
 first
 | (done)
 | (with_reducible rfl)
 | (omega)
 | (exact Eq.refl _)
 | (simp only [List.length_append, List.length_cons, List.length_nil]; omega)
 | (
  have hik : i < k := by
    rcases Int.lt_or_le i k with q | q
    · exact q
    · exfalso
      have e : k = i := by omega
      subst e
      first | omega | (simp_all; done)
  omega)
 | (exact inI_at hv _)
 | (exact zig_rng (inI_at hv _))
 | (
  have hui := u64_id (n := k - i) (by omega)
  omega)
 | (
  have hik : i < k := by
    rcases Int.lt_or_le i k with q | q
    · exact q
    · exfalso
      have e : k = i := by omega
      subst e
      first | omega | (simp_all; done)
  have p1 := put_len (k - i)
  have p2 := put_len (zigS l[i.toNat]!)
  have hui := u64_id (n := k - i) (by omega)
  simp only [ByteArray.size_append, ofInts_len, hui]
  omega)
 | (
  have hui := u64_id (n := k - i) (by omega)
  rw [hui]
  omega))
    | (conv => whnf
       first
        | done
        | exact trivial
        | with_reducible refine NilBr.mk (fun h => ?_) ?_
        | with_reducible first | refine w_andS ?_ ?_ | refine w_andL ?_ ?_ | refine w_kern (by kernel_rfl) ?_ | refine w_true ?_ | refine w_nd ?_ ?_ | refine w_in ?_ ?_ | refine w_and ?_ ?_
        | ((with_reducible first | refine w_brN (fun h => ?_) (fun h => ?_) | refine w_brD (fun h => ?_) (fun h => ?_) | refine w_br (fun h => ?_) (fun h => ?_)) <;> (try dsimp only [cu, Prod.eta, List.nil_append] at h) <;> (try (exfalso; omega; done)))
        | (
 intro yy (hy : Tag 33 ∧ _)
 obtain ⟨(i : Int), (x : ByteArray), _⟩ := yy
 replace hy := hy.2
 dsimp only [cu, joinT, ckTys, gts, Prod.eta, List.nil_append] at hy
 obtain ⟨hi, hx, hz⟩ := hy)
        | (
 intro yy (hy : Tag 34 ∧ _)
 obtain ⟨(k : Int), _⟩ := yy
 replace hy := hy.2
 dsimp only [cu, joinT, ckTys, gts, Prod.eta, List.nil_append] at hy
 obtain ⟨hk, he⟩ := hy)))
  all_goals (
 with_reducible refine Leaf.mk ?_
 (try dsimp only [cu, joinT, ckTys, gts, Prod.eta, List.nil_append] at *)
 first
 | (done)
 | (
  rw [hx, List.drop_eq_nil_of_le (by omega), runs, encR]
  show x = x ++ ByteArray.empty
  simp))
abbrev tb46 : Tbl := (61, c_rencR_ok) :: tb45
theorem tb46_ok : TblOk Tryz.prog tb46 := TblOk.cons rencR_ok tb45_ok

abbrev c_rledec_ok : Ct := .fn [.str, .int .i64] (some (fun (s : ByteArray) (n : Int) => (s.size ≤ 288230376151711744))) (fun (s : ByteArray) (n : Int) => .tup [.list (.int .i64), .int .i64] ((decRuns s n).1, (decRuns s n).2, ()))
set_option maxRecDepth 100000 in
set_option maxHeartbeats 4000000 in
theorem rledec_ok : CtOk Tryz.prog 59 c_rledec_ok := by
  refine CtOk.fn tb46_ok mixed [(0, 3, 3500006), (0, 5, 3500006), (0, 9, 3500006), (0, 15, 3500006)] [] rfl rfl ?_
  rintro ⟨(s : ByteArray), (n : Int), _⟩ hpre
  replace hpre := hpre _ rfl
  dsimp only [cu] at hpre
  have hs := hpre
  refine ⟨[(0, 10, LA.mk [.sl 7 (.int .i64), .nls 6 (.int .i64) 2] (fun y => Tag 35 ∧ cu [.int .i64, .list (.int .i64)] (fun (a : Int) (M : List Int) => (dGo s n 0 [] = dGo s n a M) ∧ ((M.length : Int) ≤ n)) y) (cu [.int .i64, .list (.int .i64)] (fun (a : Int) (M : List Int) => (n - (M.length : Int)).toNat)) (cu [.int .i64, .list (.int .i64)] (fun (a : Int) (M : List Int) => ([(0, 36, LA.mk [.sl 72 (.int .u64), .nls 6 (.int .i64) 2] (fun y => Tag 36 ∧ cu [.int .u64, .list (.int .i64)] (fun (u : Int) (Q : List Int) => (0 ≤ u ∧ u ≤ (getR s a).1) ∧ (Q = M ++ List.replicate u.toNat (zagS (getR s (getR s a).2.1).1))) y) (cu [.int .u64, .list (.int .i64)] (fun (u : Int) (Q : List Int) => ((getR s a).1 - u).toNat)) (cu [.int .u64, .list (.int .i64)] (fun (u : Int) (Q : List Int) => ([] : List (Nat × Nat × LA)))))] : List (Nat × Nat × LA)))))], ?_⟩
  repeat' (first
    | (
 with_reducible refine Side.mk ⟨(⟨⟩ : Tag 35), ?_⟩
 dsimp only [cu, joinT, ckTys, gts, Prod.eta, List.nil_append]
 refine ⟨?_, ?_⟩
 · first
   | (rw [show List.replicate (Int.toNat 0) (0 : Int) = [] from rfl])
   | (rfl)
   | (
  have hg := getR_rng s a
  have hg2 := getR_rng s (getR s a).2.1
  have hwn := u64_id (n := n - (M.length : Int)) (by omega)
  have h2 : ¬ ((getR s a).1 = 0 ∨ (getR s a).1 > n - M.length) := by omega
  have h1 : (getR s a).2.2 = 0 := by assumption
  have h3 : (getR s (getR s a).2.1).2.2 = 0 := by assumption
  have h4 : ¬ (0 < M.length ∧ M[M.length - 1]! = zagS (getR s (getR s a).2.1).1) := by first | (intro q; omega) | (intro q; simp_all; done)
  rw [hM, dGo_5 (by omega) h1 h2 h3 h4, hQ]
  (try rw [show u = (getR s a).1 by omega])
  (try rw [show (getR s a).1 - u = (getR s a).1 by omega]))
 · first
   | (simp only [List.length_nil]; omega)
   | (simp; omega)
   | (
  have hg := getR_rng s a
  have hg2 := getR_rng s (getR s a).2.1
  have hwn := u64_id (n := n - (M.length : Int)) (by omega)
  rw [hQ]
  simp only [List.length_append, List.length_replicate]
  omega))
    | (
 with_reducible refine Side.mk ⟨(⟨⟩ : Tag 36), ?_⟩
 dsimp only [cu, joinT, ckTys, gts, Prod.eta, List.nil_append]
 refine ⟨?_, ?_⟩
 · first
   | (
  have hg := getR_rng s a
  have hg2 := getR_rng s (getR s a).2.1
  first
  | (omega)
  | (
   have hwu := u64_id (n := u + 1) (by omega)
   omega))
 · first
   | (simp; done)
   | (
  have hg := getR_rng s a
  have hg2 := getR_rng s (getR s a).2.1
  have hwu := u64_id (n := u + 1) (by omega)
  rw [hwu, rep_step (by omega), ← hQ]))
    | (
 with_reducible refine Side.mk ?_
 (try dsimp only [cu, joinT, ckTys, gts, loK, hiK, Prod.eta, List.nil_append])
 first
 | (done)
 | (with_reducible rfl)
 | (omega)
 | (exact Eq.refl _)
 | (simp only [List.length_append, List.length_cons, List.length_nil]; omega)
 | (
  have hg := getR_rng s a
  have hg2 := getR_rng s (getR s a).2.1
  first
  | (omega)
  | (
   have hwu := u64_id (n := u + 1) (by omega)
   omega)
  | (
   have hwu := u64_id (n := u - 1) (by omega)
   omega)
  | (
   have hwn := u64_id (n := n - (M.length : Int)) (by omega)
   first
   | (
    have hQl := congrArg List.length hQ
    simp only [List.length_append, List.length_replicate, List.length_cons, List.length_nil] at hQl ⊢
    omega)
   | (omega)))
 | (exact ⟨hs, by omega⟩)
 | (exact getR_rng _ _)
 | (exact (getR_rng _ _))
 | (
  have hg := getR_rng s a
  have hg2 := getR_rng s (getR s a).2.1
  have hwn := u64_id (n := n - (M.length : Int)) (by omega)
  first
  | (
   rw [hQ]
   simp only [List.length_append, List.length_replicate, List.length_cons, List.length_nil]
   omega)
  | (
   (try simp only [List.length_cons, List.length_nil])
   omega)))
    | (conv => whnf
       first
        | done
        | exact trivial
        | with_reducible refine NilBr.mk (fun h => ?_) ?_
        | with_reducible first | refine w_andS ?_ ?_ | refine w_andL ?_ ?_ | refine w_kern (by kernel_rfl) ?_ | refine w_true ?_ | refine w_nd ?_ ?_ | refine w_in ?_ ?_ | refine w_and ?_ ?_
        | ((with_reducible first | refine w_brN (fun h => ?_) (fun h => ?_) | refine w_brD (fun h => ?_) (fun h => ?_) | refine w_br (fun h => ?_) (fun h => ?_)) <;> (try dsimp only [cu, Prod.eta, List.nil_append] at h) <;> (try (exfalso; omega; done)))
        | (
 intro yy (hy : Tag 35 ∧ _)
 obtain ⟨(a : Int), (M : List Int), _⟩ := yy
 replace hy := hy.2
 dsimp only [cu, joinT, ckTys, gts, Prod.eta, List.nil_append] at hy
 obtain ⟨hM, hl⟩ := hy)
        | (
 intro yy (hy : Tag 36 ∧ _)
 obtain ⟨(u : Int), (Q : List Int), _⟩ := yy
 replace hy := hy.2
 dsimp only [cu, joinT, ckTys, gts, Prod.eta, List.nil_append] at hy
 obtain ⟨hu, hQ⟩ := hy)))
  all_goals (
 with_reducible refine Leaf.mk ?_
 (try dsimp only [cu, joinT, ckTys, gts, Prod.eta, List.nil_append] at *)
 first
 | (done)
 | (
  have q : n < 0 ∨ n > 4096 := by omega
  rw [decRuns, if_pos q])
 | (
  have q : ¬ (n < 0 ∨ n > 4096) := by omega
  rw [decRuns, if_neg q, hM]
  first
  | (
   have h1 : ¬ (getR s a).2.2 = 0 := by assumption
   rw [dGo_1 (by omega) h1])
  | (
   have hg := getR_rng s a
   have hg2 := getR_rng s (getR s a).2.1
   have hwn := u64_id (n := n - (M.length : Int)) (by omega)
   first
   | (
    have h1 : (getR s a).2.2 = 0 := by assumption
    have h2 : (getR s a).1 = 0 ∨ (getR s a).1 > n - M.length := by omega
    rw [dGo_2 (by omega) h1 h2])
   | (
    have h2 : ¬ ((getR s a).1 = 0 ∨ (getR s a).1 > n - M.length) := by omega
    have h1 : (getR s a).2.2 = 0 := by assumption
    first
    | (
     have h3 : ¬ (getR s (getR s a).2.1).2.2 = 0 := by assumption
     rw [dGo_3 (by omega) h1 h2 h3])
    | (
     have h3 : (getR s (getR s a).2.1).2.2 = 0 := by assumption
     have h4 : 0 < M.length ∧ M[M.length - 1]! = zagS (getR s (getR s a).2.1).1 := ⟨by omega, by first | assumption | (simp_all; done)⟩
     rw [dGo_4 (by omega) h1 h2 h3 h4])))
  | (
   have ha : a < s.size := by omega
   rw [dGo_6 (by omega), if_pos ha])
  | (
   have ha : ¬ a < s.size := by omega
   rw [dGo_6 (by omega), if_neg ha])))
abbrev tb47 : Tbl := (59, c_rledec_ok) :: tb46
theorem tb47_ok : TblOk Tryz.prog tb47 := TblOk.cons rledec_ok tb46_ok

end Go.Proofs.YtlamfjhhjfgemaaGreat
