/- Contracts of decoding a dictionary (reference); checks of values. -/
import Derived.Test.YtlamfjhhjfgemaaDecode
namespace Go.Proofs.Ytlamfjhhjfgemaa
open Go.Abs
set_option linter.unusedVariables false
set_option linter.unusedSimpArgs false


theorem extract_le (s : ByteArray) (a b : Nat) : (s.extract a b).size ≤ s.size := by simp; omega
theorem wdN_zero : wdN ((([] : List ByteArray).length : Nat) : Int) = 0 := lenI_zero (by unfold maxI; simp)
theorem extract_size (s : ByteArray) {a : Int} (h : 0 ≤ a) : (s.extract a.toNat s.size).size = s.size - a.toNat := by simp
theorem unp0 (t : ByteArray) : unpackR t 0 0 = if 0 < t.size then ([], 2) else ([], 0) := by
  have hn : needR 0 0 = 0 := by decide
  have hp : ¬ ¬ permB 0 0 = true := by decide
  rw [unpackR, if_neg hp, hn, if_neg (by omega)]
  by_cases h : 0 < t.size
  · rw [if_pos (by omega), if_pos h]
  · rw [if_neg (by omega), if_neg h, if_neg]
    · rfl
    · exact tail_no fun q _ h2 => by omega
theorem dec_n0 {s : ByteArray} {a : Int} (h : 0 ≤ a) : decA s 0 ([], a, 0) = if a < s.size then ([], 2) else ([], 0) := by
  rw [dec_a1 (by rfl), wdN_zero, unp0, extract_size s h]
  by_cases q : a < s.size
  · rw [if_pos q, if_pos (show 0 < s.size - a.toNat by omega)]; rfl
  · rw [if_neg q, if_neg (show ¬ 0 < s.size - a.toNat by omega), dec_b1 (by rfl)]; rfl
theorem wdN_u64 {M : List ByteArray} {k : Int} (h : (M.length : Int) = k) (h1 : 1 ≤ k ∧ k ≤ 4096) : lenI (IntKind.u64.wrap (k - 1)) = wdN (M.length : Int) := by
  rw [u64_id (by omega), wdN, h]
  congr 1
  unfold maxI; split <;> omega
def sizeOk (n : Int) : Bool := decide (0 ≤ n) && decide (n ≤ 4096)
theorem sizeOk_no {n : Int} (h : (!sizeOk n) = true) : n < 0 ∨ n > 4096 := by
  simp [sizeOk] at h; omega
theorem sizeOk_yes {n : Int} (h : (!sizeOk n) = false) : ¬ (n < 0 ∨ n > 4096) := by
  simp [sizeOk] at h; omega
theorem not_t {b : Bool} (h : (!b) = true) : false = b := by cases b <;> simp_all
theorem not_f {b : Bool} (h : (!b) = false) : ¬ false = b := by cases b <;> simp_all
theorem hasB_yes {l : List Bool} {k : Int} (h : ixGo l false 0 = k) (h0 : 0 ≤ k) : hasB l false = true := by simp [hasB, h, h0]
theorem hasB_no {l : List Bool} (h : ixGo l false 0 = -1) : ¬ hasB l false = true := by simp [hasB, h]

abbrev c_rsize_ok : Ct := .fn [.int .i64] (none) (fun (n : Int) => .d .bool (sizeOk n))
set_option maxRecDepth 100000 in
set_option maxHeartbeats 4000000 in
theorem rsize_ok : CtOk Try.prog 95 c_rsize_ok := by
  refine CtOk.fn tb23_ok mixed [] [] rfl rfl ?_
  rintro ⟨(n : Int), _⟩ -
  refine ⟨[], ?_⟩
  repeat' (first
    | (
 with_reducible refine Side.mk ?_
 (try dsimp only [cu, joinT, ckTys, gts, loK, hiK, Prod.eta, List.nil_append])
 first
 | (done)
 | (with_reducible rfl)
 | (omega)
 | (exact Eq.refl _)
 | (simp only [List.length_append, List.length_cons, List.length_nil]; omega))
    | (conv => whnf
       first
        | done
        | exact trivial
        | with_reducible refine NilBr.mk (fun h => ?_) ?_
        | with_reducible first | refine w_andS ?_ ?_ | refine w_andL ?_ ?_ | refine w_kern (by kernel_rfl) ?_ | refine w_true ?_ | refine w_nd ?_ ?_ | refine w_in ?_ ?_ | refine w_and ?_ ?_
        | ((with_reducible first | refine w_brN (fun h => ?_) (fun h => ?_) | refine w_brD (fun h => ?_) (fun h => ?_) | refine w_br (fun h => ?_) (fun h => ?_)) <;> (try dsimp only [cu, Prod.eta, List.nil_append] at h) <;> (try (exfalso; omega; done)))))
  all_goals (
 with_reducible refine Leaf.mk ?_
 (try dsimp only [cu, joinT, ckTys, gts, Prod.eta, List.nil_append] at *)
 first
 | (done)
 | (
  have e : 0 ≤ n ∧ n ≤ 4096 := by omega
  simp [sizeOk, e]; done)
 | (simp [sizeOk]; omega)
 | (simp [sizeOk, *]; done))
abbrev tb24 : Tbl := (95, c_rsize_ok) :: tb23
theorem tb24_ok : TblOk Try.prog tb24 := TblOk.cons rsize_ok tb23_ok

abbrev c_rdecode_ok : Ct := .fn [.str, .int .i64] (some (fun (s : ByteArray) (n : Int) => (s.size ≤ 288230376151711744))) (fun (s : ByteArray) (n : Int) => .tup [.list .str, .int .i64] ((decDict s n).1, (decDict s n).2, ()))
set_option maxRecDepth 100000 in
set_option maxHeartbeats 4000000 in
theorem rdecode_ok : CtOk Try.prog 98 c_rdecode_ok := by
  refine CtOk.fn tb24_ok mixed [(0, 15, 5)] [] rfl rfl ?_
  rintro ⟨(s : ByteArray), (n : Int), _⟩ hpre
  replace hpre := hpre _ rfl
  dsimp only [cu] at hpre
  have hs := hpre
  refine ⟨[(0, 20, LA.mk [.sl 10 (.int .i64), .sl 7 (.int .i64), .lst 9 .str 9] (fun y => Tag 18 ∧ cu [.int .i64, .int .i64, .list .str] (fun (i : Int) (a : Int) (M : List ByteArray) => (i = (M.length : Int)) ∧ ((wdGo s (getR s 0).1.toNat (getR s 0).2.1 []) = wdGo s ((getR s 0).1 - M.length).toNat a M) ∧ ((M.length : Int) ≤ (getR s 0).1)) y) (cu [.int .i64, .int .i64, .list .str] (fun (i : Int) (a : Int) (M : List ByteArray) => ((getR s 0).1 - (M.length : Int)).toNat)) (cu [.int .i64, .int .i64, .list .str] (fun (i : Int) (a : Int) (M : List ByteArray) => ([] : List (Nat × Nat × LA))))), (0, 64, LA.mk [.sl 120 (.int .i64), .ar 1 .bool 4, .lst 17 .str 9] (fun y => Tag 19 ∧ cu [.int .i64, .list .bool, .list .str] (fun (j : Int) (V : List Bool) (O : List ByteArray) => (0 ≤ j ∧ j ≤ (unpackR (s.extract (wdGo s (getR s 0).1.toNat (getR s 0).2.1 []).2.1.toNat s.size) n (wdN (wdGo s (getR s 0).1.toNat (getR s 0).2.1 []).1.length)).1.length) ∧ (V = usedL (wdGo s (getR s 0).1.toNat (getR s 0).2.1 []).1.length ((unpackR (s.extract (wdGo s (getR s 0).1.toNat (getR s 0).2.1 []).2.1.toNat s.size) n (wdN (wdGo s (getR s 0).1.toNat (getR s 0).2.1 []).1.length)).1.take j.toNat)) ∧ (O = ((unpackR (s.extract (wdGo s (getR s 0).1.toNat (getR s 0).2.1 []).2.1.toNat s.size) n (wdN (wdGo s (getR s 0).1.toNat (getR s 0).2.1 []).1.length)).1.take j.toNat).map (fun c => (wdGo s (getR s 0).1.toNat (getR s 0).2.1 []).1[c.toNat]!)) ∧ (((unpackR (s.extract (wdGo s (getR s 0).1.toNat (getR s 0).2.1 []).2.1.toNat s.size) n (wdN (wdGo s (getR s 0).1.toNat (getR s 0).2.1 []).1.length)).1.take j.toNat).any (fun c => decide (c ≥ ((wdGo s (getR s 0).1.toNat (getR s 0).2.1 []).1.length : Int))) = false)) y) (cu [.int .i64, .list .bool, .list .str] (fun (j : Int) (V : List Bool) (O : List ByteArray) => (((unpackR (s.extract (wdGo s (getR s 0).1.toNat (getR s 0).2.1 []).2.1.toNat s.size) n (wdN (wdGo s (getR s 0).1.toNat (getR s 0).2.1 []).1.length)).1.length : Int) - j).toNat)) (cu [.int .i64, .list .bool, .list .str] (fun (j : Int) (V : List Bool) (O : List ByteArray) => ([] : List (Nat × Nat × LA))))), (0, 80, LA.mk [.sl 140 (.int .i64)] (fun y => Tag 20 ∧ cu [.int .i64] (fun (m : Int) => (0 ≤ m ∧ m ≤ (usedL (wdGo s (getR s 0).1.toNat (getR s 0).2.1 []).1.length (unpackR (s.extract (wdGo s (getR s 0).1.toNat (getR s 0).2.1 []).2.1.toNat s.size) n (wdN (wdGo s (getR s 0).1.toNat (getR s 0).2.1 []).1.length)).1).length) ∧ (ixGo (usedL (wdGo s (getR s 0).1.toNat (getR s 0).2.1 []).1.length (unpackR (s.extract (wdGo s (getR s 0).1.toNat (getR s 0).2.1 []).2.1.toNat s.size) n (wdN (wdGo s (getR s 0).1.toNat (getR s 0).2.1 []).1.length)).1) false 0 = ixGo ((usedL (wdGo s (getR s 0).1.toNat (getR s 0).2.1 []).1.length (unpackR (s.extract (wdGo s (getR s 0).1.toNat (getR s 0).2.1 []).2.1.toNat s.size) n (wdN (wdGo s (getR s 0).1.toNat (getR s 0).2.1 []).1.length)).1).drop m.toNat) false m)) y) (cu [.int .i64] (fun (m : Int) => (((usedL (wdGo s (getR s 0).1.toNat (getR s 0).2.1 []).1.length (unpackR (s.extract (wdGo s (getR s 0).1.toNat (getR s 0).2.1 []).2.1.toNat s.size) n (wdN (wdGo s (getR s 0).1.toNat (getR s 0).2.1 []).1.length)).1).length : Int) - m).toNat)) (cu [.int .i64] (fun (m : Int) => ([] : List (Nat × Nat × LA)))))], ?_⟩
  repeat' (first
    | (
 with_reducible refine Side.mk ⟨(⟨⟩ : Tag 18), ?_⟩
 dsimp only [cu, joinT, ckTys, gts, Prod.eta, List.nil_append]
 refine ⟨?_, ?_, ?_⟩
 · first
   | (rfl)
   | (simp only [List.length_append, List.length_cons, List.length_nil]; omega)
 · first
   | (rw [List.length_nil]; simp; done)
   | (
  have hr := getR_rng s a
  have hg0 : (getR s a).2.2 = 0 := by assumption
  have hga := getR_ok hg0
  have q0 : (!sizeOk n) = false := by assumption
  have q1 := sizeOk_yes q0
  have hg := getR_rng s 0
  have hwn := u64_id (n := n) (by omega)
  rw [hM, wdGo_next (by omega) hg0 (by have := u64_id (n := (s.size : Int) - (getR s a).2.1) (by omega); omega) (fun q => by simp_all [sLe, wdAt])]
  rfl)
 · first
   | (
  have hg := getR_rng s 0
  simp only [List.length_nil]; omega)
   | (simp only [List.length_append, List.length_cons, List.length_nil]; omega))
    | (
 with_reducible refine Side.mk ⟨(⟨⟩ : Tag 19), ?_⟩
 dsimp only [cu, joinT, ckTys, gts, Prod.eta, List.nil_append]
 refine ⟨?_, ?_, ?_, ?_⟩
 · first
   | (omega)
   | (
  have q0 : (!sizeOk n) = false := by assumption
  have q1 := sizeOk_yes q0
  have hg := getR_rng s 0
  have hwn := u64_id (n := n) (by omega)
  have hR : (wdGo s (getR s 0).1.toNat (getR s 0).2.1 []) = (M, a, 0) := by rw [hM, wdGo_end (by omega)]
  have hwd := wdN_u64 (M := M) (k := (getR s 0).1) (by omega) (by omega)
  have hU : (unpackR (s.extract a.toNat s.size) n (lenI (IntKind.u64.wrap ((getR s 0).1 - 1)))) = (unpackR (s.extract (wdGo s (getR s 0).1.toNat (getR s 0).2.1 []).2.1.toNat s.size) n (wdN (wdGo s (getR s 0).1.toNat (getR s 0).2.1 []).1.length)) := by rw [hR, hwd]
  simp only [hU, u64_get] at *
  omega)
 · first
   | (
  rw [show ((0 : Int).toNat) = 0 from rfl, List.take_zero, usedL_nil]
  have hR : (wdGo s (getR s 0).1.toNat (getR s 0).2.1 []) = (M, a, 0) := by rw [hM, wdGo_end (by omega)]
  rw [hR]
  simp; done)
   | (
  have q0 : (!sizeOk n) = false := by assumption
  have q1 := sizeOk_yes q0
  have hg := getR_rng s 0
  have hwn := u64_id (n := n) (by omega)
  have hR : (wdGo s (getR s 0).1.toNat (getR s 0).2.1 []) = (M, a, 0) := by rw [hM, wdGo_end (by omega)]
  have hwd := wdN_u64 (M := M) (k := (getR s 0).1) (by omega) (by omega)
  have hU : (unpackR (s.extract a.toNat s.size) n (lenI (IntKind.u64.wrap ((getR s 0).1 - 1)))) = (unpackR (s.extract (wdGo s (getR s 0).1.toNat (getR s 0).2.1 []).2.1.toNat s.size) n (wdN (wdGo s (getR s 0).1.toNat (getR s 0).2.1 []).1.length)) := by rw [hR, hwd]
  simp only [hU, u64_get] at *
  have hRl : (wdGo s (getR s 0).1.toNat (getR s 0).2.1 []).1.length = M.length := by rw [hR]
  have hur := unpackR_rng (s.extract (wdGo s (getR s 0).1.toNat (getR s 0).2.1 []).2.1.toNat s.size) n (wdN (wdGo s (getR s 0).1.toNat (getR s 0).2.1 []).1.length) j.toNat
  rw [hV, usedL_step (by omega) (by omega)])
 · first
   | (
  rw [show ((0 : Int).toNat) = 0 from rfl, List.take_zero]
  rfl)
   | (
  have q0 : (!sizeOk n) = false := by assumption
  have q1 := sizeOk_yes q0
  have hg := getR_rng s 0
  have hwn := u64_id (n := n) (by omega)
  have hR : (wdGo s (getR s 0).1.toNat (getR s 0).2.1 []) = (M, a, 0) := by rw [hM, wdGo_end (by omega)]
  have hwd := wdN_u64 (M := M) (k := (getR s 0).1) (by omega) (by omega)
  have hU : (unpackR (s.extract a.toNat s.size) n (lenI (IntKind.u64.wrap ((getR s 0).1 - 1)))) = (unpackR (s.extract (wdGo s (getR s 0).1.toNat (getR s 0).2.1 []).2.1.toNat s.size) n (wdN (wdGo s (getR s 0).1.toNat (getR s 0).2.1 []).1.length)) := by rw [hR, hwd]
  simp only [hU, u64_get] at *
  rw [map_take (by omega), hO, hR])
 · first
   | (
  rw [show ((0 : Int).toNat) = 0 from rfl, List.take_zero]
  rfl)
   | (
  have q0 : (!sizeOk n) = false := by assumption
  have q1 := sizeOk_yes q0
  have hg := getR_rng s 0
  have hwn := u64_id (n := n) (by omega)
  have hR : (wdGo s (getR s 0).1.toNat (getR s 0).2.1 []) = (M, a, 0) := by rw [hM, wdGo_end (by omega)]
  have hwd := wdN_u64 (M := M) (k := (getR s 0).1) (by omega) (by omega)
  have hU : (unpackR (s.extract a.toNat s.size) n (lenI (IntKind.u64.wrap ((getR s 0).1 - 1)))) = (unpackR (s.extract (wdGo s (getR s 0).1.toNat (getR s 0).2.1 []).2.1.toNat s.size) n (wdN (wdGo s (getR s 0).1.toNat (getR s 0).2.1 []).1.length)) := by rw [hR, hwd]
  simp only [hU, u64_get] at *
  have hRl : (wdGo s (getR s 0).1.toNat (getR s 0).2.1 []).1.length = M.length := by rw [hR]
  exact any_take (by omega) hA (by omega)))
    | (
 with_reducible refine Side.mk ⟨(⟨⟩ : Tag 20), ?_⟩
 dsimp only [cu, joinT, ckTys, gts, Prod.eta, List.nil_append]
 refine ⟨?_, ?_⟩
 · first
   | (rw [usedL_len]; omega)
   | (
  have q0 : (!sizeOk n) = false := by assumption
  have q1 := sizeOk_yes q0
  have hg := getR_rng s 0
  have hwn := u64_id (n := n) (by omega)
  have hR : (wdGo s (getR s 0).1.toNat (getR s 0).2.1 []) = (M, a, 0) := by rw [hM, wdGo_end (by omega)]
  have hwd := wdN_u64 (M := M) (k := (getR s 0).1) (by omega) (by omega)
  have hU : (unpackR (s.extract a.toNat s.size) n (lenI (IntKind.u64.wrap ((getR s 0).1 - 1)))) = (unpackR (s.extract (wdGo s (getR s 0).1.toNat (getR s 0).2.1 []).2.1.toNat s.size) n (wdN (wdGo s (getR s 0).1.toNat (getR s 0).2.1 []).1.length)) := by rw [hR, hwd]
  simp only [hU, u64_get] at *
  have hRl : (wdGo s (getR s 0).1.toNat (getR s 0).2.1 []).1.length = M.length := by rw [hR]
  have hj1 : ¬ j < ((unpackR (s.extract (wdGo s (getR s 0).1.toNat (getR s 0).2.1 []).2.1.toNat s.size) n (wdN (wdGo s (getR s 0).1.toNat (getR s 0).2.1 []).1.length)).1.length : Int) := by omega
  have hta := take_all hj1
  rw [hta] at hV hO hA
  subst hV
  have hull : (usedL (wdGo s (getR s 0).1.toNat (getR s 0).2.1 []).1.length (unpackR (s.extract (wdGo s (getR s 0).1.toNat (getR s 0).2.1 []).2.1.toNat s.size) n (wdN (wdGo s (getR s 0).1.toNat (getR s 0).2.1 []).1.length)).1).length = (wdGo s (getR s 0).1.toNat (getR s 0).2.1 []).1.length := usedL_len _ _
  omega)
 · first
   | (rw [show ((0 : Int).toNat) = 0 from rfl, List.drop_zero])
   | (
  have q0 : (!sizeOk n) = false := by assumption
  have q1 := sizeOk_yes q0
  have hg := getR_rng s 0
  have hwn := u64_id (n := n) (by omega)
  have hR : (wdGo s (getR s 0).1.toNat (getR s 0).2.1 []) = (M, a, 0) := by rw [hM, wdGo_end (by omega)]
  have hwd := wdN_u64 (M := M) (k := (getR s 0).1) (by omega) (by omega)
  have hU : (unpackR (s.extract a.toNat s.size) n (lenI (IntKind.u64.wrap ((getR s 0).1 - 1)))) = (unpackR (s.extract (wdGo s (getR s 0).1.toNat (getR s 0).2.1 []).2.1.toNat s.size) n (wdN (wdGo s (getR s 0).1.toNat (getR s 0).2.1 []).1.length)) := by rw [hR, hwd]
  simp only [hU, u64_get] at *
  have hRl : (wdGo s (getR s 0).1.toNat (getR s 0).2.1 []).1.length = M.length := by rw [hR]
  have hj1 : ¬ j < ((unpackR (s.extract (wdGo s (getR s 0).1.toNat (getR s 0).2.1 []).2.1.toNat s.size) n (wdN (wdGo s (getR s 0).1.toNat (getR s 0).2.1 []).1.length)).1.length : Int) := by omega
  have hta := take_all hj1
  rw [hta] at hV hO hA
  subst hV
  have hull : (usedL (wdGo s (getR s 0).1.toNat (getR s 0).2.1 []).1.length (unpackR (s.extract (wdGo s (getR s 0).1.toNat (getR s 0).2.1 []).2.1.toNat s.size) n (wdN (wdGo s (getR s 0).1.toNat (getR s 0).2.1 []).1.length)).1).length = (wdGo s (getR s 0).1.toNat (getR s 0).2.1 []).1.length := usedL_len _ _
  have hb : ¬ false = (usedL (wdGo s (getR s 0).1.toNat (getR s 0).2.1 []).1.length (unpackR (s.extract (wdGo s (getR s 0).1.toNat (getR s 0).2.1 []).2.1.toNat s.size) n (wdN (wdGo s (getR s 0).1.toNat (getR s 0).2.1 []).1.length)).1)[m.toNat]! := not_f (by assumption)
  rw [hX, ixGo_step (by omega), if_neg hb]))
    | (
 with_reducible refine Side.mk ?_
 (try dsimp only [cu, joinT, ckTys, gts, loK, hiK, Prod.eta, List.nil_append])
 first
 | (done)
 | (with_reducible rfl)
 | (omega)
 | (exact Eq.refl _)
 | (simp only [List.length_append, List.length_cons, List.length_nil]; omega)
 | (
  have q0 : (!sizeOk n) = false := by assumption
  have q1 := sizeOk_yes q0
  have hg := getR_rng s 0
  have hwn := u64_id (n := n) (by omega)
  omega)
 | (exact u64_wrap _)
 | (
  have hsx := extract_le s a.toNat s.size
  omega)
 | (
  have q0 : (!sizeOk n) = false := by assumption
  have q1 := sizeOk_yes q0
  have hg := getR_rng s 0
  have hwn := u64_id (n := n) (by omega)
  first
  | (
   have hR : (wdGo s (getR s 0).1.toNat (getR s 0).2.1 []) = (M, a, 0) := by rw [hM, wdGo_end (by omega)]
   first
   | (
    have hwd := wdN_u64 (M := M) (k := (getR s 0).1) (by omega) (by omega)
    have hU : (unpackR (s.extract a.toNat s.size) n (lenI (IntKind.u64.wrap ((getR s 0).1 - 1)))) = (unpackR (s.extract (wdGo s (getR s 0).1.toNat (getR s 0).2.1 []).2.1.toNat s.size) n (wdN (wdGo s (getR s 0).1.toNat (getR s 0).2.1 []).1.length)) := by rw [hR, hwd]
    simp only [hU, u64_get] at *
    have h5 : (unpackR (s.extract (wdGo s (getR s 0).1.toNat (getR s 0).2.1 []).2.1.toNat s.size) n (wdN (wdGo s (getR s 0).1.toNat (getR s 0).2.1 []).1.length)).2 = 0 := by assumption
    have hul := unpackR_len h5
    first
    | (omega)
    | (
     have hol := congrArg List.length hO
     rw [List.length_map, List.length_take] at hol
     simp only [List.length_cons, List.length_nil]
     omega))
   | (
    have q2 : (getR s 0).2.2 = 0 := by first | assumption | omega
    have hat := wdGo_at (s := s) (n := (getR s 0).1.toNat) q2 (by rw [hR])
    rw [hR] at hat
    dsimp only at hat
    omega)
   | (
    have hwd := wdN_u64 (M := M) (k := (getR s 0).1) (by omega) (by omega)
    have hU : (unpackR (s.extract a.toNat s.size) n (lenI (IntKind.u64.wrap ((getR s 0).1 - 1)))) = (unpackR (s.extract (wdGo s (getR s 0).1.toNat (getR s 0).2.1 []).2.1.toNat s.size) n (wdN (wdGo s (getR s 0).1.toNat (getR s 0).2.1 []).1.length)) := by rw [hR, hwd]
    simp only [hU, u64_get] at *
    have hRl : (wdGo s (getR s 0).1.toNat (getR s 0).2.1 []).1.length = M.length := by rw [hR]
    first
    | (
     have hur := unpackR_rng (s.extract (wdGo s (getR s 0).1.toNat (getR s 0).2.1 []).2.1.toNat s.size) n (wdN (wdGo s (getR s 0).1.toNat (getR s 0).2.1 []).1.length) j.toNat
     first
     | (omega)
     | (rw [hV, usedL_len]; omega))
    | (omega)
    | (
     have hj1 : ¬ j < ((unpackR (s.extract (wdGo s (getR s 0).1.toNat (getR s 0).2.1 []).2.1.toNat s.size) n (wdN (wdGo s (getR s 0).1.toNat (getR s 0).2.1 []).1.length)).1.length : Int) := by omega
     have hta := take_all hj1
     rw [hta] at hV hO hA
     subst hV
     have hull : (usedL (wdGo s (getR s 0).1.toNat (getR s 0).2.1 []).1.length (unpackR (s.extract (wdGo s (getR s 0).1.toNat (getR s 0).2.1 []).2.1.toNat s.size) n (wdN (wdGo s (getR s 0).1.toNat (getR s 0).2.1 []).1.length)).1).length = (wdGo s (getR s 0).1.toNat (getR s 0).2.1 []).1.length := usedL_len _ _
     omega)))
  | (exfalso; omega))
 | (
  simp only [List.length_cons, List.length_nil]
  have q0 : (!sizeOk n) = false := by assumption
  have q1 := sizeOk_yes q0
  have hg := getR_rng s 0
  have hwn := u64_id (n := n) (by omega)
  omega)
 | (
  have q0 : (!sizeOk n) = false := by assumption
  have q1 := sizeOk_yes q0
  have hg := getR_rng s 0
  have hwn := u64_id (n := n) (by omega)
  have hr := getR_rng s a
  first
  | (omega)
  | (
   have hg0 : (getR s a).2.2 = 0 := by assumption
   have hga := getR_ok hg0
   first
   | (omega)
   | (
    have hsz := u64_id (n := (s.size : Int) - (getR s a).2.1) (by omega)
    omega))))
    | (conv => whnf
       first
        | done
        | exact trivial
        | with_reducible refine NilBr.mk (fun h => ?_) ?_
        | with_reducible first | refine w_andS ?_ ?_ | refine w_andL ?_ ?_ | refine w_kern (by kernel_rfl) ?_ | refine w_true ?_ | refine w_nd ?_ ?_ | refine w_in ?_ ?_ | refine w_and ?_ ?_
        | ((with_reducible first | refine w_brN (fun h => ?_) (fun h => ?_) | refine w_brD (fun h => ?_) (fun h => ?_) | refine w_br (fun h => ?_) (fun h => ?_)) <;> (try dsimp only [cu, Prod.eta, List.nil_append] at h) <;> (try (exfalso; omega; done)))
        | (
 intro yy (hy : Tag 18 ∧ _)
 obtain ⟨(i : Int), (a : Int), (M : List ByteArray), _⟩ := yy
 replace hy := hy.2
 dsimp only [cu, joinT, ckTys, gts, Prod.eta, List.nil_append] at hy
 obtain ⟨hi, hM, hl⟩ := hy)
        | (
 intro yy (hy : Tag 19 ∧ _)
 obtain ⟨(j : Int), (V : List Bool), (O : List ByteArray), _⟩ := yy
 replace hy := hy.2
 dsimp only [cu, joinT, ckTys, gts, Prod.eta, List.nil_append] at hy
 obtain ⟨hj, hV, hO, hA⟩ := hy)
        | (
 intro yy (hy : Tag 20 ∧ _)
 obtain ⟨(m : Int), _⟩ := yy
 replace hy := hy.2
 dsimp only [cu, joinT, ckTys, gts, Prod.eta, List.nil_append] at hy
 obtain ⟨hm, hX⟩ := hy)))
  all_goals (
 with_reducible refine Leaf.mk ?_
 (try dsimp only [cu, joinT, ckTys, gts, Prod.eta, List.nil_append] at *)
 first
 | (done)
 | (
  have q0 : (!sizeOk n) = false := by assumption
  have q1 := sizeOk_yes q0
  have hg := getR_rng s 0
  have hwn := u64_id (n := n) (by omega)
  exfalso; omega)
 | (
  have q0 : (!sizeOk n) = true := by assumption
  rw [dec_0 (sizeOk_no q0)])
 | (
  have q0 : (!sizeOk n) = false := by assumption
  have q1 := sizeOk_yes q0
  have hg := getR_rng s 0
  have hwn := u64_id (n := n) (by omega)
  first
  | (
   have q2 : ¬ (getR s 0).2.2 = 0 := by assumption
   rw [dec_1 q1 q2])
  | (
   have q2 : (getR s 0).2.2 = 0 := by first | assumption | omega
   have q3 : (getR s 0).1 > n ∨ ((getR s 0).1 = 0 ∧ n > 0) := by omega
   rw [dec_2 q1 q2 q3]))
 | (
  have hr := getR_rng s a
  have q0 : (!sizeOk n) = false := by assumption
  have q1 := sizeOk_yes q0
  have hg := getR_rng s 0
  have hwn := u64_id (n := n) (by omega)
  have q2 : (getR s 0).2.2 = 0 := by first | assumption | omega
  have q3 : ¬ ((getR s 0).1 > n ∨ ((getR s 0).1 = 0 ∧ n > 0)) := by first | omega | (simp_all; omega)
  rw [dec_3 q1 q2 q3]
  rw [hM]
  first
  | (
   have h1 : ¬ (getR s a).2.2 = 0 := by assumption
   rw [wdGo_err (by omega) h1, dec_a0 h1])
  | (
   have hg0 : (getR s a).2.2 = 0 := by assumption
   have hga := getR_ok hg0
   have hsz := u64_id (n := (s.size : Int) - (getR s a).2.1) (by omega)
   first
   | (
    have h2 : (getR s a).1 > (s.size : Int) - (getR s a).2.1 := by omega
    rw [wdGo_short (by omega) hg0 h2, dec_a0 (by decide)])
   | (
    have h2 : ¬ (getR s a).1 > (s.size : Int) - (getR s a).2.1 := by omega
    have h3 : 0 < M.length ∧ sLe (wdAt s a) M[M.length - 1]! = true := ⟨by omega, by simp_all [sLe, wdAt]⟩
    rw [wdGo_form (by omega) hg0 h2 h3, dec_a0 (by decide)])))
 | (
  have hn0 : n = 0 := by assumption
  have q0 : (!sizeOk n) = false := by assumption
  have q1 := sizeOk_yes q0
  have hg := getR_rng s 0
  have hwn := u64_id (n := n) (by omega)
  have hR : (wdGo s (getR s 0).1.toNat (getR s 0).2.1 []) = (M, a, 0) := by rw [hM, wdGo_end (by omega)]
  have q2 : (getR s 0).2.2 = 0 := by first | assumption | omega
  have q3 : ¬ ((getR s 0).1 > n ∨ ((getR s 0).1 = 0 ∧ n > 0)) := by first | omega | (simp_all; omega)
  have hat := wdGo_at (s := s) (n := (getR s 0).1.toNat) q2 (by rw [hR])
  rw [hR] at hat
  rw [dec_3 q1 q2 q3, hR]
  have hm0 : M = [] := List.length_eq_zero_iff.1 (by omega)
  subst hm0
  rw [hn0, dec_n0 hat.1]
  first | (have hlt : a < s.size := by assumption
           rw [if_pos hlt]; done) | (have hlt : ¬ a < s.size := by assumption
                                     rw [if_neg hlt]; done))
 | (
  have q0 : (!sizeOk n) = false := by assumption
  have q1 := sizeOk_yes q0
  have hg := getR_rng s 0
  have hwn := u64_id (n := n) (by omega)
  have hR : (wdGo s (getR s 0).1.toNat (getR s 0).2.1 []) = (M, a, 0) := by rw [hM, wdGo_end (by omega)]
  have hwd := wdN_u64 (M := M) (k := (getR s 0).1) (by omega) (by omega)
  first
  | (
   have h5 : ¬ (unpackR (s.extract a.toNat s.size) n (lenI (IntKind.u64.wrap ((getR s 0).1 - 1)))).2 = 0 := by assumption
   have q2 : (getR s 0).2.2 = 0 := by first | assumption | omega
   have q3 : ¬ ((getR s 0).1 > n ∨ ((getR s 0).1 = 0 ∧ n > 0)) := by first | omega | (simp_all; omega)
   rw [dec_3 q1 q2 q3]
   rw [hR, dec_a1 (by rfl)]
   dsimp only
   rw [← hwd, dec_b0 h5])
  | (
   have hU : (unpackR (s.extract a.toNat s.size) n (lenI (IntKind.u64.wrap ((getR s 0).1 - 1)))) = (unpackR (s.extract (wdGo s (getR s 0).1.toNat (getR s 0).2.1 []).2.1.toNat s.size) n (wdN (wdGo s (getR s 0).1.toNat (getR s 0).2.1 []).1.length)) := by rw [hR, hwd]
   simp only [hU, u64_get] at *
   have hRl : (wdGo s (getR s 0).1.toNat (getR s 0).2.1 []).1.length = M.length := by rw [hR]
   first
   | (
    have h5 : (unpackR (s.extract (wdGo s (getR s 0).1.toNat (getR s 0).2.1 []).2.1.toNat s.size) n (wdN (wdGo s (getR s 0).1.toNat (getR s 0).2.1 []).1.length)).2 = 0 := by assumption
    have q6 : (unpackR (s.extract (wdGo s (getR s 0).1.toNat (getR s 0).2.1 []).2.1.toNat s.size) n (wdN (wdGo s (getR s 0).1.toNat (getR s 0).2.1 []).1.length)).1[j.toNat]! ≥ ((wdGo s (getR s 0).1.toNat (getR s 0).2.1 []).1.length : Int) := by omega
    have q2 : (getR s 0).2.2 = 0 := by first | assumption | omega
    have q3 : ¬ ((getR s 0).1 > n ∨ ((getR s 0).1 = 0 ∧ n > 0)) := by first | omega | (simp_all; omega)
    rw [dec_3 q1 q2 q3]
    rw [dec_a1 (by rw [hR]), dec_b1 h5, decC_bad (i := j) (by omega) q6])
   | (
    have hj1 : ¬ j < ((unpackR (s.extract (wdGo s (getR s 0).1.toNat (getR s 0).2.1 []).2.1.toNat s.size) n (wdN (wdGo s (getR s 0).1.toNat (getR s 0).2.1 []).1.length)).1.length : Int) := by omega
    have hta := take_all hj1
    rw [hta] at hV hO hA
    subst hV
    have hull : (usedL (wdGo s (getR s 0).1.toNat (getR s 0).2.1 []).1.length (unpackR (s.extract (wdGo s (getR s 0).1.toNat (getR s 0).2.1 []).2.1.toNat s.size) n (wdN (wdGo s (getR s 0).1.toNat (getR s 0).2.1 []).1.length)).1).length = (wdGo s (getR s 0).1.toNat (getR s 0).2.1 []).1.length := usedL_len _ _
    have h5 : (unpackR (s.extract (wdGo s (getR s 0).1.toNat (getR s 0).2.1 []).2.1.toNat s.size) n (wdN (wdGo s (getR s 0).1.toNat (getR s 0).2.1 []).1.length)).2 = 0 := by assumption
    first
    | (
     have hb : false = (usedL (wdGo s (getR s 0).1.toNat (getR s 0).2.1 []).1.length (unpackR (s.extract (wdGo s (getR s 0).1.toNat (getR s 0).2.1 []).2.1.toNat s.size) n (wdN (wdGo s (getR s 0).1.toNat (getR s 0).2.1 []).1.length)).1)[m.toNat]! := not_t (by assumption)
     rw [ixGo_step (by omega), if_pos hb] at hX
     have q2 : (getR s 0).2.2 = 0 := by first | assumption | omega
     have q3 : ¬ ((getR s 0).1 > n ∨ ((getR s 0).1 = 0 ∧ n > 0)) := by first | omega | (simp_all; omega)
     rw [dec_3 q1 q2 q3]
     rw [dec_a1 (by rw [hR]), dec_b1 h5, decC_un rfl hA (hasB_yes hX (by omega))])
    | (
     rw [ixGo_end (by omega)] at hX
     have q2 : (getR s 0).2.2 = 0 := by first | assumption | omega
     have q3 : ¬ ((getR s 0).1 > n ∨ ((getR s 0).1 = 0 ∧ n > 0)) := by first | omega | (simp_all; omega)
     rw [dec_3 q1 q2 q3]
     rw [dec_a1 (by rw [hR]), dec_b1 h5, decC_ok rfl hA (hasB_no hX)]
     (try exact hO))))))
abbrev tb25 : Tbl := (98, c_rdecode_ok) :: tb24
theorem tb25_ok : TblOk Try.prog tb25 := TblOk.cons rdecode_ok tb24_ok


abbrev EMP : ByteArray := ⟨#[]⟩
def vKnown (t : Int) : Bool := decide (1 ≤ t) && decide (t ≤ 5)
def vPermitted (t : Int) (v : Val) : Bool :=
  if t = 2 then decide (v.2.1 = 0) || decide (v.2.1 = 1) else if t = 4 then decide (-719162 ≤ v.2.1) && decide (v.2.1 ≤ 2932896)
  else if t = 5 then decide (-999999999999999999 ≤ v.2.1) && decide (v.2.1 ≤ 999999999999999999) else if t = 3 then decide (v.2.2.size ≤ 64) else true
def vCheck (c : Col) (v : Val) : Int :=
  if vKnown c.2.1 = false then 1 else if (v.1 = true ∨ c.2.1 ≠ 3) ∧ v.2.2 ≠ EMP then 11 else if (v.1 = true ∨ c.2.1 = 3) ∧ v.2.1 ≠ 0 then 11
  else if v.1 = true ∧ c.2.2.2 = false then 12 else if v.1 = false ∧ vPermitted c.2.1 v = false then 4 else 0
def intCmp (a b : Int) : Int := if a < b then -1 else if a > b then 1 else 0
def strCmp (a b : ByteArray) : Int := if strLt a b then -1 else if a = b then 0 else 1
def vCompare (t : Int) (a b : Val) : Int :=
  if a.1 = true ∧ b.1 = true then 0 else if a.1 = true then -1 else if b.1 = true then 1 else if t = 3 then strCmp a.2.2 b.2.2 else intCmp a.2.1 b.2.1
theorem size_pos {s : ByteArray} (h : ¬ s = ⟨#[]⟩) : 0 < s.size := by
  rcases Nat.eq_zero_or_pos s.size with q | q
  · exfalso; apply h
    apply ByteArray.ext
    exact Array.eq_empty_of_size_eq_zero q
  · exact q
theorem bytesLess_irrefl : ∀ l : List UInt8, Op.bytesLess l l = false
  | [] => rfl
  | a :: x => by simp [Op.bytesLess, bytesLess_irrefl x]
theorem bytesLess_asymm : ∀ a b : List UInt8, Op.bytesLess a b = true → Op.bytesLess b a = false
  | [], [], _ => rfl
  | [], _ :: _, _ => rfl
  | _ :: _, [], h => by simp [Op.bytesLess] at h
  | a :: x, b :: y, h => by
    simp only [Op.bytesLess, Bool.or_eq_true, Bool.and_eq_true, decide_eq_true_eq, beq_iff_eq] at h
    simp only [Op.bytesLess, Bool.or_eq_false_iff, Bool.and_eq_false_iff, decide_eq_false_iff_not]
    rcases h with h | ⟨rfl, h⟩
    · exact ⟨fun q => absurd (UInt8.lt_trans h q) (UInt8.lt_irrefl _), .inl (by simpa using fun e => UInt8.lt_irrefl _ (by rw [e] at h; exact h))⟩
    · exact ⟨UInt8.lt_irrefl _, .inr (bytesLess_asymm x y h)⟩
theorem bytesLess_total : ∀ a b : List UInt8, Op.bytesLess a b = false → Op.bytesLess b a = false → a = b
  | [], [], _, _ => rfl
  | [], _ :: _, h, _ => by simp [Op.bytesLess] at h
  | _ :: _, [], _, h => by simp [Op.bytesLess] at h
  | a :: x, b :: y, h1, h2 => by
    simp only [Op.bytesLess, Bool.or_eq_false_iff, Bool.and_eq_false_iff, decide_eq_false_iff_not] at h1 h2
    have e : a = b := UInt8.le_antisymm (UInt8.not_lt.1 h2.1) (UInt8.not_lt.1 h1.1)
    subst e
    rw [bytesLess_total x y (by simpa using h1.2) (by simpa using h2.2)]
theorem strLt_irrefl (a : ByteArray) : strLt a a = false := bytesLess_irrefl _
theorem strCmp_alt (a b : ByteArray) : strCmp a b = if strLt a b then -1 else if strLt b a then 1 else 0 := by
  unfold strCmp
  by_cases h : strLt a b = true
  · simp [h]
  · by_cases e : a = b
    · subst e; simp [strLt_irrefl]
    · have h2 : strLt b a = true := by
        cases q : strLt b a with
        | true => rfl
        | false => exact absurd (str_inj (bytesLess_total _ _ (by simpa [strLt] using h) (by simpa [strLt] using q))) e
      simp [h, e, h2]

abbrev c_known_ok : Ct := .fn [.int .i64] (none) (fun (t : Int) => .d .bool (vKnown t))
set_option maxRecDepth 100000 in
set_option maxHeartbeats 4000000 in
theorem known_ok : CtOk Try.prog 60 c_known_ok := by
  refine CtOk.fn tb25_ok mixed [] [] rfl rfl ?_
  rintro ⟨(t : Int), _⟩ -
  refine ⟨[], ?_⟩
  repeat' (first
    | (
 with_reducible refine Side.mk ?_
 (try dsimp only [cu, joinT, ckTys, gts, loK, hiK, Prod.eta, List.nil_append])
 first
 | (done)
 | (with_reducible rfl)
 | (omega)
 | (exact Eq.refl _)
 | (simp only [List.length_append, List.length_cons, List.length_nil]; omega)
 | (grind))
    | (conv => whnf
       first
        | done
        | exact trivial
        | with_reducible refine NilBr.mk (fun h => ?_) ?_
        | with_reducible first | refine w_andS ?_ ?_ | refine w_andL ?_ ?_ | refine w_kern (by kernel_rfl) ?_ | refine w_true ?_ | refine w_nd ?_ ?_ | refine w_in ?_ ?_ | refine w_and ?_ ?_
        | ((with_reducible first | refine w_brN (fun h => ?_) (fun h => ?_) | refine w_brD (fun h => ?_) (fun h => ?_) | refine w_br (fun h => ?_) (fun h => ?_)) <;> (try dsimp only [cu, Prod.eta, List.nil_append] at h) <;> (try (exfalso; omega; done)))))
  all_goals (
 with_reducible refine Leaf.mk ?_
 (try dsimp only [cu, joinT, ckTys, gts, Prod.eta, List.nil_append] at *)
 first
 | (done)
 | (grind [vKnown]))
abbrev tb26 : Tbl := (60, c_known_ok) :: tb25
theorem tb26_ok : TblOk Try.prog tb26 := TblOk.cons known_ok tb25_ok

abbrev c_permitted_ok : Ct := .fn [.int .i64, tVal] (none) (fun (t : Int) (v : Val) => .d .bool (vPermitted t v))
set_option maxRecDepth 100000 in
set_option maxHeartbeats 4000000 in
theorem permitted_ok : CtOk Try.prog 61 c_permitted_ok := by
  refine CtOk.fn tb26_ok mixed [] [] rfl rfl ?_
  rintro ⟨(t : Int), (v : Val), _⟩ -
  refine ⟨[], ?_⟩
  repeat' (first
    | (
 with_reducible refine Side.mk ?_
 (try dsimp only [cu, joinT, ckTys, gts, loK, hiK, Prod.eta, List.nil_append])
 first
 | (done)
 | (with_reducible rfl)
 | (omega)
 | (exact Eq.refl _)
 | (simp only [List.length_append, List.length_cons, List.length_nil]; omega)
 | (grind))
    | (conv => whnf
       first
        | done
        | exact trivial
        | with_reducible refine NilBr.mk (fun h => ?_) ?_
        | with_reducible first | refine w_andS ?_ ?_ | refine w_andL ?_ ?_ | refine w_kern (by kernel_rfl) ?_ | refine w_true ?_ | refine w_nd ?_ ?_ | refine w_in ?_ ?_ | refine w_and ?_ ?_
        | ((with_reducible first | refine w_brN (fun h => ?_) (fun h => ?_) | refine w_brD (fun h => ?_) (fun h => ?_) | refine w_br (fun h => ?_) (fun h => ?_)) <;> (try dsimp only [cu, Prod.eta, List.nil_append] at h) <;> (try (exfalso; omega; done)))))
  all_goals (
 with_reducible refine Leaf.mk ?_
 (try dsimp only [cu, joinT, ckTys, gts, Prod.eta, List.nil_append] at *)
 first
 | (done)
 | (grind [vPermitted]))
abbrev tb27 : Tbl := (61, c_permitted_ok) :: tb26
theorem tb27_ok : TblOk Try.prog tb27 := TblOk.cons permitted_ok tb26_ok

abbrev c_vCheck_ok : Ct := .fn [tCol, tVal] (none) (fun (c : Col) (v : Val) => .d (.int .i64) (vCheck c v))
set_option maxRecDepth 100000 in
set_option maxHeartbeats 4000000 in
theorem vCheck_ok : CtOk Try.prog 38 c_vCheck_ok := by
  refine CtOk.fn tb27_ok mixed [] [] rfl rfl ?_
  rintro ⟨(c : Col), (v : Val), _⟩ -
  refine ⟨[], ?_⟩
  repeat' (first
    | (
 with_reducible refine Side.mk ?_
 (try dsimp only [cu, joinT, ckTys, gts, loK, hiK, Prod.eta, List.nil_append])
 first
 | (done)
 | (with_reducible rfl)
 | (omega)
 | (exact Eq.refl _)
 | (simp only [List.length_append, List.length_cons, List.length_nil]; omega)
 | (grind))
    | (conv => whnf
       first
        | done
        | exact trivial
        | with_reducible refine NilBr.mk (fun h => ?_) ?_
        | with_reducible first | refine w_andS ?_ ?_ | refine w_andL ?_ ?_ | refine w_kern (by kernel_rfl) ?_ | refine w_true ?_ | refine w_nd ?_ ?_ | refine w_in ?_ ?_ | refine w_and ?_ ?_
        | ((with_reducible first | refine w_brN (fun h => ?_) (fun h => ?_) | refine w_brD (fun h => ?_) (fun h => ?_) | refine w_br (fun h => ?_) (fun h => ?_)) <;> (try dsimp only [cu, Prod.eta, List.nil_append] at h) <;> (try (exfalso; omega; done)))))
  all_goals (
 with_reducible refine Leaf.mk ?_
 (try dsimp only [cu, joinT, ckTys, gts, Prod.eta, List.nil_append] at *)
 first
 | (done)
 | (grind [vCheck, vKnown, vPermitted, vCompare, intCmp]))
abbrev tb28 : Tbl := (38, c_vCheck_ok) :: tb27
theorem tb28_ok : TblOk Try.prog tb28 := TblOk.cons vCheck_ok tb27_ok

abbrev c_typed_ok : Ct := .fn [.int .i64] (none) (fun (t : Int) => .d .bool (vKnown t))
set_option maxRecDepth 100000 in
set_option maxHeartbeats 4000000 in
theorem typed_ok : CtOk Try.prog 37 c_typed_ok := by
  refine CtOk.fn tb28_ok mixed [] [] rfl rfl ?_
  rintro ⟨(t : Int), _⟩ -
  refine ⟨[], ?_⟩
  repeat' (first
    | (
 with_reducible refine Side.mk ?_
 (try dsimp only [cu, joinT, ckTys, gts, loK, hiK, Prod.eta, List.nil_append])
 first
 | (done)
 | (with_reducible rfl)
 | (omega)
 | (exact Eq.refl _)
 | (simp only [List.length_append, List.length_cons, List.length_nil]; omega)
 | (grind))
    | (conv => whnf
       first
        | done
        | exact trivial
        | with_reducible refine NilBr.mk (fun h => ?_) ?_
        | with_reducible first | refine w_andS ?_ ?_ | refine w_andL ?_ ?_ | refine w_kern (by kernel_rfl) ?_ | refine w_true ?_ | refine w_nd ?_ ?_ | refine w_in ?_ ?_ | refine w_and ?_ ?_
        | ((with_reducible first | refine w_brN (fun h => ?_) (fun h => ?_) | refine w_brD (fun h => ?_) (fun h => ?_) | refine w_br (fun h => ?_) (fun h => ?_)) <;> (try dsimp only [cu, Prod.eta, List.nil_append] at h) <;> (try (exfalso; omega; done)))))
  all_goals (
 with_reducible refine Leaf.mk ?_
 (try dsimp only [cu, joinT, ckTys, gts, Prod.eta, List.nil_append] at *)
 first
 | (done)
 | (grind [vKnown]))
abbrev tb29 : Tbl := (37, c_typed_ok) :: tb28
theorem tb29_ok : TblOk Try.prog tb29 := TblOk.cons typed_ok tb28_ok

abbrev c_rCheck_ok : Ct := .fn [tCol, tVal] (none) (fun (c : Col) (v : Val) => .d (.int .i64) (vCheck c v))
set_option maxRecDepth 100000 in
set_option maxHeartbeats 4000000 in
theorem rCheck_ok : CtOk Try.prog 24 c_rCheck_ok := by
  refine CtOk.fn tb29_ok mixed [] [] rfl rfl ?_
  rintro ⟨(c : Col), (v : Val), _⟩ -
  refine ⟨[], ?_⟩
  repeat' (first
    | (
 with_reducible refine Side.mk ?_
 (try dsimp only [cu, joinT, ckTys, gts, loK, hiK, Prod.eta, List.nil_append])
 first
 | (done)
 | (with_reducible rfl)
 | (omega)
 | (exact Eq.refl _)
 | (simp only [List.length_append, List.length_cons, List.length_nil]; omega)
 | (grind))
    | (conv => whnf
       first
        | done
        | exact trivial
        | with_reducible refine NilBr.mk (fun h => ?_) ?_
        | with_reducible first | refine w_andS ?_ ?_ | refine w_andL ?_ ?_ | refine w_kern (by kernel_rfl) ?_ | refine w_true ?_ | refine w_nd ?_ ?_ | refine w_in ?_ ?_ | refine w_and ?_ ?_
        | ((with_reducible first | refine w_brN (fun h => ?_) (fun h => ?_) | refine w_brD (fun h => ?_) (fun h => ?_) | refine w_br (fun h => ?_) (fun h => ?_)) <;> (try dsimp only [cu, Prod.eta, List.nil_append] at h) <;> (try (exfalso; omega; done)))))
  all_goals (
 with_reducible refine Leaf.mk ?_
 (try dsimp only [cu, joinT, ckTys, gts, Prod.eta, List.nil_append] at *)
 first
 | (done)
 | (grind [vCheck, vKnown, vPermitted, vCompare, intCmp]))
abbrev tb30 : Tbl := (24, c_rCheck_ok) :: tb29
theorem tb30_ok : TblOk Try.prog tb30 := TblOk.cons rCheck_ok tb29_ok

end Go.Proofs.Ytlamfjhhjfgemaa
