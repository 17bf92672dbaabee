/- Contracts of decoding a dictionary (reference). -/
import Derived.Test.YthomnlfmamagcaaDecode
namespace Go.Proofs.Ythomnlfmamagcaa
open Go.Abs
set_option linter.unusedVariables false
set_option linter.unusedSimpArgs false


theorem extract_le (s : ByteArray) (a b : Nat) : (s.extract a b).size ≤ s.size := by simp; omega
theorem wdN_zero : wdN ((([] : List ByteArray).length : Nat) : Int) = 0 := lenI_zero (by unfold maxI; simp)
theorem extract_size (s : ByteArray) {a : Int} (h : 0 ≤ a) : (s.extract a.toNat s.size).size = s.size - a.toNat := by simp
theorem unp0 (t : ByteArray) : unpackR t 0 0 = if 0 < t.size then ([], 2) else ([], 0) := by
  have hn : needR 0 0 = 0 := by decide
  have hp : ¬ ¬ permB 0 0 = true := by decide
  rw [unpackR, if_neg hp, hn, if_neg (by omega)]
  by_cases h : 0 < t.size
  · rw [if_pos (by omega), if_pos h]
  · rw [if_neg (by omega), if_neg h, if_neg]
    · rfl
    · exact tail_no fun q _ h2 => by omega
theorem dec_n0 {s : ByteArray} {a : Int} (h : 0 ≤ a) : decA s 0 ([], a, 0) = if a < s.size then ([], 2) else ([], 0) := by
  rw [dec_a1 (by rfl), wdN_zero, unp0, extract_size s h]
  by_cases q : a < s.size
  · rw [if_pos q, if_pos (show 0 < s.size - a.toNat by omega)]; rfl
  · rw [if_neg q, if_neg (show ¬ 0 < s.size - a.toNat by omega), dec_b1 (by rfl)]; rfl
theorem wdN_u64 {M : List ByteArray} {k : Int} (h : (M.length : Int) = k) (h1 : 1 ≤ k ∧ k ≤ 4096) : lenI (IntKind.u64.wrap (k - 1)) = wdN (M.length : Int) := by
  rw [u64_id (by omega), wdN, h]
  congr 1
  unfold maxI; split <;> omega
def sizeOk (n : Int) : Bool := decide (0 ≤ n) && decide (n ≤ 4096)
theorem sizeOk_no {n : Int} (h : (!sizeOk n) = true) : n < 0 ∨ n > 4096 := by
  simp [sizeOk] at h; omega
theorem sizeOk_yes {n : Int} (h : (!sizeOk n) = false) : ¬ (n < 0 ∨ n > 4096) := by
  simp [sizeOk] at h; omega
theorem not_t {b : Bool} (h : (!b) = true) : false = b := by cases b <;> simp_all
theorem not_f {b : Bool} (h : (!b) = false) : ¬ false = b := by cases b <;> simp_all
theorem hasB_yes {l : List Bool} {k : Int} (h : ixGo l false 0 = k) (h0 : 0 ≤ k) : hasB l false = true := by simp [hasB, h, h0]
theorem hasB_no {l : List Bool} (h : ixGo l false 0 = -1) : ¬ hasB l false = true := by simp [hasB, h]

abbrev c_rsize_ok : Ct := .fn [.int .i64] (none) (fun (n : Int) => .d .bool (sizeOk n))
set_option maxRecDepth 100000 in
set_option maxHeartbeats 4000000 in
theorem rsize_ok : CtOk Try.prog 47 c_rsize_ok := by
  refine CtOk.fn tb27_ok mixed [] [] rfl rfl ?_
  rintro ⟨(n : Int), _⟩ -
  refine ⟨[], ?_⟩
  repeat' (first
    | (with_reducible refine Side.mk ?_
       (try dsimp only [cu, joinT, ckTys, gts, loK, hiK, Prod.eta, List.nil_append])
       first
       | (done)
       | (with_reducible rfl)
       | (omega)
       | (exact Eq.refl _)
       | (simp only [List.length_append, List.length_cons, List.length_nil]; omega)
       | (omega))
    | (conv => whnf
       first
        | done
        | exact trivial
        | with_reducible refine NilBr.mk (fun h => ?_) ?_
        | with_reducible refine w_andS ?_ ?_
        | with_reducible refine w_andL ?_ ?_
        | with_reducible refine w_kern (by kernel_rfl) ?_
        | with_reducible refine w_true ?_
        | with_reducible refine w_nd ?_ ?_
        | with_reducible refine w_in ?_ ?_
        | with_reducible refine w_and ?_ ?_
        | (with_reducible refine w_brN (fun h => ?_) (fun h => ?_) <;> (try dsimp only [cu, Prod.eta, List.nil_append] at h) <;> (try (exfalso; omega; done)))
        | (with_reducible refine w_brD (fun h => ?_) (fun h => ?_) <;> (try dsimp only [cu, Prod.eta, List.nil_append] at h) <;> (try (exfalso; omega; done)))
        | (with_reducible refine w_br (fun h => ?_) (fun h => ?_) <;> (try dsimp only [cu, Prod.eta, List.nil_append] at h) <;> (try (exfalso; omega; done)))))
  all_goals (with_reducible refine Leaf.mk ?_
             (try dsimp only [cu, joinT, ckTys, gts, Prod.eta, List.nil_append] at *)
             first
             | (done)
             | (have e : 0 ≤ n ∧ n ≤ 4096 := by omega
                simp [sizeOk, e]; done)
             | (simp [sizeOk]; omega)
             | (simp [sizeOk, *]; done))
abbrev tb28 : Tbl := (47, c_rsize_ok) :: tb27
theorem tb28_ok : TblOk Try.prog tb28 := TblOk.cons rsize_ok tb27_ok

abbrev c_rdecode_ok : Ct := .fn [.str, .int .i64] (some (fun (s : ByteArray) (n : Int) => (s.size ≤ 288230376151711744))) (fun (s : ByteArray) (n : Int) => .tup [.list .str, .int .i64] ((decDict s n).1, (decDict s n).2, ()))
set_option maxRecDepth 100000 in
set_option maxHeartbeats 4000000 in
theorem rdecode_ok : CtOk Try.prog 35 c_rdecode_ok := by
  refine CtOk.fn tb28_ok mixed [(0, 15, 5)] [] rfl rfl ?_
  rintro ⟨(s : ByteArray), (n : Int), _⟩ hpre
  replace hpre := hpre _ rfl
  dsimp only [cu] at hpre
  have hs := hpre
  refine ⟨[(0, 20, LA.mk [.sl 10 (.int .i64), .sl 7 (.int .i64), .lst 9 .str 9] (fun y => Tag 24 ∧ cu [.int .i64, .int .i64, .list .str] (fun (i : Int) (a : Int) (M : List ByteArray) => (i = (M.length : Int)) ∧ ((wdGo s (getR s 0).1.toNat (getR s 0).2.1 []) = wdGo s ((getR s 0).1 - M.length).toNat a M) ∧ ((M.length : Int) ≤ (getR s 0).1)) y) (cu [.int .i64, .int .i64, .list .str] (fun (i : Int) (a : Int) (M : List ByteArray) => ((getR s 0).1 - (M.length : Int)).toNat)) (cu [.int .i64, .int .i64, .list .str] (fun (i : Int) (a : Int) (M : List ByteArray) => ([] : List (Nat × Nat × LA))))), (0, 64, LA.mk [.sl 120 (.int .i64), .ar 1 .bool 4, .lst 17 .str 9] (fun y => Tag 25 ∧ cu [.int .i64, .list .bool, .list .str] (fun (j : Int) (V : List Bool) (O : List ByteArray) => (0 ≤ j ∧ j ≤ (unpackR (s.extract (wdGo s (getR s 0).1.toNat (getR s 0).2.1 []).2.1.toNat s.size) n (wdN (wdGo s (getR s 0).1.toNat (getR s 0).2.1 []).1.length)).1.length) ∧ (V = usedL (wdGo s (getR s 0).1.toNat (getR s 0).2.1 []).1.length ((unpackR (s.extract (wdGo s (getR s 0).1.toNat (getR s 0).2.1 []).2.1.toNat s.size) n (wdN (wdGo s (getR s 0).1.toNat (getR s 0).2.1 []).1.length)).1.take j.toNat)) ∧ (O = ((unpackR (s.extract (wdGo s (getR s 0).1.toNat (getR s 0).2.1 []).2.1.toNat s.size) n (wdN (wdGo s (getR s 0).1.toNat (getR s 0).2.1 []).1.length)).1.take j.toNat).map (fun c => (wdGo s (getR s 0).1.toNat (getR s 0).2.1 []).1[c.toNat]!)) ∧ (((unpackR (s.extract (wdGo s (getR s 0).1.toNat (getR s 0).2.1 []).2.1.toNat s.size) n (wdN (wdGo s (getR s 0).1.toNat (getR s 0).2.1 []).1.length)).1.take j.toNat).any (fun c => decide (c ≥ ((wdGo s (getR s 0).1.toNat (getR s 0).2.1 []).1.length : Int))) = false)) y) (cu [.int .i64, .list .bool, .list .str] (fun (j : Int) (V : List Bool) (O : List ByteArray) => (((unpackR (s.extract (wdGo s (getR s 0).1.toNat (getR s 0).2.1 []).2.1.toNat s.size) n (wdN (wdGo s (getR s 0).1.toNat (getR s 0).2.1 []).1.length)).1.length : Int) - j).toNat)) (cu [.int .i64, .list .bool, .list .str] (fun (j : Int) (V : List Bool) (O : List ByteArray) => ([] : List (Nat × Nat × LA))))), (0, 80, LA.mk [.sl 140 (.int .i64)] (fun y => Tag 26 ∧ cu [.int .i64] (fun (m : Int) => (0 ≤ m ∧ m ≤ (usedL (wdGo s (getR s 0).1.toNat (getR s 0).2.1 []).1.length (unpackR (s.extract (wdGo s (getR s 0).1.toNat (getR s 0).2.1 []).2.1.toNat s.size) n (wdN (wdGo s (getR s 0).1.toNat (getR s 0).2.1 []).1.length)).1).length) ∧ (ixGo (usedL (wdGo s (getR s 0).1.toNat (getR s 0).2.1 []).1.length (unpackR (s.extract (wdGo s (getR s 0).1.toNat (getR s 0).2.1 []).2.1.toNat s.size) n (wdN (wdGo s (getR s 0).1.toNat (getR s 0).2.1 []).1.length)).1) false 0 = ixGo ((usedL (wdGo s (getR s 0).1.toNat (getR s 0).2.1 []).1.length (unpackR (s.extract (wdGo s (getR s 0).1.toNat (getR s 0).2.1 []).2.1.toNat s.size) n (wdN (wdGo s (getR s 0).1.toNat (getR s 0).2.1 []).1.length)).1).drop m.toNat) false m)) y) (cu [.int .i64] (fun (m : Int) => (((usedL (wdGo s (getR s 0).1.toNat (getR s 0).2.1 []).1.length (unpackR (s.extract (wdGo s (getR s 0).1.toNat (getR s 0).2.1 []).2.1.toNat s.size) n (wdN (wdGo s (getR s 0).1.toNat (getR s 0).2.1 []).1.length)).1).length : Int) - m).toNat)) (cu [.int .i64] (fun (m : Int) => ([] : List (Nat × Nat × LA)))))], ?_⟩
  repeat' (first
    | (with_reducible refine Side.mk ⟨(⟨⟩ : Tag 24), ?_⟩
       dsimp only [cu, joinT, ckTys, gts, Prod.eta, List.nil_append]
       refine ⟨?_, ?_, ?_⟩
       · first
         | (rfl)
         | (simp only [List.length_append, List.length_cons, List.length_nil]; omega)
       · first
         | (rw [List.length_nil]; simp; done)
         | (have hr := getR_rng s a
            have hg0 : (getR s a).2.2 = 0 := by assumption
            have hga := getR_ok hg0
            have q0 : (!sizeOk n) = false := by assumption
            have q1 := sizeOk_yes q0
            have hg := getR_rng s 0
            have hwn := u64_id (n := n) (by omega)
            rw [hM, wdGo_next (by omega) hg0 (by have := u64_id (n := (s.size : Int) - (getR s a).2.1) (by omega); omega) (fun q => by simp_all [sLe, wdAt])]
            rfl)
       · first
         | (have hg := getR_rng s 0
            simp only [List.length_nil]; omega)
         | (simp only [List.length_append, List.length_cons, List.length_nil]; omega))
    | (with_reducible refine Side.mk ⟨(⟨⟩ : Tag 25), ?_⟩
       dsimp only [cu, joinT, ckTys, gts, Prod.eta, List.nil_append]
       refine ⟨?_, ?_, ?_, ?_⟩
       · first
         | (omega)
         | (have q0 : (!sizeOk n) = false := by assumption
            have q1 := sizeOk_yes q0
            have hg := getR_rng s 0
            have hwn := u64_id (n := n) (by omega)
            have hR : (wdGo s (getR s 0).1.toNat (getR s 0).2.1 []) = (M, a, 0) := by rw [hM, wdGo_end (by omega)]
            have hwd := wdN_u64 (M := M) (k := (getR s 0).1) (by omega) (by omega)
            have hU : (unpackR (s.extract a.toNat s.size) n (lenI (IntKind.u64.wrap ((getR s 0).1 - 1)))) = (unpackR (s.extract (wdGo s (getR s 0).1.toNat (getR s 0).2.1 []).2.1.toNat s.size) n (wdN (wdGo s (getR s 0).1.toNat (getR s 0).2.1 []).1.length)) := by rw [hR, hwd]
            simp only [hU, u64_get] at *
            omega)
       · first
         | (rw [show ((0 : Int).toNat) = 0 from rfl, List.take_zero, usedL_nil]
            have hR : (wdGo s (getR s 0).1.toNat (getR s 0).2.1 []) = (M, a, 0) := by rw [hM, wdGo_end (by omega)]
            rw [hR]
            simp; done)
         | (have q0 : (!sizeOk n) = false := by assumption
            have q1 := sizeOk_yes q0
            have hg := getR_rng s 0
            have hwn := u64_id (n := n) (by omega)
            have hR : (wdGo s (getR s 0).1.toNat (getR s 0).2.1 []) = (M, a, 0) := by rw [hM, wdGo_end (by omega)]
            have hwd := wdN_u64 (M := M) (k := (getR s 0).1) (by omega) (by omega)
            have hU : (unpackR (s.extract a.toNat s.size) n (lenI (IntKind.u64.wrap ((getR s 0).1 - 1)))) = (unpackR (s.extract (wdGo s (getR s 0).1.toNat (getR s 0).2.1 []).2.1.toNat s.size) n (wdN (wdGo s (getR s 0).1.toNat (getR s 0).2.1 []).1.length)) := by rw [hR, hwd]
            simp only [hU, u64_get] at *
            have hRl : (wdGo s (getR s 0).1.toNat (getR s 0).2.1 []).1.length = M.length := by rw [hR]
            have hur := unpackR_rng (s.extract (wdGo s (getR s 0).1.toNat (getR s 0).2.1 []).2.1.toNat s.size) n (wdN (wdGo s (getR s 0).1.toNat (getR s 0).2.1 []).1.length) j.toNat
            rw [hV, usedL_step (by omega) (by omega)])
       · first
         | (rw [show ((0 : Int).toNat) = 0 from rfl, List.take_zero]
            rfl)
         | (have q0 : (!sizeOk n) = false := by assumption
            have q1 := sizeOk_yes q0
            have hg := getR_rng s 0
            have hwn := u64_id (n := n) (by omega)
            have hR : (wdGo s (getR s 0).1.toNat (getR s 0).2.1 []) = (M, a, 0) := by rw [hM, wdGo_end (by omega)]
            have hwd := wdN_u64 (M := M) (k := (getR s 0).1) (by omega) (by omega)
            have hU : (unpackR (s.extract a.toNat s.size) n (lenI (IntKind.u64.wrap ((getR s 0).1 - 1)))) = (unpackR (s.extract (wdGo s (getR s 0).1.toNat (getR s 0).2.1 []).2.1.toNat s.size) n (wdN (wdGo s (getR s 0).1.toNat (getR s 0).2.1 []).1.length)) := by rw [hR, hwd]
            simp only [hU, u64_get] at *
            rw [map_take (by omega), hO, hR])
       · first
         | (rw [show ((0 : Int).toNat) = 0 from rfl, List.take_zero]
            rfl)
         | (have q0 : (!sizeOk n) = false := by assumption
            have q1 := sizeOk_yes q0
            have hg := getR_rng s 0
            have hwn := u64_id (n := n) (by omega)
            have hR : (wdGo s (getR s 0).1.toNat (getR s 0).2.1 []) = (M, a, 0) := by rw [hM, wdGo_end (by omega)]
            have hwd := wdN_u64 (M := M) (k := (getR s 0).1) (by omega) (by omega)
            have hU : (unpackR (s.extract a.toNat s.size) n (lenI (IntKind.u64.wrap ((getR s 0).1 - 1)))) = (unpackR (s.extract (wdGo s (getR s 0).1.toNat (getR s 0).2.1 []).2.1.toNat s.size) n (wdN (wdGo s (getR s 0).1.toNat (getR s 0).2.1 []).1.length)) := by rw [hR, hwd]
            simp only [hU, u64_get] at *
            have hRl : (wdGo s (getR s 0).1.toNat (getR s 0).2.1 []).1.length = M.length := by rw [hR]
            exact any_take (by omega) hA (by omega)))
    | (with_reducible refine Side.mk ⟨(⟨⟩ : Tag 26), ?_⟩
       dsimp only [cu, joinT, ckTys, gts, Prod.eta, List.nil_append]
       refine ⟨?_, ?_⟩
       · first
         | (rw [usedL_len]; omega)
         | (have q0 : (!sizeOk n) = false := by assumption
            have q1 := sizeOk_yes q0
            have hg := getR_rng s 0
            have hwn := u64_id (n := n) (by omega)
            have hR : (wdGo s (getR s 0).1.toNat (getR s 0).2.1 []) = (M, a, 0) := by rw [hM, wdGo_end (by omega)]
            have hwd := wdN_u64 (M := M) (k := (getR s 0).1) (by omega) (by omega)
            have hU : (unpackR (s.extract a.toNat s.size) n (lenI (IntKind.u64.wrap ((getR s 0).1 - 1)))) = (unpackR (s.extract (wdGo s (getR s 0).1.toNat (getR s 0).2.1 []).2.1.toNat s.size) n (wdN (wdGo s (getR s 0).1.toNat (getR s 0).2.1 []).1.length)) := by rw [hR, hwd]
            simp only [hU, u64_get] at *
            have hRl : (wdGo s (getR s 0).1.toNat (getR s 0).2.1 []).1.length = M.length := by rw [hR]
            have hj1 : ¬ j < ((unpackR (s.extract (wdGo s (getR s 0).1.toNat (getR s 0).2.1 []).2.1.toNat s.size) n (wdN (wdGo s (getR s 0).1.toNat (getR s 0).2.1 []).1.length)).1.length : Int) := by omega
            have hta := take_all hj1
            rw [hta] at hV hO hA
            subst hV
            have hull : (usedL (wdGo s (getR s 0).1.toNat (getR s 0).2.1 []).1.length (unpackR (s.extract (wdGo s (getR s 0).1.toNat (getR s 0).2.1 []).2.1.toNat s.size) n (wdN (wdGo s (getR s 0).1.toNat (getR s 0).2.1 []).1.length)).1).length = (wdGo s (getR s 0).1.toNat (getR s 0).2.1 []).1.length := usedL_len _ _
            omega)
       · first
         | (rw [show ((0 : Int).toNat) = 0 from rfl, List.drop_zero])
         | (have q0 : (!sizeOk n) = false := by assumption
            have q1 := sizeOk_yes q0
            have hg := getR_rng s 0
            have hwn := u64_id (n := n) (by omega)
            have hR : (wdGo s (getR s 0).1.toNat (getR s 0).2.1 []) = (M, a, 0) := by rw [hM, wdGo_end (by omega)]
            have hwd := wdN_u64 (M := M) (k := (getR s 0).1) (by omega) (by omega)
            have hU : (unpackR (s.extract a.toNat s.size) n (lenI (IntKind.u64.wrap ((getR s 0).1 - 1)))) = (unpackR (s.extract (wdGo s (getR s 0).1.toNat (getR s 0).2.1 []).2.1.toNat s.size) n (wdN (wdGo s (getR s 0).1.toNat (getR s 0).2.1 []).1.length)) := by rw [hR, hwd]
            simp only [hU, u64_get] at *
            have hRl : (wdGo s (getR s 0).1.toNat (getR s 0).2.1 []).1.length = M.length := by rw [hR]
            have hj1 : ¬ j < ((unpackR (s.extract (wdGo s (getR s 0).1.toNat (getR s 0).2.1 []).2.1.toNat s.size) n (wdN (wdGo s (getR s 0).1.toNat (getR s 0).2.1 []).1.length)).1.length : Int) := by omega
            have hta := take_all hj1
            rw [hta] at hV hO hA
            subst hV
            have hull : (usedL (wdGo s (getR s 0).1.toNat (getR s 0).2.1 []).1.length (unpackR (s.extract (wdGo s (getR s 0).1.toNat (getR s 0).2.1 []).2.1.toNat s.size) n (wdN (wdGo s (getR s 0).1.toNat (getR s 0).2.1 []).1.length)).1).length = (wdGo s (getR s 0).1.toNat (getR s 0).2.1 []).1.length := usedL_len _ _
            have hb : ¬ false = (usedL (wdGo s (getR s 0).1.toNat (getR s 0).2.1 []).1.length (unpackR (s.extract (wdGo s (getR s 0).1.toNat (getR s 0).2.1 []).2.1.toNat s.size) n (wdN (wdGo s (getR s 0).1.toNat (getR s 0).2.1 []).1.length)).1)[m.toNat]! := not_f (by assumption)
            rw [hX, ixGo_step (by omega), if_neg hb]))
    | (with_reducible refine Side.mk ?_
       (try dsimp only [cu, joinT, ckTys, gts, loK, hiK, Prod.eta, List.nil_append])
       first
       | (done)
       | (with_reducible rfl)
       | (omega)
       | (exact Eq.refl _)
       | (simp only [List.length_append, List.length_cons, List.length_nil]; omega)
       | (omega)
       | (have q0 : (!sizeOk n) = false := by assumption
          have q1 := sizeOk_yes q0
          have hg := getR_rng s 0
          have hwn := u64_id (n := n) (by omega)
          omega)
       | (exact u64_wrap _)
       | (have hsx := extract_le s a.toNat s.size
          omega)
       | (have q0 : (!sizeOk n) = false := by assumption
          have q1 := sizeOk_yes q0
          have hg := getR_rng s 0
          have hwn := u64_id (n := n) (by omega)
          have hR : (wdGo s (getR s 0).1.toNat (getR s 0).2.1 []) = (M, a, 0) := by rw [hM, wdGo_end (by omega)]
          have hwd := wdN_u64 (M := M) (k := (getR s 0).1) (by omega) (by omega)
          have hU : (unpackR (s.extract a.toNat s.size) n (lenI (IntKind.u64.wrap ((getR s 0).1 - 1)))) = (unpackR (s.extract (wdGo s (getR s 0).1.toNat (getR s 0).2.1 []).2.1.toNat s.size) n (wdN (wdGo s (getR s 0).1.toNat (getR s 0).2.1 []).1.length)) := by rw [hR, hwd]
          simp only [hU, u64_get] at *
          have h5 : (unpackR (s.extract (wdGo s (getR s 0).1.toNat (getR s 0).2.1 []).2.1.toNat s.size) n (wdN (wdGo s (getR s 0).1.toNat (getR s 0).2.1 []).1.length)).2 = 0 := by assumption
          have hul := unpackR_len h5
          omega)
       | (have q0 : (!sizeOk n) = false := by assumption
          have q1 := sizeOk_yes q0
          have hg := getR_rng s 0
          have hwn := u64_id (n := n) (by omega)
          have hR : (wdGo s (getR s 0).1.toNat (getR s 0).2.1 []) = (M, a, 0) := by rw [hM, wdGo_end (by omega)]
          have hwd := wdN_u64 (M := M) (k := (getR s 0).1) (by omega) (by omega)
          have hU : (unpackR (s.extract a.toNat s.size) n (lenI (IntKind.u64.wrap ((getR s 0).1 - 1)))) = (unpackR (s.extract (wdGo s (getR s 0).1.toNat (getR s 0).2.1 []).2.1.toNat s.size) n (wdN (wdGo s (getR s 0).1.toNat (getR s 0).2.1 []).1.length)) := by rw [hR, hwd]
          simp only [hU, u64_get] at *
          have h5 : (unpackR (s.extract (wdGo s (getR s 0).1.toNat (getR s 0).2.1 []).2.1.toNat s.size) n (wdN (wdGo s (getR s 0).1.toNat (getR s 0).2.1 []).1.length)).2 = 0 := by assumption
          have hul := unpackR_len h5
          have hol := congrArg List.length hO
          rw [List.length_map, List.length_take] at hol
          simp only [List.length_cons, List.length_nil]
          omega)
       | (have q0 : (!sizeOk n) = false := by assumption
          have q1 := sizeOk_yes q0
          have hg := getR_rng s 0
          have hwn := u64_id (n := n) (by omega)
          have hR : (wdGo s (getR s 0).1.toNat (getR s 0).2.1 []) = (M, a, 0) := by rw [hM, wdGo_end (by omega)]
          have q2 : (getR s 0).2.2 = 0 := by first | assumption | omega
          have hat := wdGo_at (s := s) (n := (getR s 0).1.toNat) q2 (by rw [hR])
          rw [hR] at hat
          dsimp only at hat
          omega)
       | (have q0 : (!sizeOk n) = false := by assumption
          have q1 := sizeOk_yes q0
          have hg := getR_rng s 0
          have hwn := u64_id (n := n) (by omega)
          have hR : (wdGo s (getR s 0).1.toNat (getR s 0).2.1 []) = (M, a, 0) := by rw [hM, wdGo_end (by omega)]
          have hwd := wdN_u64 (M := M) (k := (getR s 0).1) (by omega) (by omega)
          have hU : (unpackR (s.extract a.toNat s.size) n (lenI (IntKind.u64.wrap ((getR s 0).1 - 1)))) = (unpackR (s.extract (wdGo s (getR s 0).1.toNat (getR s 0).2.1 []).2.1.toNat s.size) n (wdN (wdGo s (getR s 0).1.toNat (getR s 0).2.1 []).1.length)) := by rw [hR, hwd]
          simp only [hU, u64_get] at *
          have hRl : (wdGo s (getR s 0).1.toNat (getR s 0).2.1 []).1.length = M.length := by rw [hR]
          have hur := unpackR_rng (s.extract (wdGo s (getR s 0).1.toNat (getR s 0).2.1 []).2.1.toNat s.size) n (wdN (wdGo s (getR s 0).1.toNat (getR s 0).2.1 []).1.length) j.toNat
          omega)
       | (have q0 : (!sizeOk n) = false := by assumption
          have q1 := sizeOk_yes q0
          have hg := getR_rng s 0
          have hwn := u64_id (n := n) (by omega)
          have hR : (wdGo s (getR s 0).1.toNat (getR s 0).2.1 []) = (M, a, 0) := by rw [hM, wdGo_end (by omega)]
          have hwd := wdN_u64 (M := M) (k := (getR s 0).1) (by omega) (by omega)
          have hU : (unpackR (s.extract a.toNat s.size) n (lenI (IntKind.u64.wrap ((getR s 0).1 - 1)))) = (unpackR (s.extract (wdGo s (getR s 0).1.toNat (getR s 0).2.1 []).2.1.toNat s.size) n (wdN (wdGo s (getR s 0).1.toNat (getR s 0).2.1 []).1.length)) := by rw [hR, hwd]
          simp only [hU, u64_get] at *
          have hRl : (wdGo s (getR s 0).1.toNat (getR s 0).2.1 []).1.length = M.length := by rw [hR]
          have hur := unpackR_rng (s.extract (wdGo s (getR s 0).1.toNat (getR s 0).2.1 []).2.1.toNat s.size) n (wdN (wdGo s (getR s 0).1.toNat (getR s 0).2.1 []).1.length) j.toNat
          rw [hV, usedL_len]; omega)
       | (have q0 : (!sizeOk n) = false := by assumption
          have q1 := sizeOk_yes q0
          have hg := getR_rng s 0
          have hwn := u64_id (n := n) (by omega)
          have hR : (wdGo s (getR s 0).1.toNat (getR s 0).2.1 []) = (M, a, 0) := by rw [hM, wdGo_end (by omega)]
          have hwd := wdN_u64 (M := M) (k := (getR s 0).1) (by omega) (by omega)
          have hU : (unpackR (s.extract a.toNat s.size) n (lenI (IntKind.u64.wrap ((getR s 0).1 - 1)))) = (unpackR (s.extract (wdGo s (getR s 0).1.toNat (getR s 0).2.1 []).2.1.toNat s.size) n (wdN (wdGo s (getR s 0).1.toNat (getR s 0).2.1 []).1.length)) := by rw [hR, hwd]
          simp only [hU, u64_get] at *
          have hRl : (wdGo s (getR s 0).1.toNat (getR s 0).2.1 []).1.length = M.length := by rw [hR]
          omega)
       | (have q0 : (!sizeOk n) = false := by assumption
          have q1 := sizeOk_yes q0
          have hg := getR_rng s 0
          have hwn := u64_id (n := n) (by omega)
          have hR : (wdGo s (getR s 0).1.toNat (getR s 0).2.1 []) = (M, a, 0) := by rw [hM, wdGo_end (by omega)]
          have hwd := wdN_u64 (M := M) (k := (getR s 0).1) (by omega) (by omega)
          have hU : (unpackR (s.extract a.toNat s.size) n (lenI (IntKind.u64.wrap ((getR s 0).1 - 1)))) = (unpackR (s.extract (wdGo s (getR s 0).1.toNat (getR s 0).2.1 []).2.1.toNat s.size) n (wdN (wdGo s (getR s 0).1.toNat (getR s 0).2.1 []).1.length)) := by rw [hR, hwd]
          simp only [hU, u64_get] at *
          have hRl : (wdGo s (getR s 0).1.toNat (getR s 0).2.1 []).1.length = M.length := by rw [hR]
          have hj1 : ¬ j < ((unpackR (s.extract (wdGo s (getR s 0).1.toNat (getR s 0).2.1 []).2.1.toNat s.size) n (wdN (wdGo s (getR s 0).1.toNat (getR s 0).2.1 []).1.length)).1.length : Int) := by omega
          have hta := take_all hj1
          rw [hta] at hV hO hA
          subst hV
          have hull : (usedL (wdGo s (getR s 0).1.toNat (getR s 0).2.1 []).1.length (unpackR (s.extract (wdGo s (getR s 0).1.toNat (getR s 0).2.1 []).2.1.toNat s.size) n (wdN (wdGo s (getR s 0).1.toNat (getR s 0).2.1 []).1.length)).1).length = (wdGo s (getR s 0).1.toNat (getR s 0).2.1 []).1.length := usedL_len _ _
          omega)
       | (have q0 : (!sizeOk n) = false := by assumption
          have q1 := sizeOk_yes q0
          have hg := getR_rng s 0
          have hwn := u64_id (n := n) (by omega)
          exfalso; omega)
       | (simp only [List.length_cons, List.length_nil]
          have q0 : (!sizeOk n) = false := by assumption
          have q1 := sizeOk_yes q0
          have hg := getR_rng s 0
          have hwn := u64_id (n := n) (by omega)
          omega)
       | (have q0 : (!sizeOk n) = false := by assumption
          have q1 := sizeOk_yes q0
          have hg := getR_rng s 0
          have hwn := u64_id (n := n) (by omega)
          have hr := getR_rng s a
          omega)
       | (have q0 : (!sizeOk n) = false := by assumption
          have q1 := sizeOk_yes q0
          have hg := getR_rng s 0
          have hwn := u64_id (n := n) (by omega)
          have hr := getR_rng s a
          have hg0 : (getR s a).2.2 = 0 := by assumption
          have hga := getR_ok hg0
          omega)
       | (have q0 : (!sizeOk n) = false := by assumption
          have q1 := sizeOk_yes q0
          have hg := getR_rng s 0
          have hwn := u64_id (n := n) (by omega)
          have hr := getR_rng s a
          have hg0 : (getR s a).2.2 = 0 := by assumption
          have hga := getR_ok hg0
          have hsz := u64_id (n := (s.size : Int) - (getR s a).2.1) (by omega)
          omega))
    | (conv => whnf
       first
        | done
        | exact trivial
        | with_reducible refine NilBr.mk (fun h => ?_) ?_
        | with_reducible refine w_andS ?_ ?_
        | with_reducible refine w_andL ?_ ?_
        | with_reducible refine w_kern (by kernel_rfl) ?_
        | with_reducible refine w_true ?_
        | with_reducible refine w_nd ?_ ?_
        | with_reducible refine w_in ?_ ?_
        | with_reducible refine w_and ?_ ?_
        | (with_reducible refine w_brN (fun h => ?_) (fun h => ?_) <;> (try dsimp only [cu, Prod.eta, List.nil_append] at h) <;> (try (exfalso; omega; done)))
        | (with_reducible refine w_brD (fun h => ?_) (fun h => ?_) <;> (try dsimp only [cu, Prod.eta, List.nil_append] at h) <;> (try (exfalso; omega; done)))
        | (with_reducible refine w_br (fun h => ?_) (fun h => ?_) <;> (try dsimp only [cu, Prod.eta, List.nil_append] at h) <;> (try (exfalso; omega; done)))
        | (intro yy (hy : Tag 24 ∧ _)
           obtain ⟨(i : Int), (a : Int), (M : List ByteArray), _⟩ := yy
           replace hy := hy.2
           dsimp only [cu, joinT, ckTys, gts, Prod.eta, List.nil_append] at hy
           obtain ⟨hi, hM, hl⟩ := hy)
        | (intro yy (hy : Tag 25 ∧ _)
           obtain ⟨(j : Int), (V : List Bool), (O : List ByteArray), _⟩ := yy
           replace hy := hy.2
           dsimp only [cu, joinT, ckTys, gts, Prod.eta, List.nil_append] at hy
           obtain ⟨hj, hV, hO, hA⟩ := hy)
        | (intro yy (hy : Tag 26 ∧ _)
           obtain ⟨(m : Int), _⟩ := yy
           replace hy := hy.2
           dsimp only [cu, joinT, ckTys, gts, Prod.eta, List.nil_append] at hy
           obtain ⟨hm, hX⟩ := hy)))
  all_goals (with_reducible refine Leaf.mk ?_
             (try dsimp only [cu, joinT, ckTys, gts, Prod.eta, List.nil_append] at *)
             first
             | (done)
             | (have q0 : (!sizeOk n) = false := by assumption
                have q1 := sizeOk_yes q0
                have hg := getR_rng s 0
                have hwn := u64_id (n := n) (by omega)
                exfalso; omega)
             | (have q0 : (!sizeOk n) = true := by assumption
                rw [dec_0 (sizeOk_no q0)])
             | (have q0 : (!sizeOk n) = false := by assumption
                have q1 := sizeOk_yes q0
                have hg := getR_rng s 0
                have hwn := u64_id (n := n) (by omega)
                have q2 : ¬ (getR s 0).2.2 = 0 := by assumption
                rw [dec_1 q1 q2])
             | (have q0 : (!sizeOk n) = false := by assumption
                have q1 := sizeOk_yes q0
                have hg := getR_rng s 0
                have hwn := u64_id (n := n) (by omega)
                have q2 : (getR s 0).2.2 = 0 := by first | assumption | omega
                have q3 : (getR s 0).1 > n ∨ ((getR s 0).1 = 0 ∧ n > 0) := by omega
                rw [dec_2 q1 q2 q3])
             | (have hr := getR_rng s a
                have q0 : (!sizeOk n) = false := by assumption
                have q1 := sizeOk_yes q0
                have hg := getR_rng s 0
                have hwn := u64_id (n := n) (by omega)
                have q2 : (getR s 0).2.2 = 0 := by first | assumption | omega
                have q3 : ¬ ((getR s 0).1 > n ∨ ((getR s 0).1 = 0 ∧ n > 0)) := by first | omega | (simp_all; omega)
                rw [dec_3 q1 q2 q3]
                rw [hM]
                have h1 : ¬ (getR s a).2.2 = 0 := by assumption
                rw [wdGo_err (by omega) h1, dec_a0 h1])
             | (have hr := getR_rng s a
                have q0 : (!sizeOk n) = false := by assumption
                have q1 := sizeOk_yes q0
                have hg := getR_rng s 0
                have hwn := u64_id (n := n) (by omega)
                have q2 : (getR s 0).2.2 = 0 := by first | assumption | omega
                have q3 : ¬ ((getR s 0).1 > n ∨ ((getR s 0).1 = 0 ∧ n > 0)) := by first | omega | (simp_all; omega)
                rw [dec_3 q1 q2 q3]
                rw [hM]
                have hg0 : (getR s a).2.2 = 0 := by assumption
                have hga := getR_ok hg0
                have hsz := u64_id (n := (s.size : Int) - (getR s a).2.1) (by omega)
                have h2 : (getR s a).1 > (s.size : Int) - (getR s a).2.1 := by omega
                rw [wdGo_short (by omega) hg0 h2, dec_a0 (by decide)])
             | (have hr := getR_rng s a
                have q0 : (!sizeOk n) = false := by assumption
                have q1 := sizeOk_yes q0
                have hg := getR_rng s 0
                have hwn := u64_id (n := n) (by omega)
                have q2 : (getR s 0).2.2 = 0 := by first | assumption | omega
                have q3 : ¬ ((getR s 0).1 > n ∨ ((getR s 0).1 = 0 ∧ n > 0)) := by first | omega | (simp_all; omega)
                rw [dec_3 q1 q2 q3]
                rw [hM]
                have hg0 : (getR s a).2.2 = 0 := by assumption
                have hga := getR_ok hg0
                have hsz := u64_id (n := (s.size : Int) - (getR s a).2.1) (by omega)
                have h2 : ¬ (getR s a).1 > (s.size : Int) - (getR s a).2.1 := by omega
                have h3 : 0 < M.length ∧ sLe (wdAt s a) M[M.length - 1]! = true := ⟨by omega, by simp_all [sLe, wdAt]⟩
                rw [wdGo_form (by omega) hg0 h2 h3, dec_a0 (by decide)])
             | (have hn0 : n = 0 := by assumption
                have q0 : (!sizeOk n) = false := by assumption
                have q1 := sizeOk_yes q0
                have hg := getR_rng s 0
                have hwn := u64_id (n := n) (by omega)
                have hR : (wdGo s (getR s 0).1.toNat (getR s 0).2.1 []) = (M, a, 0) := by rw [hM, wdGo_end (by omega)]
                have q2 : (getR s 0).2.2 = 0 := by first | assumption | omega
                have q3 : ¬ ((getR s 0).1 > n ∨ ((getR s 0).1 = 0 ∧ n > 0)) := by first | omega | (simp_all; omega)
                have hat := wdGo_at (s := s) (n := (getR s 0).1.toNat) q2 (by rw [hR])
                rw [hR] at hat
                rw [dec_3 q1 q2 q3, hR]
                have hm0 : M = [] := List.length_eq_zero_iff.1 (by omega)
                subst hm0
                rw [hn0, dec_n0 hat.1]
                first | (have hlt : a < s.size := by assumption
                         rw [if_pos hlt]; done) | (have hlt : ¬ a < s.size := by assumption
                                                   rw [if_neg hlt]; done))
             | (have q0 : (!sizeOk n) = false := by assumption
                have q1 := sizeOk_yes q0
                have hg := getR_rng s 0
                have hwn := u64_id (n := n) (by omega)
                have hR : (wdGo s (getR s 0).1.toNat (getR s 0).2.1 []) = (M, a, 0) := by rw [hM, wdGo_end (by omega)]
                have hwd := wdN_u64 (M := M) (k := (getR s 0).1) (by omega) (by omega)
                have h5 : ¬ (unpackR (s.extract a.toNat s.size) n (lenI (IntKind.u64.wrap ((getR s 0).1 - 1)))).2 = 0 := by assumption
                have q2 : (getR s 0).2.2 = 0 := by first | assumption | omega
                have q3 : ¬ ((getR s 0).1 > n ∨ ((getR s 0).1 = 0 ∧ n > 0)) := by first | omega | (simp_all; omega)
                rw [dec_3 q1 q2 q3]
                rw [hR, dec_a1 (by rfl)]
                dsimp only
                rw [← hwd, dec_b0 h5])
             | (have q0 : (!sizeOk n) = false := by assumption
                have q1 := sizeOk_yes q0
                have hg := getR_rng s 0
                have hwn := u64_id (n := n) (by omega)
                have hR : (wdGo s (getR s 0).1.toNat (getR s 0).2.1 []) = (M, a, 0) := by rw [hM, wdGo_end (by omega)]
                have hwd := wdN_u64 (M := M) (k := (getR s 0).1) (by omega) (by omega)
                have hU : (unpackR (s.extract a.toNat s.size) n (lenI (IntKind.u64.wrap ((getR s 0).1 - 1)))) = (unpackR (s.extract (wdGo s (getR s 0).1.toNat (getR s 0).2.1 []).2.1.toNat s.size) n (wdN (wdGo s (getR s 0).1.toNat (getR s 0).2.1 []).1.length)) := by rw [hR, hwd]
                simp only [hU, u64_get] at *
                have hRl : (wdGo s (getR s 0).1.toNat (getR s 0).2.1 []).1.length = M.length := by rw [hR]
                have h5 : (unpackR (s.extract (wdGo s (getR s 0).1.toNat (getR s 0).2.1 []).2.1.toNat s.size) n (wdN (wdGo s (getR s 0).1.toNat (getR s 0).2.1 []).1.length)).2 = 0 := by assumption
                have q6 : (unpackR (s.extract (wdGo s (getR s 0).1.toNat (getR s 0).2.1 []).2.1.toNat s.size) n (wdN (wdGo s (getR s 0).1.toNat (getR s 0).2.1 []).1.length)).1[j.toNat]! ≥ ((wdGo s (getR s 0).1.toNat (getR s 0).2.1 []).1.length : Int) := by omega
                have q2 : (getR s 0).2.2 = 0 := by first | assumption | omega
                have q3 : ¬ ((getR s 0).1 > n ∨ ((getR s 0).1 = 0 ∧ n > 0)) := by first | omega | (simp_all; omega)
                rw [dec_3 q1 q2 q3]
                rw [dec_a1 (by rw [hR]), dec_b1 h5, decC_bad (i := j) (by omega) q6])
             | (have q0 : (!sizeOk n) = false := by assumption
                have q1 := sizeOk_yes q0
                have hg := getR_rng s 0
                have hwn := u64_id (n := n) (by omega)
                have hR : (wdGo s (getR s 0).1.toNat (getR s 0).2.1 []) = (M, a, 0) := by rw [hM, wdGo_end (by omega)]
                have hwd := wdN_u64 (M := M) (k := (getR s 0).1) (by omega) (by omega)
                have hU : (unpackR (s.extract a.toNat s.size) n (lenI (IntKind.u64.wrap ((getR s 0).1 - 1)))) = (unpackR (s.extract (wdGo s (getR s 0).1.toNat (getR s 0).2.1 []).2.1.toNat s.size) n (wdN (wdGo s (getR s 0).1.toNat (getR s 0).2.1 []).1.length)) := by rw [hR, hwd]
                simp only [hU, u64_get] at *
                have hRl : (wdGo s (getR s 0).1.toNat (getR s 0).2.1 []).1.length = M.length := by rw [hR]
                have hj1 : ¬ j < ((unpackR (s.extract (wdGo s (getR s 0).1.toNat (getR s 0).2.1 []).2.1.toNat s.size) n (wdN (wdGo s (getR s 0).1.toNat (getR s 0).2.1 []).1.length)).1.length : Int) := by omega
                have hta := take_all hj1
                rw [hta] at hV hO hA
                subst hV
                have hull : (usedL (wdGo s (getR s 0).1.toNat (getR s 0).2.1 []).1.length (unpackR (s.extract (wdGo s (getR s 0).1.toNat (getR s 0).2.1 []).2.1.toNat s.size) n (wdN (wdGo s (getR s 0).1.toNat (getR s 0).2.1 []).1.length)).1).length = (wdGo s (getR s 0).1.toNat (getR s 0).2.1 []).1.length := usedL_len _ _
                have h5 : (unpackR (s.extract (wdGo s (getR s 0).1.toNat (getR s 0).2.1 []).2.1.toNat s.size) n (wdN (wdGo s (getR s 0).1.toNat (getR s 0).2.1 []).1.length)).2 = 0 := by assumption
                have hb : false = (usedL (wdGo s (getR s 0).1.toNat (getR s 0).2.1 []).1.length (unpackR (s.extract (wdGo s (getR s 0).1.toNat (getR s 0).2.1 []).2.1.toNat s.size) n (wdN (wdGo s (getR s 0).1.toNat (getR s 0).2.1 []).1.length)).1)[m.toNat]! := not_t (by assumption)
                rw [ixGo_step (by omega), if_pos hb] at hX
                have q2 : (getR s 0).2.2 = 0 := by first | assumption | omega
                have q3 : ¬ ((getR s 0).1 > n ∨ ((getR s 0).1 = 0 ∧ n > 0)) := by first | omega | (simp_all; omega)
                rw [dec_3 q1 q2 q3]
                rw [dec_a1 (by rw [hR]), dec_b1 h5, decC_un rfl hA (hasB_yes hX (by omega))])
             | (have q0 : (!sizeOk n) = false := by assumption
                have q1 := sizeOk_yes q0
                have hg := getR_rng s 0
                have hwn := u64_id (n := n) (by omega)
                have hR : (wdGo s (getR s 0).1.toNat (getR s 0).2.1 []) = (M, a, 0) := by rw [hM, wdGo_end (by omega)]
                have hwd := wdN_u64 (M := M) (k := (getR s 0).1) (by omega) (by omega)
                have hU : (unpackR (s.extract a.toNat s.size) n (lenI (IntKind.u64.wrap ((getR s 0).1 - 1)))) = (unpackR (s.extract (wdGo s (getR s 0).1.toNat (getR s 0).2.1 []).2.1.toNat s.size) n (wdN (wdGo s (getR s 0).1.toNat (getR s 0).2.1 []).1.length)) := by rw [hR, hwd]
                simp only [hU, u64_get] at *
                have hRl : (wdGo s (getR s 0).1.toNat (getR s 0).2.1 []).1.length = M.length := by rw [hR]
                have hj1 : ¬ j < ((unpackR (s.extract (wdGo s (getR s 0).1.toNat (getR s 0).2.1 []).2.1.toNat s.size) n (wdN (wdGo s (getR s 0).1.toNat (getR s 0).2.1 []).1.length)).1.length : Int) := by omega
                have hta := take_all hj1
                rw [hta] at hV hO hA
                subst hV
                have hull : (usedL (wdGo s (getR s 0).1.toNat (getR s 0).2.1 []).1.length (unpackR (s.extract (wdGo s (getR s 0).1.toNat (getR s 0).2.1 []).2.1.toNat s.size) n (wdN (wdGo s (getR s 0).1.toNat (getR s 0).2.1 []).1.length)).1).length = (wdGo s (getR s 0).1.toNat (getR s 0).2.1 []).1.length := usedL_len _ _
                have h5 : (unpackR (s.extract (wdGo s (getR s 0).1.toNat (getR s 0).2.1 []).2.1.toNat s.size) n (wdN (wdGo s (getR s 0).1.toNat (getR s 0).2.1 []).1.length)).2 = 0 := by assumption
                rw [ixGo_end (by omega)] at hX
                have q2 : (getR s 0).2.2 = 0 := by first | assumption | omega
                have q3 : ¬ ((getR s 0).1 > n ∨ ((getR s 0).1 = 0 ∧ n > 0)) := by first | omega | (simp_all; omega)
                rw [dec_3 q1 q2 q3]
                rw [dec_a1 (by rw [hR]), dec_b1 h5, decC_ok rfl hA (hasB_no hX)]
                (try exact hO)))
abbrev tb29 : Tbl := (35, c_rdecode_ok) :: tb28
theorem tb29_ok : TblOk Try.prog tb29 := TblOk.cons rdecode_ok tb28_ok

end Go.Proofs.Ythomnlfmamagcaa
