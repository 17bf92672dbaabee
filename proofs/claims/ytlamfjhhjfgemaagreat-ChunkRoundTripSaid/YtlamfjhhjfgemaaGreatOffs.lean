/- Contracts of blocks of differences. -/
import Derived.Test.YtlamfjhhjfgemaaGreatZig
namespace Go.Proofs.YtlamfjhhjfgemaaGreat
open Go.Abs
set_option linter.unusedVariables false
set_option linter.unusedSimpArgs false


/- Differences. -/
def mnL : List Int → Int
  | [] => 0
  | x :: l => l.foldl minI x
def mxL : List Int → Int
  | [] => 0
  | x :: l => l.foldl maxI x
theorem mnL_app (x : Int) : ∀ l : List Int, l ≠ [] → mnL (l ++ [x]) = minI (mnL l) x
  | [], h => absurd rfl h
  | y :: l, _ => by simp [mnL]
theorem mxL_app (x : Int) : ∀ l : List Int, l ≠ [] → mxL (l ++ [x]) = maxI (mxL l) x
  | [], h => absurd rfl h
  | y :: l, _ => by simp [mxL]
theorem take_ne {l : List Int} {k : Int} (h : 1 ≤ k ∧ k < l.length) : l.take k.toNat ≠ [] := by
  intro q
  have := congrArg List.length q
  rw [List.length_take, List.length_nil] at this
  omega
theorem take_get {l : List Int} {k : Int} (h : 0 ≤ k ∧ k < l.length) : l.take (k + 1).toNat = l.take k.toNat ++ [l[k.toNat]!] := by
  rw [show (k + 1).toNat = k.toNat + 1 by omega, List.take_succ_eq_append_getElem (by omega), getElem!_pos l k.toNat (by omega)]
theorem mn_step {l : List Int} {k : Int} (h : 1 ≤ k ∧ k < l.length) : mnL (l.take (k + 1).toNat) = minI (mnL (l.take k.toNat)) l[k.toNat]! := by
  rw [take_get (by omega), mnL_app _ _ (take_ne h)]
theorem mx_step {l : List Int} {k : Int} (h : 1 ≤ k ∧ k < l.length) : mxL (l.take (k + 1).toNat) = maxI (mxL (l.take k.toNat)) l[k.toNat]! := by
  rw [take_get (by omega), mxL_app _ _ (take_ne h)]
theorem take_one {l : List Int} (h : 1 ≤ l.length) : l.take (1 : Int).toNat = [l[0]!] := by
  cases l with
  | nil => simp at h
  | cons x l => rfl
theorem unpackR_lt (s : ByteArray) (n w : Int) : ∀ i : Nat, (unpackR s n w).1[i]! < 18446744073709551616 := by
  intro i
  have nil : ∀ l : List Int, l = [] → l[i]! < 18446744073709551616 := fun l h => by subst h; show (0 : Int) < _; decide
  unfold unpackR
  split
  · exact nil _ rfl
  rename_i hp
  have hp := (permB_iff n w).1 (Decidable.not_not.1 hp)
  split
  · exact nil _ rfl
  split
  · exact nil _ rfl
  split
  · exact nil _ rfl
  · by_cases h : i < n.toNat
    · rw [gL_get h]
      have h1 := (gs_lt (sbit01 s) (n * w).toNat w.toNat i w.toNat).2
      have h2 : (2 : Int) ^ w.toNat ≤ 18446744073709551616 := by
        have := Nat.pow_le_pow_right (show 0 < 2 by decide) (show w.toNat ≤ 64 by omega)
        rw [← two_pow_cast]; omega
      omega
    · rw [getElem!_neg _ i (by rw [gL_len]; exact h)]; show (0 : Int) < _; decide
theorem unpackR_u64 (s : ByteArray) (n w : Int) (i : Nat) : 0 ≤ (unpackR s n w).1[i]! ∧ (unpackR s n w).1[i]! < 18446744073709551616 := ⟨unpackR_rng s n w i, unpackR_lt s n w i⟩
theorem mx_mem : ∀ {l : List Int} {x : Int}, l.foldl maxI x = x ∨ l.foldl maxI x ∈ l
  | [], x => .inl rfl
  | y :: l, x => by
    rcases mx_mem (l := l) (x := maxI x y) with q | q
    · rw [List.foldl_cons, q]; unfold maxI; split
      · right; simp
      · left; rfl
    · right; rw [List.foldl_cons]; simp [q]
theorem mxL_u64 {l : List Int} (h : ∀ i : Nat, 0 ≤ l[i]! ∧ l[i]! < 18446744073709551616) : 0 ≤ mxL l ∧ mxL l < 18446744073709551616 := by
  have hm : ∀ x, x ∈ l → 0 ≤ x ∧ x < 18446744073709551616 := fun x hx => by
    obtain ⟨i, hi, rfl⟩ := List.mem_iff_getElem.1 hx
    have := h i
    rwa [getElem!_pos l i hi] at this
  cases l with
  | nil => exact ⟨Int.le_refl _, by show (0 : Int) < _; decide⟩
  | cons x l =>
    show 0 ≤ List.foldl maxI x l ∧ List.foldl maxI x l < 18446744073709551616
    rcases mx_mem (l := l) (x := x) with q | q
    · rw [q]; exact hm x (by simp)
    · exact hm _ (by simp [q])
def dW (s : ByteArray) (a : Int) : Int := byteAt s (getR s a).2.1.toNat
def dE (s : ByteArray) (a k : Int) : Int := (getR s a).2.1 + 1 + needR k (dW s a)
def dU (s : ByteArray) (a k : Int) : List Int × Int := unpackR (s.extract ((getR s a).2.1 + 1).toNat (dE s a k).toNat) k (dW s a)
def dL (s : ByteArray) (a : Int) : Int := zagS (getR s a).1
def dDs (s : ByteArray) (a k : Int) : List Int := (dU s a k).1.map fun v => IntKind.i64.wrap (dL s a + v)
def dOk (s : ByteArray) (a k : Int) : Bool := decide ((dU s a k).2 = 0) && decide (mnL (dU s a k).1 = 0) && decide (lenI (mxL (dU s a k).1) = dW s a) && decide (mnL (dDs s a k) = dL s a)
def blkD (s : ByteArray) (a k : Int) : List Int × Int × Int :=
  if (getR s a).2.2 ≠ 0 then ([], 0, (getR s a).2.2) else if (getR s a).2.1 = s.size then ([], 0, 10) else if dW s a > 64 then ([], 0, 2)
  else if dE s a k > s.size then ([], 0, 10) else if dOk s a k = false then ([], 0, 2) else (dDs s a k, dE s a k, 0)
theorem wrap_wrap (x v : Int) : IntKind.i64.wrap (x + IntKind.i64.wrap v) = IntKind.i64.wrap (x + v) := by simp [IntKind.wrap, IntKind.bits, IntKind.signed]; omega
theorem dW_rng (s : ByteArray) (a : Int) : 0 ≤ dW s a ∧ dW s a < 256 := byteAt_rng _ _
theorem dU_len {s : ByteArray} {a k : Int} (h : (dU s a k).2 = 0) : (dU s a k).1.length = k.toNat := unpackR_len h
theorem dOk_iff (s : ByteArray) (a k : Int) : dOk s a k = true ↔ (dU s a k).2 = 0 ∧ mnL (dU s a k).1 = 0 ∧ lenI (mxL (dU s a k).1) = dW s a ∧ mnL (dDs s a k) = dL s a := by simp [dOk, and_assoc]
theorem dOk_no {s : ByteArray} {a k : Int} (h : ¬ ((dU s a k).2 = 0 ∧ mnL (dU s a k).1 = 0 ∧ lenI (mxL (dU s a k).1) = dW s a ∧ mnL (dDs s a k) = dL s a)) : dOk s a k = false := by
  rw [Bool.eq_false_iff]; exact fun q => h ((dOk_iff s a k).1 q)
theorem map_get {l : List Int} {f : Int → Int} {k : Int} (h : 0 ≤ k ∧ k < l.length) : (l.take (k + 1).toNat).map f = (l.take k.toNat).map f ++ [f l[k.toNat]!] := by
  rw [take_get h]; simp
theorem needR_rng (k w : Int) : 0 ≤ needR k w ∧ needR k w ≤ 32768 := by
  unfold needR
  split
  · rename_i h
    have h1 := (permB_iff k w).1 h
    have h2 := nw_le h1
    rw [Int.tdiv_eq_ediv_of_nonneg (by omega)]; omega
  · omega

abbrev c_min64_ok : Ct := .fn [.list (.int .i64)] (some (fun (l : List Int) => (1 ≤ l.length ∧ l.length ≤ 1073741824))) (fun (l : List Int) => .d (.int .i64) (mnL l))
set_option maxRecDepth 100000 in
set_option maxHeartbeats 4000000 in
theorem min64_ok : CtOk Tryz.prog 71 c_min64_ok := by
  refine CtOk.fn tb47_ok mixed [] [] rfl rfl ?_
  rintro ⟨(l : List Int), _⟩ hpre
  replace hpre := hpre _ rfl
  dsimp only [cu] at hpre
  have hl := hpre
  refine ⟨[(0, 10, LA.mk [.sl 4 (.int .i64), .sl 3 (.int .i64)] (fun y => Tag 37 ∧ cu [.int .i64, .int .i64] (fun (i : Int) (m : Int) => (1 ≤ i ∧ i ≤ l.length) ∧ (m = mnL (l.take i.toNat))) y) (cu [.int .i64, .int .i64] (fun (i : Int) (m : Int) => ((l.length : Int) - i).toNat)) (cu [.int .i64, .int .i64] (fun (i : Int) (m : Int) => ([] : List (Nat × Nat × LA)))))], ?_⟩
  repeat' (first
    | (
 with_reducible refine Side.mk ⟨(⟨⟩ : Tag 37), ?_⟩
 dsimp only [cu, joinT, ckTys, gts, Prod.eta, List.nil_append]
 refine ⟨?_, ?_⟩
 · omega
 · first
   | (rw [take_one (by omega)]; rfl)
   | (
  (try simp only [u64_get])
  rw [hm, mn_step (by omega)]))
    | (
 with_reducible refine Side.mk ?_
 (try dsimp only [cu, joinT, ckTys, gts, loK, hiK, Prod.eta, List.nil_append])
 first
 | (done)
 | (with_reducible rfl)
 | (omega)
 | (exact Eq.refl _)
 | (simp only [List.length_append, List.length_cons, List.length_nil]; omega))
    | (conv => whnf
       first
        | done
        | exact trivial
        | with_reducible refine NilBr.mk (fun h => ?_) ?_
        | with_reducible first | refine w_andS ?_ ?_ | refine w_andL ?_ ?_ | refine w_kern (by kernel_rfl) ?_ | refine w_true ?_ | refine w_nd ?_ ?_ | refine w_in ?_ ?_ | refine w_and ?_ ?_
        | ((with_reducible first | refine w_brN (fun h => ?_) (fun h => ?_) | refine w_brD (fun h => ?_) (fun h => ?_) | refine w_br (fun h => ?_) (fun h => ?_)) <;> (try dsimp only [cu, Prod.eta, List.nil_append] at h) <;> (try (exfalso; omega; done)))
        | (
 intro yy (hy : Tag 37 ∧ _)
 obtain ⟨(i : Int), (m : Int), _⟩ := yy
 replace hy := hy.2
 dsimp only [cu, joinT, ckTys, gts, Prod.eta, List.nil_append] at hy
 obtain ⟨hi, hm⟩ := hy)))
  all_goals (
 with_reducible refine Leaf.mk ?_
 (try dsimp only [cu, joinT, ckTys, gts, Prod.eta, List.nil_append] at *)
 first
 | (done)
 | (rw [hm, List.take_of_length_le (by omega)]))
abbrev tb48 : Tbl := (71, c_min64_ok) :: tb47
theorem tb48_ok : TblOk Tryz.prog tb48 := TblOk.cons min64_ok tb47_ok

abbrev c_minU_ok : Ct := .fn [.list (.int .u64)] (some (fun (l : List Int) => (1 ≤ l.length ∧ l.length ≤ 1073741824))) (fun (l : List Int) => .d (.int .u64) (mnL l))
set_option maxRecDepth 100000 in
set_option maxHeartbeats 4000000 in
theorem minU_ok : CtOk Tryz.prog 93 c_minU_ok := by
  refine CtOk.fn tb48_ok mixed [] [] rfl rfl ?_
  rintro ⟨(l : List Int), _⟩ hpre
  replace hpre := hpre _ rfl
  dsimp only [cu] at hpre
  have hl := hpre
  refine ⟨[(0, 10, LA.mk [.sl 4 (.int .i64), .sl 3 (.int .u64)] (fun y => Tag 38 ∧ cu [.int .i64, .int .u64] (fun (i : Int) (m : Int) => (1 ≤ i ∧ i ≤ l.length) ∧ (m = mnL (l.take i.toNat))) y) (cu [.int .i64, .int .u64] (fun (i : Int) (m : Int) => ((l.length : Int) - i).toNat)) (cu [.int .i64, .int .u64] (fun (i : Int) (m : Int) => ([] : List (Nat × Nat × LA)))))], ?_⟩
  repeat' (first
    | (
 with_reducible refine Side.mk ⟨(⟨⟩ : Tag 38), ?_⟩
 dsimp only [cu, joinT, ckTys, gts, Prod.eta, List.nil_append]
 refine ⟨?_, ?_⟩
 · omega
 · first
   | (rw [take_one (by omega)]; rfl)
   | (
  (try simp only [u64_get])
  rw [hm, mn_step (by omega)]))
    | (
 with_reducible refine Side.mk ?_
 (try dsimp only [cu, joinT, ckTys, gts, loK, hiK, Prod.eta, List.nil_append])
 first
 | (done)
 | (with_reducible rfl)
 | (omega)
 | (exact Eq.refl _)
 | (simp only [List.length_append, List.length_cons, List.length_nil]; omega))
    | (conv => whnf
       first
        | done
        | exact trivial
        | with_reducible refine NilBr.mk (fun h => ?_) ?_
        | with_reducible first | refine w_andS ?_ ?_ | refine w_andL ?_ ?_ | refine w_kern (by kernel_rfl) ?_ | refine w_true ?_ | refine w_nd ?_ ?_ | refine w_in ?_ ?_ | refine w_and ?_ ?_
        | ((with_reducible first | refine w_brN (fun h => ?_) (fun h => ?_) | refine w_brD (fun h => ?_) (fun h => ?_) | refine w_br (fun h => ?_) (fun h => ?_)) <;> (try dsimp only [cu, Prod.eta, List.nil_append] at h) <;> (try (exfalso; omega; done)))
        | (
 intro yy (hy : Tag 38 ∧ _)
 obtain ⟨(i : Int), (m : Int), _⟩ := yy
 replace hy := hy.2
 dsimp only [cu, joinT, ckTys, gts, Prod.eta, List.nil_append] at hy
 obtain ⟨hi, hm⟩ := hy)))
  all_goals (
 with_reducible refine Leaf.mk ?_
 (try dsimp only [cu, joinT, ckTys, gts, Prod.eta, List.nil_append] at *)
 first
 | (done)
 | (rw [hm, List.take_of_length_le (by omega)]))
abbrev tb49 : Tbl := (93, c_minU_ok) :: tb48
theorem tb49_ok : TblOk Tryz.prog tb49 := TblOk.cons minU_ok tb48_ok

abbrev c_maxU_ok : Ct := .fn [.list (.int .u64)] (some (fun (l : List Int) => (1 ≤ l.length ∧ l.length ≤ 1073741824))) (fun (l : List Int) => .d (.int .u64) (mxL l))
set_option maxRecDepth 100000 in
set_option maxHeartbeats 4000000 in
theorem maxU_ok : CtOk Tryz.prog 94 c_maxU_ok := by
  refine CtOk.fn tb49_ok mixed [] [] rfl rfl ?_
  rintro ⟨(l : List Int), _⟩ hpre
  replace hpre := hpre _ rfl
  dsimp only [cu] at hpre
  have hl := hpre
  refine ⟨[(0, 10, LA.mk [.sl 4 (.int .i64), .sl 3 (.int .u64)] (fun y => Tag 39 ∧ cu [.int .i64, .int .u64] (fun (i : Int) (m : Int) => (1 ≤ i ∧ i ≤ l.length) ∧ (m = mxL (l.take i.toNat))) y) (cu [.int .i64, .int .u64] (fun (i : Int) (m : Int) => ((l.length : Int) - i).toNat)) (cu [.int .i64, .int .u64] (fun (i : Int) (m : Int) => ([] : List (Nat × Nat × LA)))))], ?_⟩
  repeat' (first
    | (
 with_reducible refine Side.mk ⟨(⟨⟩ : Tag 39), ?_⟩
 dsimp only [cu, joinT, ckTys, gts, Prod.eta, List.nil_append]
 refine ⟨?_, ?_⟩
 · omega
 · first
   | (rw [take_one (by omega)]; rfl)
   | (
  (try simp only [u64_get])
  rw [hm, mx_step (by omega)]))
    | (
 with_reducible refine Side.mk ?_
 (try dsimp only [cu, joinT, ckTys, gts, loK, hiK, Prod.eta, List.nil_append])
 first
 | (done)
 | (with_reducible rfl)
 | (omega)
 | (exact Eq.refl _)
 | (simp only [List.length_append, List.length_cons, List.length_nil]; omega))
    | (conv => whnf
       first
        | done
        | exact trivial
        | with_reducible refine NilBr.mk (fun h => ?_) ?_
        | with_reducible first | refine w_andS ?_ ?_ | refine w_andL ?_ ?_ | refine w_kern (by kernel_rfl) ?_ | refine w_true ?_ | refine w_nd ?_ ?_ | refine w_in ?_ ?_ | refine w_and ?_ ?_
        | ((with_reducible first | refine w_brN (fun h => ?_) (fun h => ?_) | refine w_brD (fun h => ?_) (fun h => ?_) | refine w_br (fun h => ?_) (fun h => ?_)) <;> (try dsimp only [cu, Prod.eta, List.nil_append] at h) <;> (try (exfalso; omega; done)))
        | (
 intro yy (hy : Tag 39 ∧ _)
 obtain ⟨(i : Int), (m : Int), _⟩ := yy
 replace hy := hy.2
 dsimp only [cu, joinT, ckTys, gts, Prod.eta, List.nil_append] at hy
 obtain ⟨hi, hm⟩ := hy)))
  all_goals (
 with_reducible refine Leaf.mk ?_
 (try dsimp only [cu, joinT, ckTys, gts, Prod.eta, List.nil_append] at *)
 first
 | (done)
 | (rw [hm, List.take_of_length_le (by omega)]))
abbrev tb50 : Tbl := (94, c_maxU_ok) :: tb49
theorem tb50_ok : TblOk Tryz.prog tb50 := TblOk.cons maxU_ok tb49_ok

abbrev c_offs_ok : Ct := .fn [.str, .int .i64, .int .i64] (some (fun (s : ByteArray) (a : Int) (k : Int) => (s.size ≤ 288230376151711744) ∧ (1 ≤ k ∧ k ≤ 32))) (fun (s : ByteArray) (a : Int) (k : Int) => .tup [.list (.int .i64), .int .i64, .int .i64] ((blkD s a k).1, (blkD s a k).2.1, (blkD s a k).2.2, ()))
set_option maxRecDepth 100000 in
set_option maxHeartbeats 4000000 in
theorem offs_ok : CtOk Tryz.prog 82 c_offs_ok := by
  refine CtOk.fn tb50_ok mixed [(0, 20, 3), (0, 20, 4)] [] rfl rfl ?_
  rintro ⟨(s : ByteArray), (a : Int), (k : Int), _⟩ hpre
  replace hpre := hpre _ rfl
  dsimp only [cu] at hpre
  obtain ⟨hs, hk⟩ := hpre
  refine ⟨[(0, 36, LA.mk [.sl 77 (.int .i64), .lst 15 (.int .i64) 2] (fun y => Tag 40 ∧ cu [.int .i64, .list (.int .i64)] (fun (i : Int) (D : List Int) => (0 ≤ i ∧ i ≤ (unpackR (s.extract ((getR s a).2.1 + 1).toNat ((getR s a).2.1 + 1 + needR k (byteAt s (getR s a).2.1.toNat)).toNat) k (byteAt s (getR s a).2.1.toNat)).1.length) ∧ (D = ((unpackR (s.extract ((getR s a).2.1 + 1).toNat ((getR s a).2.1 + 1 + needR k (byteAt s (getR s a).2.1.toNat)).toNat) k (byteAt s (getR s a).2.1.toNat)).1.take i.toNat).map (fun v => IntKind.i64.wrap (zagS (getR s a).1 + v)))) y) (cu [.int .i64, .list (.int .i64)] (fun (i : Int) (D : List Int) => ((unpackR (s.extract ((getR s a).2.1 + 1).toNat ((getR s a).2.1 + 1 + needR k (byteAt s (getR s a).2.1.toNat)).toNat) k (byteAt s (getR s a).2.1.toNat)).1.length - i).toNat)) (cu [.int .i64, .list (.int .i64)] (fun (i : Int) (D : List Int) => ([] : List (Nat × Nat × LA)))))], ?_⟩
  repeat' (first
    | (
 with_reducible refine Side.mk ⟨(⟨⟩ : Tag 40), ?_⟩
 dsimp only [cu, joinT, ckTys, gts, Prod.eta, List.nil_append]
 refine ⟨?_, ?_⟩
 · omega
 · first
   | (rfl)
   | (
  (try simp only [u64_get])
  rw [hD, map_get (by omega), wrap_wrap]))
    | (
 with_reducible refine Side.mk ?_
 (try dsimp only [cu, joinT, ckTys, gts, loK, hiK, Prod.eta, List.nil_append])
 first
 | (done)
 | (with_reducible rfl)
 | (omega)
 | (exact Eq.refl _)
 | (simp only [List.length_append, List.length_cons, List.length_nil]; omega)
 | (
  have hg := getR_rng s a
  have hw := dW_rng s a
  have hn := needR_rng k (byteAt s (getR s a).2.1.toNat)
  have hg0 : (getR s a).2.2 = 0 := by assumption
  have hok := getR_ok hg0
  first
  | (omega)
  | (
   have eW : dW s a = byteAt s (getR s a).2.1.toNat := rfl
   have eE : dE s a k = (getR s a).2.1 + 1 + needR k (byteAt s (getR s a).2.1.toNat) := rfl
   have eU : dU s a k = unpackR (s.extract ((getR s a).2.1 + 1).toNat ((getR s a).2.1 + 1 + needR k (byteAt s (getR s a).2.1.toNat)).toNat) k (byteAt s (getR s a).2.1.toNat) := rfl
   omega))
 | (exact ⟨hs, by omega⟩)
 | (exact unpackR_u64 _ _ _ _)
 | (exact mxL_u64 (unpackR_u64 _ _ _))
 | (
  have hu0 : (unpackR (s.extract ((getR s a).2.1 + 1).toNat ((getR s a).2.1 + 1 + needR k (byteAt s (getR s a).2.1.toNat)).toNat) k (byteAt s (getR s a).2.1.toNat)).2 = 0 := by with_reducible assumption
  have hul := unpackR_len hu0
  omega)
 | (
  have hDl := congrArg List.length hD
  rw [List.length_map, List.length_take] at hDl
  have hu0 : (unpackR (s.extract ((getR s a).2.1 + 1).toNat ((getR s a).2.1 + 1 + needR k (byteAt s (getR s a).2.1.toNat)).toNat) k (byteAt s (getR s a).2.1.toNat)).2 = 0 := by with_reducible assumption
  have hul := unpackR_len hu0
  (try simp only [List.length_cons, List.length_nil])
  omega)
 | (exact getR_rng s a)
 | (
  have hg := getR_rng s a
  have hw := dW_rng s a
  have hn := needR_rng k (byteAt s (getR s a).2.1.toNat)
  have hg0 : (getR s a).2.2 = 0 := by assumption
  have hok := getR_ok hg0
  have eW : dW s a = byteAt s (getR s a).2.1.toNat := rfl
  have eE : dE s a k = (getR s a).2.1 + 1 + needR k (byteAt s (getR s a).2.1.toNat) := rfl
  have eU : dU s a k = unpackR (s.extract ((getR s a).2.1 + 1).toNat ((getR s a).2.1 + 1 + needR k (byteAt s (getR s a).2.1.toNat)).toNat) k (byteAt s (getR s a).2.1.toNat) := rfl
  first
  | (
   simp only [ByteArray.size_extract]
   omega)
  | (
   refine ⟨?_, by omega⟩
   simp only [ByteArray.size_extract]
   omega)))
    | (conv => whnf
       first
        | done
        | exact trivial
        | with_reducible refine NilBr.mk (fun h => ?_) ?_
        | with_reducible first | refine w_andS ?_ ?_ | refine w_andL ?_ ?_ | refine w_kern (by kernel_rfl) ?_ | refine w_true ?_ | refine w_nd ?_ ?_ | refine w_in ?_ ?_ | refine w_and ?_ ?_
        | ((with_reducible first | refine w_brN (fun h => ?_) (fun h => ?_) | refine w_brD (fun h => ?_) (fun h => ?_) | refine w_br (fun h => ?_) (fun h => ?_)) <;> (try dsimp only [cu, Prod.eta, List.nil_append] at h) <;> (try (exfalso; omega; done)))
        | (
 intro yy (hy : Tag 40 ∧ _)
 obtain ⟨(i : Int), (D : List Int), _⟩ := yy
 replace hy := hy.2
 dsimp only [cu, joinT, ckTys, gts, Prod.eta, List.nil_append] at hy
 obtain ⟨hi, hD⟩ := hy)))
  all_goals (
 with_reducible refine Leaf.mk ?_
 (try dsimp only [cu, joinT, ckTys, gts, Prod.eta, List.nil_append] at *)
 first
 | (done)
 | (
  have e1 : (getR s a).2.2 ≠ 0 := by assumption
  rw [blkD, if_pos e1])
 | (
  have hg := getR_rng s a
  have hw := dW_rng s a
  have hn := needR_rng k (byteAt s (getR s a).2.1.toNat)
  have hg0 : (getR s a).2.2 = 0 := by assumption
  have hok := getR_ok hg0
  first
  | (
   have e1 : ¬ (getR s a).2.2 ≠ 0 := fun q => q (by assumption)
   have e2 : (getR s a).2.1 = s.size := by omega
   rw [blkD, if_neg e1, if_pos e2])
  | (
   have eW : dW s a = byteAt s (getR s a).2.1.toNat := rfl
   have eE : dE s a k = (getR s a).2.1 + 1 + needR k (byteAt s (getR s a).2.1.toNat) := rfl
   have eU : dU s a k = unpackR (s.extract ((getR s a).2.1 + 1).toNat ((getR s a).2.1 + 1 + needR k (byteAt s (getR s a).2.1.toNat)).toNat) k (byteAt s (getR s a).2.1.toNat) := rfl
   have e1 : ¬ (getR s a).2.2 ≠ 0 := fun q => q (by assumption)
   have e2 : ¬ (getR s a).2.1 = s.size := by omega
   first
   | (
    have e3 : dW s a > 64 := by omega
    rw [blkD, if_neg e1, if_neg e2, if_pos e3])
   | (
    have e3 : ¬ dW s a > 64 := by omega
    first
    | (
     have e4 : dE s a k > s.size := by omega
     rw [blkD, if_neg e1, if_neg e2, if_neg e3, if_pos e4])
    | (
     have e4 : ¬ dE s a k > s.size := by omega
     first
     | (
      have e5 : dOk s a k = false := by
        refine dOk_no (fun q => ?_)
        obtain ⟨q1, q2, q3, q4⟩ := q
        rw [eU] at q1 q2 q3
        first | (simp_all; done) | omega
      rw [blkD, if_neg e1, if_neg e2, if_neg e3, if_neg e4, if_pos e5])
     | (
      have hDD : D = dDs s a k := by rw [hD, List.take_of_length_le (by omega)]; rfl
      first
      | (
       have e5 : dOk s a k = false := by
         refine dOk_no (fun q => ?_)
         obtain ⟨q1, q2, q3, q4⟩ := q
         rw [← hDD] at q4
         first | contradiction | (exact absurd q4 (by assumption))
       rw [blkD, if_neg e1, if_neg e2, if_neg e3, if_neg e4, if_pos e5])
      | (
       have e5 : ¬ dOk s a k = false := by
         rw [Bool.eq_false_iff]
         intro q
         apply q
         rw [dOk_iff, ← hDD, eU, eW]
         first | (exact ⟨by assumption, by assumption, by assumption, by assumption⟩) | (simp_all; done)
       rw [blkD, if_neg e1, if_neg e2, if_neg e3, if_neg e4, if_neg e5]
       (try rw [hDD])
       (try rfl))))))))
abbrev tb51 : Tbl := (82, c_offs_ok) :: tb50
theorem tb51_ok : TblOk Tryz.prog tb51 := TblOk.cons offs_ok tb50_ok


def lastI (M : List Int) : Int := M[M.length - 1]!
def sumW : Int → List Int → List Int
  | _, [] => []
  | x, d :: r => IntKind.i64.wrap (x + d) :: sumW (IntKind.i64.wrap (x + d)) r
theorem sumW_len : ∀ (ds : List Int) (x : Int), (sumW x ds).length = ds.length
  | [], _ => rfl
  | d :: r, x => by simp [sumW, sumW_len r]
theorem lastI_one (M : List Int) (w : Int) : lastI (M ++ [w]) = w := by
  unfold lastI
  rw [getElem!_pos _ _ (by simp)]
  simp
theorem sum_last : ∀ (ds M : List Int) (d : Int), M ++ sumW (lastI M) (ds ++ [d]) = (M ++ sumW (lastI M) ds) ++ [IntKind.i64.wrap (lastI (M ++ sumW (lastI M) ds) + d)]
  | [], M, d => by simp [sumW]
  | e :: r, M, d => by
    have h := sum_last r (M ++ [IntKind.i64.wrap (lastI M + e)]) d
    rw [lastI_one] at h
    simp only [List.cons_append, sumW]
    simpa using h
theorem sum_step {M B : List Int} {i : Int} (h : 0 ≤ i ∧ i < B.length) : M ++ sumW (lastI M) (B.take (i + 1).toNat) = (M ++ sumW (lastI M) (B.take i.toNat)) ++ [IntKind.i64.wrap (lastI (M ++ sumW (lastI M) (B.take i.toNat)) + B[i.toNat]!)] := by
  rw [take_get h, sum_last]
theorem kB_rng {n : Int} {M : List Int} (h : (M.length : Int) < n) : 1 ≤ minI 32 (n - (M.length : Int)) ∧ minI 32 (n - (M.length : Int)) ≤ 32 ∧ M.length + minI 32 (n - (M.length : Int)) ≤ n := by unfold minI; split <;> omega
theorem blkD_ok {s : ByteArray} {a k : Int} (h : (blkD s a k).2.2 = 0) : (blkD s a k).1.length = k.toNat ∧ 0 ≤ (blkD s a k).2.1 ∧ (blkD s a k).2.1 ≤ s.size := by
  unfold blkD at h ⊢
  split at h
  · exact absurd h (by assumption)
  · rename_i h1
    rw [if_neg h1]
    split at h
    · exact absurd h (by decide)
    · rename_i h2
      rw [if_neg h2]
      split at h
      · exact absurd h (by decide)
      · rename_i h3
        rw [if_neg h3]
        split at h
        · exact absurd h (by decide)
        · rename_i h4
          rw [if_neg h4]
          split at h
          · exact absurd h (by decide)
          · rename_i h5
            rw [if_neg h5]
            have h6 := (dOk_iff s a k).1 (by simpa using h5)
            have h7 := dU_len h6.1
            have h8 := getR_ok (Decidable.not_not.1 h1)
            have h9 := needR_rng k (dW s a)
            have h10 : dE s a k = (getR s a).2.1 + 1 + needR k (dW s a) := rfl
            refine ⟨by simp [dDs, h7], ?_, ?_⟩
            · show 0 ≤ dE s a k; omega
            · show dE s a k ≤ s.size; omega
def dd (s : ByteArray) (n a : Int) (M : List Int) : List Int × Int :=
  if h : (M.length : Int) < n then
    if h2 : (blkD s a (minI 32 (n - (M.length : Int)))).2.2 = 0 then dd s n (blkD s a (minI 32 (n - (M.length : Int)))).2.1 (M ++ sumW (lastI M) (blkD s a (minI 32 (n - (M.length : Int)))).1)
    else ([], (blkD s a (minI 32 (n - (M.length : Int)))).2.2)
  else if a < s.size then ([], 2) else (M, 0)
termination_by (n - M.length).toNat
decreasing_by
  have := kB_rng h
  have := (blkD_ok h2).1
  simp only [List.length_append, sumW_len]
  omega
def decDelta (s : ByteArray) (n : Int) : List Int × Int :=
  if n < 0 ∨ n > 4096 then ([], 4) else if n = 0 then (if s = ⟨#[]⟩ then ([], 0) else ([], 2))
  else if (getR s 0).2.2 ≠ 0 then ([], (getR s 0).2.2) else dd s n (getR s 0).2.1 [zagS (getR s 0).1]
theorem dd_err {s : ByteArray} {n a : Int} {M : List Int} (h : (M.length : Int) < n) (h2 : ¬ (blkD s a (minI 32 (n - (M.length : Int)))).2.2 = 0) : dd s n a M = ([], (blkD s a (minI 32 (n - (M.length : Int)))).2.2) := by rw [dd, dif_pos h, dif_neg h2]
theorem dd_next {s : ByteArray} {n a : Int} {M : List Int} (h : (M.length : Int) < n) (h2 : (blkD s a (minI 32 (n - (M.length : Int)))).2.2 = 0) : dd s n a M = dd s n (blkD s a (minI 32 (n - (M.length : Int)))).2.1 (M ++ sumW (lastI M) (blkD s a (minI 32 (n - (M.length : Int)))).1) := by rw [dd, dif_pos h, dif_pos h2]
theorem dd_end {s : ByteArray} {n a : Int} {M : List Int} (h : ¬ (M.length : Int) < n) : dd s n a M = if a < s.size then ([], 2) else (M, 0) := by rw [dd, dif_neg h]
theorem last_ix {Q : List Int} (h : 0 < Q.length) : Q[((Q.length : Int) - 1).toNat]! = lastI Q := by
  unfold lastI; rw [show ((Q.length : Int) - 1).toNat = Q.length - 1 by omega]

abbrev c_ddec_ok : Ct := .fn [.str, .int .i64] (some (fun (s : ByteArray) (n : Int) => (s.size ≤ 288230376151711744))) (fun (s : ByteArray) (n : Int) => .tup [.list (.int .i64), .int .i64] ((decDelta s n).1, (decDelta s n).2, ()))
set_option maxRecDepth 100000 in
set_option maxHeartbeats 4000000 in
theorem ddec_ok : CtOk Tryz.prog 60 c_ddec_ok := by
  refine CtOk.fn tb51_ok mixed [(0, 10, 3500009), (0, 11, 3500009), (0, 13, 3500009), (0, 19, 8)] [] rfl rfl ?_
  rintro ⟨(s : ByteArray), (n : Int), _⟩ hpre
  replace hpre := hpre _ rfl
  dsimp only [cu] at hpre
  have hs := hpre
  refine ⟨[(0, 22, LA.mk [.sl 7 (.int .i64), .nls 9 (.int .i64) 2] (fun y => Tag 41 ∧ cu [.int .i64, .list (.int .i64)] (fun (a : Int) (M : List Int) => (dd s n (getR s 0).2.1 [zagS (getR s 0).1] = dd s n a M) ∧ (1 ≤ M.length ∧ (M.length : Int) ≤ n)) y) (cu [.int .i64, .list (.int .i64)] (fun (a : Int) (M : List Int) => (n - (M.length : Int)).toNat)) (cu [.int .i64, .list (.int .i64)] (fun (a : Int) (M : List Int) => ([(0, 34, LA.mk [.sl 63 (.int .i64), .nls 9 (.int .i64) 2] (fun y => Tag 42 ∧ cu [.int .i64, .list (.int .i64)] (fun (i : Int) (Q : List Int) => (0 ≤ i ∧ i ≤ (blkD s a (minI 32 (n - (M.length : Int)))).1.length) ∧ (Q = M ++ sumW (lastI M) ((blkD s a (minI 32 (n - (M.length : Int)))).1.take i.toNat))) y) (cu [.int .i64, .list (.int .i64)] (fun (i : Int) (Q : List Int) => (((blkD s a (minI 32 (n - (M.length : Int)))).1.length : Int) - i).toNat)) (cu [.int .i64, .list (.int .i64)] (fun (i : Int) (Q : List Int) => ([] : List (Nat × Nat × LA)))))] : List (Nat × Nat × LA)))))], ?_⟩
  repeat' (first
    | (
 with_reducible refine Side.mk ⟨(⟨⟩ : Tag 41), ?_⟩
 dsimp only [cu, joinT, ckTys, gts, Prod.eta, List.nil_append]
 refine ⟨?_, ?_⟩
 · first
   | (rfl)
   | (
  have hk := kB_rng (n := n) (M := M) (by omega)
  have hb0 : (blkD s a (minI 32 (n - (M.length : Int)))).2.2 = 0 := by assumption
  have hbk := blkD_ok hb0
  have hi2 : i.toNat = (blkD s a (minI 32 (n - (M.length : Int)))).1.length := by omega
  rw [hi2, List.take_length] at hQ
  rw [hM, dd_next (by omega) hb0, ← hQ])
 · first
   | (simp; omega)
   | (simp only [List.length_cons, List.length_nil]; omega)
   | (
  have hk := kB_rng (n := n) (M := M) (by omega)
  have hb0 : (blkD s a (minI 32 (n - (M.length : Int)))).2.2 = 0 := by assumption
  have hbk := blkD_ok hb0
  have hQl := congrArg List.length hQ
  simp only [List.length_append, sumW_len, List.length_take] at hQl
  omega))
    | (
 with_reducible refine Side.mk ⟨(⟨⟩ : Tag 42), ?_⟩
 dsimp only [cu, joinT, ckTys, gts, Prod.eta, List.nil_append]
 refine ⟨?_, ?_⟩
 · omega
 · first
   | (simp [sumW]; done)
   | (
  have hk := kB_rng (n := n) (M := M) (by omega)
  have hb0 : (blkD s a (minI 32 (n - (M.length : Int)))).2.2 = 0 := by assumption
  have hbk := blkD_ok hb0
  have hQl := congrArg List.length hQ
  simp only [List.length_append, sumW_len, List.length_take] at hQl
  first
  | (rw [sum_step (by omega), ← hQ, last_ix (by omega)])
  | (rw [sum_step (by omega), ← hQ, ← last_ix (by omega)])))
    | (
 with_reducible refine Side.mk ?_
 (try dsimp only [cu, joinT, ckTys, gts, loK, hiK, Prod.eta, List.nil_append])
 first
 | (done)
 | (with_reducible rfl)
 | (omega)
 | (exact Eq.refl _)
 | (simp only [List.length_append, List.length_cons, List.length_nil]; omega)
 | (exact getR_rng _ _)
 | (exact ⟨hs, by omega⟩)
 | (
  have hk := kB_rng (n := n) (M := M) (by omega)
  first
  | (exact ⟨hs, by omega⟩)
  | (exact ⟨hs, hk.1, hk.2.1⟩)
  | (
   have hb0 : (blkD s a (minI 32 (n - (M.length : Int)))).2.2 = 0 := by assumption
   have hbk := blkD_ok hb0
   have hQl := congrArg List.length hQ
   simp only [List.length_append, sumW_len, List.length_take] at hQl
   first
   | (omega)
   | (
    (try simp only [List.length_cons, List.length_nil])
    omega))
  | (omega)))
    | (conv => whnf
       first
        | done
        | exact trivial
        | with_reducible refine NilBr.mk (fun h => ?_) ?_
        | with_reducible first | refine w_andS ?_ ?_ | refine w_andL ?_ ?_ | refine w_kern (by kernel_rfl) ?_ | refine w_true ?_ | refine w_nd ?_ ?_ | refine w_in ?_ ?_ | refine w_and ?_ ?_
        | ((with_reducible first | refine w_brN (fun h => ?_) (fun h => ?_) | refine w_brD (fun h => ?_) (fun h => ?_) | refine w_br (fun h => ?_) (fun h => ?_)) <;> (try dsimp only [cu, Prod.eta, List.nil_append] at h) <;> (try (exfalso; omega; done)))
        | (
 intro yy (hy : Tag 41 ∧ _)
 obtain ⟨(a : Int), (M : List Int), _⟩ := yy
 replace hy := hy.2
 dsimp only [cu, joinT, ckTys, gts, Prod.eta, List.nil_append] at hy
 obtain ⟨hM, hl⟩ := hy)
        | (
 intro yy (hy : Tag 42 ∧ _)
 obtain ⟨(i : Int), (Q : List Int), _⟩ := yy
 replace hy := hy.2
 dsimp only [cu, joinT, ckTys, gts, Prod.eta, List.nil_append] at hy
 obtain ⟨hi, hQ⟩ := hy)))
  all_goals (
 with_reducible refine Leaf.mk ?_
 (try dsimp only [cu, joinT, ckTys, gts, Prod.eta, List.nil_append] at *)
 first
 | (done)
 | (
  have q1 : n < 0 ∨ n > 4096 := by omega
  rw [decDelta, if_pos q1])
 | (
  have q1 : ¬ (n < 0 ∨ n > 4096) := by omega
  first
  | (
   have q2 : n = 0 := by first | assumption | omega
   first
   | (
    have q3 : ¬ s = ⟨#[]⟩ := by first | assumption | (simp_all; done)
    rw [decDelta, if_neg q1, if_pos q2, if_neg q3])
   | (
    have q3 : s = ⟨#[]⟩ := by first | assumption | (simp_all; done)
    rw [decDelta, if_neg q1, if_pos q2, if_pos q3]))
  | (
   have q2 : ¬ n = 0 := by omega
   first
   | (
    have q3 : (getR s 0).2.2 ≠ 0 := by assumption
    rw [decDelta, if_neg q1, if_neg q2, if_pos q3])
   | (
    have q3 : ¬ (getR s 0).2.2 ≠ 0 := fun q => q (by assumption)
    first
    | (
     have hb : ¬ (blkD s a (minI 32 (n - (M.length : Int)))).2.2 = 0 := by assumption
     rw [decDelta, if_neg q1, if_neg q2, if_neg q3, hM, dd_err (by omega) hb]
     (try rfl))
    | (
     have ha : a < s.size := by omega
     rw [decDelta, if_neg q1, if_neg q2, if_neg q3, hM, dd_end (by omega), if_pos ha])
    | (
     have ha : ¬ a < s.size := by omega
     rw [decDelta, if_neg q1, if_neg q2, if_neg q3, hM, dd_end (by omega), if_neg ha])))))
abbrev tb52 : Tbl := (60, c_ddec_ok) :: tb51
theorem tb52_ok : TblOk Tryz.prog tb52 := TblOk.cons ddec_ok tb51_ok


theorem fmin : ∀ (l : List Int) (x : Int), l.foldl minI x ≤ x ∧ (∀ y, y ∈ l → l.foldl minI x ≤ y) ∧ (l.foldl minI x = x ∨ l.foldl minI x ∈ l)
  | [], x => ⟨Int.le_refl _, by simp, .inl rfl⟩
  | z :: l, x => by
    obtain ⟨h1, h2, h3⟩ := fmin l (minI x z)
    have h4 : minI x z ≤ x ∧ minI x z ≤ z ∧ (minI x z = x ∨ minI x z = z) := by unfold minI; split <;> omega
    refine ⟨by rw [List.foldl_cons]; omega, fun y hy => ?_, ?_⟩
    · rw [List.foldl_cons]
      rcases List.mem_cons.1 hy with q | q
      · subst q; omega
      · exact h2 y q
    · rw [List.foldl_cons]
      rcases h3 with q | q
      · rcases h4.2.2 with p | p
        · left; rw [q, p]
        · right; rw [q, p]; simp
      · right; simp [q]
theorem mnL_le {l : List Int} {y : Int} (h : y ∈ l) : mnL l ≤ y := by
  cases l with
  | nil => simp at h
  | cons x l =>
    obtain ⟨h1, h2, h3⟩ := fmin l x
    rcases List.mem_cons.1 h with q | q
    · subst q; exact h1
    · exact h2 y q
theorem mnL_mem {l : List Int} (h : l ≠ []) : mnL l ∈ l := by
  cases l with
  | nil => exact absurd rfl h
  | cons x l =>
    obtain ⟨h1, h2, h3⟩ := fmin l x
    show List.foldl minI x l ∈ _
    rcases h3 with q | q
    · rw [q]; simp
    · simp [q]
theorem mn_zero {U : List Int} (hne : U ≠ []) (h : ∀ v, v ∈ U → 0 ≤ v) : mnL U = 0 ↔ U.any (fun v => decide (v = 0)) = true := by
  rw [List.any_eq_true]
  constructor
  · intro q
    exact ⟨_, mnL_mem hne, by simpa using q⟩
  · rintro ⟨v, hv, hq⟩
    have h1 := mnL_le hv
    have h2 := h _ (mnL_mem hne)
    have h3 : v = 0 := by simpa using hq
    omega
theorem lenI_mono {a b : Int} (h : a ≤ b) (hb : b < 18446744073709551616) : lenI a ≤ lenI b := by
  suffices H : ∀ (n : Nat) (a b : Int), b.toNat ≤ n → a ≤ b → b < 18446744073709551616 → lenI a ≤ lenI b from H _ a b (Nat.le_refl _) h hb
  intro n
  induction n with
  | zero => intro a b h1 h2 h3; rw [lenI_zero (by omega), lenI_zero (by omega)]; exact Int.le_refl _
  | succ n ih =>
    intro a b h1 h2 h3
    by_cases ha : a ≤ 0
    · rw [lenI_zero ha]; exact (lenI_le h3).1
    · rw [lenI_step (v := a) (by omega) (by omega), lenI_step (v := b) (by omega) h3]
      have := ih (a / 2) (b / 2) (by omega) (by omega) (by omega)
      omega
def mwL (U : List Int) : Int := U.foldl (fun w v => maxI w (lenI v)) 0
theorem fmax : ∀ (l : List Int) (x : Int), (∀ v, v ∈ x :: l → v < 18446744073709551616) → l.foldl (fun w v => maxI w (lenI v)) (lenI x) = lenI (l.foldl maxI x)
  | [], x, _ => rfl
  | z :: l, x, h => by
    rw [List.foldl_cons, List.foldl_cons, ← fmax l (maxI x z) (fun v hv => by
      rcases List.mem_cons.1 hv with q | q
      · subst q; unfold maxI; split
        · exact h z (by simp)
        · exact h x (by simp)
      · exact h v (by simp [q]))]
    congr 1
    have hx := h x (by simp)
    have hz := h z (by simp)
    by_cases q : x ≤ z
    · have := lenI_mono q hz
      have e : maxI x z = z := by unfold maxI; split <;> omega
      rw [e]; unfold maxI; split <;> omega
    · have := lenI_mono (a := z) (b := x) (by omega) hx
      have e : maxI x z = x := by unfold maxI; split <;> omega
      rw [e]; unfold maxI; split <;> omega
theorem mw_mx {U : List Int} (hne : U ≠ []) (h : ∀ v, v ∈ U → 0 ≤ v ∧ v < 18446744073709551616) : mwL U = lenI (mxL U) := by
  cases U with
  | nil => exact absurd rfl hne
  | cons x l =>
    unfold mwL
    rw [List.foldl_cons]
    have := (lenI_le (h x (by simp)).2).1
    have e : maxI 0 (lenI x) = lenI x := by unfold maxI; split <;> omega
    rw [e, fmax l x (fun v hv => (h v hv).2)]
    rfl
theorem blk_ok {s : ByteArray} {a k : Int} (h1 : (getR s a).2.2 = 0) (h2 : ¬ (getR s a).2.1 = s.size) (h3 : ¬ dW s a > 64) (h4 : ¬ dE s a k > s.size) (h5 : dOk s a k = true) : blkD s a k = (dDs s a k, dE s a k, 0) := by
  rw [blkD, if_neg (fun q => q h1), if_neg h2, if_neg h3, if_neg h4, if_neg (by rw [h5]; decide)]
theorem nz_t {b : Bool} (h : (!b) = false) : b = true := by cases b <;> simp_all
end Go.Proofs.YtlamfjhhjfgemaaGreat
