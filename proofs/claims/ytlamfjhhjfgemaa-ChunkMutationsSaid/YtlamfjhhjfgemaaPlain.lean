/- Contracts of plain payloads and of differences (reference). -/
import Derived.Test.YtlamfjhhjfgemaaPay
namespace Go.Proofs.Ytlamfjhhjfgemaa
open Go.Abs
set_option linter.unusedVariables false
set_option linter.unusedSimpArgs false

abbrev c_rplain_ok : Ct := .fn [.int .i64, .str, .int .i64] (some (fun (t : Int) (s : ByteArray) (n : Int) => (s.size ≤ 288230376151711744) ∧ (0 ≤ n ∧ n ≤ 4096))) (fun (t : Int) (s : ByteArray) (n : Int) => .tup [.list tVal, .bool] ((pvGo t s n.toNat 0 []).1, (pvGo t s n.toNat 0 []).2, ()))
set_option maxRecDepth 100000 in
set_option maxHeartbeats 4000000 in
theorem rplain_ok : CtOk Try.prog 97 c_rplain_ok := by
  refine CtOk.fn tb68_ok mixed [] [] rfl rfl ?_
  rintro ⟨(t : Int), (s : ByteArray), (n : Int), _⟩ hpre
  replace hpre := hpre _ rfl
  dsimp only [cu] at hpre
  obtain ⟨hs, hn⟩ := hpre
  refine ⟨[(0, 6, LA.mk [.sl 9 (.int .i64), .lst 8 tVal 41] (fun y => Tag 51 ∧ cu [.int .i64, .list tVal] (fun (a : Int) (M : List Val) => ((pvGo t s n.toNat 0 []) = pvGo t s (n - M.length).toNat a M) ∧ (0 ≤ a ∧ a ≤ s.size) ∧ ((M.length : Int) ≤ n)) y) (cu [.int .i64, .list tVal] (fun (a : Int) (M : List Val) => (n - (M.length : Int)).toNat)) (cu [.int .i64, .list tVal] (fun (a : Int) (M : List Val) => ([] : List (Nat × Nat × LA)))))], ?_⟩
  repeat' (first
    | (
 with_reducible refine Side.mk ⟨(⟨⟩ : Tag 51), ?_⟩
 dsimp only [cu, joinT, ckTys, gts, Prod.eta, List.nil_append]
 refine ⟨?_, ?_, ?_⟩
 · first
   | (rw [List.length_nil]; simp; done)
   | (
  have hg := getR_rng s a
  have h1 : (getR s a).2.2 = 0 := by with_reducible assumption
  have hok := getR_ok h1
  first
  | (
   have ht : ¬ t = 3 := by with_reducible assumption
   rw [hM, pv_num (by omega) h1 ht]
   rfl)
  | (
   have hu := u64_id (n := (s.size : Int) - (getR s a).2.1) (by omega)
   have ht : t = 3 := by with_reducible assumption
   have h2 : ¬ (getR s a).1 > s.size - (getR s a).2.1 := by omega
   rw [hM, pv_str (by omega) h1 ht h2]
   rfl))
 · first
   | (omega)
   | (
  have hg := getR_rng s a
  have h1 : (getR s a).2.2 = 0 := by with_reducible assumption
  have hok := getR_ok h1
  first
  | (omega)
  | (
   have hu := u64_id (n := (s.size : Int) - (getR s a).2.1) (by omega)
   have ht : t = 3 := by with_reducible assumption
   have h2 : ¬ (getR s a).1 > s.size - (getR s a).2.1 := by omega
   omega))
 · first
   | (simp only [List.length_nil]; omega)
   | (simp only [List.length_append, List.length_cons, List.length_nil]; omega))
    | (
 with_reducible refine Side.mk ?_
 (try dsimp only [cu, joinT, ckTys, gts, loK, hiK, Prod.eta, List.nil_append])
 first
 | (done)
 | (with_reducible rfl)
 | (omega)
 | (exact Eq.refl _)
 | (simp only [List.length_append, List.length_cons, List.length_nil]; omega)
 | (
  have hg := getR_rng s a
  have h1 : (getR s a).2.2 = 0 := by with_reducible assumption
  have hok := getR_ok h1
  omega)
 | (exact getR_rng s a)
 | (
  have hg := getR_rng s a
  have h1 : (getR s a).2.2 = 0 := by with_reducible assumption
  have hok := getR_ok h1
  have hu := u64_id (n := (s.size : Int) - (getR s a).2.1) (by omega)
  first
  | (omega)
  | (
   have ht : t = 3 := by with_reducible assumption
   have h2 : ¬ (getR s a).1 > s.size - (getR s a).2.1 := by omega
   first
   | (omega)
   | (
    simp only [ByteArray.size_extract]
    omega)))
 | (
  (try simp only [List.length_cons, List.length_nil])
  omega))
    | (conv => whnf
       first
        | done
        | exact trivial
        | with_reducible refine NilBr.mk (fun h => ?_) ?_
        | with_reducible first | refine w_andS ?_ ?_ | refine w_andL ?_ ?_ | refine w_kern (by kernel_rfl) ?_ | refine w_true ?_ | refine w_nd ?_ ?_ | refine w_in ?_ ?_ | refine w_and ?_ ?_
        | ((with_reducible first | refine w_brN (fun h => ?_) (fun h => ?_) | refine w_brD (fun h => ?_) (fun h => ?_) | refine w_br (fun h => ?_) (fun h => ?_)) <;> (try dsimp only [cu, Prod.eta, List.nil_append] at h) <;> (try (exfalso; omega; done)))
        | (
 intro yy (hy : Tag 51 ∧ _)
 obtain ⟨(a : Int), (M : List Val), _⟩ := yy
 replace hy := hy.2
 dsimp only [cu, joinT, ckTys, gts, Prod.eta, List.nil_append] at hy
 obtain ⟨hM, ha, hl⟩ := hy)))
  all_goals (
 with_reducible refine Leaf.mk ?_
 (try dsimp only [cu, joinT, ckTys, gts, Prod.eta, List.nil_append] at *)
 first
 | (done)
 | (
  have h1 : ¬ (getR s a).2.2 = 0 := by with_reducible assumption
  rw [hM, pv_err (by omega) h1])
 | (
  have hg := getR_rng s a
  have h1 : (getR s a).2.2 = 0 := by with_reducible assumption
  have hok := getR_ok h1
  have hu := u64_id (n := (s.size : Int) - (getR s a).2.1) (by omega)
  have ht : t = 3 := by with_reducible assumption
  have h2 : (getR s a).1 > s.size - (getR s a).2.1 := by omega
  rw [hM, pv_short (by omega) h1 ht h2])
 | (rw [hM, pv_end (by omega)]))
abbrev tb69 : Tbl := (97, c_rplain_ok) :: tb68
theorem tb69_ok : TblOk Try.prog tb69 := TblOk.cons rplain_ok tb68_ok

abbrev c_values_ok : Ct := .fn [.int .i64, .str, .int .i64] (some (fun (t : Int) (s : ByteArray) (n : Int) => (s.size ≤ 288230376151711744) ∧ (0 ≤ n ∧ n ≤ 4096))) (fun (t : Int) (s : ByteArray) (n : Int) => .tup [.list tVal, .bool] ((pvGo t s n.toNat 0 []).1, (pvGo t s n.toNat 0 []).2, ()))
set_option maxRecDepth 100000 in
set_option maxHeartbeats 4000000 in
theorem values_ok : CtOk Try.prog 81 c_values_ok := by
  refine CtOk.fn tb69_ok mixed [] [56] rfl rfl ?_
  rintro ⟨(t : Int), (s : ByteArray), (n : Int), _⟩ hpre
  replace hpre := hpre _ rfl
  dsimp only [cu] at hpre
  obtain ⟨hs, hn⟩ := hpre
  refine ⟨[(0, 8, LA.mk [.sl 23 (.int .i64), .ar 1 tVal 41, .ob 0 tRdr 88] (fun y => Tag 52 ∧ cu [.int .i64, .list tVal, tRdr] (fun (i : Int) (L : List Val) (r : Rdr) => (0 ≤ i ∧ i ≤ n) ∧ ((L.length : Int) = n) ∧ (s = r.1) ∧ (0 ≤ r.2 ∧ r.2 ≤ s.size) ∧ (∀ j : Nat, i ≤ j → L[j]! = ZV) ∧ ((pvGo t s n.toNat 0 []) = pvGo t s (n - (L.take i.toNat).length).toNat r.2 (L.take i.toNat))) y) (cu [.int .i64, .list tVal, tRdr] (fun (i : Int) (L : List Val) (r : Rdr) => (n - i).toNat)) (cu [.int .i64, .list tVal, tRdr] (fun (i : Int) (L : List Val) (r : Rdr) => ([] : List (Nat × Nat × LA)))))], ?_⟩
  repeat' (first
    | (
 with_reducible refine Side.mk ⟨(⟨⟩ : Tag 52), ?_⟩
 dsimp only [cu, joinT, ckTys, gts, Prod.eta, List.nil_append]
 refine ⟨?_, ?_, ?_, ?_, ?_, ?_⟩
 · omega
 · first
   | (rw [List.length_replicate]; omega)
   | (rw [List.length_set]; omega)
 · rfl
 · first
   | (omega)
   | (
  have hg := getR_rng s a
  have h1 : (getR s a).2.2 = 0 := by with_reducible assumption
  have hok := getR_ok h1
  first
  | (omega)
  | (
   have hus := u64_id (n := (s.size : Int)) (by omega)
   have ht : t = 3 := by with_reducible assumption
   omega))
 · first
   | (exact repl_at _)
   | (exact setV_rest (by omega) hz)
 · first
   | (simp; done)
   | (
  have hg := getR_rng s a
  have h1 : (getR s a).2.2 = 0 := by with_reducible assumption
  have hok := getR_ok h1
  first
  | (
   have ht : ¬ t = 3 := by with_reducible assumption
   have hml : ((L.take i.toNat).length : Int) = i := take_len (by omega)
   have hz0 := hz i.toNat (by omega)
   rw [hM, pv_num (by omega) h1 ht]
   rw [setV_take (by omega)]
   rw [hz0]
   rfl)
  | (
   have hus := u64_id (n := (s.size : Int)) (by omega)
   have ht : t = 3 := by with_reducible assumption
   have hml : ((L.take i.toNat).length : Int) = i := take_len (by omega)
   have hz0 := hz i.toNat (by omega)
   have h2 : ¬ (getR s a).1 > s.size - (getR s a).2.1 := by omega
   rw [hM, pv_str (by omega) h1 ht h2]
   rw [setV_take (by omega)]
   rw [hz0]
   rfl)))
    | (
 with_reducible refine Side.mk ?_
 (try dsimp only [cu, joinT, ckTys, gts, loK, hiK, Prod.eta, List.nil_append])
 first
 | (done)
 | (with_reducible rfl)
 | (omega)
 | (exact Eq.refl _)
 | (simp only [List.length_append, List.length_cons, List.length_nil]; omega)
 | (
  have hg := getR_rng s a
  have h1 : (getR s a).2.2 = 0 := by with_reducible assumption
  have hok := getR_ok h1
  omega)
 | (exact getR_rng s a)
 | (
  have hg := getR_rng s a
  have h1 : (getR s a).2.2 = 0 := by with_reducible assumption
  have hok := getR_ok h1
  have hus := u64_id (n := (s.size : Int)) (by omega)
  first
  | (omega)
  | (
   have ht : t = 3 := by with_reducible assumption
   omega))
 | (rw [List.length_replicate]; omega)
 | (
  have hg := getR_rng s a
  have h1 : (getR s a).2.2 = 0 := by with_reducible assumption
  have hok := getR_ok h1
  have hus := u64_id (n := (s.size : Int)) (by omega)
  simp only [ByteArray.size_extract]
  omega))
    | (conv => whnf
       first
        | done
        | exact trivial
        | with_reducible refine NilBr.mk (fun h => ?_) ?_
        | with_reducible first | refine w_andS ?_ ?_ | refine w_andL ?_ ?_ | refine w_kern (by kernel_rfl) ?_ | refine w_true ?_ | refine w_nd ?_ ?_ | refine w_in ?_ ?_ | refine w_and ?_ ?_
        | ((with_reducible first | refine w_brN (fun h => ?_) (fun h => ?_) | refine w_brD (fun h => ?_) (fun h => ?_) | refine w_br (fun h => ?_) (fun h => ?_)) <;> (try dsimp only [cu, Prod.eta, List.nil_append] at h) <;> (try (exfalso; omega; done)))
        | (
 intro yy (hy : Tag 52 ∧ _)
 obtain ⟨(i : Int), (L : List Val), (r : Rdr), _⟩ := yy
 replace hy := hy.2
 dsimp only [cu, joinT, ckTys, gts, Prod.eta, List.nil_append] at hy
 obtain ⟨hi, hl, hr, ha, hz, hM⟩ := hy
 obtain ⟨r1, a⟩ := r
 dsimp only at hr ha hM
 subst hr)))
  all_goals (
 with_reducible refine Leaf.mk ?_
 (try dsimp only [cu, joinT, ckTys, gts, Prod.eta, List.nil_append] at *)
 first
 | (done)
 | (
  have hml : ((L.take i.toNat).length : Int) = i := take_len (by omega)
  first
  | (
   have h1 : ¬ (getR s a).2.2 = 0 := by with_reducible assumption
   rw [hM, pv_err (by omega) h1])
  | (
   have hg := getR_rng s a
   have h1 : (getR s a).2.2 = 0 := by with_reducible assumption
   have hok := getR_ok h1
   have hus := u64_id (n := (s.size : Int)) (by omega)
   have ht : t = 3 := by with_reducible assumption
   have h2 : (getR s a).1 > s.size - (getR s a).2.1 := by omega
   rw [hM, pv_short (by omega) h1 ht h2])
  | (rw [hM, pv_end (by omega), List.take_of_length_le (by omega)])))
abbrev tb70 : Tbl := (81, c_values_ok) :: tb69
theorem tb70_ok : TblOk Try.prog tb70 := TblOk.cons values_ok tb69_ok

abbrev c_rddec_ok : Ct := .fn [.str, .int .i64] (some (fun (s : ByteArray) (n : Int) => (s.size ≤ 288230376151711744))) (fun (s : ByteArray) (n : Int) => .tup [.list (.int .i64), .int .i64] ((decDelta s n).1, (decDelta s n).2, ()))
set_option maxRecDepth 100000 in
set_option maxHeartbeats 4000000 in
theorem rddec_ok : CtOk Try.prog 100 c_rddec_ok := by
  refine CtOk.fn tb70_ok mixed [(0, 10, 3000009), (0, 11, 3500009), (0, 12, 3500009), (0, 35, 9), (0, 35, 11), (0, 35, 12)] [] rfl rfl ?_
  rintro ⟨(s : ByteArray), (n : Int), _⟩ hpre
  replace hpre := hpre _ rfl
  dsimp only [cu] at hpre
  have hs := hpre
  refine ⟨[(0, 22, LA.mk [.sl 7 (.int .i64), .lst 9 (.int .i64) 2] (fun y => Tag 53 ∧ cu [.int .i64, .list (.int .i64)] (fun (a : Int) (M : List Int) => (dd s n (getR s 0).2.1 [zagS (getR s 0).1] = dd s n a M) ∧ (1 ≤ M.length ∧ (M.length : Int) ≤ n)) y) (cu [.int .i64, .list (.int .i64)] (fun (a : Int) (M : List Int) => (n - (M.length : Int)).toNat)) (cu [.int .i64, .list (.int .i64)] (fun (a : Int) (M : List Int) => ([(0, 58, LA.mk [.sl 100 (.int .i64), .sl 17 .bool, .sl 18 (.int .i64), .lst 9 (.int .i64) 2] (fun y => Tag 54 ∧ cu [.int .i64, .bool, .int .i64, .list (.int .i64)] (fun (i : Int) (z : Bool) (m : Int) (Q : List Int) => (0 ≤ i ∧ i ≤ (unpackR (s.extract ((getR s a).2.1 + 1).toNat ((getR s a).2.1 + 1 + needR (minI 32 (n - (M.length : Int))) (byteAt s (getR s a).2.1.toNat)).toNat) (minI 32 (n - (M.length : Int))) (byteAt s (getR s a).2.1.toNat)).1.length) ∧ (z = ((unpackR (s.extract ((getR s a).2.1 + 1).toNat ((getR s a).2.1 + 1 + needR (minI 32 (n - (M.length : Int))) (byteAt s (getR s a).2.1.toNat)).toNat) (minI 32 (n - (M.length : Int))) (byteAt s (getR s a).2.1.toNat)).1.take i.toNat).any (fun v => decide (v = 0))) ∧ (m = mwL ((unpackR (s.extract ((getR s a).2.1 + 1).toNat ((getR s a).2.1 + 1 + needR (minI 32 (n - (M.length : Int))) (byteAt s (getR s a).2.1.toNat)).toNat) (minI 32 (n - (M.length : Int))) (byteAt s (getR s a).2.1.toNat)).1.take i.toNat)) ∧ (∀ v, v ∈ (unpackR (s.extract ((getR s a).2.1 + 1).toNat ((getR s a).2.1 + 1 + needR (minI 32 (n - (M.length : Int))) (byteAt s (getR s a).2.1.toNat)).toNat) (minI 32 (n - (M.length : Int))) (byteAt s (getR s a).2.1.toNat)).1.take i.toNat → v ≤ 9223372036854775807 - dL s a) ∧ (Q = M ++ sumW (lastI M) (((unpackR (s.extract ((getR s a).2.1 + 1).toNat ((getR s a).2.1 + 1 + needR (minI 32 (n - (M.length : Int))) (byteAt s (getR s a).2.1.toNat)).toNat) (minI 32 (n - (M.length : Int))) (byteAt s (getR s a).2.1.toNat)).1.take i.toNat).map (fun v => IntKind.i64.wrap (zagS (getR s a).1 + v))))) y) (cu [.int .i64, .bool, .int .i64, .list (.int .i64)] (fun (i : Int) (z : Bool) (m : Int) (Q : List Int) => (((unpackR (s.extract ((getR s a).2.1 + 1).toNat ((getR s a).2.1 + 1 + needR (minI 32 (n - (M.length : Int))) (byteAt s (getR s a).2.1.toNat)).toNat) (minI 32 (n - (M.length : Int))) (byteAt s (getR s a).2.1.toNat)).1.length : Int) - i).toNat)) (cu [.int .i64, .bool, .int .i64, .list (.int .i64)] (fun (i : Int) (z : Bool) (m : Int) (Q : List Int) => ([] : List (Nat × Nat × LA)))))] : List (Nat × Nat × LA)))))], ?_⟩
  repeat' (first
    | (
 with_reducible refine Side.mk ⟨(⟨⟩ : Tag 53), ?_⟩
 dsimp only [cu, joinT, ckTys, gts, Prod.eta, List.nil_append]
 refine ⟨?_, ?_⟩
 · first
   | (rfl)
   | (
  have q0 : (!sizeOk n) = false := by with_reducible assumption
  have q1 := sizeOk_yes q0
  have hk := kB_rng (n := n) (M := M) (by omega)
  have hg := getR_rng s a
  have hw := dW_rng s a
  have hn := needR_rng (minI 32 (n - (M.length : Int))) (byteAt s (getR s a).2.1.toNat)
  have eW : dW s a = byteAt s (getR s a).2.1.toNat := rfl
  have eE : dE s a (minI 32 (n - (M.length : Int))) = (getR s a).2.1 + 1 + needR (minI 32 (n - (M.length : Int))) (byteAt s (getR s a).2.1.toNat) := rfl
  have eU : dU s a (minI 32 (n - (M.length : Int))) = (unpackR (s.extract ((getR s a).2.1 + 1).toNat ((getR s a).2.1 + 1 + needR (minI 32 (n - (M.length : Int))) (byteAt s (getR s a).2.1.toNat)).toNat) (minI 32 (n - (M.length : Int))) (byteAt s (getR s a).2.1.toNat)) := rfl
  have hg0 : (getR s a).2.2 = 0 := by with_reducible assumption
  have hok := getR_ok hg0
  have hu0 : (unpackR (s.extract ((getR s a).2.1 + 1).toNat ((getR s a).2.1 + 1 + needR (minI 32 (n - (M.length : Int))) (byteAt s (getR s a).2.1.toNat)).toNat) (minI 32 (n - (M.length : Int))) (byteAt s (getR s a).2.1.toNat)).2 = 0 := by with_reducible assumption
  have hul := unpackR_len hu0
  have ht : (unpackR (s.extract ((getR s a).2.1 + 1).toNat ((getR s a).2.1 + 1 + needR (minI 32 (n - (M.length : Int))) (byteAt s (getR s a).2.1.toNat)).toNat) (minI 32 (n - (M.length : Int))) (byteAt s (getR s a).2.1.toNat)).1.take i.toNat = (unpackR (s.extract ((getR s a).2.1 + 1).toNat ((getR s a).2.1 + 1 + needR (minI 32 (n - (M.length : Int))) (byteAt s (getR s a).2.1.toNat)).toNat) (minI 32 (n - (M.length : Int))) (byteAt s (getR s a).2.1.toNat)).1 := List.take_of_length_le (by omega)
  rw [ht] at hz hm hr hQ
  have e5 : dOk s a (minI 32 (n - (M.length : Int))) = true := by
    rw [dOk_iff2 hk.1 (by rw [eU]; exact hu0), eU, eW]
    exact ⟨by rw [← hz]; first | with_reducible assumption | exact nz_t (by with_reducible assumption), by rw [← hm]; first | with_reducible assumption | omega, hr⟩
  have eb := blk_ok (k := minI 32 (n - (M.length : Int))) hg0 (by omega) (by omega) (by omega) e5
  rw [hM, dd_next (by omega) (by rw [eb]), eb, hQ]
  rfl)
 · first
   | (
  have q0 : (!sizeOk n) = false := by with_reducible assumption
  have q1 := sizeOk_yes q0
  first
  | (simp; omega)
  | (simp only [List.length_cons, List.length_nil]; omega)
  | (
   have hk := kB_rng (n := n) (M := M) (by omega)
   have hg := getR_rng s a
   have hw := dW_rng s a
   have hn := needR_rng (minI 32 (n - (M.length : Int))) (byteAt s (getR s a).2.1.toNat)
   have eW : dW s a = byteAt s (getR s a).2.1.toNat := rfl
   have eE : dE s a (minI 32 (n - (M.length : Int))) = (getR s a).2.1 + 1 + needR (minI 32 (n - (M.length : Int))) (byteAt s (getR s a).2.1.toNat) := rfl
   have eU : dU s a (minI 32 (n - (M.length : Int))) = (unpackR (s.extract ((getR s a).2.1 + 1).toNat ((getR s a).2.1 + 1 + needR (minI 32 (n - (M.length : Int))) (byteAt s (getR s a).2.1.toNat)).toNat) (minI 32 (n - (M.length : Int))) (byteAt s (getR s a).2.1.toNat)) := rfl
   have hg0 : (getR s a).2.2 = 0 := by with_reducible assumption
   have hok := getR_ok hg0
   have hu0 : (unpackR (s.extract ((getR s a).2.1 + 1).toNat ((getR s a).2.1 + 1 + needR (minI 32 (n - (M.length : Int))) (byteAt s (getR s a).2.1.toNat)).toNat) (minI 32 (n - (M.length : Int))) (byteAt s (getR s a).2.1.toNat)).2 = 0 := by with_reducible assumption
   have hul := unpackR_len hu0
   have hQl := congrArg List.length hQ
   simp only [List.length_append, sumW_len, List.length_map, List.length_take] at hQl
   omega)))
    | (
 with_reducible refine Side.mk ⟨(⟨⟩ : Tag 54), ?_⟩
 dsimp only [cu, joinT, ckTys, gts, Prod.eta, List.nil_append]
 refine ⟨?_, ?_, ?_, ?_, ?_⟩
 · omega
 · first
   | (rfl)
   | (
  (try simp only [u64_get] at *)
  rw [any_step (by omega), ← hz]
  first | done | rfl | (simp_all; done))
 · first
   | (rfl)
   | (
  (try simp only [u64_get] at *)
  rw [mw_step (by omega), ← hm])
 · first
   | (intro v hv; simp at hv; done)
   | (
  (try simp only [u64_get] at *)
  have hro : IntKind.u64.wrap (9223372036854775807 - IntKind.u64.wrap (zagS (getR s a).1)) = 9223372036854775807 - dL s a := room_eq (dL_in s a)
  refine mem_step (P := fun v => v ≤ 9223372036854775807 - dL s a) (by omega) hr ?_
  show (_ : Int) ≤ _
  omega)
 · first
   | (simp [sumW]; done)
   | (
  have q0 : (!sizeOk n) = false := by with_reducible assumption
  have q1 := sizeOk_yes q0
  have hk := kB_rng (n := n) (M := M) (by omega)
  have hg := getR_rng s a
  have hw := dW_rng s a
  have hn := needR_rng (minI 32 (n - (M.length : Int))) (byteAt s (getR s a).2.1.toNat)
  have eW : dW s a = byteAt s (getR s a).2.1.toNat := rfl
  have eE : dE s a (minI 32 (n - (M.length : Int))) = (getR s a).2.1 + 1 + needR (minI 32 (n - (M.length : Int))) (byteAt s (getR s a).2.1.toNat) := rfl
  have eU : dU s a (minI 32 (n - (M.length : Int))) = (unpackR (s.extract ((getR s a).2.1 + 1).toNat ((getR s a).2.1 + 1 + needR (minI 32 (n - (M.length : Int))) (byteAt s (getR s a).2.1.toNat)).toNat) (minI 32 (n - (M.length : Int))) (byteAt s (getR s a).2.1.toNat)) := rfl
  have hg0 : (getR s a).2.2 = 0 := by with_reducible assumption
  have hok := getR_ok hg0
  have hu0 : (unpackR (s.extract ((getR s a).2.1 + 1).toNat ((getR s a).2.1 + 1 + needR (minI 32 (n - (M.length : Int))) (byteAt s (getR s a).2.1.toNat)).toNat) (minI 32 (n - (M.length : Int))) (byteAt s (getR s a).2.1.toNat)).2 = 0 := by with_reducible assumption
  have hul := unpackR_len hu0
  have hQl := congrArg List.length hQ
  simp only [List.length_append, sumW_len, List.length_map, List.length_take] at hQl
  (try simp only [u64_get] at *)
  rw [map_get (by omega), sum_last, ← hQ, wrap3, last_ix (by omega)]))
    | (
 with_reducible refine Side.mk ?_
 (try dsimp only [cu, joinT, ckTys, gts, loK, hiK, Prod.eta, List.nil_append])
 first
 | (done)
 | (with_reducible rfl)
 | (omega)
 | (exact Eq.refl _)
 | (simp only [List.length_append, List.length_cons, List.length_nil]; omega)
 | (
  have q0 : (!sizeOk n) = false := by with_reducible assumption
  have q1 := sizeOk_yes q0
  omega)
 | (exact getR_rng _ _)
 | (exact getR_rng s a)
 | (exact ⟨hs, by omega⟩)
 | (exact unpackR_u64 _ _ _ _)
 | (
  have q0 : (!sizeOk n) = false := by with_reducible assumption
  have q1 := sizeOk_yes q0
  have hk := kB_rng (n := n) (M := M) (by omega)
  first
  | (
   have hg := getR_rng s a
   have hw := dW_rng s a
   have hn := needR_rng (minI 32 (n - (M.length : Int))) (byteAt s (getR s a).2.1.toNat)
   have eW : dW s a = byteAt s (getR s a).2.1.toNat := rfl
   have eE : dE s a (minI 32 (n - (M.length : Int))) = (getR s a).2.1 + 1 + needR (minI 32 (n - (M.length : Int))) (byteAt s (getR s a).2.1.toNat) := rfl
   have eU : dU s a (minI 32 (n - (M.length : Int))) = (unpackR (s.extract ((getR s a).2.1 + 1).toNat ((getR s a).2.1 + 1 + needR (minI 32 (n - (M.length : Int))) (byteAt s (getR s a).2.1.toNat)).toNat) (minI 32 (n - (M.length : Int))) (byteAt s (getR s a).2.1.toNat)) := rfl
   have hg0 : (getR s a).2.2 = 0 := by with_reducible assumption
   have hok := getR_ok hg0
   first
   | (omega)
   | (
    have hu0 : (unpackR (s.extract ((getR s a).2.1 + 1).toNat ((getR s a).2.1 + 1 + needR (minI 32 (n - (M.length : Int))) (byteAt s (getR s a).2.1.toNat)).toNat) (minI 32 (n - (M.length : Int))) (byteAt s (getR s a).2.1.toNat)).2 = 0 := by with_reducible assumption
    have hul := unpackR_len hu0
    first
    | (omega)
    | (
     have hQl := congrArg List.length hQ
     simp only [List.length_append, sumW_len, List.length_map, List.length_take] at hQl
     first
     | (omega)
     | (
      (try simp only [List.length_cons, List.length_nil])
      omega))))
  | (exact ⟨hs, by omega⟩)
  | (
   have hg := getR_rng s a
   have hw := dW_rng s a
   have hn := needR_rng (minI 32 (n - (M.length : Int))) (byteAt s (getR s a).2.1.toNat)
   have eW : dW s a = byteAt s (getR s a).2.1.toNat := rfl
   have eE : dE s a (minI 32 (n - (M.length : Int))) = (getR s a).2.1 + 1 + needR (minI 32 (n - (M.length : Int))) (byteAt s (getR s a).2.1.toNat) := rfl
   have eU : dU s a (minI 32 (n - (M.length : Int))) = (unpackR (s.extract ((getR s a).2.1 + 1).toNat ((getR s a).2.1 + 1 + needR (minI 32 (n - (M.length : Int))) (byteAt s (getR s a).2.1.toNat)).toNat) (minI 32 (n - (M.length : Int))) (byteAt s (getR s a).2.1.toNat)) := rfl
   have hg0 : (getR s a).2.2 = 0 := by with_reducible assumption
   have hok := getR_ok hg0
   first
   | (
    simp only [ByteArray.size_extract]
    omega)
   | (
    refine ⟨?_, by omega⟩
    simp only [ByteArray.size_extract]
    omega))))
    | (conv => whnf
       first
        | done
        | exact trivial
        | with_reducible refine NilBr.mk (fun h => ?_) ?_
        | with_reducible first | refine w_andS ?_ ?_ | refine w_andL ?_ ?_ | refine w_kern (by kernel_rfl) ?_ | refine w_true ?_ | refine w_nd ?_ ?_ | refine w_in ?_ ?_ | refine w_and ?_ ?_
        | ((with_reducible first | refine w_brN (fun h => ?_) (fun h => ?_) | refine w_brD (fun h => ?_) (fun h => ?_) | refine w_br (fun h => ?_) (fun h => ?_)) <;> (try dsimp only [cu, Prod.eta, List.nil_append] at h) <;> (try (exfalso; omega; done)))
        | (
 intro yy (hy : Tag 53 ∧ _)
 obtain ⟨(a : Int), (M : List Int), _⟩ := yy
 replace hy := hy.2
 dsimp only [cu, joinT, ckTys, gts, Prod.eta, List.nil_append] at hy
 obtain ⟨hM, hl⟩ := hy)
        | (
 intro yy (hy : Tag 54 ∧ _)
 obtain ⟨(i : Int), (z : Bool), (m : Int), (Q : List Int), _⟩ := yy
 replace hy := hy.2
 dsimp only [cu, joinT, ckTys, gts, Prod.eta, List.nil_append] at hy
 obtain ⟨hi, hz, hm, hr, hQ⟩ := hy)))
  all_goals (
 with_reducible refine Leaf.mk ?_
 (try dsimp only [cu, joinT, ckTys, gts, Prod.eta, List.nil_append] at *)
 first
 | (done)
 | (
  have q0 : (!sizeOk n) = true := by with_reducible assumption
  rw [decDelta, if_pos (sizeOk_no q0)])
 | (
  have q0 : (!sizeOk n) = false := by with_reducible assumption
  have q1 := sizeOk_yes q0
  first
  | (
   have q2 : n = 0 := by with_reducible assumption
   first
   | (
    have q3 : ¬ s = ⟨#[]⟩ := by first | with_reducible assumption | (simp_all; done)
    rw [decDelta, if_neg q1, if_pos q2, if_neg q3])
   | (
    have q3 : s = ⟨#[]⟩ := by first | with_reducible assumption | (simp_all; done)
    rw [decDelta, if_neg q1, if_pos q2, if_pos q3]))
  | (
   have q2 : ¬ n = 0 := by omega
   first
   | (
    have q3 : (getR s 0).2.2 ≠ 0 := by with_reducible assumption
    rw [decDelta, if_neg q1, if_neg q2, if_pos q3])
   | (
    have q3 : ¬ (getR s 0).2.2 ≠ 0 := fun q => q (by with_reducible assumption)
    first
    | (
     have h1 : ¬ (getR s a).2.2 = 0 := by with_reducible assumption
     have eb : blkD s a (minI 32 (n - (M.length : Int))) = ([], 0, (getR s a).2.2) := by rw [blkD, if_pos h1]
     rw [decDelta, if_neg q1, if_neg q2, if_neg q3, hM]
     rw [dd_err (by omega) (by rw [eb]; exact h1), eb]
     (try rfl))
    | (
     have q0 : (!sizeOk n) = false := by with_reducible assumption
     have q1 := sizeOk_yes q0
     have hk := kB_rng (n := n) (M := M) (by omega)
     have hg := getR_rng s a
     have hw := dW_rng s a
     have hn := needR_rng (minI 32 (n - (M.length : Int))) (byteAt s (getR s a).2.1.toNat)
     have eW : dW s a = byteAt s (getR s a).2.1.toNat := rfl
     have eE : dE s a (minI 32 (n - (M.length : Int))) = (getR s a).2.1 + 1 + needR (minI 32 (n - (M.length : Int))) (byteAt s (getR s a).2.1.toNat) := rfl
     have eU : dU s a (minI 32 (n - (M.length : Int))) = (unpackR (s.extract ((getR s a).2.1 + 1).toNat ((getR s a).2.1 + 1 + needR (minI 32 (n - (M.length : Int))) (byteAt s (getR s a).2.1.toNat)).toNat) (minI 32 (n - (M.length : Int))) (byteAt s (getR s a).2.1.toNat)) := rfl
     have hg0 : (getR s a).2.2 = 0 := by with_reducible assumption
     have hok := getR_ok hg0
     first
     | (
      have h2 : (getR s a).2.1 = s.size := by omega
      have eb : blkD s a (minI 32 (n - (M.length : Int))) = ([], 0, 10) := by rw [blkD, if_neg (fun q => q hg0), if_pos h2]
      rw [decDelta, if_neg q1, if_neg q2, if_neg q3, hM]
      rw [dd_err (by omega) (by rw [eb]; decide), eb]
      (try rfl))
     | (
      have h2 : ¬ (getR s a).2.1 = s.size := by omega
      first
      | (
       have h3 : dW s a > 64 := by omega
       have eb : blkD s a (minI 32 (n - (M.length : Int))) = ([], 0, 2) := by rw [blkD, if_neg (fun q => q hg0), if_neg h2, if_pos h3]
       rw [decDelta, if_neg q1, if_neg q2, if_neg q3, hM]
       rw [dd_err (by omega) (by rw [eb]; decide), eb]
       (try rfl))
      | (
       have h3 : ¬ dW s a > 64 := by omega
       have h4 : dE s a (minI 32 (n - (M.length : Int))) > s.size := by omega
       have eb : blkD s a (minI 32 (n - (M.length : Int))) = ([], 0, 10) := by rw [blkD, if_neg (fun q => q hg0), if_neg h2, if_neg h3, if_pos h4]
       rw [decDelta, if_neg q1, if_neg q2, if_neg q3, hM]
       rw [dd_err (by omega) (by rw [eb]; decide), eb]
       (try rfl)))
     | (
      have hu0 : ¬ (unpackR (s.extract ((getR s a).2.1 + 1).toNat ((getR s a).2.1 + 1 + needR (minI 32 (n - (M.length : Int))) (byteAt s (getR s a).2.1.toNat)).toNat) (minI 32 (n - (M.length : Int))) (byteAt s (getR s a).2.1.toNat)).2 = 0 := by with_reducible assumption
      have hu2 : (unpackR (s.extract ((getR s a).2.1 + 1).toNat ((getR s a).2.1 + 1 + needR (minI 32 (n - (M.length : Int))) (byteAt s (getR s a).2.1.toNat)).toNat) (minI 32 (n - (M.length : Int))) (byteAt s (getR s a).2.1.toNat)).2 = 2 := by
        rcases dU_err (s := s) (a := a) (k := minI 32 (n - (M.length : Int))) ⟨hk.1, hk.2.1⟩ hg0 (by omega) (by omega) with q | q
        · exact absurd q hu0
        · exact q
      have e5 : dOk s a (minI 32 (n - (M.length : Int))) = false := dOk_no (fun q => hu0 q.1)
      (try rw [hu2])
      rw [decDelta, if_neg q1, if_neg q2, if_neg q3, hM]
      have eb := blk_e2 (k := minI 32 (n - (M.length : Int))) hg0 (by omega) (by omega) (by omega) e5
      rw [dd_err (by omega) (by rw [eb]; decide), eb]
      (try rfl))
     | (
      have hu0 : (unpackR (s.extract ((getR s a).2.1 + 1).toNat ((getR s a).2.1 + 1 + needR (minI 32 (n - (M.length : Int))) (byteAt s (getR s a).2.1.toNat)).toNat) (minI 32 (n - (M.length : Int))) (byteAt s (getR s a).2.1.toNat)).2 = 0 := by with_reducible assumption
      have hul := unpackR_len hu0
      first
      | (
       (try simp only [u64_get] at *)
       have hro : IntKind.u64.wrap (9223372036854775807 - IntKind.u64.wrap (zagS (getR s a).1)) = 9223372036854775807 - dL s a := room_eq (dL_in s a)
       have e5 : dOk s a (minI 32 (n - (M.length : Int))) = false := by
         rw [Bool.eq_false_iff, Ne, dOk_iff2 hk.1 (by rw [eU]; exact hu0), eU]
         rintro ⟨_, _, q⟩
         have hi3 : i.toNat < (unpackR (s.extract ((getR s a).2.1 + 1).toNat ((getR s a).2.1 + 1 + needR (minI 32 (n - (M.length : Int))) (byteAt s (getR s a).2.1.toNat)).toNat) (minI 32 (n - (M.length : Int))) (byteAt s (getR s a).2.1.toNat)).1.length := by omega
         have e := getElem!_pos (unpackR (s.extract ((getR s a).2.1 + 1).toNat ((getR s a).2.1 + 1 + needR (minI 32 (n - (M.length : Int))) (byteAt s (getR s a).2.1.toNat)).toNat) (minI 32 (n - (M.length : Int))) (byteAt s (getR s a).2.1.toNat)).1 i.toNat hi3
         have hm2 := q _ (List.getElem_mem hi3)
         rw [← e] at hm2
         omega
       rw [decDelta, if_neg q1, if_neg q2, if_neg q3, hM]
       have eb := blk_e2 (k := minI 32 (n - (M.length : Int))) hg0 (by omega) (by omega) (by omega) e5
       rw [dd_err (by omega) (by rw [eb]; decide), eb]
       (try rfl))
      | (
       have ht : (unpackR (s.extract ((getR s a).2.1 + 1).toNat ((getR s a).2.1 + 1 + needR (minI 32 (n - (M.length : Int))) (byteAt s (getR s a).2.1.toNat)).toNat) (minI 32 (n - (M.length : Int))) (byteAt s (getR s a).2.1.toNat)).1.take i.toNat = (unpackR (s.extract ((getR s a).2.1 + 1).toNat ((getR s a).2.1 + 1 + needR (minI 32 (n - (M.length : Int))) (byteAt s (getR s a).2.1.toNat)).toNat) (minI 32 (n - (M.length : Int))) (byteAt s (getR s a).2.1.toNat)).1 := List.take_of_length_le (by omega)
       rw [ht] at hz hm hr hQ
       have e5 : dOk s a (minI 32 (n - (M.length : Int))) = false := by
         rw [Bool.eq_false_iff, Ne, dOk_iff2 hk.1 (by rw [eU]; exact hu0), eU, eW]
         rintro ⟨p1, p2, _⟩
         rw [← hz] at p1
         rw [← hm] at p2
         first
         | (have h7 : (!z) = true := by with_reducible assumption
            rw [p1] at h7
            exact absurd h7 (by decide))
         | exact absurd p2 (by with_reducible assumption)
         | omega
       rw [decDelta, if_neg q1, if_neg q2, if_neg q3, hM]
       have eb := blk_e2 (k := minI 32 (n - (M.length : Int))) hg0 (by omega) (by omega) (by omega) e5
       rw [dd_err (by omega) (by rw [eb]; decide), eb]
       (try rfl))))
    | (
     have ha : a < s.size := by omega
     rw [decDelta, if_neg q1, if_neg q2, if_neg q3, hM]
     rw [dd_end (by omega), if_pos ha])
    | (
     have ha : ¬ a < s.size := by omega
     rw [decDelta, if_neg q1, if_neg q2, if_neg q3, hM]
     rw [dd_end (by omega), if_neg ha])))))
abbrev tb71 : Tbl := (100, c_rddec_ok) :: tb70
theorem tb71_ok : TblOk Try.prog tb71 := TblOk.cons rddec_ok tb70_ok

end Go.Proofs.Ytlamfjhhjfgemaa
