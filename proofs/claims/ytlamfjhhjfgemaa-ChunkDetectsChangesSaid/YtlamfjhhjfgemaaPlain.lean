/- Contracts of plain payloads and of differences (reference). -/
import Derived.Test.YtlamfjhhjfgemaaPay
namespace Go.Proofs.Ytlamfjhhjfgemaa
open Go.Abs
set_option linter.unusedVariables false
set_option linter.unusedSimpArgs false

abbrev c_values_ok : Ct := .fn [.int .i64, .str, .int .i64] (some (fun (t : Int) (s : ByteArray) (n : Int) => (s.size ≤ 288230376151711744) ∧ (0 ≤ n ∧ n ≤ 4096))) (fun (t : Int) (s : ByteArray) (n : Int) => .tup [.list tVal, .bool] ((pvGo t s n.toNat 0 []).1, (pvGo t s n.toNat 0 []).2, ()))
set_option maxRecDepth 100000 in
set_option maxHeartbeats 4000000 in
theorem values_ok : CtOk Try.prog 81 c_values_ok := by
  refine CtOk.fn tb54_ok mixed [] [56] rfl rfl ?_
  rintro ⟨(t : Int), (s : ByteArray), (n : Int), _⟩ hpre
  replace hpre := hpre _ rfl
  dsimp only [cu] at hpre
  obtain ⟨hs, hn⟩ := hpre
  refine ⟨[(0, 8, LA.mk [.sl 23 (.int .i64), .ar 1 tVal 41, .ob 0 tRdr 88] (fun y => Tag 42 ∧ cu [.int .i64, .list tVal, tRdr] (fun (i : Int) (L : List Val) (r : Rdr) => (0 ≤ i ∧ i ≤ n) ∧ ((L.length : Int) = n) ∧ (s = r.1) ∧ (0 ≤ r.2 ∧ r.2 ≤ s.size) ∧ (∀ j : Nat, i ≤ j → L[j]! = ZV) ∧ ((pvGo t s n.toNat 0 []) = pvGo t s (n - (L.take i.toNat).length).toNat r.2 (L.take i.toNat))) y) (cu [.int .i64, .list tVal, tRdr] (fun (i : Int) (L : List Val) (r : Rdr) => (n - i).toNat)) (cu [.int .i64, .list tVal, tRdr] (fun (i : Int) (L : List Val) (r : Rdr) => ([] : List (Nat × Nat × LA)))))], ?_⟩
  repeat' (first
    | (
 with_reducible refine Side.mk ⟨(⟨⟩ : Tag 42), ?_⟩
 dsimp only [cu, joinT, ckTys, gts, Prod.eta, List.nil_append]
 refine ⟨?_, ?_, ?_, ?_, ?_, ?_⟩
 · omega
 · first
   | (rw [List.length_replicate]; omega)
   | (rw [List.length_set]; omega)
 · rfl
 · first
   | (omega)
   | (
  have hg := getR_rng s a
  have h1 : (getR s a).2.2 = 0 := by with_reducible assumption
  have hok := getR_ok h1
  first
  | (omega)
  | (
   have hus := u64_id (n := (s.size : Int)) (by omega)
   have ht : t = 3 := by with_reducible assumption
   omega))
 · first
   | (exact repl_at _)
   | (exact setV_rest (by omega) hz)
 · first
   | (simp; done)
   | (
  have hg := getR_rng s a
  have h1 : (getR s a).2.2 = 0 := by with_reducible assumption
  have hok := getR_ok h1
  first
  | (
   have ht : ¬ t = 3 := by with_reducible assumption
   have hml : ((L.take i.toNat).length : Int) = i := take_len (by omega)
   have hz0 := hz i.toNat (by omega)
   rw [hM, pv_num (by omega) h1 ht]
   rw [setV_take (by omega)]
   rw [hz0]
   rfl)
  | (
   have hus := u64_id (n := (s.size : Int)) (by omega)
   have ht : t = 3 := by with_reducible assumption
   have hml : ((L.take i.toNat).length : Int) = i := take_len (by omega)
   have hz0 := hz i.toNat (by omega)
   have h2 : ¬ (getR s a).1 > s.size - (getR s a).2.1 := by omega
   rw [hM, pv_str (by omega) h1 ht h2]
   rw [setV_take (by omega)]
   rw [hz0]
   rfl)))
    | (
 with_reducible refine Side.mk ?_
 (try dsimp only [cu, joinT, ckTys, gts, loK, hiK, Prod.eta, List.nil_append])
 first
 | (done)
 | (with_reducible rfl)
 | (omega)
 | (exact Eq.refl _)
 | (simp only [List.length_append, List.length_cons, List.length_nil]; omega)
 | (
  have hg := getR_rng s a
  have h1 : (getR s a).2.2 = 0 := by with_reducible assumption
  have hok := getR_ok h1
  omega)
 | (exact getR_rng s a)
 | (
  have hg := getR_rng s a
  have h1 : (getR s a).2.2 = 0 := by with_reducible assumption
  have hok := getR_ok h1
  have hus := u64_id (n := (s.size : Int)) (by omega)
  first
  | (omega)
  | (
   have ht : t = 3 := by with_reducible assumption
   omega))
 | (rw [List.length_replicate]; omega)
 | (
  have hg := getR_rng s a
  have h1 : (getR s a).2.2 = 0 := by with_reducible assumption
  have hok := getR_ok h1
  have hus := u64_id (n := (s.size : Int)) (by omega)
  simp only [ByteArray.size_extract]
  omega))
    | (conv => whnf
       first
        | done
        | exact trivial
        | with_reducible refine NilBr.mk (fun h => ?_) ?_
        | with_reducible first | refine w_andS ?_ ?_ | refine w_andL ?_ ?_ | refine w_kern (by kernel_rfl) ?_ | refine w_true ?_ | refine w_nd ?_ ?_ | refine w_in ?_ ?_ | refine w_and ?_ ?_
        | ((with_reducible first | refine w_brN (fun h => ?_) (fun h => ?_) | refine w_brD (fun h => ?_) (fun h => ?_) | refine w_br (fun h => ?_) (fun h => ?_)) <;> (try dsimp only [cu, Prod.eta, List.nil_append] at h) <;> (try (exfalso; omega; done)))
        | (
 intro yy (hy : Tag 42 ∧ _)
 obtain ⟨(i : Int), (L : List Val), (r : Rdr), _⟩ := yy
 replace hy := hy.2
 dsimp only [cu, joinT, ckTys, gts, Prod.eta, List.nil_append] at hy
 obtain ⟨hi, hl, hr, ha, hz, hM⟩ := hy
 obtain ⟨r1, a⟩ := r
 dsimp only at hr ha hM
 subst hr)))
  all_goals (
 with_reducible refine Leaf.mk ?_
 (try dsimp only [cu, joinT, ckTys, gts, Prod.eta, List.nil_append] at *)
 first
 | (done)
 | (
  have hml : ((L.take i.toNat).length : Int) = i := take_len (by omega)
  first
  | (
   have h1 : ¬ (getR s a).2.2 = 0 := by with_reducible assumption
   rw [hM, pv_err (by omega) h1])
  | (
   have hg := getR_rng s a
   have h1 : (getR s a).2.2 = 0 := by with_reducible assumption
   have hok := getR_ok h1
   have hus := u64_id (n := (s.size : Int)) (by omega)
   have ht : t = 3 := by with_reducible assumption
   have h2 : (getR s a).1 > s.size - (getR s a).2.1 := by omega
   rw [hM, pv_short (by omega) h1 ht h2])
  | (rw [hM, pv_end (by omega), List.take_of_length_le (by omega)])))
abbrev tb55 : Tbl := (81, c_values_ok) :: tb54
theorem tb55_ok : TblOk Try.prog tb55 := TblOk.cons values_ok tb54_ok

end Go.Proofs.Ytlamfjhhjfgemaa
