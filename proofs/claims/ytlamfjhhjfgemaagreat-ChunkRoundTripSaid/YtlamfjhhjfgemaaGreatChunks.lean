/- Contracts of plain payloads and of differences (reference). -/
import Derived.Test.YtlamfjhhjfgemaaGreatPay
namespace Go.Proofs.YtlamfjhhjfgemaaGreat
open Go.Abs
set_option linter.unusedVariables false
set_option linter.unusedSimpArgs false

abbrev c_values_ok : Ct := .fn [.int .i64, .str, .int .i64] (some (fun (t : Int) (s : ByteArray) (n : Int) => (s.size ≤ 288230376151711744) ∧ (0 ≤ n ∧ n ≤ 4096))) (fun (t : Int) (s : ByteArray) (n : Int) => .tup [.list tVal, .bool] ((pvGo t s n.toNat 0 []).1, (pvGo t s n.toNat 0 []).2, ()))
set_option maxRecDepth 100000 in
set_option maxHeartbeats 4000000 in
theorem values_ok : CtOk Tryz.prog 57 c_values_ok := by
  refine CtOk.fn tb61_ok mixed [] [37] rfl rfl ?_
  rintro ⟨(t : Int), (s : ByteArray), (n : Int), _⟩ hpre
  replace hpre := hpre _ rfl
  dsimp only [cu] at hpre
  obtain ⟨hs, hn⟩ := hpre
  refine ⟨[(0, 8, LA.mk [.sl 23 (.int .i64), .ar 1 tVal 36, .ob 0 tRdr 84] (fun y => Tag 50 ∧ cu [.int .i64, .list tVal, tRdr] (fun (i : Int) (L : List Val) (r : Rdr) => (0 ≤ i ∧ i ≤ n) ∧ ((L.length : Int) = n) ∧ (s = r.1) ∧ (0 ≤ r.2 ∧ r.2 ≤ s.size) ∧ (∀ j : Nat, i ≤ j → L[j]! = ZV) ∧ ((pvGo t s n.toNat 0 []) = pvGo t s (n - (L.take i.toNat).length).toNat r.2 (L.take i.toNat))) y) (cu [.int .i64, .list tVal, tRdr] (fun (i : Int) (L : List Val) (r : Rdr) => (n - i).toNat)) (cu [.int .i64, .list tVal, tRdr] (fun (i : Int) (L : List Val) (r : Rdr) => ([] : List (Nat × Nat × LA)))))], ?_⟩
  repeat' (first
    | (
 with_reducible refine Side.mk ⟨(⟨⟩ : Tag 50), ?_⟩
 dsimp only [cu, joinT, ckTys, gts, Prod.eta, List.nil_append]
 refine ⟨?_, ?_, ?_, ?_, ?_, ?_⟩
 · omega
 · first
   | (rw [List.length_replicate]; omega)
   | (rw [List.length_set]; omega)
 · rfl
 · first
   | (omega)
   | (
  have hg := getR_rng s a
  have h1 : (getR s a).2.2 = 0 := by with_reducible assumption
  have hok := getR_ok h1
  first
  | (omega)
  | (
   have hus := u64_id (n := (s.size : Int)) (by omega)
   have ht : t = 3 := by with_reducible assumption
   omega))
 · first
   | (exact repl_at _)
   | (exact setV_rest (by omega) hz)
 · first
   | (simp; done)
   | (
  have hg := getR_rng s a
  have h1 : (getR s a).2.2 = 0 := by with_reducible assumption
  have hok := getR_ok h1
  first
  | (
   have ht : ¬ t = 3 := by with_reducible assumption
   have hml : ((L.take i.toNat).length : Int) = i := take_len (by omega)
   have hz0 := hz i.toNat (by omega)
   rw [hM, pv_num (by omega) h1 ht]
   rw [setV_take (by omega)]
   rw [hz0]
   rfl)
  | (
   have hus := u64_id (n := (s.size : Int)) (by omega)
   have ht : t = 3 := by with_reducible assumption
   have hml : ((L.take i.toNat).length : Int) = i := take_len (by omega)
   have hz0 := hz i.toNat (by omega)
   have h2 : ¬ (getR s a).1 > s.size - (getR s a).2.1 := by omega
   rw [hM, pv_str (by omega) h1 ht h2]
   rw [setV_take (by omega)]
   rw [hz0]
   rfl)))
    | (
 with_reducible refine Side.mk ?_
 (try dsimp only [cu, joinT, ckTys, gts, loK, hiK, Prod.eta, List.nil_append])
 first
 | (done)
 | (with_reducible rfl)
 | (omega)
 | (exact Eq.refl _)
 | (simp only [List.length_append, List.length_cons, List.length_nil]; omega)
 | (
  have hg := getR_rng s a
  have h1 : (getR s a).2.2 = 0 := by with_reducible assumption
  have hok := getR_ok h1
  omega)
 | (exact getR_rng s a)
 | (
  have hg := getR_rng s a
  have h1 : (getR s a).2.2 = 0 := by with_reducible assumption
  have hok := getR_ok h1
  have hus := u64_id (n := (s.size : Int)) (by omega)
  first
  | (omega)
  | (
   have ht : t = 3 := by with_reducible assumption
   omega))
 | (rw [List.length_replicate]; omega)
 | (
  have hg := getR_rng s a
  have h1 : (getR s a).2.2 = 0 := by with_reducible assumption
  have hok := getR_ok h1
  have hus := u64_id (n := (s.size : Int)) (by omega)
  simp only [ByteArray.size_extract]
  omega))
    | (conv => whnf
       first
        | done
        | exact trivial
        | with_reducible refine NilBr.mk (fun h => ?_) ?_
        | with_reducible first | refine w_andS ?_ ?_ | refine w_andL ?_ ?_ | refine w_kern (by kernel_rfl) ?_ | refine w_true ?_ | refine w_nd ?_ ?_ | refine w_in ?_ ?_ | refine w_and ?_ ?_
        | ((with_reducible first | refine w_brN (fun h => ?_) (fun h => ?_) | refine w_brD (fun h => ?_) (fun h => ?_) | refine w_br (fun h => ?_) (fun h => ?_)) <;> (try dsimp only [cu, Prod.eta, List.nil_append] at h) <;> (try (exfalso; omega; done)))
        | (
 intro yy (hy : Tag 50 ∧ _)
 obtain ⟨(i : Int), (L : List Val), (r : Rdr), _⟩ := yy
 replace hy := hy.2
 dsimp only [cu, joinT, ckTys, gts, Prod.eta, List.nil_append] at hy
 obtain ⟨hi, hl, hr, ha, hz, hM⟩ := hy
 obtain ⟨r1, a⟩ := r
 dsimp only at hr ha hM
 subst hr)))
  all_goals (
 with_reducible refine Leaf.mk ?_
 (try dsimp only [cu, joinT, ckTys, gts, Prod.eta, List.nil_append] at *)
 first
 | (done)
 | (
  have hml : ((L.take i.toNat).length : Int) = i := take_len (by omega)
  first
  | (
   have h1 : ¬ (getR s a).2.2 = 0 := by with_reducible assumption
   rw [hM, pv_err (by omega) h1])
  | (
   have hg := getR_rng s a
   have h1 : (getR s a).2.2 = 0 := by with_reducible assumption
   have hok := getR_ok h1
   have hus := u64_id (n := (s.size : Int)) (by omega)
   have ht : t = 3 := by with_reducible assumption
   have h2 : (getR s a).1 > s.size - (getR s a).2.1 := by omega
   rw [hM, pv_short (by omega) h1 ht h2])
  | (rw [hM, pv_end (by omega), List.take_of_length_le (by omega)])))
abbrev tb62 : Tbl := (57, c_values_ok) :: tb61
theorem tb62_ok : TblOk Tryz.prog tb62 := TblOk.cons values_ok tb61_ok


theorem take_map_len {α β : Type} {W : List α} {f : α → β} {i : Int} (h : 0 ≤ i ∧ i ≤ W.length) : i = (((W.take i.toNat).map f).length : Int) := by
  rw [List.length_map, List.length_take]; omega
theorem mapN_at {W : List Int} {j : Int} (h : 0 ≤ j) (h1 : j < W.length) : (W.map nV)[j.toNat]! = nV W[j.toNat]! := by
  rw [getElem!_pos _ _ (by rw [List.length_map]; omega), getElem!_pos _ _ (by omega), List.getElem_map]
theorem rst4_all {t k : Int} {s : ByteArray} {n : Int} (h : k = 4) : (rstS t k s n).1.length = (decDelta s n).1.length ∧ ∀ j : Int, 0 ≤ j → j < (decDelta s n).1.length → (rstS t k s n).1[j.toNat]! = nV (decDelta s n).1[j.toNat]! := by
  rw [rst_4 h]
  exact ⟨by simp, fun j h0 h1 => mapN_at h0 h1⟩
theorem rst2_all {t k : Int} {s : ByteArray} {n : Int} (h1 : ¬ k = 1) (h3 : ¬ k = 3) (h4 : ¬ k = 4) : (rstS t k s n).1.length = (decRuns s n).1.length ∧ ∀ j : Int, 0 ≤ j → j < (decRuns s n).1.length → (rstS t k s n).1[j.toNat]! = nV (decRuns s n).1[j.toNat]! := by
  rw [rst_2 h1 h3 h4]
  exact ⟨by simp, fun j h0 h1 => mapN_at h0 h1⟩
theorem pad_at {n i : Int} {R : List Val} (h : 0 ≤ i ∧ i < R.length) (h2 : (R.length : Int) ≤ n) : (padV n (R.take i.toNat))[i.toNat]! = ZV := padV_get (by rw [take_len (by omega)]) (by omega)
theorem pad_next {n i : Int} {R : List Val} (h : 0 ≤ i ∧ i < R.length) (h2 : (R.length : Int) ≤ n) : (padV n (R.take i.toNat)).set i.toNat R[i.toNat]! = padV n (R.take (i + 1).toNat) := by
  rw [takeV_get (by omega), padV_set _ (by rw [take_len (by omega)]) (by omega)]

abbrev c_unpack_ok' : Ct := .fn [tCol, .int .i64, .str, .int .i64] (some (fun (c : Col) (k : Int) (s : ByteArray) (n : Int) => (s.size ≤ 288230376151711744) ∧ (0 ≤ n ∧ n ≤ 4096) ∧ (1 ≤ k ∧ k ≤ 4))) (fun (c : Col) (k : Int) (s : ByteArray) (n : Int) => .tup [.list tVal, .bool] ((unpS c.2.1 k s n).1, (unpS c.2.1 k s n).2, ()))
set_option maxRecDepth 100000 in
set_option maxHeartbeats 4000000 in
theorem unpack_ok' : CtOk Tryz.prog 40 c_unpack_ok' := by
  refine CtOk.fn tb62_ok mixed [] [] rfl rfl ?_
  rintro ⟨(c : Col), (k : Int), (s : ByteArray), (n : Int), _⟩ hpre
  replace hpre := hpre _ rfl
  dsimp only [cu] at hpre
  obtain ⟨hs, hn, hk⟩ := hpre
  obtain ⟨c0, t, c2, c3⟩ := c
  show _
  refine ⟨[(0, 20, LA.mk [.sl 41 (.int .i64), .ar 1 tVal 36] (fun y => Tag 51 ∧ cu [.int .i64, .list tVal] (fun (i : Int) (L : List Val) => (0 ≤ i ∧ i ≤ (decDict s n).1.length) ∧ (L = padV n (((decDict s n).1.take i.toNat).map sV))) y) (cu [.int .i64, .list tVal] (fun (i : Int) (L : List Val) => (((decDict s n).1.length : Int) - i).toNat)) (cu [.int .i64, .list tVal] (fun (i : Int) (L : List Val) => ([] : List (Nat × Nat × LA))))), (0, 40, LA.mk [.sl 73 (.int .i64), .ar 1 tVal 36] (fun y => Tag 52 ∧ cu [.int .i64, .list tVal] (fun (i : Int) (L : List Val) => (0 ≤ i ∧ i ≤ (rstS t k s n).1.length) ∧ (L = padV n ((rstS t k s n).1.take i.toNat))) y) (cu [.int .i64, .list tVal] (fun (i : Int) (L : List Val) => (((rstS t k s n).1.length : Int) - i).toNat)) (cu [.int .i64, .list tVal] (fun (i : Int) (L : List Val) => ([] : List (Nat × Nat × LA)))))], ?_⟩
  repeat' (first
    | (
 with_reducible refine Side.mk ⟨(⟨⟩ : Tag 51), ?_⟩
 dsimp only [cu, joinT, ckTys, gts, Prod.eta, List.nil_append]
 refine ⟨?_, ?_⟩
 · omega
 · first
   | (exact (padV_nil n).symm)
   | (
  have hdl := dict_le (s := s) (n := n) hn.1
  have hrl := runs_le (s := s) (n := n) hn.1
  have hdd := delta_le (s := s) (n := n) hn.1
  rw [mapS_take (by omega), ← padV_set _ (take_map_len (by omega)) (by omega), ← hL]
  have hz := padV_get (n := n) (l := ((decDict s n).1.take i.toNat).map sV) (i := i) (take_map_len (by omega)) (by omega)
  rw [← hL] at hz
  rw [hz]
  rfl))
    | (
 with_reducible refine Side.mk ⟨(⟨⟩ : Tag 52), ?_⟩
 dsimp only [cu, joinT, ckTys, gts, Prod.eta, List.nil_append]
 refine ⟨?_, ?_⟩
 · first
   | (
  have hdl := dict_le (s := s) (n := n) hn.1
  have hrl := runs_le (s := s) (n := n) hn.1
  have hdd := delta_le (s := s) (n := n) hn.1
  first
  | (
   have k4 : k = 4 := by omega
   obtain ⟨el, ev⟩ := rst4_all (t := t) (s := s) (n := n) (k := k) k4
   omega)
  | (
   have k4 : ¬ k = 4 := by omega
   have k1 : ¬ k = 1 := by omega
   have k3 : ¬ k = 3 := by omega
   obtain ⟨el, ev⟩ := rst2_all (t := t) (s := s) (n := n) (k := k) k1 k3 k4
   omega))
 · first
   | (exact (padV_nil n).symm)
   | (
  have hdl := dict_le (s := s) (n := n) hn.1
  have hrl := runs_le (s := s) (n := n) hn.1
  have hdd := delta_le (s := s) (n := n) hn.1
  first
  | (
   have k4 : k = 4 := by omega
   obtain ⟨el, ev⟩ := rst4_all (t := t) (s := s) (n := n) (k := k) k4
   rw [hL, ← pad_next (by omega) (by omega), pad_at (by omega) (by omega), ev i (by omega) (by omega)]
   rfl)
  | (
   have k4 : ¬ k = 4 := by omega
   have k1 : ¬ k = 1 := by omega
   have k3 : ¬ k = 3 := by omega
   obtain ⟨el, ev⟩ := rst2_all (t := t) (s := s) (n := n) (k := k) k1 k3 k4
   rw [hL, ← pad_next (by omega) (by omega), pad_at (by omega) (by omega), ev i (by omega) (by omega)]
   rfl)))
    | (
 with_reducible refine Side.mk ?_
 (try dsimp only [cu, joinT, ckTys, gts, loK, hiK, Prod.eta, List.nil_append])
 first
 | (done)
 | (with_reducible rfl)
 | (omega)
 | (exact Eq.refl _)
 | (simp only [List.length_append, List.length_cons, List.length_nil]; omega)
 | (exact ⟨hs, hn⟩)
 | (
  have hdl := dict_le (s := s) (n := n) hn.1
  have hrl := runs_le (s := s) (n := n) hn.1
  have hdd := delta_le (s := s) (n := n) hn.1
  first
  | (omega)
  | (
   have hpl := congrArg List.length hL
   have hpv := padV_len (n := n) (l := ((decDict s n).1.take i.toNat).map sV) (by rw [← take_map_len (by omega)]; omega)
   omega)
  | (
   have k4 : k = 4 := by omega
   obtain ⟨el, ev⟩ := rst4_all (t := t) (s := s) (n := n) (k := k) k4
   omega)
  | (
   have k4 : ¬ k = 4 := by omega
   have k1 : ¬ k = 1 := by omega
   have k3 : ¬ k = 3 := by omega
   obtain ⟨el, ev⟩ := rst2_all (t := t) (s := s) (n := n) (k := k) k1 k3 k4
   omega)
  | (
   have k4 : k = 4 := by omega
   obtain ⟨el, ev⟩ := rst4_all (t := t) (s := s) (n := n) (k := k) k4
   have hpl := congrArg List.length hL
   have hpv := padV_len (n := n) (l := (rstS t k s n).1.take i.toNat) (by rw [take_len (by omega)]; omega)
   omega)
  | (
   have k4 : ¬ k = 4 := by omega
   have k1 : ¬ k = 1 := by omega
   have k3 : ¬ k = 3 := by omega
   obtain ⟨el, ev⟩ := rst2_all (t := t) (s := s) (n := n) (k := k) k1 k3 k4
   have hpl := congrArg List.length hL
   have hpv := padV_len (n := n) (l := (rstS t k s n).1.take i.toNat) (by rw [take_len (by omega)]; omega)
   omega)))
    | (conv => whnf
       first
        | done
        | exact trivial
        | with_reducible refine NilBr.mk (fun h => ?_) ?_
        | with_reducible first | refine w_andS ?_ ?_ | refine w_andL ?_ ?_ | refine w_kern (by kernel_rfl) ?_ | refine w_true ?_ | refine w_nd ?_ ?_ | refine w_in ?_ ?_ | refine w_and ?_ ?_
        | ((with_reducible first | refine w_brN (fun h => ?_) (fun h => ?_) | refine w_brD (fun h => ?_) (fun h => ?_) | refine w_br (fun h => ?_) (fun h => ?_)) <;> (try dsimp only [cu, Prod.eta, List.nil_append] at h) <;> (try (exfalso; omega; done)))
        | (
 intro yy (hy : Tag 51 ∧ _)
 obtain ⟨(i : Int), (L : List Val), _⟩ := yy
 replace hy := hy.2
 dsimp only [cu, joinT, ckTys, gts, Prod.eta, List.nil_append] at hy
 obtain ⟨hi, hL⟩ := hy)
        | (
 intro yy (hy : Tag 52 ∧ _)
 obtain ⟨(i : Int), (L : List Val), _⟩ := yy
 replace hy := hy.2
 dsimp only [cu, joinT, ckTys, gts, Prod.eta, List.nil_append] at hy
 obtain ⟨hi, hL⟩ := hy)))
  all_goals (
 with_reducible refine Leaf.mk ?_
 (try dsimp only [cu, joinT, ckTys, gts, Prod.eta, List.nil_append] at *)
 first
 | (done)
 | (rw [unp_p (by omega)])
 | (
  have j3 : k = 3 := by omega
  have e := rst_3 (t := t) (s := s) (n := n) (k := k) j3
  rw [unp_r (by omega), e]
  first
  | (done)
  | (rw [hL, List.take_of_length_le (by omega)]))
 | (
  have j4 : k = 4 := by omega
  have e := rst_4 (t := t) (s := s) (n := n) (k := k) j4
  rw [unp_r (by omega), e]
  first
  | (done)
  | (rw [hL, List.take_of_length_le (by omega)]))
 | (
  have j4 : ¬ k = 4 := by omega
  have j1 : ¬ k = 1 := by omega
  have j3 : ¬ k = 3 := by omega
  have e := rst_2 (t := t) (s := s) (n := n) (k := k) j1 j3 j4
  rw [unp_r (by omega), e]
  first
  | (done)
  | (rw [hL, List.take_of_length_le (by omega)]))
 | (
  have hdl := dict_le (s := s) (n := n) hn.1
  have hrl := runs_le (s := s) (n := n) hn.1
  have hdd := delta_le (s := s) (n := n) hn.1
  first
  | (
   have k4 : k = 4 := by omega
   obtain ⟨el, ev⟩ := rst4_all (t := t) (s := s) (n := n) (k := k) k4
   have j4 : k = 4 := by omega
   have e := rst_4 (t := t) (s := s) (n := n) (k := k) j4
   rw [unp_r (by omega), hL, List.take_of_length_le (by omega)])
  | (
   have k4 : ¬ k = 4 := by omega
   have k1 : ¬ k = 1 := by omega
   have k3 : ¬ k = 3 := by omega
   obtain ⟨el, ev⟩ := rst2_all (t := t) (s := s) (n := n) (k := k) k1 k3 k4
   have j4 : ¬ k = 4 := by omega
   have j1 : ¬ k = 1 := by omega
   have j3 : ¬ k = 3 := by omega
   have e := rst_2 (t := t) (s := s) (n := n) (k := k) j1 j3 j4
   rw [unp_r (by omega), hL, List.take_of_length_le (by omega)])))
abbrev tb63 : Tbl := (40, c_unpack_ok') :: tb62
theorem tb63_ok : TblOk Tryz.prog tb63 := TblOk.cons unpack_ok' tb62_ok


theorem oo0 (s : ByteArray) : (0 ≤ (getR s 1).1 ∧ (getR s 1).1 < 18446744073709551616) ∧ IntKind.u64.wrap 4096 = 4096 ∧ 0 ≤ byteAt s (0 : Int).toNat ∧ byteAt s (0 : Int).toNat < 256 :=
  ⟨getR_rng s 1, u64_id (n := 4096) (by decide), byteAt_rng s _⟩
theorem oo2 (s : ByteArray) (h : 0 ≤ (getR s 1).1 ∧ (getR s 1).1 ≤ 4096) : (0 ≤ (getR s (getR s 1).2.1).1 ∧ (getR s (getR s 1).2.1).1 < 18446744073709551616) ∧ IntKind.u64.wrap (getR s 1).1 = (getR s 1).1 ∧ ((getR s 1).1 + 7).tdiv 8 = ((getR s 1).1 + 7) / 8 :=
  ⟨getR_rng s _, u64_id (by omega), tdiv8 (by omega)⟩
theorem nz_f {b : Bool} (h : (!b) = true) : b = false := by cases b <;> simp_all
theorem asm_null {c : Col} {N : List Bool} {R M : List Val} {i : Int} (h : 0 ≤ i ∧ i < N.length) (hb : N[i.toNat]! = true) (hv : vCheck c NV = 0) : asm c (N.drop i.toNat) R M = asm c (N.drop (i + 1).toNat) R (M ++ [NV]) := by
  have e1 : pkV true R = NV := rfl
  have e2 : rsV true R = R := rfl
  rw [asm_step h, hb, e1, e2, if_neg (fun q => q hv)]
theorem asm_null0 {c : Col} {N : List Bool} {R M : List Val} {i : Int} (h : 0 ≤ i ∧ i < N.length) (hb : N[i.toNat]! = true) (hv : ¬ vCheck c NV = 0) : asm c (N.drop i.toNat) R M = ([], false) := by
  have e1 : pkV true R = NV := rfl
  rw [asm_step h, hb, e1, if_pos hv]
theorem asm_val {c : Col} {N : List Bool} {R M : List Val} {i : Int} (h : 0 ≤ i ∧ i < N.length) (hb : N[i.toNat]! = false) (hv : vCheck c R[(0 : Int).toNat]! = 0) : asm c (N.drop i.toNat) R M = asm c (N.drop (i + 1).toNat) (R.drop 1) (M ++ [R[(0 : Int).toNat]!]) := by
  have e1 : pkV false R = R[(0 : Int).toNat]! := rfl
  have e2 : rsV false R = R.drop 1 := rfl
  rw [asm_step h, hb, e1, e2, if_neg (fun q => q hv)]
theorem asm_val0 {c : Col} {N : List Bool} {R M : List Val} {i : Int} (h : 0 ≤ i ∧ i < N.length) (hb : N[i.toNat]! = false) (hv : ¬ vCheck c R[(0 : Int).toNat]! = 0) : asm c (N.drop i.toNat) R M = ([], false) := by
  have e1 : pkV false R = R[(0 : Int).toNat]! := rfl
  rw [asm_step h, hb, e1, if_pos hv]
theorem cntF_t {N : List Bool} {i : Int} (h : 0 ≤ i ∧ i < N.length) (hb : N[i.toNat]! = true) : cntF (N.drop i.toNat) = cntF (N.drop (i + 1).toNat) := by rw [cntF_step h, hb]; simp
theorem cntF_f {N : List Bool} {i : Int} (h : 0 ≤ i ∧ i < N.length) (hb : N[i.toNat]! = false) : cntF (N.drop i.toNat) = 1 + cntF (N.drop (i + 1).toNat) := by rw [cntF_step h, hb]; simp
theorem bod_pre {c : Col} {s : ByteArray} (h : usesB c.2.1 (byteAt s (0 : Int).toNat) = true) (h1 : (getR s 1).2.2 = 0) (hn : (getR s 1).1 ≤ 4096) (h2 : (getR s (getR s 1).2.1).2.2 = 0) (hk : (getR s (getR s 1).2.1).1 ≤ (getR s 1).1) :
    bodS c s = bodA c s (getR s 1).1 (getR s (getR s 1).2.1).1 (nulS s (getR s (getR s 1).2.1).2.1 (getR s 1).1 (getR s (getR s 1).2.1).1) :=
  bod_3 (fun q => by rcases q with q | q | q <;> simp_all <;> omega) (fun q => by rcases q with q | q <;> simp_all <;> omega)
theorem bod_go {c : Col} {s : ByteArray} {N : List Bool} {A : Int} (h : usesB c.2.1 (byteAt s (0 : Int).toNat) = true) (h1 : (getR s 1).2.2 = 0) (hn : (getR s 1).1 ≤ 4096) (h2 : (getR s (getR s 1).2.1).2.2 = 0) (hk : (getR s (getR s 1).2.1).1 ≤ (getR s 1).1)
    (eN : nulS s (getR s (getR s 1).2.1).2.1 (getR s 1).1 (getR s (getR s 1).2.1).1 = (N, true, A)) : (N.length : Int) = (getR s 1).1 ∧ 0 ≤ A ∧ A ≤ s.size ∧
    ((rstS c.2.1 (byteAt s (0 : Int).toNat) (s.extract A.toNat s.size) ((getR s 1).1 - (getR s (getR s 1).2.1).1)).2 = true → bodS c s = asm c N (rstS c.2.1 (byteAt s (0 : Int).toNat) (s.extract A.toNat s.size) ((getR s 1).1 - (getR s (getR s 1).2.1).1)).1 [] ∧
      (((rstS c.2.1 (byteAt s (0 : Int).toNat) (s.extract A.toNat s.size) ((getR s 1).1 - (getR s (getR s 1).2.1).1)).1.length : Nat) : Int) = ((cntF N : Nat) : Int)) ∧
    ((rstS c.2.1 (byteAt s (0 : Int).toNat) (s.extract A.toNat s.size) ((getR s 1).1 - (getR s (getR s 1).2.1).1)).2 = false → bodS c s = ([], false)) := by
  have g1 := getR_rng s 1
  have g2 := getR_rng s (getR s 1).2.1
  have o1 := getR_ok h1
  have o2 := getR_ok h2
  have hno := nul_ok (s := s) (a := (getR s (getR s 1).2.1).2.1) (n := (getR s 1).1) (k := (getR s (getR s 1).2.1).1) (by omega) (by omega) (by omega) (by rw [eN])
  rw [eN] at hno
  obtain ⟨m1, m2, m3, m4⟩ := hno
  dsimp only at m1 m2 m3 m4
  have hp := bod_pre h h1 hn h2 hk
  rw [eN] at hp
  have hn0 : 0 ≤ (getR s 1).1 - (getR s (getR s 1).2.1).1 := by omega
  refine ⟨m1, m3, m4, fun hr => ⟨hp.trans (bodA_ok2 hr), ?_⟩, fun hr => hp.trans (bodA_r2 hr)⟩
  rw [rst_len hn0 hr, m2]
theorem bod_bad {c : Col} {s : ByteArray} (h : usesB c.2.1 (byteAt s (0 : Int).toNat) = true) (h1 : (getR s 1).2.2 = 0) (hn : (getR s 1).1 ≤ 4096) (h2 : (getR s (getR s 1).2.1).2.2 = 0) (hk : (getR s (getR s 1).2.1).1 ≤ (getR s 1).1)
    (eN : nulS s (getR s (getR s 1).2.1).2.1 (getR s 1).1 (getR s (getR s 1).2.1).1 = ([], false, 0)) : bodS c s = ([], false) := by
  rw [bod_pre h h1 hn h2 hk, eN, bodA_no rfl]

abbrev c_codecs_ok : Ct := .fn [.int .i64] (none) (fun (t : Int) => .d (.list (.int .i64)) (codL t))
set_option maxRecDepth 100000 in
set_option maxHeartbeats 4000000 in
theorem codecs_ok : CtOk Tryz.prog 16 c_codecs_ok := by
  refine CtOk.fn tb63_ok mixed [] [] rfl rfl ?_
  rintro ⟨(t : Int), _⟩ -
  refine ⟨[], ?_⟩
  repeat' (first
    | (
 with_reducible refine Side.mk ?_
 (try dsimp only [cu, joinT, ckTys, gts, loK, hiK, Prod.eta, List.nil_append])
 first
 | (done)
 | (with_reducible rfl)
 | (omega)
 | (exact Eq.refl _)
 | (simp only [List.length_append, List.length_cons, List.length_nil]; omega)
 | (grind))
    | (conv => whnf
       first
        | done
        | exact trivial
        | with_reducible refine NilBr.mk (fun h => ?_) ?_
        | with_reducible first | refine w_andS ?_ ?_ | refine w_andL ?_ ?_ | refine w_kern (by kernel_rfl) ?_ | refine w_true ?_ | refine w_nd ?_ ?_ | refine w_in ?_ ?_ | refine w_and ?_ ?_
        | ((with_reducible first | refine w_brN (fun h => ?_) (fun h => ?_) | refine w_brD (fun h => ?_) (fun h => ?_) | refine w_br (fun h => ?_) (fun h => ?_)) <;> (try dsimp only [cu, Prod.eta, List.nil_append] at h) <;> (try (exfalso; omega; done)))))
  all_goals (
 with_reducible refine Leaf.mk ?_
 (try dsimp only [cu, joinT, ckTys, gts, Prod.eta, List.nil_append] at *)
 first
 | (done)
 | (
  have ht : t = 3 := by with_reducible assumption
  rw [codL, if_pos ht])
 | (
  have ht : ¬ t = 3 := by with_reducible assumption
  rw [codL, if_neg ht]))
abbrev tb64 : Tbl := (16, c_codecs_ok) :: tb63
theorem tb64_ok : TblOk Tryz.prog tb64 := TblOk.cons codecs_ok tb63_ok

abbrev c_decode_ok' : Ct := .fn [tCol, .str] (some (fun (c : Col) (s : ByteArray) => (s.size ≤ 288230376151711744) ∧ (1 ≤ s.size))) (fun (c : Col) (s : ByteArray) => .tup [.list tVal, .bool] ((bodS c s).1, (bodS c s).2, ()))
set_option maxRecDepth 100000 in
set_option maxHeartbeats 4000000 in
theorem decode_ok' : CtOk Tryz.prog 22 c_decode_ok' := by
  refine CtOk.fn tb64_ok mixed [] [37] rfl rfl ?_
  rintro ⟨(c : Col), (s : ByteArray), _⟩ hpre
  replace hpre := hpre _ rfl
  dsimp only [cu] at hpre
  obtain ⟨hs, h1⟩ := hpre
  refine ⟨[(0, 8, LA.mk [.sl 28 (.int .i64), .sl 7 .bool] (fun y => Tag 53 ∧ cu [.int .i64, .bool] (fun (j : Int) (w : Bool) => (0 ≤ j ∧ j ≤ (codL c.2.1).length) ∧ (w = ((codL c.2.1).take j.toNat).any (fun x => decide (x = byteAt s (0 : Int).toNat)))) y) (cu [.int .i64, .bool] (fun (j : Int) (w : Bool) => (((codL c.2.1).length : Int) - j).toNat)) (cu [.int .i64, .bool] (fun (j : Int) (w : Bool) => ([] : List (Nat × Nat × LA))))), (0, 60, LA.mk [.sl 128 (.int .i64), .ar 3 tVal 36, .sl 17 (.list tVal)] (fun y => Tag 54 ∧ cu [.int .i64, .list tVal, .list tVal] (fun (i : Int) (L : List Val) (R : List Val) => (0 ≤ i ∧ i ≤ (getR s 1).1) ∧ ((L.length : Int) = (getR s 1).1) ∧ (bodS c s = asm c ((nulS s (getR s (getR s 1).2.1).2.1 (getR s 1).1 (getR s (getR s 1).2.1).1).1.drop i.toNat) R (L.take i.toNat)) ∧ (((R.length : Nat) : Int) = ((cntF ((nulS s (getR s (getR s 1).2.1).2.1 (getR s 1).1 (getR s (getR s 1).2.1).1).1.drop i.toNat) : Nat) : Int))) y) (cu [.int .i64, .list tVal, .list tVal] (fun (i : Int) (L : List Val) (R : List Val) => ((getR s 1).1 - i).toNat)) (cu [.int .i64, .list tVal, .list tVal] (fun (i : Int) (L : List Val) (R : List Val) => ([] : List (Nat × Nat × LA)))))], ?_⟩
  repeat' (first
    | (
 with_reducible refine Side.mk ⟨(⟨⟩ : Tag 53), ?_⟩
 dsimp only [cu, joinT, ckTys, gts, Prod.eta, List.nil_append]
 refine ⟨?_, ?_⟩
 · omega
 · first
   | (rfl)
   | (
  rw [anyL_step (by omega), ← hw]
  first | rfl | (simp_all; done)))
    | (
 with_reducible refine Side.mk ⟨(⟨⟩ : Tag 54), ?_⟩
 dsimp only [cu, joinT, ckTys, gts, Prod.eta, List.nil_append]
 refine ⟨?_, ?_, ?_, ?_⟩
 · first
   | (
  have o0 := oo0 s
  have e1 : (getR s 1).2.2 = 0 := by with_reducible assumption
  have o1 := getR_ok e1
  have o2 := oo2 s (by omega)
  have e2 : (getR s (getR s 1).2.1).2.2 = 0 := by with_reducible assumption
  have o3 := getR_ok e2
  first
  | (omega)
  | (
   have hus0 : usesB c.2.1 (byteAt s (0 : Int).toNat) = w := by rw [← codL_uses, hw, List.take_of_length_le (by omega)]
   have hus : usesB c.2.1 (byteAt s (0 : Int).toNat) = true := by rw [hus0]; first | with_reducible assumption | exact nz_t (by with_reducible assumption)
   first
   | (
    have kn : ¬ (getR s (getR s 1).2.1).1 > 0 := by omega
    have eN := nul_0 (s := s) (a := (getR s (getR s 1).2.1).2.1) (n := (getR s 1).1) (k := (getR s (getR s 1).2.1).1) kn
    have j4 : (getR s 1).1 ≤ 4096 := by omega
    have jk : (getR s (getR s 1).2.1).1 ≤ (getR s 1).1 := by omega
    obtain ⟨m1, m3, m4, m5, m6⟩ := bod_go hus e1 j4 e2 jk eN
    omega)
   | (
    have kn : (getR s (getR s 1).2.1).1 > 0 := by omega
    have ke : ¬ ((getR s (getR s 1).2.1).2.1 + ((getR s 1).1 + 7).tdiv 8) > s.size := by omega
    have ku : (unpB (s.extract (getR s (getR s 1).2.1).2.1.toNat ((getR s (getR s 1).2.1).2.1 + ((getR s 1).1 + 7).tdiv 8).toNat) (getR s 1).1).2 = 0 := by with_reducible assumption
    have kc : cntB (s.extract (getR s (getR s 1).2.1).2.1.toNat ((getR s (getR s 1).2.1).2.1 + ((getR s 1).1 + 7).tdiv 8).toNat) = (getR s (getR s 1).2.1).1 := by first | with_reducible assumption | omega
    have eN := nul_2 (s := s) (a := (getR s (getR s 1).2.1).2.1) (n := (getR s 1).1) (k := (getR s (getR s 1).2.1).1) kn ke ku kc
    have j4 : (getR s 1).1 ≤ 4096 := by omega
    have jk : (getR s (getR s 1).2.1).1 ≤ (getR s 1).1 := by omega
    obtain ⟨m1, m3, m4, m5, m6⟩ := bod_go hus e1 j4 e2 jk eN
    omega)))
 · first
   | (
  have o0 := oo0 s
  have e1 : (getR s 1).2.2 = 0 := by with_reducible assumption
  have o1 := getR_ok e1
  have o2 := oo2 s (by omega)
  have e2 : (getR s (getR s 1).2.1).2.2 = 0 := by with_reducible assumption
  have o3 := getR_ok e2
  rw [List.length_replicate]; omega)
   | (rw [List.length_set]; omega)
 · first
   | (
  have o0 := oo0 s
  have e1 : (getR s 1).2.2 = 0 := by with_reducible assumption
  have o1 := getR_ok e1
  have o2 := oo2 s (by omega)
  have e2 : (getR s (getR s 1).2.1).2.2 = 0 := by with_reducible assumption
  have o3 := getR_ok e2
  have hus0 : usesB c.2.1 (byteAt s (0 : Int).toNat) = w := by rw [← codL_uses, hw, List.take_of_length_le (by omega)]
  have hus : usesB c.2.1 (byteAt s (0 : Int).toNat) = true := by rw [hus0]; first | with_reducible assumption | exact nz_t (by with_reducible assumption)
  first
  | (
   have kn : ¬ (getR s (getR s 1).2.1).1 > 0 := by omega
   have eN := nul_0 (s := s) (a := (getR s (getR s 1).2.1).2.1) (n := (getR s 1).1) (k := (getR s (getR s 1).2.1).1) kn
   have j4 : (getR s 1).1 ≤ 4096 := by omega
   have jk : (getR s (getR s 1).2.1).1 ≤ (getR s 1).1 := by omega
   obtain ⟨m1, m3, m4, m5, m6⟩ := bod_go hus e1 j4 e2 jk eN
   have hy : (unpS c.2.1 (byteAt s (0 : Int).toNat) (s.extract (getR s (getR s 1).2.1).2.1.toNat s.size) ((getR s 1).1 - (getR s (getR s 1).2.1).1)).2 = true := by first | with_reducible assumption | exact nz_t (by with_reducible assumption)
   rw [unp_2] at hy
   have y1 := unp_1 (by omega) hy
   obtain ⟨m7, m8⟩ := m5 hy
   rw [m7, y1, eN]
   rfl)
  | (
   have kn : (getR s (getR s 1).2.1).1 > 0 := by omega
   have ke : ¬ ((getR s (getR s 1).2.1).2.1 + ((getR s 1).1 + 7).tdiv 8) > s.size := by omega
   have ku : (unpB (s.extract (getR s (getR s 1).2.1).2.1.toNat ((getR s (getR s 1).2.1).2.1 + ((getR s 1).1 + 7).tdiv 8).toNat) (getR s 1).1).2 = 0 := by with_reducible assumption
   have kc : cntB (s.extract (getR s (getR s 1).2.1).2.1.toNat ((getR s (getR s 1).2.1).2.1 + ((getR s 1).1 + 7).tdiv 8).toNat) = (getR s (getR s 1).2.1).1 := by first | with_reducible assumption | omega
   have eN := nul_2 (s := s) (a := (getR s (getR s 1).2.1).2.1) (n := (getR s 1).1) (k := (getR s (getR s 1).2.1).1) kn ke ku kc
   have j4 : (getR s 1).1 ≤ 4096 := by omega
   have jk : (getR s (getR s 1).2.1).1 ≤ (getR s 1).1 := by omega
   obtain ⟨m1, m3, m4, m5, m6⟩ := bod_go hus e1 j4 e2 jk eN
   have hy : (unpS c.2.1 (byteAt s (0 : Int).toNat) (s.extract ((getR s (getR s 1).2.1).2.1 + ((getR s 1).1 + 7).tdiv 8).toNat s.size) ((getR s 1).1 - (getR s (getR s 1).2.1).1)).2 = true := by first | with_reducible assumption | exact nz_t (by with_reducible assumption)
   rw [unp_2] at hy
   have y1 := unp_1 (by omega) hy
   obtain ⟨m7, m8⟩ := m5 hy
   rw [m7, y1, eN]
   rfl)
  | (
   have kn : ¬ (getR s (getR s 1).2.1).1 > 0 := by omega
   have eN := nul_0 (s := s) (a := (getR s (getR s 1).2.1).2.1) (n := (getR s 1).1) (k := (getR s (getR s 1).2.1).1) kn
   have j4 : (getR s 1).1 ≤ 4096 := by omega
   have jk : (getR s (getR s 1).2.1).1 ≤ (getR s 1).1 := by omega
   obtain ⟨m1, m3, m4, m5, m6⟩ := bod_go hus e1 j4 e2 jk eN
   have hml : ((nulS s (getR s (getR s 1).2.1).2.1 (getR s 1).1 (getR s (getR s 1).2.1).1).1.length : Int) = (getR s 1).1 := by rw [eN]; exact m1
   first
   | (
    have hb : (nulS s (getR s (getR s 1).2.1).2.1 (getR s 1).1 (getR s (getR s 1).2.1).1).1[i.toNat]! = true := by rw [eN]; first | with_reducible assumption | (simp_all; done)
    have hll : i < L.length := by omega
    have hsa := setV_at (L := L) (i := i) (v := NV) (by omega)
    have hv : vCheck c NV = 0 := by rw [← hsa]; with_reducible assumption
    rw [hgo, asm_null (by omega) hb hv, setV_take (by omega)])
   | (
    have hb : (nulS s (getR s (getR s 1).2.1).2.1 (getR s 1).1 (getR s (getR s 1).2.1).1).1[i.toNat]! = false := by rw [eN]; first | with_reducible assumption | (simp_all; done)
    have hll : i < L.length := by omega
    have hsa := setV_at (L := L) (i := i) (v := R[(0 : Int).toNat]!) (by omega)
    have hv : vCheck c R[(0 : Int).toNat]! = 0 := by rw [← hsa]; with_reducible assumption
    rw [hgo, asm_val (by omega) hb hv, setV_take (by omega)]
    rfl))
  | (
   have kn : (getR s (getR s 1).2.1).1 > 0 := by omega
   have ke : ¬ ((getR s (getR s 1).2.1).2.1 + ((getR s 1).1 + 7).tdiv 8) > s.size := by omega
   have ku : (unpB (s.extract (getR s (getR s 1).2.1).2.1.toNat ((getR s (getR s 1).2.1).2.1 + ((getR s 1).1 + 7).tdiv 8).toNat) (getR s 1).1).2 = 0 := by with_reducible assumption
   have kc : cntB (s.extract (getR s (getR s 1).2.1).2.1.toNat ((getR s (getR s 1).2.1).2.1 + ((getR s 1).1 + 7).tdiv 8).toNat) = (getR s (getR s 1).2.1).1 := by first | with_reducible assumption | omega
   have eN := nul_2 (s := s) (a := (getR s (getR s 1).2.1).2.1) (n := (getR s 1).1) (k := (getR s (getR s 1).2.1).1) kn ke ku kc
   have j4 : (getR s 1).1 ≤ 4096 := by omega
   have jk : (getR s (getR s 1).2.1).1 ≤ (getR s 1).1 := by omega
   obtain ⟨m1, m3, m4, m5, m6⟩ := bod_go hus e1 j4 e2 jk eN
   have hml : ((nulS s (getR s (getR s 1).2.1).2.1 (getR s 1).1 (getR s (getR s 1).2.1).1).1.length : Int) = (getR s 1).1 := by rw [eN]; exact m1
   first
   | (
    have hb : (nulS s (getR s (getR s 1).2.1).2.1 (getR s 1).1 (getR s (getR s 1).2.1).1).1[i.toNat]! = true := by rw [eN]; first | with_reducible assumption | (simp_all; done)
    have hll : i < L.length := by omega
    have hsa := setV_at (L := L) (i := i) (v := NV) (by omega)
    have hv : vCheck c NV = 0 := by rw [← hsa]; with_reducible assumption
    rw [hgo, asm_null (by omega) hb hv, setV_take (by omega)])
   | (
    have hb : (nulS s (getR s (getR s 1).2.1).2.1 (getR s 1).1 (getR s (getR s 1).2.1).1).1[i.toNat]! = false := by rw [eN]; first | with_reducible assumption | (simp_all; done)
    have hll : i < L.length := by omega
    have hsa := setV_at (L := L) (i := i) (v := R[(0 : Int).toNat]!) (by omega)
    have hv : vCheck c R[(0 : Int).toNat]! = 0 := by rw [← hsa]; with_reducible assumption
    rw [hgo, asm_val (by omega) hb hv, setV_take (by omega)]
    rfl)))
 · first
   | (
  have o0 := oo0 s
  have e1 : (getR s 1).2.2 = 0 := by with_reducible assumption
  have o1 := getR_ok e1
  have o2 := oo2 s (by omega)
  have e2 : (getR s (getR s 1).2.1).2.2 = 0 := by with_reducible assumption
  have o3 := getR_ok e2
  have hus0 : usesB c.2.1 (byteAt s (0 : Int).toNat) = w := by rw [← codL_uses, hw, List.take_of_length_le (by omega)]
  have hus : usesB c.2.1 (byteAt s (0 : Int).toNat) = true := by rw [hus0]; first | with_reducible assumption | exact nz_t (by with_reducible assumption)
  first
  | (
   have kn : ¬ (getR s (getR s 1).2.1).1 > 0 := by omega
   have eN := nul_0 (s := s) (a := (getR s (getR s 1).2.1).2.1) (n := (getR s 1).1) (k := (getR s (getR s 1).2.1).1) kn
   have j4 : (getR s 1).1 ≤ 4096 := by omega
   have jk : (getR s (getR s 1).2.1).1 ≤ (getR s 1).1 := by omega
   obtain ⟨m1, m3, m4, m5, m6⟩ := bod_go hus e1 j4 e2 jk eN
   have hy : (unpS c.2.1 (byteAt s (0 : Int).toNat) (s.extract (getR s (getR s 1).2.1).2.1.toNat s.size) ((getR s 1).1 - (getR s (getR s 1).2.1).1)).2 = true := by first | with_reducible assumption | exact nz_t (by with_reducible assumption)
   rw [unp_2] at hy
   have y1 := unp_1 (by omega) hy
   obtain ⟨m7, m8⟩ := m5 hy
   rw [y1, eN]
   exact m8)
  | (
   have kn : (getR s (getR s 1).2.1).1 > 0 := by omega
   have ke : ¬ ((getR s (getR s 1).2.1).2.1 + ((getR s 1).1 + 7).tdiv 8) > s.size := by omega
   have ku : (unpB (s.extract (getR s (getR s 1).2.1).2.1.toNat ((getR s (getR s 1).2.1).2.1 + ((getR s 1).1 + 7).tdiv 8).toNat) (getR s 1).1).2 = 0 := by with_reducible assumption
   have kc : cntB (s.extract (getR s (getR s 1).2.1).2.1.toNat ((getR s (getR s 1).2.1).2.1 + ((getR s 1).1 + 7).tdiv 8).toNat) = (getR s (getR s 1).2.1).1 := by first | with_reducible assumption | omega
   have eN := nul_2 (s := s) (a := (getR s (getR s 1).2.1).2.1) (n := (getR s 1).1) (k := (getR s (getR s 1).2.1).1) kn ke ku kc
   have j4 : (getR s 1).1 ≤ 4096 := by omega
   have jk : (getR s (getR s 1).2.1).1 ≤ (getR s 1).1 := by omega
   obtain ⟨m1, m3, m4, m5, m6⟩ := bod_go hus e1 j4 e2 jk eN
   have hy : (unpS c.2.1 (byteAt s (0 : Int).toNat) (s.extract ((getR s (getR s 1).2.1).2.1 + ((getR s 1).1 + 7).tdiv 8).toNat s.size) ((getR s 1).1 - (getR s (getR s 1).2.1).1)).2 = true := by first | with_reducible assumption | exact nz_t (by with_reducible assumption)
   rw [unp_2] at hy
   have y1 := unp_1 (by omega) hy
   obtain ⟨m7, m8⟩ := m5 hy
   rw [y1, eN]
   exact m8)
  | (
   have kn : ¬ (getR s (getR s 1).2.1).1 > 0 := by omega
   have eN := nul_0 (s := s) (a := (getR s (getR s 1).2.1).2.1) (n := (getR s 1).1) (k := (getR s (getR s 1).2.1).1) kn
   have j4 : (getR s 1).1 ≤ 4096 := by omega
   have jk : (getR s (getR s 1).2.1).1 ≤ (getR s 1).1 := by omega
   obtain ⟨m1, m3, m4, m5, m6⟩ := bod_go hus e1 j4 e2 jk eN
   have hml : ((nulS s (getR s (getR s 1).2.1).2.1 (getR s 1).1 (getR s (getR s 1).2.1).1).1.length : Int) = (getR s 1).1 := by rw [eN]; exact m1
   first
   | (
    have hb : (nulS s (getR s (getR s 1).2.1).2.1 (getR s 1).1 (getR s (getR s 1).2.1).1).1[i.toNat]! = true := by rw [eN]; first | with_reducible assumption | (simp_all; done)
    rw [hR, cntF_t (by omega) hb])
   | (
    have hb : (nulS s (getR s (getR s 1).2.1).2.1 (getR s 1).1 (getR s (getR s 1).2.1).1).1[i.toNat]! = false := by rw [eN]; first | with_reducible assumption | (simp_all; done)
    have hcf := cntF_f (by omega) hb
    show (((R.drop 1).length : Nat) : Int) = _
    rw [List.length_drop]
    omega))
  | (
   have kn : (getR s (getR s 1).2.1).1 > 0 := by omega
   have ke : ¬ ((getR s (getR s 1).2.1).2.1 + ((getR s 1).1 + 7).tdiv 8) > s.size := by omega
   have ku : (unpB (s.extract (getR s (getR s 1).2.1).2.1.toNat ((getR s (getR s 1).2.1).2.1 + ((getR s 1).1 + 7).tdiv 8).toNat) (getR s 1).1).2 = 0 := by with_reducible assumption
   have kc : cntB (s.extract (getR s (getR s 1).2.1).2.1.toNat ((getR s (getR s 1).2.1).2.1 + ((getR s 1).1 + 7).tdiv 8).toNat) = (getR s (getR s 1).2.1).1 := by first | with_reducible assumption | omega
   have eN := nul_2 (s := s) (a := (getR s (getR s 1).2.1).2.1) (n := (getR s 1).1) (k := (getR s (getR s 1).2.1).1) kn ke ku kc
   have j4 : (getR s 1).1 ≤ 4096 := by omega
   have jk : (getR s (getR s 1).2.1).1 ≤ (getR s 1).1 := by omega
   obtain ⟨m1, m3, m4, m5, m6⟩ := bod_go hus e1 j4 e2 jk eN
   have hml : ((nulS s (getR s (getR s 1).2.1).2.1 (getR s 1).1 (getR s (getR s 1).2.1).1).1.length : Int) = (getR s 1).1 := by rw [eN]; exact m1
   first
   | (
    have hb : (nulS s (getR s (getR s 1).2.1).2.1 (getR s 1).1 (getR s (getR s 1).2.1).1).1[i.toNat]! = true := by rw [eN]; first | with_reducible assumption | (simp_all; done)
    rw [hR, cntF_t (by omega) hb])
   | (
    have hb : (nulS s (getR s (getR s 1).2.1).2.1 (getR s 1).1 (getR s (getR s 1).2.1).1).1[i.toNat]! = false := by rw [eN]; first | with_reducible assumption | (simp_all; done)
    have hcf := cntF_f (by omega) hb
    show (((R.drop 1).length : Nat) : Int) = _
    rw [List.length_drop]
    omega))))
    | (
 with_reducible refine Side.mk ?_
 (try dsimp only [cu, joinT, ckTys, gts, loK, hiK, Prod.eta, List.nil_append])
 first
 | (done)
 | (with_reducible rfl)
 | (omega)
 | (exact Eq.refl _)
 | (simp only [List.length_append, List.length_cons, List.length_nil]; omega)
 | (
  have o0 := oo0 s
  omega)
 | (rw [List.length_set]; omega)
 | (
  have o0 := oo0 s
  first
  | (
   have hcl := codL_len c.2.1
   omega)
  | (
   have e1 : (getR s 1).2.2 = 0 := by with_reducible assumption
   have o1 := getR_ok e1
   first
   | (omega)
   | (
    have o2 := oo2 s (by omega)
    first
    | (omega)
    | (
     have e2 : (getR s (getR s 1).2.1).2.2 = 0 := by with_reducible assumption
     have o3 := getR_ok e2
     first
     | (omega)
     | (rw [List.length_replicate]; omega)))))
 | (exact getR_rng _ _)
 | (
  have o0 := oo0 s
  have e1 : (getR s 1).2.2 = 0 := by with_reducible assumption
  have o1 := getR_ok e1
  have o2 := oo2 s (by omega)
  have e2 : (getR s (getR s 1).2.1).2.2 = 0 := by with_reducible assumption
  have o3 := getR_ok e2
  first
  | (
   simp only [ByteArray.size_extract]
   omega)
  | (
   have hus0 : usesB c.2.1 (byteAt s (0 : Int).toNat) = w := by rw [← codL_uses, hw, List.take_of_length_le (by omega)]
   have hus : usesB c.2.1 (byteAt s (0 : Int).toNat) = true := by rw [hus0]; first | with_reducible assumption | exact nz_t (by with_reducible assumption)
   first
   | (
    have kn : ¬ (getR s (getR s 1).2.1).1 > 0 := by omega
    have eN := nul_0 (s := s) (a := (getR s (getR s 1).2.1).2.1) (n := (getR s 1).1) (k := (getR s (getR s 1).2.1).1) kn
    have j4 : (getR s 1).1 ≤ 4096 := by omega
    have jk : (getR s (getR s 1).2.1).1 ≤ (getR s 1).1 := by omega
    obtain ⟨m1, m3, m4, m5, m6⟩ := bod_go hus e1 j4 e2 jk eN
    first
    | (omega)
    | (rw [List.length_set]; omega))
   | (
    have kn : (getR s (getR s 1).2.1).1 > 0 := by omega
    have ke : ¬ ((getR s (getR s 1).2.1).2.1 + ((getR s 1).1 + 7).tdiv 8) > s.size := by omega
    have ku : (unpB (s.extract (getR s (getR s 1).2.1).2.1.toNat ((getR s (getR s 1).2.1).2.1 + ((getR s 1).1 + 7).tdiv 8).toNat) (getR s 1).1).2 = 0 := by with_reducible assumption
    have kc : cntB (s.extract (getR s (getR s 1).2.1).2.1.toNat ((getR s (getR s 1).2.1).2.1 + ((getR s 1).1 + 7).tdiv 8).toNat) = (getR s (getR s 1).2.1).1 := by first | with_reducible assumption | omega
    have eN := nul_2 (s := s) (a := (getR s (getR s 1).2.1).2.1) (n := (getR s 1).1) (k := (getR s (getR s 1).2.1).1) kn ke ku kc
    have j4 : (getR s 1).1 ≤ 4096 := by omega
    have jk : (getR s (getR s 1).2.1).1 ≤ (getR s 1).1 := by omega
    obtain ⟨m1, m3, m4, m5, m6⟩ := bod_go hus e1 j4 e2 jk eN
    first
    | (omega)
    | (rw [List.length_set]; omega))
   | (
    have kn : ¬ (getR s (getR s 1).2.1).1 > 0 := by omega
    have eN := nul_0 (s := s) (a := (getR s (getR s 1).2.1).2.1) (n := (getR s 1).1) (k := (getR s (getR s 1).2.1).1) kn
    have j4 : (getR s 1).1 ≤ 4096 := by omega
    have jk : (getR s (getR s 1).2.1).1 ≤ (getR s 1).1 := by omega
    obtain ⟨m1, m3, m4, m5, m6⟩ := bod_go hus e1 j4 e2 jk eN
    have hml : ((nulS s (getR s (getR s 1).2.1).2.1 (getR s 1).1 (getR s (getR s 1).2.1).1).1.length : Int) = (getR s 1).1 := by rw [eN]; exact m1
    have hb : (nulS s (getR s (getR s 1).2.1).2.1 (getR s 1).1 (getR s (getR s 1).2.1).1).1[i.toNat]! = false := by rw [eN]; first | with_reducible assumption | (simp_all; done)
    have hcf := cntF_f (by omega) hb
    omega)
   | (
    have kn : (getR s (getR s 1).2.1).1 > 0 := by omega
    have ke : ¬ ((getR s (getR s 1).2.1).2.1 + ((getR s 1).1 + 7).tdiv 8) > s.size := by omega
    have ku : (unpB (s.extract (getR s (getR s 1).2.1).2.1.toNat ((getR s (getR s 1).2.1).2.1 + ((getR s 1).1 + 7).tdiv 8).toNat) (getR s 1).1).2 = 0 := by with_reducible assumption
    have kc : cntB (s.extract (getR s (getR s 1).2.1).2.1.toNat ((getR s (getR s 1).2.1).2.1 + ((getR s 1).1 + 7).tdiv 8).toNat) = (getR s (getR s 1).2.1).1 := by first | with_reducible assumption | omega
    have eN := nul_2 (s := s) (a := (getR s (getR s 1).2.1).2.1) (n := (getR s 1).1) (k := (getR s (getR s 1).2.1).1) kn ke ku kc
    have j4 : (getR s 1).1 ≤ 4096 := by omega
    have jk : (getR s (getR s 1).2.1).1 ≤ (getR s 1).1 := by omega
    obtain ⟨m1, m3, m4, m5, m6⟩ := bod_go hus e1 j4 e2 jk eN
    have hml : ((nulS s (getR s (getR s 1).2.1).2.1 (getR s 1).1 (getR s (getR s 1).2.1).1).1.length : Int) = (getR s 1).1 := by rw [eN]; exact m1
    have hb : (nulS s (getR s (getR s 1).2.1).2.1 (getR s 1).1 (getR s (getR s 1).2.1).1).1[i.toNat]! = false := by rw [eN]; first | with_reducible assumption | (simp_all; done)
    have hcf := cntF_f (by omega) hb
    omega))
  | (rw [List.length_set]; omega)
  | (
   have hus0 : usesB c.2.1 (byteAt s (0 : Int).toNat) = w := by rw [← codL_uses, hw, List.take_of_length_le (by omega)]
   have hus : usesB c.2.1 (byteAt s (0 : Int).toNat) = true := by rw [hus0]; first | with_reducible assumption | exact nz_t (by with_reducible assumption)
   first
   | (
    have kn : ¬ (getR s (getR s 1).2.1).1 > 0 := by omega
    have eN := nul_0 (s := s) (a := (getR s (getR s 1).2.1).2.1) (n := (getR s 1).1) (k := (getR s (getR s 1).2.1).1) kn
    have j4 : (getR s 1).1 ≤ 4096 := by omega
    have jk : (getR s (getR s 1).2.1).1 ≤ (getR s 1).1 := by omega
    obtain ⟨m1, m3, m4, m5, m6⟩ := bod_go hus e1 j4 e2 jk eN
    have huc := uses_cod hus
    refine ⟨?_, ⟨by omega, by omega⟩, huc⟩
    have := ext_le s (getR s (getR s 1).2.1).2.1.toNat s.size
    omega)
   | (
    have kn : (getR s (getR s 1).2.1).1 > 0 := by omega
    have ke : ¬ ((getR s (getR s 1).2.1).2.1 + ((getR s 1).1 + 7).tdiv 8) > s.size := by omega
    have ku : (unpB (s.extract (getR s (getR s 1).2.1).2.1.toNat ((getR s (getR s 1).2.1).2.1 + ((getR s 1).1 + 7).tdiv 8).toNat) (getR s 1).1).2 = 0 := by with_reducible assumption
    have kc : cntB (s.extract (getR s (getR s 1).2.1).2.1.toNat ((getR s (getR s 1).2.1).2.1 + ((getR s 1).1 + 7).tdiv 8).toNat) = (getR s (getR s 1).2.1).1 := by first | with_reducible assumption | omega
    have eN := nul_2 (s := s) (a := (getR s (getR s 1).2.1).2.1) (n := (getR s 1).1) (k := (getR s (getR s 1).2.1).1) kn ke ku kc
    have j4 : (getR s 1).1 ≤ 4096 := by omega
    have jk : (getR s (getR s 1).2.1).1 ≤ (getR s 1).1 := by omega
    obtain ⟨m1, m3, m4, m5, m6⟩ := bod_go hus e1 j4 e2 jk eN
    have huc := uses_cod hus
    refine ⟨?_, ⟨by omega, by omega⟩, huc⟩
    have := ext_le s ((getR s (getR s 1).2.1).2.1 + ((getR s 1).1 + 7).tdiv 8).toNat s.size
    omega))))
    | (conv => whnf
       first
        | done
        | exact trivial
        | with_reducible refine NilBr.mk (fun h => ?_) ?_
        | with_reducible first | refine w_andS ?_ ?_ | refine w_andL ?_ ?_ | refine w_kern (by kernel_rfl) ?_ | refine w_true ?_ | refine w_nd ?_ ?_ | refine w_in ?_ ?_ | refine w_and ?_ ?_
        | ((with_reducible first | refine w_brN (fun h => ?_) (fun h => ?_) | refine w_brD (fun h => ?_) (fun h => ?_) | refine w_br (fun h => ?_) (fun h => ?_)) <;> (try dsimp only [cu, Prod.eta, List.nil_append] at h) <;> (try (exfalso; omega; done)))
        | (
 intro yy (hy : Tag 53 ∧ _)
 obtain ⟨(j : Int), (w : Bool), _⟩ := yy
 replace hy := hy.2
 dsimp only [cu, joinT, ckTys, gts, Prod.eta, List.nil_append] at hy
 obtain ⟨hj, hw⟩ := hy)
        | (
 intro yy (hy : Tag 54 ∧ _)
 obtain ⟨(i : Int), (L : List Val), (R : List Val), _⟩ := yy
 replace hy := hy.2
 dsimp only [cu, joinT, ckTys, gts, Prod.eta, List.nil_append] at hy
 obtain ⟨hi, hL, hgo, hR⟩ := hy)))
  all_goals (
 with_reducible refine Leaf.mk ?_
 (try dsimp only [cu, joinT, ckTys, gts, Prod.eta, List.nil_append] at *)
 first
 | (done)
 | (
  have o0 := oo0 s
  have hus0 : usesB c.2.1 (byteAt s (0 : Int).toNat) = w := by rw [← codL_uses, hw, List.take_of_length_le (by omega)]
  have hus : usesB c.2.1 (byteAt s (0 : Int).toNat) = false := by rw [hus0]; first | with_reducible assumption | (simp_all; done)
  rw [bod_1 (.inl hus)])
 | (
  have e1 : ¬ (getR s 1).2.2 = 0 := by with_reducible assumption
  rw [bod_1 (.inr (.inl e1))])
 | (
  have o0 := oo0 s
  have e1 : (getR s 1).2.2 = 0 := by with_reducible assumption
  have o1 := getR_ok e1
  first
  | (
   have h4 : (getR s 1).1 > 4096 := by omega
   rw [bod_1 (.inr (.inr h4))])
  | (
   have hus0 : usesB c.2.1 (byteAt s (0 : Int).toNat) = w := by rw [← codL_uses, hw, List.take_of_length_le (by omega)]
   have hus : usesB c.2.1 (byteAt s (0 : Int).toNat) = true := by rw [hus0]; first | with_reducible assumption | exact nz_t (by with_reducible assumption)
   have c1 : ¬ (usesB c.2.1 (byteAt s (0 : Int).toNat) = false ∨ (getR s 1).2.2 ≠ 0 ∨ (getR s 1).1 > 4096) := fun q => by
     rcases q with q | q | q
     · rw [hus] at q; cases q
     · exact q e1
     · omega
   have e2 : ¬ (getR s (getR s 1).2.1).2.2 = 0 := by with_reducible assumption
   rw [bod_2 c1 (.inl e2)])
  | (
   have o2 := oo2 s (by omega)
   first
   | (
    have hus0 : usesB c.2.1 (byteAt s (0 : Int).toNat) = w := by rw [← codL_uses, hw, List.take_of_length_le (by omega)]
    have hus : usesB c.2.1 (byteAt s (0 : Int).toNat) = true := by rw [hus0]; first | with_reducible assumption | exact nz_t (by with_reducible assumption)
    have c1 : ¬ (usesB c.2.1 (byteAt s (0 : Int).toNat) = false ∨ (getR s 1).2.2 ≠ 0 ∨ (getR s 1).1 > 4096) := fun q => by
      rcases q with q | q | q
      · rw [hus] at q; cases q
      · exact q e1
      · omega
    have h5 : (getR s (getR s 1).2.1).1 > (getR s 1).1 := by omega
    rw [bod_2 c1 (.inr h5)])
   | (
    have e2 : (getR s (getR s 1).2.1).2.2 = 0 := by with_reducible assumption
    have o3 := getR_ok e2
    have hus0 : usesB c.2.1 (byteAt s (0 : Int).toNat) = w := by rw [← codL_uses, hw, List.take_of_length_le (by omega)]
    have hus : usesB c.2.1 (byteAt s (0 : Int).toNat) = true := by rw [hus0]; first | with_reducible assumption | exact nz_t (by with_reducible assumption)
    first
    | (
     have eN := nul_1 (s := s) (a := (getR s (getR s 1).2.1).2.1) (n := (getR s 1).1) (k := (getR s (getR s 1).2.1).1) (by omega) (.inl (by omega))
     rw [bod_bad hus e1 (by omega) e2 (by omega) eN])
    | (
     have eN := nul_1 (s := s) (a := (getR s (getR s 1).2.1).2.1) (n := (getR s 1).1) (k := (getR s (getR s 1).2.1).1) (by omega) (.inr (.inr (by with_reducible assumption)))
     rw [bod_bad hus e1 (by omega) e2 (by omega) eN])
    | (
     have eN := nul_1 (s := s) (a := (getR s (getR s 1).2.1).2.1) (n := (getR s 1).1) (k := (getR s (getR s 1).2.1).1) (by omega) (.inr (.inl (by with_reducible assumption)))
     rw [bod_bad hus e1 (by omega) e2 (by omega) eN])
    | (
     have kn : ¬ (getR s (getR s 1).2.1).1 > 0 := by omega
     have eN := nul_0 (s := s) (a := (getR s (getR s 1).2.1).2.1) (n := (getR s 1).1) (k := (getR s (getR s 1).2.1).1) kn
     have j4 : (getR s 1).1 ≤ 4096 := by omega
     have jk : (getR s (getR s 1).2.1).1 ≤ (getR s 1).1 := by omega
     obtain ⟨m1, m3, m4, m5, m6⟩ := bod_go hus e1 j4 e2 jk eN
     have hy : (unpS c.2.1 (byteAt s (0 : Int).toNat) (s.extract (getR s (getR s 1).2.1).2.1.toNat s.size) ((getR s 1).1 - (getR s (getR s 1).2.1).1)).2 = false := by first | with_reducible assumption | exact nz_f (by with_reducible assumption)
     rw [unp_2] at hy
     rw [m6 hy])
    | (
     have kn : (getR s (getR s 1).2.1).1 > 0 := by omega
     have ke : ¬ ((getR s (getR s 1).2.1).2.1 + ((getR s 1).1 + 7).tdiv 8) > s.size := by omega
     have ku : (unpB (s.extract (getR s (getR s 1).2.1).2.1.toNat ((getR s (getR s 1).2.1).2.1 + ((getR s 1).1 + 7).tdiv 8).toNat) (getR s 1).1).2 = 0 := by with_reducible assumption
     have kc : cntB (s.extract (getR s (getR s 1).2.1).2.1.toNat ((getR s (getR s 1).2.1).2.1 + ((getR s 1).1 + 7).tdiv 8).toNat) = (getR s (getR s 1).2.1).1 := by first | with_reducible assumption | omega
     have eN := nul_2 (s := s) (a := (getR s (getR s 1).2.1).2.1) (n := (getR s 1).1) (k := (getR s (getR s 1).2.1).1) kn ke ku kc
     have j4 : (getR s 1).1 ≤ 4096 := by omega
     have jk : (getR s (getR s 1).2.1).1 ≤ (getR s 1).1 := by omega
     obtain ⟨m1, m3, m4, m5, m6⟩ := bod_go hus e1 j4 e2 jk eN
     have hy : (unpS c.2.1 (byteAt s (0 : Int).toNat) (s.extract ((getR s (getR s 1).2.1).2.1 + ((getR s 1).1 + 7).tdiv 8).toNat s.size) ((getR s 1).1 - (getR s (getR s 1).2.1).1)).2 = false := by first | with_reducible assumption | exact nz_f (by with_reducible assumption)
     rw [unp_2] at hy
     rw [m6 hy])
    | (
     have kn : ¬ (getR s (getR s 1).2.1).1 > 0 := by omega
     have eN := nul_0 (s := s) (a := (getR s (getR s 1).2.1).2.1) (n := (getR s 1).1) (k := (getR s (getR s 1).2.1).1) kn
     have j4 : (getR s 1).1 ≤ 4096 := by omega
     have jk : (getR s (getR s 1).2.1).1 ≤ (getR s 1).1 := by omega
     obtain ⟨m1, m3, m4, m5, m6⟩ := bod_go hus e1 j4 e2 jk eN
     have hml : ((nulS s (getR s (getR s 1).2.1).2.1 (getR s 1).1 (getR s (getR s 1).2.1).1).1.length : Int) = (getR s 1).1 := by rw [eN]; exact m1
     first
     | (
      have hb : (nulS s (getR s (getR s 1).2.1).2.1 (getR s 1).1 (getR s (getR s 1).2.1).1).1[i.toNat]! = true := by rw [eN]; first | with_reducible assumption | (simp_all; done)
      have hll : i < L.length := by omega
      have hsa := setV_at (L := L) (i := i) (v := NV) (by omega)
      have hv : ¬ vCheck c NV = 0 := by rw [← hsa]; with_reducible assumption
      rw [hgo, asm_null0 (by omega) hb hv])
     | (
      have hb : (nulS s (getR s (getR s 1).2.1).2.1 (getR s 1).1 (getR s (getR s 1).2.1).1).1[i.toNat]! = false := by rw [eN]; first | with_reducible assumption | (simp_all; done)
      have hll : i < L.length := by omega
      have hsa := setV_at (L := L) (i := i) (v := R[(0 : Int).toNat]!) (by omega)
      have hv : ¬ vCheck c R[(0 : Int).toNat]! = 0 := by rw [← hsa]; with_reducible assumption
      rw [hgo, asm_val0 (by omega) hb hv])
     | (rw [hgo, asm_end (by omega) (by omega), List.take_of_length_le (by omega)]))
    | (
     have kn : (getR s (getR s 1).2.1).1 > 0 := by omega
     have ke : ¬ ((getR s (getR s 1).2.1).2.1 + ((getR s 1).1 + 7).tdiv 8) > s.size := by omega
     have ku : (unpB (s.extract (getR s (getR s 1).2.1).2.1.toNat ((getR s (getR s 1).2.1).2.1 + ((getR s 1).1 + 7).tdiv 8).toNat) (getR s 1).1).2 = 0 := by with_reducible assumption
     have kc : cntB (s.extract (getR s (getR s 1).2.1).2.1.toNat ((getR s (getR s 1).2.1).2.1 + ((getR s 1).1 + 7).tdiv 8).toNat) = (getR s (getR s 1).2.1).1 := by first | with_reducible assumption | omega
     have eN := nul_2 (s := s) (a := (getR s (getR s 1).2.1).2.1) (n := (getR s 1).1) (k := (getR s (getR s 1).2.1).1) kn ke ku kc
     have j4 : (getR s 1).1 ≤ 4096 := by omega
     have jk : (getR s (getR s 1).2.1).1 ≤ (getR s 1).1 := by omega
     obtain ⟨m1, m3, m4, m5, m6⟩ := bod_go hus e1 j4 e2 jk eN
     have hml : ((nulS s (getR s (getR s 1).2.1).2.1 (getR s 1).1 (getR s (getR s 1).2.1).1).1.length : Int) = (getR s 1).1 := by rw [eN]; exact m1
     first
     | (
      have hb : (nulS s (getR s (getR s 1).2.1).2.1 (getR s 1).1 (getR s (getR s 1).2.1).1).1[i.toNat]! = true := by rw [eN]; first | with_reducible assumption | (simp_all; done)
      have hll : i < L.length := by omega
      have hsa := setV_at (L := L) (i := i) (v := NV) (by omega)
      have hv : ¬ vCheck c NV = 0 := by rw [← hsa]; with_reducible assumption
      rw [hgo, asm_null0 (by omega) hb hv])
     | (
      have hb : (nulS s (getR s (getR s 1).2.1).2.1 (getR s 1).1 (getR s (getR s 1).2.1).1).1[i.toNat]! = false := by rw [eN]; first | with_reducible assumption | (simp_all; done)
      have hll : i < L.length := by omega
      have hsa := setV_at (L := L) (i := i) (v := R[(0 : Int).toNat]!) (by omega)
      have hv : ¬ vCheck c R[(0 : Int).toNat]! = 0 := by rw [← hsa]; with_reducible assumption
      rw [hgo, asm_val0 (by omega) hb hv])
     | (rw [hgo, asm_end (by omega) (by omega), List.take_of_length_le (by omega)]))))))
abbrev tb65 : Tbl := (22, c_decode_ok') :: tb64
theorem tb65_ok : TblOk Tryz.prog tb65 := TblOk.cons decode_ok' tb64_ok

abbrev c_cdec_ok : Ct := .fn [tCol, .str] (some (fun (c : Col) (s : ByteArray) => (s.size ≤ 288230376151711744))) (fun (c : Col) (s : ByteArray) => .tup [.list tVal, .int .i64] ((decV c s).1, (decV c s).2, ()))
set_option maxRecDepth 100000 in
set_option maxHeartbeats 4000000 in
theorem cdec_ok : CtOk Tryz.prog 7 c_cdec_ok := by
  refine CtOk.fn tb65_ok mixed [] [] rfl rfl ?_
  rintro ⟨(c : Col), (s : ByteArray), _⟩ hpre
  replace hpre := hpre _ rfl
  dsimp only [cu] at hpre
  have hs := hpre
  refine ⟨[], ?_⟩
  repeat' (first
    | (
 with_reducible refine Side.mk ?_
 (try dsimp only [cu, joinT, ckTys, gts, loK, hiK, Prod.eta, List.nil_append])
 first
 | (done)
 | (with_reducible rfl)
 | (omega)
 | (exact Eq.refl _)
 | (simp only [List.length_append, List.length_cons, List.length_nil]; omega)
 | (
  have ho : openE s = 0 := by with_reducible assumption
  have hz := open_ok ho
  have hbz := body_size (s := s) (by omega)
  have hbl := body_le s
  have ei : (if openE s = 0 then bodyS s else EMP) = bodyS s := if_pos ho
  first
  | (
   rw [ei]
   exact ⟨by omega, by omega⟩)
  | (exact ⟨by rw [ei]; omega, by rw [ei]; omega⟩)))
    | (conv => whnf
       first
        | done
        | exact trivial
        | with_reducible refine NilBr.mk (fun h => ?_) ?_
        | with_reducible first | refine w_andS ?_ ?_ | refine w_andL ?_ ?_ | refine w_kern (by kernel_rfl) ?_ | refine w_true ?_ | refine w_nd ?_ ?_ | refine w_in ?_ ?_ | refine w_and ?_ ?_
        | ((with_reducible first | refine w_brN (fun h => ?_) (fun h => ?_) | refine w_brD (fun h => ?_) (fun h => ?_) | refine w_br (fun h => ?_) (fun h => ?_)) <;> (try dsimp only [cu, Prod.eta, List.nil_append] at h) <;> (try (exfalso; omega; done)))))
  all_goals (
 with_reducible refine Leaf.mk ?_
 (try dsimp only [cu, joinT, ckTys, gts, Prod.eta, List.nil_append] at *)
 first
 | (done)
 | (
  have hk : vKnown c.2.1 = false := by simp [vKnown]; omega
  rw [decV_0 hk])
 | (
  have hk : vKnown c.2.1 = true := by simp [vKnown]; omega
  have ho : ¬ openE s = 0 := by with_reducible assumption
  rw [decV_1 hk ho])
 | (
  have ho : openE s = 0 := by with_reducible assumption
  have hz := open_ok ho
  have hbz := body_size (s := s) (by omega)
  have hbl := body_le s
  have ei : (if openE s = 0 then bodyS s else EMP) = bodyS s := if_pos ho
  have hk : vKnown c.2.1 = true := by simp [vKnown]; omega
  first
  | (
   have hb : (bodS c (if openE s = 0 then bodyS s else EMP)).2 = false := by first | with_reducible assumption | exact nz_f (by with_reducible assumption)
   rw [ei] at hb
   rw [decV_2 hk ho hb])
  | (
   have hb : (bodS c (if openE s = 0 then bodyS s else EMP)).2 = true := by first | with_reducible assumption | exact nz_t (by with_reducible assumption)
   rw [ei] at hb
   (try rw [ei])
   rw [decV_3 hk ho hb])))
abbrev tb66 : Tbl := (7, c_cdec_ok) :: tb65
theorem tb66_ok : TblOk Tryz.prog tb66 := TblOk.cons cdec_ok tb65_ok

abbrev tSrc : Ty := .pair (.list (.int .i64)) (.int .i64)
abbrev Src : Type := (List Int) × Int
@[reducible] instance : Inhabited Src := instInhabitedDen tSrc


def pick (v n : Int) : Int := IntKind.i64.wrap (Int.tmod (IntKind.u64.wrap v) (IntKind.u64.wrap n))
theorem pick_lt {v n : Int} (h : 0 < n ∧ n ≤ 9223372036854775807) : 0 ≤ pick v n ∧ pick v n < n := by
  have hn : IntKind.u64.wrap n = n := IntWalk.u64_in n (by omega)
  have hv : 0 ≤ IntKind.u64.wrap v := by simp [IntKind.wrap, IntKind.bits, IntKind.signed]; omega
  have h1 := Int.tmod_nonneg (IntKind.u64.wrap n) hv
  have h2 := Int.tmod_lt_of_pos (IntKind.u64.wrap v) (show 0 < IntKind.u64.wrap n by omega)
  rw [hn] at h1 h2
  unfold pick
  rw [hn, wrap64] <;> omega
theorem u64_ne {n : Int} (h : 0 < n ∧ n ≤ 9223372036854775807) : ¬ IntKind.u64.wrap n = 0 := by
  rw [IntWalk.u64_in n (by omega)]; omega
def Src.ok (s : Src) : Prop := (0 : Int) ≤ s.2 ∧ s.1.length ≤ 9223372036854775807
def Src.next (s : Src) : Src := if s.2 ≥ s.1.length then s else ⟨s.1, s.2 + 1⟩
def Src.val (s : Src) : Int := if s.2 ≥ s.1.length then 0 else s.1[s.2.toNat]!
def Src.pick (s : Src) (n : Int) : Int := if s.2 ≥ s.1.length then 0 else Go.Proofs.YtlamfjhhjfgemaaGreat.pick s.1[s.2.toNat]! n
theorem Src.ok_next {s : Src} (h : Src.ok s) : Src.ok (Src.next s) := by
  unfold Src.ok Src.next at *
  split
  · exact h
  · exact ⟨show (0 : Int) ≤ s.2 + 1 by have := h.1; omega, h.2⟩
theorem Src.pick_lt {s : Src} {n : Int} (h : 0 < n ∧ n ≤ 9223372036854775807) : 0 ≤ Src.pick s n ∧ Src.pick s n < n := by
  unfold Src.pick
  split
  · omega
  · exact Go.Proofs.YtlamfjhhjfgemaaGreat.pick_lt h
theorem Src.ok_from {l : List Int} (h : l.length ≤ 9223372036854775807) : Src.ok (l, 0) := ⟨by simp, h⟩

abbrev c_pick_ok : Ct := .fn [.int .i64, .int .i64] (some (fun (v : Int) (n : Int) => (¬ IntKind.u64.wrap n = 0))) (fun (v : Int) (n : Int) => .d (.int .i64) (pick v n))
set_option maxRecDepth 100000 in
set_option maxHeartbeats 4000000 in
theorem pick_ok : CtOk Tryz.prog 10 c_pick_ok := by
  refine CtOk.fn tb66_ok mixed [(0, 1, 5)] [] rfl rfl ?_
  rintro ⟨(v : Int), (n : Int), _⟩ hpre
  replace hpre := hpre _ rfl
  dsimp only [cu] at hpre
  have hn := hpre
  refine ⟨[], ?_⟩
  repeat' (first
    | (
 with_reducible refine Side.mk ?_
 (try dsimp only [cu, joinT, ckTys, gts, loK, hiK, Prod.eta, List.nil_append])
 first
 | (done)
 | (with_reducible rfl)
 | (omega)
 | (exact Eq.refl _)
 | (simp only [List.length_append, List.length_cons, List.length_nil]; omega)
 | (assumption))
    | (conv => whnf
       first
        | done
        | exact trivial
        | with_reducible refine NilBr.mk (fun h => ?_) ?_
        | with_reducible first | refine w_andS ?_ ?_ | refine w_andL ?_ ?_ | refine w_kern (by kernel_rfl) ?_ | refine w_true ?_ | refine w_nd ?_ ?_ | refine w_in ?_ ?_ | refine w_and ?_ ?_
        | ((with_reducible first | refine w_brN (fun h => ?_) (fun h => ?_) | refine w_brD (fun h => ?_) (fun h => ?_) | refine w_br (fun h => ?_) (fun h => ?_)) <;> (try dsimp only [cu, Prod.eta, List.nil_append] at h) <;> (try (exfalso; omega; done)))))
  all_goals (
 with_reducible refine Leaf.mk ?_
 (try dsimp only [cu, joinT, ckTys, gts, Prod.eta, List.nil_append] at *)
 first
 | (done)
 | (rfl))
abbrev tb67 : Tbl := (10, c_pick_ok) :: tb66
theorem tb67_ok : TblOk Tryz.prog tb67 := TblOk.cons pick_ok tb66_ok

abbrev c_next_ok : Ct := .meth tSrc 61 [.int .i64] (some (fun (s : Src) (n : Int) => (Src.ok s) ∧ (¬ IntKind.u64.wrap n = 0))) (fun (s : Src) (n : Int) => .d (.int .i64) (Src.pick s n)) (fun (s : Src) (n : Int) => Src.next s)
set_option maxRecDepth 100000 in
set_option maxHeartbeats 4000000 in
theorem next_ok : CtOk Tryz.prog 12 c_next_ok := by
  refine CtOk.meth tb67_ok mixed [] [] rfl rfl ?_
  rintro (s : Src) ⟨(n : Int), _⟩ hpre
  replace hpre := hpre _ rfl
  dsimp only [cu] at hpre
  obtain ⟨hs, hn⟩ := hpre
  obtain ⟨hs0, hs1⟩ := hs
  refine ⟨[], ?_⟩
  repeat' (first
    | (
 with_reducible refine Side.mk ?_
 (try dsimp only [cu, joinT, ckTys, gts, loK, hiK, Prod.eta, List.nil_append])
 first
 | (done)
 | (with_reducible rfl)
 | (omega)
 | (exact Eq.refl _)
 | (simp only [List.length_append, List.length_cons, List.length_nil]; omega)
 | (assumption))
    | (conv => whnf
       first
        | done
        | exact trivial
        | with_reducible refine NilBr.mk (fun h => ?_) ?_
        | with_reducible first | refine w_andS ?_ ?_ | refine w_andL ?_ ?_ | refine w_kern (by kernel_rfl) ?_ | refine w_true ?_ | refine w_nd ?_ ?_ | refine w_in ?_ ?_ | refine w_and ?_ ?_
        | ((with_reducible first | refine w_brN (fun h => ?_) (fun h => ?_) | refine w_brD (fun h => ?_) (fun h => ?_) | refine w_br (fun h => ?_) (fun h => ?_)) <;> (try dsimp only [cu, Prod.eta, List.nil_append] at h) <;> (try (exfalso; omega; done)))))
  all_goals (
 with_reducible refine Leaf.mk ?_
 (try dsimp only [cu, joinT, ckTys, gts, Prod.eta, List.nil_append] at *)
 first
 | (done)
 | (rw [Src.pick, if_pos (by omega)])
 | (rw [Src.next, if_pos (by omega)])
 | (
  rw [Src.pick, if_neg (by omega)]
  rw [show s.2 + 1 - 1 = s.2 by omega])
 | (rw [Src.next, if_neg (by omega)]))
abbrev tb68 : Tbl := (12, c_next_ok) :: tb67
theorem tb68_ok : TblOk Tryz.prog tb68 := TblOk.cons next_ok tb67_ok

abbrev c_raw_ok : Ct := .meth tSrc 61 [] (some (fun (s : Src) => (Src.ok s))) (fun (s : Src) => .d (.int .i64) (Src.val s)) (fun (s : Src) => Src.next s)
set_option maxRecDepth 100000 in
set_option maxHeartbeats 4000000 in
theorem raw_ok : CtOk Tryz.prog 26 c_raw_ok := by
  refine CtOk.meth tb68_ok mixed [] [] rfl rfl ?_
  rintro (s : Src) ⟨⟩ hpre
  replace hpre := hpre _ rfl
  dsimp only [cu] at hpre
  have hs := hpre
  obtain ⟨hs0, hs1⟩ := hs
  refine ⟨[], ?_⟩
  repeat' (first
    | (
 with_reducible refine Side.mk ?_
 (try dsimp only [cu, joinT, ckTys, gts, loK, hiK, Prod.eta, List.nil_append])
 first
 | (done)
 | (with_reducible rfl)
 | (omega)
 | (exact Eq.refl _)
 | (simp only [List.length_append, List.length_cons, List.length_nil]; omega)
 | (assumption))
    | (conv => whnf
       first
        | done
        | exact trivial
        | with_reducible refine NilBr.mk (fun h => ?_) ?_
        | with_reducible first | refine w_andS ?_ ?_ | refine w_andL ?_ ?_ | refine w_kern (by kernel_rfl) ?_ | refine w_true ?_ | refine w_nd ?_ ?_ | refine w_in ?_ ?_ | refine w_and ?_ ?_
        | ((with_reducible first | refine w_brN (fun h => ?_) (fun h => ?_) | refine w_brD (fun h => ?_) (fun h => ?_) | refine w_br (fun h => ?_) (fun h => ?_)) <;> (try dsimp only [cu, Prod.eta, List.nil_append] at h) <;> (try (exfalso; omega; done)))))
  all_goals (
 with_reducible refine Leaf.mk ?_
 (try dsimp only [cu, joinT, ckTys, gts, Prod.eta, List.nil_append] at *)
 first
 | (done)
 | (rw [Src.val, if_pos (by omega)])
 | (rw [Src.next, if_pos (by omega)])
 | (
  rw [Src.val, if_neg (by omega)]
  rw [show s.2 + 1 - 1 = s.2 by omega])
 | (rw [Src.next, if_neg (by omega)]))
abbrev tb69 : Tbl := (26, c_raw_ok) :: tb68
theorem tb69_ok : TblOk Tryz.prog tb69 := TblOk.cons raw_ok tb68_ok

abbrev c_from_ok : Ct := .new tSrc 61 [.list (.int .i64)] (none) (fun (l : List Int) => ((l, 0) : Src))
set_option maxRecDepth 100000 in
set_option maxHeartbeats 4000000 in
theorem from_ok : CtOk Tryz.prog 11 c_from_ok := by
  refine CtOk.new tb69_ok mixed [] [] rfl rfl ?_
  rintro ⟨(l : List Int), _⟩ -
  refine ⟨[], ?_⟩
  repeat' (first
    | (
 with_reducible refine Side.mk ?_
 (try dsimp only [cu, joinT, ckTys, gts, loK, hiK, Prod.eta, List.nil_append])
 first
 | (done)
 | (with_reducible rfl)
 | (omega)
 | (exact Eq.refl _)
 | (simp only [List.length_append, List.length_cons, List.length_nil]; omega)
 | (grind))
    | (conv => whnf
       first
        | done
        | exact trivial
        | with_reducible refine NilBr.mk (fun h => ?_) ?_
        | with_reducible first | refine w_andS ?_ ?_ | refine w_andL ?_ ?_ | refine w_kern (by kernel_rfl) ?_ | refine w_true ?_ | refine w_nd ?_ ?_ | refine w_in ?_ ?_ | refine w_and ?_ ?_
        | ((with_reducible first | refine w_brN (fun h => ?_) (fun h => ?_) | refine w_brD (fun h => ?_) (fun h => ?_) | refine w_br (fun h => ?_) (fun h => ?_)) <;> (try dsimp only [cu, Prod.eta, List.nil_append] at h) <;> (try (exfalso; omega; done)))))
  all_goals (
 with_reducible refine Leaf.mk ?_
 (try dsimp only [cu, joinT, ckTys, gts, Prod.eta, List.nil_append] at *)
 first
 | (done)
 | (rfl))
abbrev tb70 : Tbl := (11, c_from_ok) :: tb69
theorem tb70_ok : TblOk Tryz.prog tb70 := TblOk.cons from_ok tb69_ok


theorem chr_size (n : Int) : (ofInts [n]).size = 1 := rfl


def lettersGo : Nat → Src → ByteArray → ByteArray × Src
  | 0, s, x => (x, s)
  | n + 1, s, x => lettersGo n (Src.next s) (x ++ ofInts [IntKind.u8.wrap (97 + Src.pick s 3)])
def bitAnd (a b : Int) : Int := IntKind.i64.wrap ((BitVec.ofInt IntKind.i64.bits a &&& BitVec.ofInt IntKind.i64.bits b).toNat : Int)
def kNull (s : Src) (c : Col) : Bool := c.2.2.2 && decide (Src.pick s 4 = 0)
def kSrc1 (s : Src) (c : Col) : Src := if c.2.2.2 = true then Src.next s else s
def kNum (s : Src) : Int × Src := if Src.pick (Src.next s) 8 = 0 then (Src.val (Src.next (Src.next s)), Src.next (Src.next (Src.next s))) else if Src.pick (Src.next s) 8 = 1 then (Int.tmod (Src.val (Src.next (Src.next s))) 1000, Src.next (Src.next (Src.next s)))
  else (IntKind.i64.wrap (Src.pick s 7 - 2), Src.next (Src.next s))
def kFin (c : Col) (n : Int) (s : Src) : Val × Src :=
  if c.2.1 = 2 then (⟨false, bitAnd n 1, EMP⟩, s)
  else if c.2.1 = 3 then (⟨false, 0, (lettersGo (Src.pick s 4).toNat (Src.next s) EMP).1⟩, (lettersGo (Src.pick s 4).toNat (Src.next s) EMP).2)
  else if c.2.1 = 4 then (⟨false, Int.tmod n 700000, EMP⟩, s) else if c.2.1 = 5 then (⟨false, Int.tmod n 1000000000000000000, EMP⟩, s) else (⟨false, n, EMP⟩, s)
def kValue (s : Src) (c : Col) : Val × Src := if kNull s c = true then (⟨true, 0, EMP⟩, Src.next s) else kFin c (kNum (kSrc1 s c)).1 (kNum (kSrc1 s c)).2
theorem lettersGo_step {k : Int} (h : k > 0) (s : Src) (x : ByteArray) : lettersGo k.toNat s x = lettersGo (k - 1).toNat (Src.next s) (x ++ ofInts [IntKind.u8.wrap (97 + Src.pick s 3)]) := by
  rw [show k.toNat = (k - 1).toNat + 1 by omega]; rfl
theorem lettersGo_size : ∀ (n : Nat) (s : Src) (x : ByteArray), (lettersGo n s x).1.size = x.size + n
  | 0, s, x => rfl
  | n + 1, s, x => by
    rw [lettersGo, lettersGo_size n, ByteArray.size_append]
    rw [chr_size]
    omega
theorem lettersGo_ok : ∀ (n : Nat) (s : Src) (x : ByteArray), Src.ok s → Src.ok (lettersGo n s x).2
  | 0, s, x, h => h
  | n + 1, s, x, h => lettersGo_ok n _ _ (Src.ok_next h)
theorem kValue_ok {s : Src} (c : Col) (h : Src.ok s) : Src.ok (kValue s c).2 := by
  have h1 : Src.ok (kSrc1 s c) := by unfold kSrc1; split; exact Src.ok_next h; exact h
  have h2 : Src.ok (kNum (kSrc1 s c)).2 := by
    unfold kNum; split
    · exact Src.ok_next (Src.ok_next (Src.ok_next h1))
    · split
      · exact Src.ok_next (Src.ok_next (Src.ok_next h1))
      · exact Src.ok_next (Src.ok_next h1)
  unfold kValue
  split
  · exact Src.ok_next h
  · unfold kFin
    split; exact h2
    split; exact lettersGo_ok _ _ _ (Src.ok_next h2)
    split; exact h2
    split; exact h2
    exact h2

abbrev c_kvalue_ok : Ct := .meth tSrc 61 [tCol] (some (fun (s : Src) (c : Col) => (Src.ok s))) (fun (s : Src) (c : Col) => .d tVal ((kValue s c).1)) (fun (s : Src) (c : Col) => (kValue s c).2)
set_option maxRecDepth 100000 in
set_option maxHeartbeats 4000000 in
theorem kvalue_ok : CtOk Tryz.prog 13 c_kvalue_ok := by
  refine CtOk.meth tb70_ok mixed [(0, 3, 2)] [] rfl rfl ?_
  rintro (s : Src) ⟨(c : Col), _⟩ hpre
  replace hpre := hpre _ rfl
  dsimp only [cu] at hpre
  have hs := hpre
  refine ⟨[(0, 30, LA.mk [.sl 7 (.int .i64), .sl 6 .str, .ob 0 tSrc 61] (fun y => Tag 55 ∧ cu [.int .i64, .str, tSrc] (fun (k : Int) (x : ByteArray) (q : Src) => (0 ≤ k ∧ k ≤ 3) ∧ (Src.ok q) ∧ ((x.size : Int) ≤ 3 - k) ∧ (kValue s c = (((false, 0, (lettersGo k.toNat q x).1) : Val), (lettersGo k.toNat q x).2))) y) (cu [.int .i64, .str, tSrc] (fun (k : Int) (x : ByteArray) (q : Src) => k.toNat)) (cu [.int .i64, .str, tSrc] (fun (k : Int) (x : ByteArray) (q : Src) => ([] : List (Nat × Nat × LA)))))], ?_⟩
  repeat' (first
    | (
 with_reducible refine Side.mk ⟨(⟨⟩ : Tag 55), ?_⟩
 dsimp only [cu, joinT, ckTys, gts, Prod.eta, List.nil_append]
 refine ⟨?_, ?_, ?_, ?_⟩
 · first
   | (omega)
   | (have := @Src.pick_lt; grind)
 · (repeat (first | assumption | exact Src.ok_from (by assumption) | apply Src.ok_next | apply kValue_ok | apply kNode_ok))
 · first
   | (
  have h0 : (ByteArray.size ⟨#[]⟩) = 0 := rfl
  have := @Src.pick_lt; grind)
   | (
  rw [ByteArray.size_append, chr_size]
  omega)
 · first
   | (simp [kValue, kNull, kSrc1, kNum, kFin, *]; done)
   | (rw [hg, lettersGo_step (by assumption)]))
    | (
 with_reducible refine Side.mk ?_
 (try dsimp only [cu, joinT, ckTys, gts, loK, hiK, Prod.eta, List.nil_append])
 first
 | (done)
 | (with_reducible rfl)
 | (omega)
 | (exact Eq.refl _)
 | (simp only [List.length_append, List.length_cons, List.length_nil]; omega)
 | (
  refine ⟨?_, by decide⟩
  (repeat (first | assumption | exact Src.ok_from (by assumption) | apply Src.ok_next | apply kValue_ok | apply kNode_ok)); done)
 | ((repeat (first | assumption | exact Src.ok_from (by assumption) | apply Src.ok_next | apply kValue_ok | apply kNode_ok)); done)
 | (have := @Src.pick_lt; grind)
 | (
  rw [chr_size]
  omega))
    | (conv => whnf
       first
        | done
        | exact trivial
        | with_reducible refine NilBr.mk (fun h => ?_) ?_
        | with_reducible first | refine w_andS ?_ ?_ | refine w_andL ?_ ?_ | refine w_kern (by kernel_rfl) ?_ | refine w_true ?_ | refine w_nd ?_ ?_ | refine w_in ?_ ?_ | refine w_and ?_ ?_
        | ((with_reducible first | refine w_brN (fun h => ?_) (fun h => ?_) | refine w_brD (fun h => ?_) (fun h => ?_) | refine w_br (fun h => ?_) (fun h => ?_)) <;> (try dsimp only [cu, Prod.eta, List.nil_append] at h) <;> (try (exfalso; omega; done)))
        | (
 intro yy (hy : Tag 55 ∧ _)
 obtain ⟨(k : Int), (x : ByteArray), (q : Src), _⟩ := yy
 replace hy := hy.2
 dsimp only [cu, joinT, ckTys, gts, Prod.eta, List.nil_append] at hy
 obtain ⟨hk, hq, hx, hg⟩ := hy)))
  all_goals (
 with_reducible refine Leaf.mk ?_
 (try dsimp only [cu, joinT, ckTys, gts, Prod.eta, List.nil_append] at *)
 first
 | (done)
 | (simp [kValue, kNull, kSrc1, kNum, kFin, bitAnd, bAnd, *]; done)
 | (
  rw [show k.toNat = 0 by omega, lettersGo] at hg
  simp [hg]; done)
 | (grind [kValue, kNull, kSrc1, kNum, kFin, bitAnd, bAnd]))
abbrev tb71 : Tbl := (13, c_kvalue_ok) :: tb70
theorem tb71_ok : TblOk Tryz.prog tb71 := TblOk.cons kvalue_ok tb70_ok


def kVals : Nat → Src → Col → List Val → List Val × Src
  | 0, s, c, acc => (acc, s)
  | n + 1, s, c, acc => kVals n (kValue s c).2 c (acc ++ [(kValue s c).1])
theorem kVals_step {k : Int} (h : k > 0) (s : Src) (c : Col) (acc : List Val) : kVals k.toNat s c acc = kVals (k - 1).toNat (kValue s c).2 c (acc ++ [(kValue s c).1]) := by
  rw [show k.toNat = (k - 1).toNat + 1 by omega]; rfl
def kValuesS (c : Col) (l : List Int) : List Val := (kVals (Src.pick (l, 0) 40).toNat (Src.next (l, 0)) c []).1
def srcIn (s : Src) : Prop := ∀ x, x ∈ s.1 → inI x
theorem next_1 (s : Src) : (Src.next s).1 = s.1 := by unfold Src.next; split <;> rfl
theorem srcIn_next {s : Src} (h : srcIn s) : srcIn (Src.next s) := by unfold srcIn; rw [next_1]; exact h
theorem val_in {s : Src} (h : srcIn s) : inI (Src.val s) := by
  unfold Src.val
  split
  · unfold inI; exact ⟨by decide, by decide⟩
  · exact inI_at h _
theorem tmod_in {a b : Int} (h : inI a) : inI (Int.tmod a b) := by
  have h1 := Int.natAbs_tmod a b
  have h2 : a.natAbs % b.natAbs ≤ a.natAbs := Nat.mod_le _ _
  unfold inI at h ⊢
  by_cases q : 0 ≤ a
  · have := Int.tmod_nonneg b q; omega
  · have h3 : Int.tmod a b ≤ 0 := by
      have := Int.tmod_nonneg b (show 0 ≤ -a by omega)
      rw [Int.neg_tmod] at this; omega
    omega
theorem letters_1 : ∀ (n : Nat) (s : Src) (x : ByteArray), (lettersGo n s x).2.1 = s.1
  | 0, s, x => rfl
  | n + 1, s, x => by rw [lettersGo, letters_1 n, next_1]
theorem kNum_in {s : Src} (h : srcIn s) : inI (kNum s).1 ∧ srcIn (kNum s).2 := by
  have h1 := srcIn_next h
  have h2 := srcIn_next h1
  have h3 := srcIn_next h2
  unfold kNum
  split
  · exact ⟨val_in h2, h3⟩
  · split
    · exact ⟨tmod_in (val_in h2), h3⟩
    · exact ⟨wrap_in _, h2⟩
theorem zero_in : inI 0 := by unfold inI; exact ⟨by decide, by decide⟩
theorem kFin_ok {c : Col} {n : Int} {s : Src} (hn : inI n) (hs : srcIn s) : okV (kFin c n s).1 ∧ srcIn (kFin c n s).2 := by
  unfold kFin
  split
  · exact ⟨⟨Nat.zero_le _, wrap_in _⟩, hs⟩
  · split
    · refine ⟨⟨?_, zero_in⟩, ?_⟩
      · show (lettersGo (Src.pick s 4).toNat (Src.next s) EMP).1.size ≤ 1048576
        rw [lettersGo_size]
        have := Src.pick_lt (s := s) (n := 4) (by decide)
        have e : EMP.size = 0 := rfl
        omega
      · show srcIn (lettersGo (Src.pick s 4).toNat (Src.next s) EMP).2
        unfold srcIn
        rw [letters_1, next_1]; exact hs
    · split
      · exact ⟨⟨Nat.zero_le _, tmod_in hn⟩, hs⟩
      · split
        · exact ⟨⟨Nat.zero_le _, tmod_in hn⟩, hs⟩
        · exact ⟨⟨Nat.zero_le _, hn⟩, hs⟩
theorem kValue_in {s : Src} (c : Col) (h : srcIn s) : okV (kValue s c).1 ∧ srcIn (kValue s c).2 := by
  have h1 : srcIn (kSrc1 s c) := by unfold kSrc1; split; exact srcIn_next h; exact h
  unfold kValue
  split
  · exact ⟨⟨Nat.zero_le _, zero_in⟩, srcIn_next h⟩
  · exact kFin_ok (kNum_in h1).1 (kNum_in h1).2
theorem kVals_ok (c : Col) : ∀ (n : Nat) (s : Src) (M : List Val), srcIn s → (∀ v, v ∈ M → okV v) → (∀ v, v ∈ (kVals n s c M).1 → okV v) ∧ (kVals n s c M).1.length = M.length + n
  | 0, s, M, _, hM => ⟨hM, rfl⟩
  | n + 1, s, M, hs, hM => by
    have h1 := kValue_in c hs
    have h2 := kVals_ok c n (kValue s c).2 (M ++ [(kValue s c).1]) h1.2 (fun v hv => by
      rcases List.mem_append.1 hv with q | q
      · exact hM v q
      · rw [List.mem_singleton.1 q]; exact h1.1)
    rw [kVals]
    refine ⟨h2.1, ?_⟩
    rw [h2.2]; simp; omega
theorem kValues_ok {l : List Int} (c : Col) (h : ∀ x, x ∈ l → inI x) : (∀ v, v ∈ kValuesS c l → okV v) ∧ (kValuesS c l).length ≤ 39 := by
  have hp := Src.pick_lt (s := (l, 0)) (n := 40) (by decide)
  have h1 := kVals_ok c (Src.pick (l, 0) 40).toNat (Src.next (l, 0)) [] (srcIn_next h) (fun v hv => by cases hv)
  refine ⟨h1.1, ?_⟩
  have := h1.2
  unfold kValuesS
  rw [this]; simp; omega

abbrev c_kvalues_ok : Ct := .fn [tCol, .list (.int .i64)] (some (fun (c : Col) (l : List Int) => (l.length ≤ 9223372036854775807))) (fun (c : Col) (l : List Int) => .d (.list tVal) (kValuesS c l))
set_option maxRecDepth 100000 in
set_option maxHeartbeats 4000000 in
theorem kvalues_ok : CtOk Tryz.prog 5 c_kvalues_ok := by
  refine CtOk.fn tb71_ok mixed [] [] rfl rfl ?_
  rintro ⟨(c : Col), (l : List Int), _⟩ hpre
  replace hpre := hpre _ rfl
  dsimp only [cu] at hpre
  have hl := hpre
  refine ⟨[(0, 8, LA.mk [.sl 7 (.int .i64), .lst 6 tVal 36, .ob 1 tSrc 61] (fun y => Tag 56 ∧ cu [.int .i64, .list tVal, tSrc] (fun (k : Int) (P : List Val) (q : Src) => (0 ≤ k ∧ k ≤ 39) ∧ (Src.ok q) ∧ ((P.length : Int) ≤ 39 - k) ∧ (kValuesS c l = (kVals k.toNat q c P).1)) y) (cu [.int .i64, .list tVal, tSrc] (fun (k : Int) (P : List Val) (q : Src) => k.toNat)) (cu [.int .i64, .list tVal, tSrc] (fun (k : Int) (P : List Val) (q : Src) => ([] : List (Nat × Nat × LA)))))], ?_⟩
  repeat' (first
    | (
 with_reducible refine Side.mk ⟨(⟨⟩ : Tag 56), ?_⟩
 dsimp only [cu, joinT, ckTys, gts, Prod.eta, List.nil_append]
 refine ⟨?_, ?_, ?_, ?_⟩
 · first
   | (omega)
   | (have := @Src.pick_lt; grind)
 · (repeat (first | assumption | exact Src.ok_from (by assumption) | apply Src.ok_next | apply kValue_ok))
 · first
   | (have := @Src.pick_lt; grind)
   | (simp only [List.length_append, List.length_cons, List.length_nil]; omega)
 · first
   | (rfl)
   | (rw [hg, kVals_step (by assumption)]))
    | (
 with_reducible refine Side.mk ?_
 (try dsimp only [cu, joinT, ckTys, gts, loK, hiK, Prod.eta, List.nil_append])
 first
 | (done)
 | (with_reducible rfl)
 | (omega)
 | (exact Eq.refl _)
 | (simp only [List.length_append, List.length_cons, List.length_nil]; omega)
 | (
  refine ⟨?_, by decide⟩
  (repeat (first | assumption | exact Src.ok_from (by assumption) | apply Src.ok_next | apply kValue_ok)); done)
 | ((repeat (first | assumption | exact Src.ok_from (by assumption) | apply Src.ok_next | apply kValue_ok)); done)
 | (have := @Src.pick_lt; grind)
 | (
  (try simp only [List.length_cons, List.length_nil])
  omega))
    | (conv => whnf
       first
        | done
        | exact trivial
        | with_reducible refine NilBr.mk (fun h => ?_) ?_
        | with_reducible first | refine w_andS ?_ ?_ | refine w_andL ?_ ?_ | refine w_kern (by kernel_rfl) ?_ | refine w_true ?_ | refine w_nd ?_ ?_ | refine w_in ?_ ?_ | refine w_and ?_ ?_
        | ((with_reducible first | refine w_brN (fun h => ?_) (fun h => ?_) | refine w_brD (fun h => ?_) (fun h => ?_) | refine w_br (fun h => ?_) (fun h => ?_)) <;> (try dsimp only [cu, Prod.eta, List.nil_append] at h) <;> (try (exfalso; omega; done)))
        | (
 intro yy (hy : Tag 56 ∧ _)
 obtain ⟨(k : Int), (P : List Val), (q : Src), _⟩ := yy
 replace hy := hy.2
 dsimp only [cu, joinT, ckTys, gts, Prod.eta, List.nil_append] at hy
 obtain ⟨hk, hq, hv, hg⟩ := hy)))
  all_goals (
 with_reducible refine Leaf.mk ?_
 (try dsimp only [cu, joinT, ckTys, gts, Prod.eta, List.nil_append] at *)
 first
 | (done)
 | (
  rw [hg, show k.toNat = 0 by omega]
  rfl))
abbrev tb72 : Tbl := (5, c_kvalues_ok) :: tb71
theorem tb72_ok : TblOk Tryz.prog tb72 := TblOk.cons kvalues_ok tb71_ok

abbrev c_sameV_ok : Ct := .fn [.list tVal, .list tVal] (some (fun (a : List Val) (b : List Val) => (a.length ≤ 9223372036854775807))) (fun (a : List Val) (b : List Val) => .d .bool (decide (a = b)))
set_option maxRecDepth 100000 in
set_option maxHeartbeats 4000000 in
theorem sameV_ok : CtOk Tryz.prog 9 c_sameV_ok := by
  refine CtOk.fn tb72_ok mixed [] [] rfl rfl ?_
  rintro ⟨(a : List Val), (b : List Val), _⟩ hpre
  replace hpre := hpre _ rfl
  dsimp only [cu] at hpre
  have ha := hpre
  refine ⟨[(0, 8, LA.mk [.sl 13 (.int .i64)] (fun y => Tag 57 ∧ cu [.int .i64] (fun (k : Int) => (0 ≤ k ∧ k ≤ a.length) ∧ (a.take k.toNat = b.take k.toNat)) y) (cu [.int .i64] (fun (k : Int) => ((a.length : Int) - k).toNat)) (cu [.int .i64] (fun (k : Int) => ([] : List (Nat × Nat × LA)))))], ?_⟩
  repeat' (first
    | (
 with_reducible refine Side.mk ⟨(⟨⟩ : Tag 57), ?_⟩
 dsimp only [cu, joinT, ckTys, gts, Prod.eta, List.nil_append]
 refine ⟨?_, ?_⟩
 · omega
 · first
   | (rfl)
   | (
  have e1 : k.toNat < a.length := by omega
  have e2 : k.toNat < b.length := by omega
  have e3 : a[k.toNat]! = b[k.toNat]! := by simp_all [Prod.ext_iff]
  rw [getElem!_pos a k.toNat e1, getElem!_pos b k.toNat e2] at e3
  rw [show (k + 1).toNat = k.toNat + 1 by omega, List.take_add_one, List.take_add_one, hs, List.getElem?_eq_getElem e1, List.getElem?_eq_getElem e2, e3]))
    | (
 with_reducible refine Side.mk ?_
 (try dsimp only [cu, joinT, ckTys, gts, loK, hiK, Prod.eta, List.nil_append])
 first
 | (done)
 | (with_reducible rfl)
 | (omega)
 | (exact Eq.refl _)
 | (simp only [List.length_append, List.length_cons, List.length_nil]; omega)
 | (with_reducible assumption)
 | (kernel_rfl))
    | (conv => whnf
       first
        | done
        | exact trivial
        | with_reducible refine NilBr.mk (fun h => ?_) ?_
        | with_reducible first | refine w_andS ?_ ?_ | refine w_andL ?_ ?_ | refine w_kern (by kernel_rfl) ?_ | refine w_true ?_ | refine w_nd ?_ ?_ | refine w_in ?_ ?_ | refine w_and ?_ ?_
        | ((with_reducible first | refine w_brN (fun h => ?_) (fun h => ?_) | refine w_brD (fun h => ?_) (fun h => ?_) | refine w_br (fun h => ?_) (fun h => ?_)) <;> (try dsimp only [cu, Prod.eta, List.nil_append] at h) <;> (try (exfalso; omega; done)))
        | (
 intro yy (hy : Tag 57 ∧ _)
 obtain ⟨(k : Int), _⟩ := yy
 replace hy := hy.2
 dsimp only [cu, joinT, ckTys, gts, Prod.eta, List.nil_append] at hy
 obtain ⟨hk, hs⟩ := hy)))
  all_goals (
 with_reducible refine Leaf.mk ?_
 (try dsimp only [cu, joinT, ckTys, gts, Prod.eta, List.nil_append] at *)
 first
 | (done)
 | (
  have hab : a = b := by
    have h2 := hs
    rw [List.take_of_length_le (by omega), List.take_of_length_le (by omega)] at h2
    exact h2
  rw [decide_eq_true hab])
 | (
  have hne : ¬ a = b := fun q => by subst q; omega
  rw [decide_eq_false hne])
 | (
  have hne : ¬ a = b := fun q => by subst q; simp_all
  rw [decide_eq_false hne]))
abbrev tb73 : Tbl := (9, c_sameV_ok) :: tb72
theorem tb73_ok : TblOk Tryz.prog tb73 := TblOk.cons sameV_ok tb72_ok

end Go.Proofs.YtlamfjhhjfgemaaGreat
