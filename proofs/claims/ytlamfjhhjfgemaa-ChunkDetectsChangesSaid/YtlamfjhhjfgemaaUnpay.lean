/- Contracts of payloads. -/
import Derived.Test.YtlamfjhhjfgemaaPlain
namespace Go.Proofs.Ytlamfjhhjfgemaa
open Go.Abs
set_option linter.unusedVariables false
set_option linter.unusedSimpArgs false


theorem take_map_len {α β : Type} {W : List α} {f : α → β} {i : Int} (h : 0 ≤ i ∧ i ≤ W.length) : i = (((W.take i.toNat).map f).length : Int) := by
  rw [List.length_map, List.length_take]; omega
theorem mapN_at {W : List Int} {j : Int} (h : 0 ≤ j) (h1 : j < W.length) : (W.map nV)[j.toNat]! = nV W[j.toNat]! := by
  rw [getElem!_pos _ _ (by rw [List.length_map]; omega), getElem!_pos _ _ (by omega), List.getElem_map]
theorem rst4_all {t k : Int} {s : ByteArray} {n : Int} (h : k = 4) : (rstS t k s n).1.length = (decDelta s n).1.length ∧ ∀ j : Int, 0 ≤ j → j < (decDelta s n).1.length → (rstS t k s n).1[j.toNat]! = nV (decDelta s n).1[j.toNat]! := by
  rw [rst_4 h]
  exact ⟨by simp, fun j h0 h1 => mapN_at h0 h1⟩
theorem rst2_all {t k : Int} {s : ByteArray} {n : Int} (h1 : ¬ k = 1) (h3 : ¬ k = 3) (h4 : ¬ k = 4) : (rstS t k s n).1.length = (decRuns s n).1.length ∧ ∀ j : Int, 0 ≤ j → j < (decRuns s n).1.length → (rstS t k s n).1[j.toNat]! = nV (decRuns s n).1[j.toNat]! := by
  rw [rst_2 h1 h3 h4]
  exact ⟨by simp, fun j h0 h1 => mapN_at h0 h1⟩
theorem pad_at {n i : Int} {R : List Val} (h : 0 ≤ i ∧ i < R.length) (h2 : (R.length : Int) ≤ n) : (padV n (R.take i.toNat))[i.toNat]! = ZV := padV_get (by rw [take_len (by omega)]) (by omega)
theorem pad_next {n i : Int} {R : List Val} (h : 0 ≤ i ∧ i < R.length) (h2 : (R.length : Int) ≤ n) : (padV n (R.take i.toNat)).set i.toNat R[i.toNat]! = padV n (R.take (i + 1).toNat) := by
  rw [takeV_get (by omega), padV_set _ (by rw [take_len (by omega)]) (by omega)]

abbrev c_unpack_ok' : Ct := .fn [tCol, .int .i64, .str, .int .i64] (some (fun (c : Col) (k : Int) (s : ByteArray) (n : Int) => (s.size ≤ 288230376151711744) ∧ (0 ≤ n ∧ n ≤ 4096) ∧ (1 ≤ k ∧ k ≤ 4))) (fun (c : Col) (k : Int) (s : ByteArray) (n : Int) => .tup [.list tVal, .bool] ((unpS c.2.1 k s n).1, (unpS c.2.1 k s n).2, ()))
set_option maxRecDepth 100000 in
set_option maxHeartbeats 4000000 in
theorem unpack_ok' : CtOk Try.prog 59 c_unpack_ok' := by
  refine CtOk.fn tb55_ok mixed [] [] rfl rfl ?_
  rintro ⟨(c : Col), (k : Int), (s : ByteArray), (n : Int), _⟩ hpre
  replace hpre := hpre _ rfl
  dsimp only [cu] at hpre
  obtain ⟨hs, hn, hk⟩ := hpre
  obtain ⟨c0, t, c2, c3⟩ := c
  show _
  refine ⟨[(0, 20, LA.mk [.sl 41 (.int .i64), .ar 1 tVal 41] (fun y => Tag 43 ∧ cu [.int .i64, .list tVal] (fun (i : Int) (L : List Val) => (0 ≤ i ∧ i ≤ (decDict s n).1.length) ∧ (L = padV n (((decDict s n).1.take i.toNat).map sV))) y) (cu [.int .i64, .list tVal] (fun (i : Int) (L : List Val) => (((decDict s n).1.length : Int) - i).toNat)) (cu [.int .i64, .list tVal] (fun (i : Int) (L : List Val) => ([] : List (Nat × Nat × LA))))), (0, 40, LA.mk [.sl 73 (.int .i64), .ar 1 tVal 41] (fun y => Tag 44 ∧ cu [.int .i64, .list tVal] (fun (i : Int) (L : List Val) => (0 ≤ i ∧ i ≤ (rstS t k s n).1.length) ∧ (L = padV n ((rstS t k s n).1.take i.toNat))) y) (cu [.int .i64, .list tVal] (fun (i : Int) (L : List Val) => (((rstS t k s n).1.length : Int) - i).toNat)) (cu [.int .i64, .list tVal] (fun (i : Int) (L : List Val) => ([] : List (Nat × Nat × LA)))))], ?_⟩
  repeat' (first
    | (
 with_reducible refine Side.mk ⟨(⟨⟩ : Tag 43), ?_⟩
 dsimp only [cu, joinT, ckTys, gts, Prod.eta, List.nil_append]
 refine ⟨?_, ?_⟩
 · omega
 · first
   | (exact (padV_nil n).symm)
   | (
  have hdl := dict_le (s := s) (n := n) hn.1
  have hrl := runs_le (s := s) (n := n) hn.1
  have hdd := delta_le (s := s) (n := n) hn.1
  rw [mapS_take (by omega), ← padV_set _ (take_map_len (by omega)) (by omega), ← hL]
  have hz := padV_get (n := n) (l := ((decDict s n).1.take i.toNat).map sV) (i := i) (take_map_len (by omega)) (by omega)
  rw [← hL] at hz
  rw [hz]
  rfl))
    | (
 with_reducible refine Side.mk ⟨(⟨⟩ : Tag 44), ?_⟩
 dsimp only [cu, joinT, ckTys, gts, Prod.eta, List.nil_append]
 refine ⟨?_, ?_⟩
 · first
   | (
  have hdl := dict_le (s := s) (n := n) hn.1
  have hrl := runs_le (s := s) (n := n) hn.1
  have hdd := delta_le (s := s) (n := n) hn.1
  first
  | (
   have k4 : k = 4 := by omega
   obtain ⟨el, ev⟩ := rst4_all (t := t) (s := s) (n := n) (k := k) k4
   omega)
  | (
   have k4 : ¬ k = 4 := by omega
   have k1 : ¬ k = 1 := by omega
   have k3 : ¬ k = 3 := by omega
   obtain ⟨el, ev⟩ := rst2_all (t := t) (s := s) (n := n) (k := k) k1 k3 k4
   omega))
 · first
   | (exact (padV_nil n).symm)
   | (
  have hdl := dict_le (s := s) (n := n) hn.1
  have hrl := runs_le (s := s) (n := n) hn.1
  have hdd := delta_le (s := s) (n := n) hn.1
  first
  | (
   have k4 : k = 4 := by omega
   obtain ⟨el, ev⟩ := rst4_all (t := t) (s := s) (n := n) (k := k) k4
   rw [hL, ← pad_next (by omega) (by omega), pad_at (by omega) (by omega), ev i (by omega) (by omega)]
   rfl)
  | (
   have k4 : ¬ k = 4 := by omega
   have k1 : ¬ k = 1 := by omega
   have k3 : ¬ k = 3 := by omega
   obtain ⟨el, ev⟩ := rst2_all (t := t) (s := s) (n := n) (k := k) k1 k3 k4
   rw [hL, ← pad_next (by omega) (by omega), pad_at (by omega) (by omega), ev i (by omega) (by omega)]
   rfl)))
    | (
 with_reducible refine Side.mk ?_
 (try dsimp only [cu, joinT, ckTys, gts, loK, hiK, Prod.eta, List.nil_append])
 first
 | (done)
 | (with_reducible rfl)
 | (omega)
 | (exact Eq.refl _)
 | (simp only [List.length_append, List.length_cons, List.length_nil]; omega)
 | (exact ⟨hs, hn⟩)
 | (
  have hdl := dict_le (s := s) (n := n) hn.1
  have hrl := runs_le (s := s) (n := n) hn.1
  have hdd := delta_le (s := s) (n := n) hn.1
  first
  | (omega)
  | (
   have hpl := congrArg List.length hL
   have hpv := padV_len (n := n) (l := ((decDict s n).1.take i.toNat).map sV) (by rw [← take_map_len (by omega)]; omega)
   omega)
  | (
   have k4 : k = 4 := by omega
   obtain ⟨el, ev⟩ := rst4_all (t := t) (s := s) (n := n) (k := k) k4
   omega)
  | (
   have k4 : ¬ k = 4 := by omega
   have k1 : ¬ k = 1 := by omega
   have k3 : ¬ k = 3 := by omega
   obtain ⟨el, ev⟩ := rst2_all (t := t) (s := s) (n := n) (k := k) k1 k3 k4
   omega)
  | (
   have k4 : k = 4 := by omega
   obtain ⟨el, ev⟩ := rst4_all (t := t) (s := s) (n := n) (k := k) k4
   have hpl := congrArg List.length hL
   have hpv := padV_len (n := n) (l := (rstS t k s n).1.take i.toNat) (by rw [take_len (by omega)]; omega)
   omega)
  | (
   have k4 : ¬ k = 4 := by omega
   have k1 : ¬ k = 1 := by omega
   have k3 : ¬ k = 3 := by omega
   obtain ⟨el, ev⟩ := rst2_all (t := t) (s := s) (n := n) (k := k) k1 k3 k4
   have hpl := congrArg List.length hL
   have hpv := padV_len (n := n) (l := (rstS t k s n).1.take i.toNat) (by rw [take_len (by omega)]; omega)
   omega)))
    | (conv => whnf
       first
        | done
        | exact trivial
        | with_reducible refine NilBr.mk (fun h => ?_) ?_
        | with_reducible first | refine w_andS ?_ ?_ | refine w_andL ?_ ?_ | refine w_kern (by kernel_rfl) ?_ | refine w_true ?_ | refine w_nd ?_ ?_ | refine w_in ?_ ?_ | refine w_and ?_ ?_
        | ((with_reducible first | refine w_brN (fun h => ?_) (fun h => ?_) | refine w_brD (fun h => ?_) (fun h => ?_) | refine w_br (fun h => ?_) (fun h => ?_)) <;> (try dsimp only [cu, Prod.eta, List.nil_append] at h) <;> (try (exfalso; omega; done)))
        | (
 intro yy (hy : Tag 43 ∧ _)
 obtain ⟨(i : Int), (L : List Val), _⟩ := yy
 replace hy := hy.2
 dsimp only [cu, joinT, ckTys, gts, Prod.eta, List.nil_append] at hy
 obtain ⟨hi, hL⟩ := hy)
        | (
 intro yy (hy : Tag 44 ∧ _)
 obtain ⟨(i : Int), (L : List Val), _⟩ := yy
 replace hy := hy.2
 dsimp only [cu, joinT, ckTys, gts, Prod.eta, List.nil_append] at hy
 obtain ⟨hi, hL⟩ := hy)))
  all_goals (
 with_reducible refine Leaf.mk ?_
 (try dsimp only [cu, joinT, ckTys, gts, Prod.eta, List.nil_append] at *)
 first
 | (done)
 | (rw [unp_p (by omega)])
 | (
  have j3 : k = 3 := by omega
  have e := rst_3 (t := t) (s := s) (n := n) (k := k) j3
  rw [unp_r (by omega), e]
  first
  | (done)
  | (rw [hL, List.take_of_length_le (by omega)]))
 | (
  have j4 : k = 4 := by omega
  have e := rst_4 (t := t) (s := s) (n := n) (k := k) j4
  rw [unp_r (by omega), e]
  first
  | (done)
  | (rw [hL, List.take_of_length_le (by omega)]))
 | (
  have j4 : ¬ k = 4 := by omega
  have j1 : ¬ k = 1 := by omega
  have j3 : ¬ k = 3 := by omega
  have e := rst_2 (t := t) (s := s) (n := n) (k := k) j1 j3 j4
  rw [unp_r (by omega), e]
  first
  | (done)
  | (rw [hL, List.take_of_length_le (by omega)]))
 | (
  have hdl := dict_le (s := s) (n := n) hn.1
  have hrl := runs_le (s := s) (n := n) hn.1
  have hdd := delta_le (s := s) (n := n) hn.1
  first
  | (
   have k4 : k = 4 := by omega
   obtain ⟨el, ev⟩ := rst4_all (t := t) (s := s) (n := n) (k := k) k4
   have j4 : k = 4 := by omega
   have e := rst_4 (t := t) (s := s) (n := n) (k := k) j4
   rw [unp_r (by omega), hL, List.take_of_length_le (by omega)])
  | (
   have k4 : ¬ k = 4 := by omega
   have k1 : ¬ k = 1 := by omega
   have k3 : ¬ k = 3 := by omega
   obtain ⟨el, ev⟩ := rst2_all (t := t) (s := s) (n := n) (k := k) k1 k3 k4
   have j4 : ¬ k = 4 := by omega
   have j1 : ¬ k = 1 := by omega
   have j3 : ¬ k = 3 := by omega
   have e := rst_2 (t := t) (s := s) (n := n) (k := k) j1 j3 j4
   rw [unp_r (by omega), hL, List.take_of_length_le (by omega)])))
abbrev tb56 : Tbl := (59, c_unpack_ok') :: tb55
theorem tb56_ok : TblOk Try.prog tb56 := TblOk.cons unpack_ok' tb55_ok

end Go.Proofs.Ytlamfjhhjfgemaa
