/- Contracts of decoding a dictionary. -/
import Derived.Test.YtlamfjhhjfgemaaWords
namespace Go.Proofs.Ytlamfjhhjfgemaa
open Go.Abs
set_option linter.unusedVariables false
set_option linter.unusedSimpArgs false


theorem u64_get (l : List Int) (j : Nat) : @getElem! (List Int) Nat Int _ _ (instInhabitedDen (.int .u64)) l j = l[j]! := rfl
def ixGo : List Bool → Bool → Int → Int
  | [], _, _ => -1
  | b :: r, v, k => if v = b then k else ixGo r v (k + 1)
theorem ixGo_step {l : List Bool} {v : Bool} {k : Int} (h : 0 ≤ k ∧ k < l.length) : ixGo (l.drop k.toNat) v k = if v = l[k.toNat]! then k else ixGo (l.drop (k + 1).toNat) v (k + 1) := by
  rw [drop_step l k h, ixGo]
theorem ixGo_end {l : List Bool} {v : Bool} {k : Int} (h : ¬ k < l.length) : ixGo (l.drop k.toNat) v k = -1 := by
  rw [List.drop_eq_nil_of_le (by omega)]; rfl
def hasB (l : List Bool) (v : Bool) : Bool := decide (ixGo l v 0 ≥ 0)
def usedL (k : Nat) (u : List Int) : List Bool := (List.range k).map fun j : Nat => u.any fun c => decide (c = (j : Int))
theorem usedL_len (k : Nat) (u : List Int) : (usedL k u).length = k := by simp [usedL]
theorem usedL_nil (k : Nat) : usedL k [] = List.replicate k false := by
  apply List.ext_getElem <;> simp [usedL]
theorem usedL_step {k : Nat} {u : List Int} {i : Int} (h : 0 ≤ i ∧ i < u.length) (hc : 0 ≤ u[i.toNat]! ∧ u[i.toNat]! < k) : (usedL k (u.take i.toNat)).set u[i.toNat]!.toNat true = usedL k (u.take (i + 1).toNat) := by
  rw [show (i + 1).toNat = i.toNat + 1 by omega, List.take_succ_eq_append_getElem (by omega), ← getElem!_pos u i.toNat (by omega)]
  apply List.ext_getElem
  · simp [usedL]
  · intro j h1 h2
    rw [List.getElem_set]
    simp only [usedL, List.getElem_map, List.getElem_range, List.any_append]
    by_cases q : u[i.toNat]!.toNat = j
    · rw [if_pos q]
      have : u[i.toNat]! = (j : Int) := by omega
      simp only [List.any_cons, List.any_nil, Bool.or_false, decide_eq_true this, Bool.or_true]
    · rw [if_neg q]
      have : ¬ u[i.toNat]! = (j : Int) := by omega
      simp only [List.any_cons, List.any_nil, Bool.or_false, decide_eq_false this]
def decC (W : List ByteArray) (u : List Int) : List ByteArray × Int := if (u.any fun c => decide (c ≥ (W.length : Int))) = true then ([], 2) else if hasB (usedL W.length u) false = true then ([], 2) else (u.map fun c => W[c.toNat]!, 0)
def decB (W : List ByteArray) (p : List Int × Int) : List ByteArray × Int := if ¬ p.2 = 0 then ([], p.2) else decC W p.1
def decA (s : ByteArray) (n : Int) (r : List ByteArray × Int × Int) : List ByteArray × Int := if ¬ r.2.2 = 0 then ([], r.2.2) else decB r.1 (unpackR (s.extract r.2.1.toNat s.size) n (wdN r.1.length))
def decDict (s : ByteArray) (n : Int) : List ByteArray × Int :=
  if n < 0 ∨ n > 4096 then ([], 4) else if ¬ (getR s 0).2.2 = 0 then ([], (getR s 0).2.2)
  else if (getR s 0).1 > n ∨ ((getR s 0).1 = 0 ∧ n > 0) then ([], 2) else decA s n (wdGo s (getR s 0).1.toNat (getR s 0).2.1 [])
theorem unpackR_len {s : ByteArray} {n w : Int} (h : (unpackR s n w).2 = 0) : (unpackR s n w).1.length = n.toNat := by
  unfold unpackR at h ⊢
  split at h
  · exact absurd h (by decide)
  · rename_i h1
    rw [if_neg h1]
    split at h
    · exact absurd h (by decide)
    · rename_i h2
      rw [if_neg h2]
      split at h
      · exact absurd h (by decide)
      · rename_i h3
        rw [if_neg h3]
        split at h
        · exact absurd h (by decide)
        · rename_i h4
          rw [if_neg h4, gL_len]
theorem unpackR_rng (s : ByteArray) (n w : Int) : ∀ i : Nat, 0 ≤ (unpackR s n w).1[i]! := by
  intro i
  have nil : ∀ l : List Int, l = [] → 0 ≤ l[i]! := fun l h => by subst h; exact Int.le_refl _
  unfold unpackR
  split
  · exact nil _ rfl
  split
  · exact nil _ rfl
  split
  · exact nil _ rfl
  split
  · exact nil _ rfl
  · by_cases h : i < n.toNat
    · rw [gL_get h]; exact (gs_lt (sbit01 s) _ _ _ _).1
    · rw [getElem!_neg _ _ (by rw [gL_len]; exact h)]; exact Int.le_refl _
theorem any_take {u : List Int} {i : Int} {K : Int} (h : 0 ≤ i ∧ i < u.length) (h1 : (u.take i.toNat).any (fun c => decide (c ≥ K)) = false) (h2 : ¬ u[i.toNat]! ≥ K) : (u.take (i + 1).toNat).any (fun c => decide (c ≥ K)) = false := by
  rw [show (i + 1).toNat = i.toNat + 1 by omega, List.take_succ_eq_append_getElem (by omega), ← getElem!_pos u i.toNat (by omega), List.any_append, h1]
  simp only [List.any_cons, List.any_nil, Bool.or_false, Bool.false_or, decide_eq_false_iff_not]
  exact h2
theorem any_now {u : List Int} {i : Int} {K : Int} (h : 0 ≤ i ∧ i < u.length) (h2 : u[i.toNat]! ≥ K) : u.any (fun c => decide (c ≥ K)) = true := by
  rw [List.any_eq_true]
  exact ⟨u[i.toNat]!, by rw [getElem!_pos u i.toNat (by omega)]; exact List.getElem_mem _, by simpa using h2⟩
theorem map_take {W : List ByteArray} {u : List Int} {i : Int} (h : 0 ≤ i ∧ i < u.length) : (u.take (i + 1).toNat).map (fun c => W[c.toNat]!) = (u.take i.toNat).map (fun c => W[c.toNat]!) ++ [W[u[i.toNat]!.toNat]!] := by
  rw [show (i + 1).toNat = i.toNat + 1 by omega, List.take_succ_eq_append_getElem (by omega), ← getElem!_pos u i.toNat (by omega), List.map_append]
  rfl
theorem decC_bad {W : List ByteArray} {u : List Int} {i : Int} (h : 0 ≤ i ∧ i < u.length) (h2 : u[i.toNat]! ≥ (W.length : Int)) : decC W u = ([], 2) := by rw [decC, if_pos (any_now h h2)]
theorem decC_un {W : List ByteArray} {u : List Int} {V : List Bool} (hV : V = usedL W.length u) (hA : u.any (fun c => decide (c ≥ (W.length : Int))) = false) (h : hasB V false = true) : decC W u = ([], 2) := by
  rw [decC, if_neg (by rw [hA]; decide), if_pos (by rw [← hV]; exact h)]
theorem decC_ok {W : List ByteArray} {u : List Int} {V : List Bool} (hV : V = usedL W.length u) (hA : u.any (fun c => decide (c ≥ (W.length : Int))) = false) (h : ¬ hasB V false = true) : decC W u = (u.map fun c => W[c.toNat]!, 0) := by
  rw [decC, if_neg (by rw [hA]; decide), if_neg (by rw [← hV]; exact h)]
theorem take_all {α : Type} {u : List α} {i : Int} (h : ¬ i < u.length) : u.take i.toNat = u := List.take_of_length_le (by omega)
theorem dec_a0 {s : ByteArray} {n : Int} {r : List ByteArray × Int × Int} (h : ¬ r.2.2 = 0) : decA s n r = ([], r.2.2) := by rw [decA, if_pos h]
theorem dec_a1 {s : ByteArray} {n : Int} {r : List ByteArray × Int × Int} (h : r.2.2 = 0) : decA s n r = decB r.1 (unpackR (s.extract r.2.1.toNat s.size) n (wdN r.1.length)) := by rw [decA, if_neg (fun q => q h)]
theorem dec_b0 {W : List ByteArray} {p : List Int × Int} (h : ¬ p.2 = 0) : decB W p = ([], p.2) := by rw [decB, if_pos h]
theorem dec_b1 {W : List ByteArray} {p : List Int × Int} (h : p.2 = 0) : decB W p = decC W p.1 := by rw [decB, if_neg (fun q => q h)]
theorem dec_0 {s : ByteArray} {n : Int} (h : n < 0 ∨ n > 4096) : decDict s n = ([], 4) := by rw [decDict, if_pos h]
theorem dec_1 {s : ByteArray} {n : Int} (h : ¬ (n < 0 ∨ n > 4096)) (h1 : ¬ (getR s 0).2.2 = 0) : decDict s n = ([], (getR s 0).2.2) := by rw [decDict, if_neg h, if_pos h1]
theorem dec_2 {s : ByteArray} {n : Int} (h : ¬ (n < 0 ∨ n > 4096)) (h1 : (getR s 0).2.2 = 0) (h2 : (getR s 0).1 > n ∨ ((getR s 0).1 = 0 ∧ n > 0)) : decDict s n = ([], 2) := by rw [decDict, if_neg h, if_neg (fun q => q h1), if_pos h2]
theorem dec_3 {s : ByteArray} {n : Int} (h : ¬ (n < 0 ∨ n > 4096)) (h1 : (getR s 0).2.2 = 0) (h2 : ¬ ((getR s 0).1 > n ∨ ((getR s 0).1 = 0 ∧ n > 0))) : decDict s n = decA s n (wdGo s (getR s 0).1.toNat (getR s 0).2.1 []) := by rw [decDict, if_neg h, if_neg (fun q => q h1), if_neg h2]
theorem wdGo_len (s : ByteArray) : ∀ (n : Nat) (a : Int) (M : List ByteArray), (wdGo s n a M).1.length ≤ M.length + n
  | 0, a, M => by rw [wdGo]; simp
  | n + 1, a, M => by
    rw [wdGo]
    split
    · simp
    split
    · simp
    split
    · simp
    · have := wdGo_len s n ((getR s a).2.1 + (getR s a).1) (M ++ [wdAt s a])
      simp at this; omega
theorem getR_end {s : ByteArray} (h : (getR s 0).2.2 = 0) : 0 ≤ (getR s 0).2.1 ∧ (getR s 0).2.1 ≤ s.size := by have := getR_ok h; omega
theorem wdGo_at {s : ByteArray} {n : Nat} (h0 : (getR s 0).2.2 = 0) (h : (wdGo s n (getR s 0).2.1 []).2.2 = 0) : 0 ≤ (wdGo s n (getR s 0).2.1 []).2.1 ∧ (wdGo s n (getR s 0).2.1 []).2.1 ≤ s.size := (wdGo_ok n _ _ h).2 (getR_end h0)

abbrev c_ix_ok : Ct := .fn [.list .bool, .bool] (some (fun (l : List Bool) (v : Bool) => (l.length ≤ 4611686018427387904))) (fun (l : List Bool) (v : Bool) => .d (.int .i64) (ixGo l v 0))
set_option maxRecDepth 100000 in
set_option maxHeartbeats 4000000 in
theorem ix_ok : CtOk Try.prog 118 c_ix_ok := by
  refine CtOk.fn tb18_ok mixed [] [] rfl rfl ?_
  rintro ⟨(l : List Bool), (v : Bool), _⟩ hpre
  replace hpre := hpre _ rfl
  dsimp only [cu] at hpre
  have hl := hpre
  refine ⟨[(0, 4, LA.mk [.sl 8 (.int .i64)] (fun y => Tag 14 ∧ cu [.int .i64] (fun (k : Int) => (0 ≤ k ∧ k ≤ l.length) ∧ (ixGo l v 0 = ixGo (l.drop k.toNat) v k)) y) (cu [.int .i64] (fun (k : Int) => ((l.length : Int) - k).toNat)) (cu [.int .i64] (fun (k : Int) => ([] : List (Nat × Nat × LA)))))], ?_⟩
  repeat' (first
    | (
 with_reducible refine Side.mk ⟨(⟨⟩ : Tag 14), ?_⟩
 dsimp only [cu, joinT, ckTys, gts, Prod.eta, List.nil_append]
 refine ⟨?_, ?_⟩
 · omega
 · first
   | (rfl)
   | (rw [hk2, ixGo_step (by omega), if_neg (by simp_all; done)]))
    | (
 with_reducible refine Side.mk ?_
 (try dsimp only [cu, joinT, ckTys, gts, loK, hiK, Prod.eta, List.nil_append])
 first
 | (done)
 | (with_reducible rfl)
 | (omega)
 | (exact Eq.refl _)
 | (simp only [List.length_append, List.length_cons, List.length_nil]; omega))
    | (conv => whnf
       first
        | done
        | exact trivial
        | with_reducible refine NilBr.mk (fun h => ?_) ?_
        | with_reducible first | refine w_andS ?_ ?_ | refine w_andL ?_ ?_ | refine w_kern (by kernel_rfl) ?_ | refine w_true ?_ | refine w_nd ?_ ?_ | refine w_in ?_ ?_ | refine w_and ?_ ?_
        | ((with_reducible first | refine w_brN (fun h => ?_) (fun h => ?_) | refine w_brD (fun h => ?_) (fun h => ?_) | refine w_br (fun h => ?_) (fun h => ?_)) <;> (try dsimp only [cu, Prod.eta, List.nil_append] at h) <;> (try (exfalso; omega; done)))
        | (
 intro yy (hy : Tag 14 ∧ _)
 obtain ⟨(k : Int), _⟩ := yy
 replace hy := hy.2
 dsimp only [cu, joinT, ckTys, gts, Prod.eta, List.nil_append] at hy
 obtain ⟨hk, hk2⟩ := hy)))
  all_goals (
 with_reducible refine Leaf.mk ?_
 (try dsimp only [cu, joinT, ckTys, gts, Prod.eta, List.nil_append] at *)
 first
 | (done)
 | (rw [hk2, ixGo_step (by omega), if_pos (by simp_all; done)])
 | (rw [hk2, ixGo_end (by omega)]))
abbrev tb19 : Tbl := (118, c_ix_ok) :: tb18
theorem tb19_ok : TblOk Try.prog tb19 := TblOk.cons ix_ok tb18_ok

abbrev c_hasb_ok : Ct := .fn [.list .bool, .bool] (some (fun (l : List Bool) (v : Bool) => (l.length ≤ 4611686018427387904))) (fun (l : List Bool) (v : Bool) => .d .bool (hasB l v))
set_option maxRecDepth 100000 in
set_option maxHeartbeats 4000000 in
theorem hasb_ok : CtOk Try.prog 104 c_hasb_ok := by
  refine CtOk.fn tb19_ok mixed [] [] rfl rfl ?_
  rintro ⟨(l : List Bool), (v : Bool), _⟩ hpre
  replace hpre := hpre _ rfl
  dsimp only [cu] at hpre
  have hl := hpre
  refine ⟨[], ?_⟩
  repeat' (first
    | (
 with_reducible refine Side.mk ?_
 (try dsimp only [cu, joinT, ckTys, gts, loK, hiK, Prod.eta, List.nil_append])
 first
 | (done)
 | (with_reducible rfl)
 | (omega)
 | (exact Eq.refl _)
 | (simp only [List.length_append, List.length_cons, List.length_nil]; omega)
 | (assumption))
    | (conv => whnf
       first
        | done
        | exact trivial
        | with_reducible refine NilBr.mk (fun h => ?_) ?_
        | with_reducible first | refine w_andS ?_ ?_ | refine w_andL ?_ ?_ | refine w_kern (by kernel_rfl) ?_ | refine w_true ?_ | refine w_nd ?_ ?_ | refine w_in ?_ ?_ | refine w_and ?_ ?_
        | ((with_reducible first | refine w_brN (fun h => ?_) (fun h => ?_) | refine w_brD (fun h => ?_) (fun h => ?_) | refine w_br (fun h => ?_) (fun h => ?_)) <;> (try dsimp only [cu, Prod.eta, List.nil_append] at h) <;> (try (exfalso; omega; done)))))
  all_goals (
 with_reducible refine Leaf.mk ?_
 (try dsimp only [cu, joinT, ckTys, gts, Prod.eta, List.nil_append] at *)
 first
 | (done)
 | (rfl))
abbrev tb20 : Tbl := (104, c_hasb_ok) :: tb19
theorem tb20_ok : TblOk Try.prog tb20 := TblOk.cons hasb_ok tb19_ok

abbrev c_decode_ok : Ct := .fn [.str, .int .i64] (some (fun (s : ByteArray) (n : Int) => (s.size ≤ 4611686018427387904))) (fun (s : ByteArray) (n : Int) => .tup [.list .str, .int .i64] ((decDict s n).1, (decDict s n).2, ()))
set_option maxRecDepth 100000 in
set_option maxHeartbeats 4000000 in
theorem decode_ok : CtOk Try.prog 82 c_decode_ok := by
  refine CtOk.fn tb20_ok mixed [] [] rfl rfl ?_
  rintro ⟨(s : ByteArray), (n : Int), _⟩ hpre
  replace hpre := hpre _ rfl
  dsimp only [cu] at hpre
  have hs := hpre
  refine ⟨[(0, 34, LA.mk [.sl 75 (.int .i64), .ar 0 .bool 4, .ar 1 .str 9] (fun y => Tag 15 ∧ cu [.int .i64, .list .bool, .list .str] (fun (i : Int) (V : List Bool) (O : List ByteArray) => (0 ≤ i ∧ i ≤ (unpackR (s.extract (wdGo s (getR s 0).1.toNat (getR s 0).2.1 []).2.1.toNat s.size) n (wdN (wdGo s (getR s 0).1.toNat (getR s 0).2.1 []).1.length)).1.length) ∧ (V = usedL (wdGo s (getR s 0).1.toNat (getR s 0).2.1 []).1.length ((unpackR (s.extract (wdGo s (getR s 0).1.toNat (getR s 0).2.1 []).2.1.toNat s.size) n (wdN (wdGo s (getR s 0).1.toNat (getR s 0).2.1 []).1.length)).1.take i.toNat)) ∧ (O.length = n.toNat) ∧ (O.take i.toNat = ((unpackR (s.extract (wdGo s (getR s 0).1.toNat (getR s 0).2.1 []).2.1.toNat s.size) n (wdN (wdGo s (getR s 0).1.toNat (getR s 0).2.1 []).1.length)).1.take i.toNat).map (fun c => (wdGo s (getR s 0).1.toNat (getR s 0).2.1 []).1[c.toNat]!)) ∧ (((unpackR (s.extract (wdGo s (getR s 0).1.toNat (getR s 0).2.1 []).2.1.toNat s.size) n (wdN (wdGo s (getR s 0).1.toNat (getR s 0).2.1 []).1.length)).1.take i.toNat).any (fun c => decide (c ≥ ((wdGo s (getR s 0).1.toNat (getR s 0).2.1 []).1.length : Int))) = false)) y) (cu [.int .i64, .list .bool, .list .str] (fun (i : Int) (V : List Bool) (O : List ByteArray) => (((unpackR (s.extract (wdGo s (getR s 0).1.toNat (getR s 0).2.1 []).2.1.toNat s.size) n (wdN (wdGo s (getR s 0).1.toNat (getR s 0).2.1 []).1.length)).1.length : Int) - i).toNat)) (cu [.int .i64, .list .bool, .list .str] (fun (i : Int) (V : List Bool) (O : List ByteArray) => ([] : List (Nat × Nat × LA)))))], ?_⟩
  repeat' (first
    | (
 with_reducible refine Side.mk ⟨(⟨⟩ : Tag 15), ?_⟩
 dsimp only [cu, joinT, ckTys, gts, Prod.eta, List.nil_append]
 refine ⟨?_, ?_, ?_, ?_, ?_⟩
 · omega
 · first
   | (
  rw [show ((0 : Int).toNat) = 0 from rfl, List.take_zero, usedL_nil]
  simp; done)
   | (
  have hur := unpackR_rng (s.extract (wdGo s (getR s 0).1.toNat (getR s 0).2.1 []).2.1.toNat s.size) n (wdN (wdGo s (getR s 0).1.toNat (getR s 0).2.1 []).1.length) i.toNat
  simp only [u64_get] at *
  have hg := getR_rng s 0
  have hwn := u64_id (n := n) (by omega)
  have hwl := wdGo_len s (getR s 0).1.toNat (getR s 0).2.1 []
  simp only [List.length_nil, Nat.zero_add] at hwl
  have hww := u64_id (n := ((wdGo s (getR s 0).1.toNat (getR s 0).2.1 []).1.length : Int)) (by omega)
  rw [hV, usedL_step (by omega) (by omega)])
 · first
   | (simp; done)
   | (simp; omega)
 · first
   | (
  rw [show ((0 : Int).toNat) = 0 from rfl, List.take_zero]
  rfl)
   | (
  have hu0 : (unpackR (s.extract (wdGo s (getR s 0).1.toNat (getR s 0).2.1 []).2.1.toNat s.size) n (wdN (wdGo s (getR s 0).1.toNat (getR s 0).2.1 []).1.length)).2 = 0 := by assumption
  have hul := unpackR_len hu0
  simp only [u64_get] at *
  rw [map_take (by omega), show (i + 1).toNat = i.toNat + 1 by omega, take_set _ _ _ (by omega), hO])
 · first
   | (
  rw [show ((0 : Int).toNat) = 0 from rfl, List.take_zero]
  rfl)
   | (
  have hg := getR_rng s 0
  have hwn := u64_id (n := n) (by omega)
  have hwl := wdGo_len s (getR s 0).1.toNat (getR s 0).2.1 []
  simp only [List.length_nil, Nat.zero_add] at hwl
  have hww := u64_id (n := ((wdGo s (getR s 0).1.toNat (getR s 0).2.1 []).1.length : Int)) (by omega)
  simp only [u64_get] at *
  exact any_take (by omega) hA (by omega)))
    | (
 with_reducible refine Side.mk ?_
 (try dsimp only [cu, joinT, ckTys, gts, loK, hiK, Prod.eta, List.nil_append])
 first
 | (done)
 | (with_reducible rfl)
 | (omega)
 | (exact Eq.refl _)
 | (simp only [List.length_append, List.length_cons, List.length_nil]; omega)
 | (
  have hg := getR_rng s 0
  have hwn := u64_id (n := n) (by omega)
  omega)
 | (exact ⟨by omega, by omega⟩)
 | (exact wdGo_at (by assumption) (by assumption))
 | (exact ⟨by omega, by have hg := getR_rng s 0; have hwn := u64_id (n := n) (by omega); omega⟩)
 | (
  have hg := getR_rng s 0
  have hwn := u64_id (n := n) (by omega)
  first
  | (exact ⟨hs, by omega, by omega⟩)
  | (
   have hwl := wdGo_len s (getR s 0).1.toNat (getR s 0).2.1 []
   simp only [List.length_nil, Nat.zero_add] at hwl
   have hww := u64_id (n := ((wdGo s (getR s 0).1.toNat (getR s 0).2.1 []).1.length : Int)) (by omega)
   first
   | (omega)
   | (exact ⟨by omega, by omega⟩)))
 | (
  have := wdGo_at (s := s) (by assumption) (by assumption : (wdGo s (getR s 0).1.toNat (getR s 0).2.1 []).2.2 = 0)
  omega)
 | (simp only [ByteArray.size_extract]; omega)
 | (
  have hur := unpackR_rng (s.extract (wdGo s (getR s 0).1.toNat (getR s 0).2.1 []).2.1.toNat s.size) n (wdN (wdGo s (getR s 0).1.toNat (getR s 0).2.1 []).1.length) i.toNat
  simp only [u64_get] at *
  omega)
 | (
  have hg := getR_rng s 0
  have hwn := u64_id (n := n) (by omega)
  have hwl := wdGo_len s (getR s 0).1.toNat (getR s 0).2.1 []
  simp only [List.length_nil, Nat.zero_add] at hwl
  have hww := u64_id (n := ((wdGo s (getR s 0).1.toNat (getR s 0).2.1 []).1.length : Int)) (by omega)
  first
  | (
   have hu0 : (unpackR (s.extract (wdGo s (getR s 0).1.toNat (getR s 0).2.1 []).2.1.toNat s.size) n (wdN (wdGo s (getR s 0).1.toNat (getR s 0).2.1 []).1.length)).2 = 0 := by assumption
   have hul := unpackR_len hu0
   have hur := unpackR_rng (s.extract (wdGo s (getR s 0).1.toNat (getR s 0).2.1 []).2.1.toNat s.size) n (wdN (wdGo s (getR s 0).1.toNat (getR s 0).2.1 []).1.length) i.toNat
   simp only [u64_get] at *
   first
   | (rw [hV, usedL_len]; omega)
   | (omega))
  | (rw [hV, usedL_len]; omega)))
    | (conv => whnf
       first
        | done
        | exact trivial
        | with_reducible refine NilBr.mk (fun h => ?_) ?_
        | with_reducible first | refine w_andS ?_ ?_ | refine w_andL ?_ ?_ | refine w_kern (by kernel_rfl) ?_ | refine w_true ?_ | refine w_nd ?_ ?_ | refine w_in ?_ ?_ | refine w_and ?_ ?_
        | ((with_reducible first | refine w_brN (fun h => ?_) (fun h => ?_) | refine w_brD (fun h => ?_) (fun h => ?_) | refine w_br (fun h => ?_) (fun h => ?_)) <;> (try dsimp only [cu, Prod.eta, List.nil_append] at h) <;> (try (exfalso; omega; done)))
        | (
 intro yy (hy : Tag 15 ∧ _)
 obtain ⟨(i : Int), (V : List Bool), (O : List ByteArray), _⟩ := yy
 replace hy := hy.2
 dsimp only [cu, joinT, ckTys, gts, Prod.eta, List.nil_append] at hy
 obtain ⟨hi, hV, hOl, hO, hA⟩ := hy)))
  all_goals (
 with_reducible refine Leaf.mk ?_
 (try dsimp only [cu, joinT, ckTys, gts, Prod.eta, List.nil_append] at *)
 first
 | (done)
 | (
  have q1 : n < 0 ∨ n > 4096 := by first | omega | (simp_all; done)
  rw [dec_0 q1])
 | (
  have q1 : ¬ (n < 0 ∨ n > 4096) := by first | omega | (simp_all; done)
  have q2 : ¬ (getR s 0).2.2 = 0 := by assumption
  rw [dec_1 q1 q2])
 | (
  have hg := getR_rng s 0
  have hwn := u64_id (n := n) (by omega)
  first
  | (
   have q1 : ¬ (n < 0 ∨ n > 4096) := by first | omega | (simp_all; done)
   have q2 : (getR s 0).2.2 = 0 := by first | assumption | omega | (simp_all; done)
   first
   | (
    have q3 : (getR s 0).1 > n ∨ ((getR s 0).1 = 0 ∧ n > 0) := by first | omega | (simp_all; done)
    rw [dec_2 q1 q2 q3])
   | (
    have q3 : ¬ ((getR s 0).1 > n ∨ ((getR s 0).1 = 0 ∧ n > 0)) := by first | omega | (simp_all; omega) | (simp_all; done)
    rw [dec_3 q1 q2 q3]
    first
    | (
     have q4 : ¬ (wdGo s (getR s 0).1.toNat (getR s 0).2.1 []).2.2 = 0 := by assumption
     rw [dec_a0 q4])
    | (
     have q4 : (wdGo s (getR s 0).1.toNat (getR s 0).2.1 []).2.2 = 0 := by first | assumption | omega
     rw [dec_a1 q4]
     have q5 : ¬ (unpackR (s.extract (wdGo s (getR s 0).1.toNat (getR s 0).2.1 []).2.1.toNat s.size) n (wdN (wdGo s (getR s 0).1.toNat (getR s 0).2.1 []).1.length)).2 = 0 := by assumption
     rw [dec_b0 q5])))
  | (
   have hwl := wdGo_len s (getR s 0).1.toNat (getR s 0).2.1 []
   simp only [List.length_nil, Nat.zero_add] at hwl
   have hww := u64_id (n := ((wdGo s (getR s 0).1.toNat (getR s 0).2.1 []).1.length : Int)) (by omega)
   have q1 : ¬ (n < 0 ∨ n > 4096) := by first | omega | (simp_all; done)
   have q2 : (getR s 0).2.2 = 0 := by first | assumption | omega | (simp_all; done)
   have q3 : ¬ ((getR s 0).1 > n ∨ ((getR s 0).1 = 0 ∧ n > 0)) := by first | omega | (simp_all; omega) | (simp_all; done)
   rw [dec_3 q1 q2 q3]
   have q4 : (wdGo s (getR s 0).1.toNat (getR s 0).2.1 []).2.2 = 0 := by first | assumption | omega
   rw [dec_a1 q4]
   have q5 : (unpackR (s.extract (wdGo s (getR s 0).1.toNat (getR s 0).2.1 []).2.1.toNat s.size) n (wdN (wdGo s (getR s 0).1.toNat (getR s 0).2.1 []).1.length)).2 = 0 := by first | assumption | omega
   rw [dec_b1 q5]
   have q6 : (unpackR (s.extract (wdGo s (getR s 0).1.toNat (getR s 0).2.1 []).2.1.toNat s.size) n (wdN (wdGo s (getR s 0).1.toNat (getR s 0).2.1 []).1.length)).1[i.toNat]! ≥ ((wdGo s (getR s 0).1.toNat (getR s 0).2.1 []).1.length : Int) := by simp only [u64_get] at *; omega
   rw [decC_bad (i := i) (by omega) q6]))
 | (
  have ta0 : ¬ i < ((unpackR (s.extract (wdGo s (getR s 0).1.toNat (getR s 0).2.1 []).2.1.toNat s.size) n (wdN (wdGo s (getR s 0).1.toNat (getR s 0).2.1 []).1.length)).1.length : Int) := by assumption
  have ta := take_all ta0
  rw [ta] at hV hA hO
  first
  | (
   have hg := getR_rng s 0
   have hwn := u64_id (n := n) (by omega)
   have q1 : ¬ (n < 0 ∨ n > 4096) := by first | omega | (simp_all; done)
   have q2 : (getR s 0).2.2 = 0 := by first | assumption | omega | (simp_all; done)
   have q3 : ¬ ((getR s 0).1 > n ∨ ((getR s 0).1 = 0 ∧ n > 0)) := by first | omega | (simp_all; omega) | (simp_all; done)
   rw [dec_3 q1 q2 q3]
   have q4 : (wdGo s (getR s 0).1.toNat (getR s 0).2.1 []).2.2 = 0 := by first | assumption | omega
   rw [dec_a1 q4]
   have q5 : (unpackR (s.extract (wdGo s (getR s 0).1.toNat (getR s 0).2.1 []).2.1.toNat s.size) n (wdN (wdGo s (getR s 0).1.toNat (getR s 0).2.1 []).1.length)).2 = 0 := by first | assumption | omega
   rw [dec_b1 q5]
   have q6 : hasB V false = true := by assumption
   rw [decC_un hV hA q6])
  | (
   have hu0 : (unpackR (s.extract (wdGo s (getR s 0).1.toNat (getR s 0).2.1 []).2.1.toNat s.size) n (wdN (wdGo s (getR s 0).1.toNat (getR s 0).2.1 []).1.length)).2 = 0 := by assumption
   have hul := unpackR_len hu0
   have hg := getR_rng s 0
   have hwn := u64_id (n := n) (by omega)
   have q1 : ¬ (n < 0 ∨ n > 4096) := by first | omega | (simp_all; done)
   have q2 : (getR s 0).2.2 = 0 := by first | assumption | omega | (simp_all; done)
   have q3 : ¬ ((getR s 0).1 > n ∨ ((getR s 0).1 = 0 ∧ n > 0)) := by first | omega | (simp_all; omega) | (simp_all; done)
   rw [dec_3 q1 q2 q3]
   have q4 : (wdGo s (getR s 0).1.toNat (getR s 0).2.1 []).2.2 = 0 := by first | assumption | omega
   rw [dec_a1 q4]
   have q5 : (unpackR (s.extract (wdGo s (getR s 0).1.toNat (getR s 0).2.1 []).2.1.toNat s.size) n (wdN (wdGo s (getR s 0).1.toNat (getR s 0).2.1 []).1.length)).2 = 0 := by first | assumption | omega
   rw [dec_b1 q5]
   have q6 : ¬ hasB V false = true := by simp_all; done
   rw [decC_ok hV hA q6]
   (try rw [List.take_of_length_le (by omega)] at hO)
   first | done | exact hO | rfl)))
abbrev tb21 : Tbl := (82, c_decode_ok) :: tb20
theorem tb21_ok : TblOk Try.prog tb21 := TblOk.cons decode_ok tb20_ok

end Go.Proofs.Ytlamfjhhjfgemaa
