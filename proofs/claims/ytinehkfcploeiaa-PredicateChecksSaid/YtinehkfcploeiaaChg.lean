/- Contracts of the change of a predicate. -/
import Derived.Test.YtinehkfcploeiaaCols
namespace Go.Proofs.Ytinehkfcploeiaa
open Go.Abs
set_option linter.unusedVariables false
set_option linter.unusedSimpArgs false


def withL (n : Nd) (l : List Val) : Nd := (n.1, n.2.1, n.2.2.1, l, n.2.2.2.2)
def growV (l : List Val) (n : Nat) : List Val := l ++ List.replicate (n - l.length) ((false, 0, ⟨#[]⟩) : Val)
/-- One node with a change. -/
def chgN (n : Nd) (how v : Int) (x : Val) : Nd :=
  if pick how 8 = 0 then (pick v 13, n.2)
  else if pick how 8 = 1 then (n.1, pick v 6 - 1, n.2.2)
  else if pick how 8 = 2 then (n.1, n.2.1, x, n.2.2.2)
  else if pick how 8 = 3 then (n.1, n.2.1, n.2.2.1, n.2.2.2.1, pick v 10 - 1, n.2.2.2.2.2)
  else if pick how 8 = 4 then (n.1, n.2.1, n.2.2.1, n.2.2.2.1, n.2.2.2.2.1, pick v 10 - 1)
  else if pick how 8 = 5 then withL n (n.2.2.2.1 ++ [x])
  else if pick how 8 = 6 then withL n []
  else withL n (growV n.2.2.2.1 (16 + pick v 2).toNat)
def chgL (p : List Nd) (how a v : Int) (x : Val) : List Nd :=
  if p.length = 0 then p else p.set (pick a p.length).toNat (chgN p[(pick a p.length).toNat]! how v x)
theorem growV_step {l : List Val} {n : Nat} (h : l.length < n) : growV (l ++ [((false, 0, ⟨#[]⟩) : Val)]) n = growV l n := by
  unfold growV
  rw [List.length_append, List.length_singleton, show n - l.length = (n - (l.length + 1)) + 1 by omega, List.replicate_succ, List.append_assoc]
  rfl
theorem growV_end {l : List Val} {n : Nat} (h : ¬ l.length < n) : growV l n = l := by
  unfold growV
  rw [show n - l.length = 0 by omega]; simp
theorem get!_set_self (p : List Nd) (i : Nat) (n : Nd) (h : i < p.length) : (p.set i n)[i]! = n := by
  rw [getElem!_pos _ i (by simpa using h)]; simp
theorem set_self! (p : List Nd) (i : Nat) (h : i < p.length) : p = p.set i (withL p[i]! p[i]!.2.2.2.1) := by
  have e : withL p[i]! p[i]!.2.2.2.1 = p[i]! := rfl
  rw [e, getElem!_pos p i h, List.set_getElem_self]
abbrev VZ : Val := (false, 0, ⟨#[]⟩)
theorem chg_inv {p L : List Nd} {r n : Nat} (hr : r < p.length) (hL : L = p.set r (withL p[r]! L[r]!.2.2.2.1)) (hg : growV L[r]!.2.2.2.1 n = growV p[r]!.2.2.2.1 n) (h : L[r]!.2.2.2.1.length < n) (hn : n ≤ 17) :
    L.set r (withL L[r]! (L[r]!.2.2.2.1 ++ [VZ])) = p.set r (withL p[r]! (L.set r (withL L[r]! (L[r]!.2.2.2.1 ++ [VZ])))[r]!.2.2.2.1) ∧
    growV (L.set r (withL L[r]! (L[r]!.2.2.2.1 ++ [VZ])))[r]!.2.2.2.1 n = growV p[r]!.2.2.2.1 n ∧ (L.set r (withL L[r]! (L[r]!.2.2.2.1 ++ [VZ])))[r]!.2.2.2.1.length ≤ 64 ∧
    17 - (L.set r (withL L[r]! (L[r]!.2.2.2.1 ++ [VZ])))[r]!.2.2.2.1.length < 17 - L[r]!.2.2.2.1.length := by
  have hl : L.length = p.length := by rw [hL]; simp
  have hm : L[r]! = withL p[r]! L[r]!.2.2.2.1 := by
    conv => lhs; rw [hL]
    exact get!_set_self _ _ _ hr
  rw [get!_set_self _ _ _ (by omega)]
  have e : (withL L[r]! (L[r]!.2.2.2.1 ++ [VZ])).2.2.2.1 = L[r]!.2.2.2.1 ++ [VZ] := rfl
  rw [e]
  refine ⟨?_, by rw [growV_step h]; exact hg, by rw [List.length_append, List.length_singleton]; omega, by rw [List.length_append, List.length_singleton]; omega⟩
  generalize hM : L[r]!.2.2.2.1 = M at *
  have e2 : withL L[r]! (M ++ [VZ]) = withL p[r]! (M ++ [VZ]) := by rw [hm]; rfl
  rw [e2]
  conv => lhs; rw [hL]
  rw [List.set_set]
theorem growV_len (l : List Val) (n : Nat) (h : l.length ≤ 64) (hn : n ≤ 64) : (growV l n).length ≤ 64 := by
  unfold growV; simp; omega
theorem chgN_len (n : Nd) (how v : Int) (x : Val) (h : n.2.2.2.1.length ≤ 63) : (chgN n how v x).2.2.2.1.length ≤ 64 := by
  have hv := pick_lt (v := v) (n := 2) (by decide)
  have h' : n.2.2.2.1.length ≤ 63 := h
  unfold chgN
  (repeat' split) <;> first | (show n.2.2.2.1.length ≤ 64; omega) | (show ([] : List Val).length ≤ 64; simp; done) | (show (n.2.2.2.1 ++ [x]).length ≤ 64; simp; omega) | exact growV_len _ _ (by omega) (by omega)
theorem chgL_len (p : List Nd) (how a v : Int) (x : Val) (h : ∀ i : Nat, p[i]!.2.2.2.1.length ≤ 63) (i : Nat) : (chgL p how a v x)[i]!.2.2.2.1.length ≤ 64 := by
  unfold chgL
  split
  · have := h i; omega
  · rename_i h0
    by_cases hi : i < p.length
    · rw [getElem!_pos _ i (by simpa using hi), List.getElem_set]
      split
      · exact chgN_len _ _ _ _ (h _)
      · have := h i; rw [getElem!_pos p i hi] at this; omega
    · rw [getElem!_neg _ i (by simpa using hi)]; decide
theorem rcolsR_len (s : Schema) (p : List Nd) : (rcolsR s p).1.length ≤ 9223372036854775807 := by
  unfold rcolsR
  split
  · simp
  · rename_i h
    have h : predErr s p = 0 := by simpa using h
    have := rcolsL_len p s.1.length
    have := schema_len (pred_len h).2.2
    simp only; omega

abbrev c_changed_ok : Ct := .fn [.list tNd, .int .i64, .int .i64, .int .i64, tVal] (some (fun (p : List Nd) (how : Int) (a : Int) (v : Int) (x : Val) => (p.length ≤ 64) ∧ (∀ i : Nat, p[i]!.2.2.2.1.length ≤ 63))) (fun (p : List Nd) (how : Int) (a : Int) (v : Int) (x : Val) => .d (.list tNd) (chgL p how a v x))
set_option maxRecDepth 100000 in
set_option maxHeartbeats 4000000 in
theorem changed_ok : CtOk Try.prog 22 c_changed_ok := by
  refine CtOk.fn tb54_ok mixed [] [] rfl rfl ?_
  rintro ⟨(p : List Nd), (how : Int), (a : Int), (v : Int), (x : Val), _⟩ hpre
  replace hpre := hpre _ rfl
  dsimp only [cu] at hpre
  obtain ⟨hp, hw⟩ := hpre
  refine ⟨[(0, 12, LA.mk [.op 1 tNd 26] (fun y => Tag 27 ∧ cu [.list tNd] (fun (L : List Nd) => (L = p.set (pick a p.length).toNat (withL p[(pick a p.length).toNat]! L[(pick a p.length).toNat]!.2.2.2.1)) ∧ (growV L[(pick a p.length).toNat]!.2.2.2.1 (16 + pick v 2).toNat = growV p[(pick a p.length).toNat]!.2.2.2.1 (16 + pick v 2).toNat) ∧ (L[(pick a p.length).toNat]!.2.2.2.1.length ≤ 64)) y) (cu [.list tNd] (fun (L : List Nd) => (17 - L[(pick a p.length).toNat]!.2.2.2.1.length))) (cu [.list tNd] (fun (L : List Nd) => ([] : List (Nat × Nat × LA)))))], ?_⟩
  repeat' (first
    | (
 with_reducible refine Side.mk ⟨(⟨⟩ : Tag 27), ?_⟩
 dsimp only [cu, joinT, ckTys, gts, Prod.eta, List.nil_append]
 refine ⟨?_, ?_, ?_⟩
 · first
   | (
  (try simp only [List.nil_append] at *)
  have hpa := pick_lt (v := a) (n := (p.length : Int)) (by omega)
  have hpv := pick_lt (v := v) (n := 2) (by decide)
  first
  | (exact set_self! _ _ (by omega))
  | (
   have hci := chg_inv (p := p) (L := L) (r := (pick a p.length).toNat) (n := (16 + pick v 2).toNat) (by omega) hL hg (by omega) (by omega)
   exact hci.1))
 · first
   | (rfl)
   | (
  (try simp only [List.nil_append] at *)
  have hpa := pick_lt (v := a) (n := (p.length : Int)) (by omega)
  have hpv := pick_lt (v := v) (n := 2) (by decide)
  have hci := chg_inv (p := p) (L := L) (r := (pick a p.length).toNat) (n := (16 + pick v 2).toNat) (by omega) hL hg (by omega) (by omega)
  exact hci.2.1)
 · first
   | (
  (try simp only [List.nil_append] at *)
  first
  | (exact Nat.le_trans (hw _) (by decide))
  | (
   have hpa := pick_lt (v := a) (n := (p.length : Int)) (by omega)
   have hpv := pick_lt (v := v) (n := 2) (by decide)
   have hci := chg_inv (p := p) (L := L) (r := (pick a p.length).toNat) (n := (16 + pick v 2).toNat) (by omega) hL hg (by omega) (by omega)
   exact hci.2.2.1)))
    | (
 with_reducible refine Side.mk ?_
 (try dsimp only [cu, joinT, ckTys, gts, loK, hiK, Prod.eta, List.nil_append])
 first
 | (done)
 | (with_reducible rfl)
 | (omega)
 | (exact Eq.refl _)
 | (simp only [List.length_append, List.length_cons, List.length_nil]; omega)
 | (exact u64_ne (by omega))
 | (simp only [List.length_set]; done)
 | (
  have hv6 := pick_lt (v := v) (n := 6) (by decide)
  have hv10 := pick_lt (v := v) (n := 10) (by decide)
  have hv2 := pick_lt (v := v) (n := 2) (by decide)
  exact ⟨by show (-9223372036854775808 : Int) ≤ _; omega, by show _ ≤ (9223372036854775807 : Int); omega⟩)
 | (
  (try simp only [List.nil_append] at *)
  first
  | (
   have hq := hw (pick a p.length).toNat
   (try simp only [List.length_append, List.length_cons, List.length_nil])
   omega)
  | (
   have hpa := pick_lt (v := a) (n := (p.length : Int)) (by omega)
   have hpv := pick_lt (v := v) (n := 2) (by decide)
   have hLl : L.length = p.length := by rw [hL]; simp
   omega)
  | (
   (try simp only [List.length_append, List.length_cons, List.length_nil])
   omega)
  | (
   have hpa := pick_lt (v := a) (n := (p.length : Int)) (by omega)
   have hpv := pick_lt (v := v) (n := 2) (by decide)
   first
   | (
    have hci := chg_inv (p := p) (L := L) (r := (pick a p.length).toNat) (n := (16 + pick v 2).toNat) (by omega) hL hg (by omega) (by omega)
    exact hci.2.2.2)
   | (omega))))
    | (conv => whnf
       first
        | done
        | exact trivial
        | with_reducible refine NilBr.mk (fun h => ?_) ?_
        | with_reducible first | refine w_andS ?_ ?_ | refine w_andL ?_ ?_ | refine w_kern (by kernel_rfl) ?_ | refine w_true ?_ | refine w_nd ?_ ?_ | refine w_in ?_ ?_ | refine w_and ?_ ?_
        | ((with_reducible first | refine w_brN (fun h => ?_) (fun h => ?_) | refine w_brD (fun h => ?_) (fun h => ?_) | refine w_br (fun h => ?_) (fun h => ?_)) <;> (try dsimp only [cu, Prod.eta, List.nil_append] at h) <;> (try (exfalso; omega; done)))
        | (
 intro yy (hy : Tag 27 ∧ _)
 obtain ⟨(L : List Nd), _⟩ := yy
 replace hy := hy.2
 dsimp only [cu, joinT, ckTys, gts, Prod.eta, List.nil_append] at hy
 obtain ⟨hL, hg, hb⟩ := hy)))
  all_goals (
 with_reducible refine Leaf.mk ?_
 (try dsimp only [cu, joinT, ckTys, gts, Prod.eta, List.nil_append] at *)
 first
 | (done)
 | (
  (try simp only [List.nil_append] at *)
  unfold chgL chgN
  (repeat (first | rw [if_pos (by omega)] | rw [if_neg (by omega)]))
  first
  | (first | done | rfl)
  | (
   rw [← hg, growV_end (by omega)]
   exact hL)))
abbrev tb55 : Tbl := (22, c_changed_ok) :: tb54
theorem tb55_ok : TblOk Try.prog tb55 := TblOk.cons changed_ok tb54_ok

end Go.Proofs.Ytinehkfcploeiaa
