/- Laws of valid predicates, second part. -/
import Derived.Test.YtinehkfcploeiaaBase
namespace Go.Proofs.Ytinehkfcploeiaa
open Go.Abs
set_option linter.unusedVariables false
set_option linter.unusedSimpArgs false


abbrev nOp (o a b : Int) : Nd := (o, 0, (false, 0, ⟨#[]⟩), [], a, b)
theorem op_valid {s : Schema} {p : List Nd} {o a b : Int} (ho : o = 9 ∨ o = 10) (h : predErr s p = 0) (hl : p.length < 64) (ha : 0 ≤ a ∧ a < p.length) (hb : 0 ≤ b ∧ b < p.length) : predErr s (p ++ [nOp o a b]) = 0 := by
  refine predErr_snoc h hl ?_
  unfold nodeErr
  rcases ho with rfl | rfl <;> grind
theorem op_eval (s : Schema) (row : List Val) (p : List Nd) {o : Int} (ho : o = 9 ∨ o = 10) (a b : Int) : evalT s (p ++ [nOp o a b]) row = vCombine o (nodeVals s row p)[a.toNat]! (nodeVals s row p)[b.toNat]! := by
  rw [last_snoc]
  unfold nodeVal
  rcases ho with rfl | rfl <;> rfl
theorem vals_old (s : Schema) (row : List Val) (p : List Nd) (n : Nd) (i : Nat) (hi : i < p.length) : (nodeVals s row (p ++ [n]))[i]! = (nodeVals s row p)[i]! := by
  have h1 : (nodeVals s row p).length = p.length := nodeVals_len s row p
  rw [nodeVals_snoc, getElem!_pos _ i (by rw [List.length_append, h1]; omega), List.getElem_append_left (by omega), getElem!_pos _ i (by omega)]
theorem vals_new (s : Schema) (row : List Val) (p : List Nd) (n : Nd) : (nodeVals s row (p ++ [n]))[p.length]! = nodeVal s row (nodeVals s row p) n := by
  have h1 : (nodeVals s row p).length = p.length := nodeVals_len s row p
  rw [nodeVals_snoc, getElem!_pos _ p.length (by rw [List.length_append, h1]; simp), List.getElem_append_right (by omega)]
  simp [h1]
theorem not_val (s : Schema) (row : List Val) (acc : List Int) (a : Int) : nodeVal s row acc (nNot a) = vNot acc[a.toNat]! := by
  unfold nodeVal
  simp only []
  rw [if_pos (by decide)]
  simp [comb_not]
theorem morgan {o q a b : Int} (h : (o = 9 ∧ q = 10) ∨ (o = 10 ∧ q = 9)) (ha : 0 ≤ a ∧ a ≤ 2) (hb : 0 ≤ b ∧ b ≤ 2) : vNot (vCombine o a b) = vCombine q (vNot a) (vNot b) := by
  obtain rfl | rfl | rfl : a = 0 ∨ a = 1 ∨ a = 2 := by omega
  all_goals (obtain rfl | rfl | rfl : b = 0 ∨ b = 1 ∨ b = 2 := by omega)
  all_goals (rcases h with ⟨rfl, rfl⟩ | ⟨rfl, rfl⟩ <;> decide)
/-- The two predicates of PredicateDeMorgan. -/
theorem morgan_law {s : Schema} {row : List Val} {p : List Nd} {o q k : Int} (h : (o = 9 ∧ q = 10) ∨ (o = 10 ∧ q = 9)) (hp : predErr s p = 0) (hr : rowErr s row = 0) (hl : p.length ≤ 7) (hk : 0 ≤ k ∧ k < p.length) :
    evalE s (p ++ [nOp o k (p.length - 1), nNot p.length]) row = 0 ∧ evalE s (p ++ [nNot k, nNot (p.length - 1), nOp q p.length (p.length + 1)]) row = 0 ∧
    evalV s (p ++ [nOp o k (p.length - 1), nNot p.length]) row = evalV s (p ++ [nNot k, nNot (p.length - 1), nOp q p.length (p.length + 1)]) row := by
  have ho : o = 9 ∨ o = 10 := by omega
  have hq : q = 9 ∨ q = 10 := by omega
  have e1 : p ++ [nOp o k (p.length - 1), nNot p.length] = (p ++ [nOp o k (p.length - 1)]) ++ [nNot p.length] := by simp
  have e2 : p ++ [nNot k, nNot (p.length - 1), nOp q p.length (p.length + 1)] = ((p ++ [nNot k]) ++ [nNot (p.length - 1)]) ++ [nOp q p.length (p.length + 1)] := by simp
  have L1 : ∀ n : Nd, (p ++ [n]).length = p.length + 1 := fun n => by simp
  have L2 : ∀ n n' : Nd, (p ++ [n] ++ [n']).length = p.length + 2 := fun n n' => by simp
  have v1 := op_valid (a := k) (b := p.length - 1) ho hp (by omega) hk (by omega)
  have v2 := not_valid (a := p.length) v1 (by rw [L1]; omega) (by rw [L1]; omega)
  have w1 := not_valid (a := k) hp (by omega) hk
  have w2 := not_valid (a := p.length - 1) w1 (by rw [L1]; omega) (by rw [L1]; omega)
  have w3 := op_valid (a := p.length) (b := p.length + 1) hq w2 (by rw [L2]; omega) (by rw [L2]; omega) (by rw [L2]; omega)
  rw [e1, e2]
  obtain ⟨a1, a2⟩ := evalE_zero v2 hr
  obtain ⟨b1, b2⟩ := evalE_zero w3 hr
  refine ⟨a1, b1, ?_⟩
  rw [a2, b2, not_eval, op_eval _ _ _ hq]
  have c1 : (nodeVals s row (p ++ [nOp o k (p.length - 1)]))[((p.length : Int)).toNat]! = vCombine o (nodeVals s row p)[k.toNat]! (nodeVals s row p)[((p.length : Int) - 1).toNat]! := by
    rw [show ((p.length : Int)).toNat = p.length by omega, vals_new]
    unfold nodeVal
    rcases ho with rfl | rfl <;> rfl
  have c2 : (nodeVals s row (p ++ [nNot k] ++ [nNot (p.length - 1)]))[((p.length : Int)).toNat]! = vNot (nodeVals s row p)[k.toNat]! := by
    rw [show ((p.length : Int)).toNat = p.length by omega, vals_old _ _ _ _ _ (by rw [L1]; omega), vals_new, not_val]
  have c3 : (nodeVals s row (p ++ [nNot k] ++ [nNot (p.length - 1)]))[((p.length : Int) + 1).toNat]! = vNot (nodeVals s row p)[((p.length : Int) - 1).toNat]! := by
    have := vals_new s row (p ++ [nNot k]) (nNot (p.length - 1))
    rw [L1] at this
    rw [show ((p.length : Int) + 1).toNat = p.length + 1 by omega, this, not_val, vals_old _ _ _ _ _ (by omega)]
  rw [c1, c2, c3]
  exact morgan h (get_range (nodeVals_range s row p) _) (get_range (nodeVals_range s row p) _)


abbrev nCmp (o k : Int) (v : Val) : Nd := (o, k, v, [], 0, 0)
theorem kValue_notnull (s : Src) (c : Col) : (kValue s (colN c false)).1.1 = false := by
  unfold kValue
  rw [if_neg (by simp [kNull, colN])]
  unfold kFin
  repeat' split
  all_goals rfl
theorem cmp1_law {s : Schema} {row : List Val} {o k : Int} {v : Val} (hs : schemaErr s = 0) (hr : rowErr s row = 0) (ho : 1 ≤ o ∧ o ≤ 6) (hk : 0 ≤ k ∧ k < s.1.length) (hv : vCheck s.1[k.toNat]! v = 0) (hn : v.1 = false) :
    evalE s [nCmp o k v] row = 0 ∧ evalV s [nCmp o k v] row = vTest s.1[k.toNat]!.2.1 (nCmp o k v) row[k.toNat]! := by
  have hp : predErr s [nCmp o k v] = 0 := by
    unfold predErr
    rw [if_neg (by simp [hs]), if_neg (by simp)]
    unfold errFrom errFrom
    have : nodeErr s 0 (nCmp o k v) = 0 := by
      unfold nodeErr
      simp only [hn, hv]
      grind
    rw [if_pos this]
  obtain ⟨h1, h2⟩ := evalE_zero hp hr
  refine ⟨h1, h2.trans ?_⟩
  have := last_snoc s row [] (nCmp o k v)
  rw [List.nil_append] at this
  rw [this]
  unfold nodeVal
  rw [if_neg (by simp only []; omega)]
theorem opp_law {t a b : Int} {v x : Val} (h : (a = 1 ∧ b = 2) ∨ (a = 3 ∧ b = 6) ∨ (a = 4 ∧ b = 5)) (k : Int) :
    (x.1 = true → vTest t (nCmp a k v) x = 2 ∧ vTest t (nCmp b k v) x = 2) ∧ (x.1 = false → vTest t (nCmp a k v) x + vTest t (nCmp b k v) x = 1 ∧ 0 ≤ vTest t (nCmp a k v) x ∧ 0 ≤ vTest t (nCmp b k v) x ∧ vTest t (nCmp a k v) x ≤ 1 ∧ vTest t (nCmp b k v) x ≤ 1) := by
  constructor
  · intro hx
    rcases h with ⟨rfl, rfl⟩ | ⟨rfl, rfl⟩ | ⟨rfl, rfl⟩ <;> simp [vTest, hx]
  · intro hx
    generalize vCompare t x v = d
    rcases h with ⟨rfl, rfl⟩ | ⟨rfl, rfl⟩ | ⟨rfl, rfl⟩
    all_goals simp only [vTest, hx, vTruth]
    all_goals grind

end Go.Proofs.Ytinehkfcploeiaa
