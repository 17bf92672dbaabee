/- Contracts of the evaluation of predicates, second part. -/
import Derived.Test.YtinehkfcploeiaaEval
namespace Go.Proofs.Ytinehkfcploeiaa
open Go.Abs
set_option linter.unusedVariables false
set_option linter.unusedSimpArgs false


def rowErr (s : Schema) (row : List Val) : Int := if row.length ≠ s.1.length then 1 else errFrom (fun i v => vCheck s.1[i.toNat]! v) 0 row
/-- the truth value of a node behind the values of the earlier ones -/
def nodeVal (s : Schema) (row : List Val) (acc : List Int) (n : Nd) : Int :=
  if n.1 ≥ 9 then vCombine n.1 acc[n.2.2.2.2.1.toNat]! (if n.1 ≠ 11 then acc[n.2.2.2.2.2.toNat]! else 0) else vTest s.1[n.2.1.toNat]!.2.1 n row[n.2.1.toNat]!
def nodeVals (s : Schema) (row : List Val) (p : List Nd) : List Int := p.foldl (fun acc n => acc ++ [nodeVal s row acc n]) []
def evalT (s : Schema) (p : List Nd) (row : List Val) : Int := (nodeVals s row p).getLastD 1
def evalE (s : Schema) (p : List Nd) (row : List Val) : Int := if predErr s p ≠ 0 then predErr s p else rowErr s row
def evalV (s : Schema) (p : List Nd) (row : List Val) : Int := if evalE s p row ≠ 0 then 0 else evalT s p row
theorem nodeVals_snoc (s : Schema) (row : List Val) (p : List Nd) (n : Nd) : nodeVals s row (p ++ [n]) = nodeVals s row p ++ [nodeVal s row (nodeVals s row p) n] := by
  simp [nodeVals, List.foldl_append]
theorem nodeVals_len (s : Schema) (row : List Val) (p : List Nd) : (nodeVals s row p).length = p.length := by
  have : ∀ (p : List Nd) (acc : List Int), (p.foldl (fun acc n => acc ++ [nodeVal s row acc n]) acc).length = acc.length + p.length := by
    intro p
    induction p with
    | nil => intro acc; rfl
    | cons n p ih => intro acc; rw [List.foldl_cons, ih]; simp; omega
  simpa [nodeVals] using this p []
theorem node_shape {s : Schema} {i : Int} {n : Nd} (h : nodeErr s i n = 0) : (1 ≤ n.1 ∧ n.1 ≤ 11) ∧ (n.1 ≥ 9 → 0 ≤ n.2.2.2.2.1 ∧ n.2.2.2.2.1 < i ∧ (n.1 ≠ 11 → 0 ≤ n.2.2.2.2.2 ∧ n.2.2.2.2.2 < i)) ∧ (n.1 < 9 → 0 ≤ n.2.1 ∧ n.2.1 < s.1.length) := by
  grind [nodeErr]
theorem pred_len {s : Schema} {p : List Nd} (h : predErr s p = 0) : p.length ≤ 64 ∧ errFrom (nodeErr s) 0 p = 0 ∧ schemaErr s = 0 := by
  grind [predErr]
theorem schema_len {s : Schema} (h : schemaErr s = 0) : 1 ≤ s.1.length ∧ s.1.length ≤ 12 ∧ 0 ≤ s.2 ∧ s.2 < s.1.length := by
  grind [schemaErr]
theorem vTest_range (t : Int) (n : Nd) (x : Val) : 0 ≤ vTest t n x ∧ vTest t n x ≤ 2 := by
  have h : ∀ b, 0 ≤ vTruth b ∧ vTruth b ≤ 2 := by intro b; cases b <;> decide
  unfold vTest
  repeat' split
  all_goals first | exact h _ | decide
theorem vCombine_range {op a b : Int} (ha : 0 ≤ a ∧ a ≤ 2) (hb : 0 ≤ b ∧ b ≤ 2) : 0 ≤ vCombine op a b ∧ vCombine op a b ≤ 2 := by
  unfold vCombine
  have hw : ¬ a = 2 → IntKind.i64.wrap (1 - a) = 1 - a := fun h => by rw [wrap64] <;> omega
  grind
theorem get_range {l : List Int} (h : ∀ x, x ∈ l → 0 ≤ x ∧ x ≤ 2) (i : Nat) : 0 ≤ l[i]! ∧ l[i]! ≤ 2 := by
  by_cases hi : i < l.length
  · rw [getElem!_pos l i hi]; exact h _ (List.getElem_mem hi)
  · rw [getElem!_neg l i hi]; decide
theorem nodeVals_range (s : Schema) (row : List Val) (p : List Nd) : ∀ x, x ∈ nodeVals s row p → 0 ≤ x ∧ x ≤ 2 := by
  have : ∀ (p : List Nd) (acc : List Int), (∀ x, x ∈ acc → 0 ≤ x ∧ x ≤ 2) → ∀ x, x ∈ p.foldl (fun acc n => acc ++ [nodeVal s row acc n]) acc → 0 ≤ x ∧ x ≤ 2 := by
    intro p
    induction p with
    | nil => intro acc h; simpa using h
    | cons n p ih =>
      intro acc h
      rw [List.foldl_cons]
      refine ih _ ?_
      intro x hx
      rcases List.mem_append.1 hx with q | q
      · exact h x q
      · simp at q
        subst q
        unfold nodeVal
        split
        · exact vCombine_range (get_range h _) (by split; exact get_range h _; decide)
        · exact vTest_range _ _ _
  exact this p [] (by simp)
theorem comb_and {a b : Int} (ha : 0 ≤ a ∧ a ≤ 2) (hb : 0 ≤ b ∧ b ≤ 2) : vCombine 9 a b = vAnd a b := by
  obtain rfl | rfl | rfl : a = 0 ∨ a = 1 ∨ a = 2 := by omega
  all_goals (obtain rfl | rfl | rfl : b = 0 ∨ b = 1 ∨ b = 2 := by omega)
  all_goals rfl
theorem comb_or {a b : Int} (ha : 0 ≤ a ∧ a ≤ 2) (hb : 0 ≤ b ∧ b ≤ 2) : vCombine 10 a b = vNot (vAnd (vNot a) (vNot b)) := by
  obtain rfl | rfl | rfl : a = 0 ∨ a = 1 ∨ a = 2 := by omega
  all_goals (obtain rfl | rfl | rfl : b = 0 ∨ b = 1 ∨ b = 2 := by omega)
  all_goals rfl
theorem comb_not {a b : Int} : vCombine 11 a b = vNot a := by
  unfold vCombine vNot; grind
theorem nodeVals_at {s : Schema} {row : List Val} {p : List Nd} {L : List Int} {k : Nat} (h : L.take k = nodeVals s row p) (i : Nat) (hi : i < k) : 0 ≤ L[i]! ∧ L[i]! ≤ 2 := by
  have := get_range (nodeVals_range s row p) i
  rw [← h, getElem!_take _ _ _ hi] at this
  exact this
theorem getLastD_get! (l : List Int) (d : Int) (h : 0 < l.length) : l.getLastD d = l[l.length - 1]! := by
  rw [getElem!_pos _ _ (by omega), List.getLastD_eq_getLast?, List.getLast?_eq_getElem?, List.getElem?_eq_getElem (by omega)]
  rfl

abbrev c_checkRow_ok : Ct := .fn [tSchema, .list tVal] (some (fun (s : Schema) (row : List Val) => (s.1.length ≤ 12))) (fun (s : Schema) (row : List Val) => .d (.int .i64) (rowErr s row))
set_option maxRecDepth 100000 in
set_option maxHeartbeats 4000000 in
theorem checkRow_ok : CtOk Try.prog 36 c_checkRow_ok := by
  refine CtOk.fn tb34_ok mixed [] [] rfl rfl ?_
  rintro ⟨(s : Schema), (row : List Val), _⟩ hpre
  replace hpre := hpre _ rfl
  dsimp only [cu] at hpre
  have hs := hpre
  refine ⟨[(0, 8, LA.mk [.sl 16 (.int .i64)] (fun y => Tag 14 ∧ cu [.int .i64] (fun (k : Int) => (0 ≤ k ∧ k ≤ row.length) ∧ (errFrom (fun i v => vCheck s.1[i.toNat]! v) 0 row = errFrom (fun i v => vCheck s.1[i.toNat]! v) k (row.drop k.toNat))) y) (cu [.int .i64] (fun (k : Int) => ((row.length : Int) - k).toNat)) (cu [.int .i64] (fun (k : Int) => ([] : List (Nat × Nat × LA)))))], ?_⟩
  repeat' (first
    | (
 with_reducible refine Side.mk ⟨(⟨⟩ : Tag 14), ?_⟩
 dsimp only [cu, joinT, ckTys, gts, Prod.eta, List.nil_append]
 refine ⟨?_, ?_⟩
 · omega
 · first
   | (simp; done)
   | (
  rw [drop_step _ _ (by omega)] at hr
  rw [hr, errFrom, if_pos (by assumption)]))
    | (
 with_reducible refine Side.mk ?_
 (try dsimp only [cu, joinT, ckTys, gts, loK, hiK, Prod.eta, List.nil_append])
 first
 | (done)
 | (with_reducible rfl)
 | (omega)
 | (exact Eq.refl _)
 | (simp only [List.length_append, List.length_cons, List.length_nil]; omega)
 | (grind))
    | (conv => whnf
       first
        | done
        | exact trivial
        | with_reducible refine NilBr.mk (fun h => ?_) ?_
        | with_reducible first | refine w_andS ?_ ?_ | refine w_andL ?_ ?_ | refine w_kern (by kernel_rfl) ?_ | refine w_true ?_ | refine w_nd ?_ ?_ | refine w_in ?_ ?_ | refine w_and ?_ ?_
        | ((with_reducible first | refine w_brN (fun h => ?_) (fun h => ?_) | refine w_brD (fun h => ?_) (fun h => ?_) | refine w_br (fun h => ?_) (fun h => ?_)) <;> (try dsimp only [cu, Prod.eta, List.nil_append] at h) <;> (try (exfalso; omega; done)))
        | (
 intro yy (hy : Tag 14 ∧ _)
 obtain ⟨(k : Int), _⟩ := yy
 replace hy := hy.2
 dsimp only [cu, joinT, ckTys, gts, Prod.eta, List.nil_append] at hy
 obtain ⟨hk, hr⟩ := hy)))
  all_goals (
 with_reducible refine Leaf.mk ?_
 (try dsimp only [cu, joinT, ckTys, gts, Prod.eta, List.nil_append] at *)
 first
 | (done)
 | (grind [rowErr])
 | (
  rw [drop_step _ _ (by omega), errFrom] at hr
  grind [rowErr])
 | (
  rw [drop_end _ _ (by omega)] at hr
  grind [rowErr, errFrom]))
abbrev tb35 : Tbl := (36, c_checkRow_ok) :: tb34
theorem tb35_ok : TblOk Try.prog tb35 := TblOk.cons checkRow_ok tb34_ok

abbrev c_eval_ok : Ct := .fn [tSchema, .list tNd, .list tVal] (some (fun (s : Schema) (p : List Nd) (row : List Val) => (∀ i : Nat, p[i]!.2.2.2.1.length ≤ 9223372036854775807))) (fun (s : Schema) (p : List Nd) (row : List Val) => .tup [.int .i64, .int .i64] (evalV s p row, evalE s p row, ()))
set_option maxRecDepth 100000 in
set_option maxHeartbeats 4000000 in
theorem eval_ok : CtOk Try.prog 11 c_eval_ok := by
  refine CtOk.fn tb35_ok mixed [] [] rfl rfl ?_
  rintro ⟨(s : Schema), (p : List Nd), (row : List Val), _⟩ hpre
  replace hpre := hpre _ rfl
  dsimp only [cu] at hpre
  have hw := hpre
  refine ⟨[(0, 14, LA.mk [.sl 31 (.int .i64)] (fun y => Tag 15 ∧ cu [.int .i64] (fun (k : Int) => (0 ≤ k ∧ k ≤ row.length) ∧ (errFrom (fun i v => vCheck s.1[i.toNat]! v) 0 row = errFrom (fun i v => vCheck s.1[i.toNat]! v) k (row.drop k.toNat))) y) (cu [.int .i64] (fun (k : Int) => ((row.length : Int) - k).toNat)) (cu [.int .i64] (fun (k : Int) => ([] : List (Nat × Nat × LA))))), (0, 32, LA.mk [.sl 52 (.int .i64), .sl 12 (.int .i64), .ar 1 (.int .i64) 3] (fun y => Tag 16 ∧ cu [.int .i64, .int .i64, .list (.int .i64)] (fun (m : Int) (o : Int) (L : List Int) => (0 ≤ m ∧ m ≤ p.length) ∧ (L.length = p.length) ∧ (L.take m.toNat = nodeVals s row (p.take m.toNat)) ∧ (o = (nodeVals s row (p.take m.toNat)).getLastD 1)) y) (cu [.int .i64, .int .i64, .list (.int .i64)] (fun (m : Int) (o : Int) (L : List Int) => ((p.length : Int) - m).toNat)) (cu [.int .i64, .int .i64, .list (.int .i64)] (fun (m : Int) (o : Int) (L : List Int) => ([] : List (Nat × Nat × LA)))))], ?_⟩
  repeat' (first
    | (
 with_reducible refine Side.mk ⟨(⟨⟩ : Tag 15), ?_⟩
 dsimp only [cu, joinT, ckTys, gts, Prod.eta, List.nil_append]
 refine ⟨?_, ?_⟩
 · omega
 · first
   | (simp; done)
   | (
  rw [drop_step _ _ (by omega)] at hr
  rw [hr, errFrom, if_pos (by assumption)]))
    | (
 with_reducible refine Side.mk ⟨(⟨⟩ : Tag 16), ?_⟩
 dsimp only [cu, joinT, ckTys, gts, Prod.eta, List.nil_append]
 refine ⟨?_, ?_, ?_, ?_⟩
 · omega
 · first
   | (simp; done)
   | (simpa using hL)
 · first
   | (simp [nodeVals]; done)
   | (
  rw [show (m + 1).toNat = m.toNat + 1 by omega, take_set_succ _ _ _ (by omega), ← show (m + 1).toNat = m.toNat + 1 by omega, take_step p m (by omega), nodeVals_snoc, ← hT]
  refine congrArg (fun z => _ ++ [z]) ?_
  have hn := node_shape (errFrom_zero_int hp m (by omega))
  grind [nodeVal, getElem!_take])
 · first
   | (simp [nodeVals]; done)
   | (
  rw [get!_set _ _ _ (by omega), take_step p m (by omega), nodeVals_snoc, ← hT]
  simp only [List.getLastD_concat]
  have hn := node_shape (errFrom_zero_int hp m (by omega))
  grind [nodeVal, getElem!_take]))
    | (
 with_reducible refine Side.mk ?_
 (try dsimp only [cu, joinT, ckTys, gts, loK, hiK, Prod.eta, List.nil_append])
 first
 | (done)
 | (with_reducible rfl)
 | (omega)
 | (exact Eq.refl _)
 | (simp only [List.length_append, List.length_cons, List.length_nil]; omega)
 | (exact hw _)
 | (
  have hpe : predErr s p = 0 := by assumption
  obtain ⟨hl64, hp, hse⟩ := pred_len hpe
  have hsl := schema_len hse
  omega)
 | (
  have hn := node_shape (errFrom_zero_int hp m (by omega))
  grind))
    | (conv => whnf
       first
        | done
        | exact trivial
        | with_reducible refine NilBr.mk (fun h => ?_) ?_
        | with_reducible first | refine w_andS ?_ ?_ | refine w_andL ?_ ?_ | refine w_kern (by kernel_rfl) ?_ | refine w_true ?_ | refine w_nd ?_ ?_ | refine w_in ?_ ?_ | refine w_and ?_ ?_
        | ((with_reducible first | refine w_brN (fun h => ?_) (fun h => ?_) | refine w_brD (fun h => ?_) (fun h => ?_) | refine w_br (fun h => ?_) (fun h => ?_)) <;> (try dsimp only [cu, Prod.eta, List.nil_append] at h) <;> (try (exfalso; omega; done)))
        | (
 intro yy (hy : Tag 15 ∧ _)
 obtain ⟨(k : Int), _⟩ := yy
 replace hy := hy.2
 dsimp only [cu, joinT, ckTys, gts, Prod.eta, List.nil_append] at hy
 obtain ⟨hk, hr⟩ := hy)
        | (
 intro yy (hy : Tag 16 ∧ _)
 obtain ⟨(m : Int), (o : Int), (L : List Int), _⟩ := yy
 replace hy := hy.2
 dsimp only [cu, joinT, ckTys, gts, Prod.eta, List.nil_append] at hy
 obtain ⟨hm, hL, hT, ho⟩ := hy
 obtain ⟨hl64, hp, hse⟩ := pred_len (s := s) (p := p) (by assumption)
 have hsl := schema_len hse)))
  all_goals (
 with_reducible refine Leaf.mk ?_
 (try dsimp only [cu, joinT, ckTys, gts, Prod.eta, List.nil_append] at *)
 first
 | (done)
 | (grind [evalV, evalE, rowErr])
 | (
  rw [drop_step _ _ (by omega), errFrom] at hr
  grind [evalV, evalE, rowErr])
 | (
  rw [drop_end _ k (by omega)] at hr
  rw [take_end _ m (by omega)] at ho
  grind [evalV, evalE, rowErr, evalT, errFrom]))
abbrev tb36 : Tbl := (11, c_eval_ok) :: tb35
theorem tb36_ok : TblOk Try.prog tb36 := TblOk.cons eval_ok tb35_ok

end Go.Proofs.Ytinehkfcploeiaa
