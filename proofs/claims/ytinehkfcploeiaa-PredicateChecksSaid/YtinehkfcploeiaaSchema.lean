/- Contracts of the schema checks. -/
import Derived.Test.YtinehkfcploeiaaVals
namespace Go.Proofs.Ytinehkfcploeiaa
open Go.Abs
set_option linter.unusedVariables false
set_option linter.unusedSimpArgs false


abbrev KEY : ByteArray := ⟨#[107, 101, 121]⟩
def okChar (first : Bool) (c : Int) : Bool := (decide (97 ≤ c) && decide (c ≤ 122)) || (!first && (decide (c = 95) || (decide (48 ≤ c) && decide (c ≤ 57))))
def okName (s : ByteArray) : Bool := decide (1 ≤ s.size) && decide (s.size ≤ 16) && !(decide (s = KEY)) && (List.range s.size).all (fun i => okChar (decide (i = 0)) (byteAt s i))
theorem okName_true {s : ByteArray} (h1 : 1 ≤ s.size) (h2 : s.size ≤ 16) (h3 : ¬ s = KEY) (h4 : ∀ i, i < s.size → okChar (decide (i = 0)) (byteAt s i) = true) : okName s = true := by
  simp only [okName, h3, Bool.and_eq_true, decide_eq_true_eq, List.all_eq_true, List.mem_range, decide_false]
  exact ⟨⟨⟨h1, h2⟩, rfl⟩, h4⟩
theorem okName_false {s : ByteArray} (i : Nat) (hi : i < s.size) (h : okChar (decide (i = 0)) (byteAt s i) = false) : okName s = false := by
  have : (List.range s.size).all (fun i => okChar (decide (i = 0)) (byteAt s i)) = false := by
    rw [List.all_eq_false]
    exact ⟨i, by simpa using hi, by simp [h]⟩
  simp [okName, this]
theorem okName_int {s : ByteArray} {k : Int} (h0 : 0 ≤ k ∧ k < s.size) (h : okChar (decide (k.toNat = 0)) (byteAt s k.toNat) = false) : okName s = false := okName_false k.toNat (by omega) h
def colIdx (name : ByteArray) (l : List Col) (k : Int) : Int := idxFrom (fun c => decide (c.1 = name)) k l
def okScale (c : Col) : Bool := decide (0 ≤ c.2.2.1) && decide (c.2.2.1 ≤ 18) && (decide (c.2.1 = 5) || decide (c.2.2.1 = 0))
def colErr (l : List Col) (i : Int) (c : Col) : Int := if okName c.1 = false then 3 else if colIdx c.1 l 0 < i then 5 else if vKnown c.2.1 = false then 11 else if okScale c = false then 4 else 0
def schemaErr (s : Schema) : Int := if s.1.length = 0 then 1 else if 12 < s.1.length then 7 else if errFrom (colErr s.1) 0 s.1 ≠ 0 then errFrom (colErr s.1) 0 s.1
  else if s.2 < 0 ∨ s.1.length ≤ s.2 then 4 else 0
theorem colIdx_found {name : ByteArray} {l : List Col} {k : Int} (j : Nat) (hj : j < k.toNat) (hl : k.toNat < l.length) (h : l[j]!.1 = name) : colIdx name l 0 < k := by
  rcases idxFrom_spec (fun c : Col => decide (c.1 = name)) l 0 with ⟨h1, h2⟩ | ⟨i, h1, h2, h3, h4⟩
  · have := h2 j (by omega); rw [decide_eq_true h] at this; cases this
  · rw [colIdx, h2]
    by_cases q : j < i
    · have := h4 j q; rw [decide_eq_true h] at this; cases this
    · omega
theorem colIdx_none {name : ByteArray} {l : List Col} {k : Int} (hk : 0 ≤ k ∧ k < l.length) (hn : l[k.toNat]!.1 = name) (h : ∀ j : Nat, j < k.toNat → ¬ l[j]!.1 = name) : ¬ colIdx name l 0 < k := by
  rcases idxFrom_spec (fun c : Col => decide (c.1 = name)) l 0 with ⟨h1, h2⟩ | ⟨i, h1, h2, h3, h4⟩
  · have := h2 k.toNat (by omega); rw [decide_eq_true hn] at this; cases this
  · rw [colIdx, h2]
    intro q
    exact h i (by omega) (of_decide_eq_true h3)

abbrev c_name_ok : Ct := .fn [.str] (none) (fun (s : ByteArray) => .d .bool (okName s))
set_option maxRecDepth 100000 in
set_option maxHeartbeats 4000000 in
theorem name_ok : CtOk Try.prog 48 c_name_ok := by
  refine CtOk.fn tb12_ok mixed [] [] rfl rfl ?_
  rintro ⟨(s : ByteArray), _⟩ -
  refine ⟨[(0, 8, LA.mk [.sl 28 (.int .i64)] (fun y => Tag 1 ∧ cu [.int .i64] (fun (k : Int) => (0 ≤ k ∧ k ≤ s.size) ∧ (∀ i : Nat, i < k.toNat → okChar (decide (i = 0)) (byteAt s i) = true)) y) (cu [.int .i64] (fun (k : Int) => ((s.size : Int) - k).toNat)) (cu [.int .i64] (fun (k : Int) => ([] : List (Nat × Nat × LA)))))], ?_⟩
  repeat' (first
    | (
 with_reducible refine Side.mk ⟨(⟨⟩ : Tag 1), ?_⟩
 dsimp only [cu, joinT, ckTys, gts, Prod.eta, List.nil_append]
 refine ⟨?_, ?_⟩
 · omega
 · first
   | (intro i hi; simp at hi; done)
   | (
  intro i hi
  by_cases q : i < k.toNat
  · exact hall i q
  · have e : i = k.toNat := by omega
    subst e
    have : (k = 0) = (k.toNat = 0) := by apply propext; omega
    grind [okChar]))
    | (
 with_reducible refine Side.mk ?_
 (try dsimp only [cu, joinT, ckTys, gts, loK, hiK, Prod.eta, List.nil_append])
 first
 | (done)
 | (with_reducible rfl)
 | (omega)
 | (exact Eq.refl _)
 | (simp only [List.length_append, List.length_cons, List.length_nil]; omega)
 | (have := size_pos (s := s) (by assumption); omega))
    | (conv => whnf
       first
        | done
        | exact trivial
        | with_reducible refine NilBr.mk (fun h => ?_) ?_
        | with_reducible first | refine w_andS ?_ ?_ | refine w_andL ?_ ?_ | refine w_kern (by kernel_rfl) ?_ | refine w_true ?_ | refine w_nd ?_ ?_ | refine w_in ?_ ?_ | refine w_and ?_ ?_
        | ((with_reducible first | refine w_brN (fun h => ?_) (fun h => ?_) | refine w_brD (fun h => ?_) (fun h => ?_) | refine w_br (fun h => ?_) (fun h => ?_)) <;> (try dsimp only [cu, Prod.eta, List.nil_append] at h) <;> (try (exfalso; omega; done)))
        | (
 intro yy (hy : Tag 1 ∧ _)
 obtain ⟨(k : Int), _⟩ := yy
 replace hy := hy.2
 dsimp only [cu, joinT, ckTys, gts, Prod.eta, List.nil_append] at hy
 obtain ⟨hk, hall⟩ := hy)))
  all_goals (
 with_reducible refine Leaf.mk ?_
 (try dsimp only [cu, joinT, ckTys, gts, Prod.eta, List.nil_append] at *)
 first
 | (done)
 | (subst_vars; rfl)
 | (rw [okName_true] <;> grind [size_pos])
 | (
  rw [okName_false 0 (by have := size_pos (by assumption); omega)]
  grind [okChar])
 | (
  rw [okName_int (k := k) (by omega)]
  grind [okChar])
 | (grind [okName, okChar]))
abbrev tb13 : Tbl := (48, c_name_ok) :: tb12
theorem tb13_ok : TblOk Try.prog tb13 := TblOk.cons name_ok tb12_ok

abbrev c_rname_ok : Ct := .fn [.str] (none) (fun (s : ByteArray) => .d .bool (okName s))
set_option maxRecDepth 100000 in
set_option maxHeartbeats 4000000 in
theorem rname_ok : CtOk Try.prog 50 c_rname_ok := by
  refine CtOk.fn tb13_ok mixed [] [] rfl rfl ?_
  rintro ⟨(s : ByteArray), _⟩ -
  refine ⟨[(0, 8, LA.mk [.sl 3 (.int .i64)] (fun y => Tag 2 ∧ cu [.int .i64] (fun (k : Int) => (0 ≤ k ∧ k ≤ s.size) ∧ (∀ i : Nat, i < k.toNat → okChar (decide (i = 0)) (byteAt s i) = true)) y) (cu [.int .i64] (fun (k : Int) => ((s.size : Int) - k).toNat)) (cu [.int .i64] (fun (k : Int) => ([] : List (Nat × Nat × LA)))))], ?_⟩
  repeat' (first
    | (
 with_reducible refine Side.mk ⟨(⟨⟩ : Tag 2), ?_⟩
 dsimp only [cu, joinT, ckTys, gts, Prod.eta, List.nil_append]
 refine ⟨?_, ?_⟩
 · omega
 · first
   | (intro i hi; simp at hi; done)
   | (
  intro i hi
  by_cases q : i < k.toNat
  · exact hall i q
  · have e : i = k.toNat := by omega
    subst e
    have : (k = 0) = (k.toNat = 0) := by apply propext; omega
    grind [okChar]))
    | (
 with_reducible refine Side.mk ?_
 (try dsimp only [cu, joinT, ckTys, gts, loK, hiK, Prod.eta, List.nil_append])
 first
 | (done)
 | (with_reducible rfl)
 | (omega)
 | (exact Eq.refl _)
 | (simp only [List.length_append, List.length_cons, List.length_nil]; omega)
 | (have := size_pos (s := s) (by assumption); omega))
    | (conv => whnf
       first
        | done
        | exact trivial
        | with_reducible refine NilBr.mk (fun h => ?_) ?_
        | with_reducible first | refine w_andS ?_ ?_ | refine w_andL ?_ ?_ | refine w_kern (by kernel_rfl) ?_ | refine w_true ?_ | refine w_nd ?_ ?_ | refine w_in ?_ ?_ | refine w_and ?_ ?_
        | ((with_reducible first | refine w_brN (fun h => ?_) (fun h => ?_) | refine w_brD (fun h => ?_) (fun h => ?_) | refine w_br (fun h => ?_) (fun h => ?_)) <;> (try dsimp only [cu, Prod.eta, List.nil_append] at h) <;> (try (exfalso; omega; done)))
        | (
 intro yy (hy : Tag 2 ∧ _)
 obtain ⟨(k : Int), _⟩ := yy
 replace hy := hy.2
 dsimp only [cu, joinT, ckTys, gts, Prod.eta, List.nil_append] at hy
 obtain ⟨hk, hall⟩ := hy)))
  all_goals (
 with_reducible refine Leaf.mk ?_
 (try dsimp only [cu, joinT, ckTys, gts, Prod.eta, List.nil_append] at *)
 first
 | (done)
 | (subst_vars; rfl)
 | (rw [okName_true] <;> grind [size_pos])
 | (
  rw [okName_false 0 (by have := size_pos (by assumption); omega)]
  grind [okChar])
 | (
  rw [okName_int (k := k) (by omega)]
  grind [okChar])
 | (grind [okName, okChar]))
abbrev tb14 : Tbl := (50, c_rname_ok) :: tb13
theorem tb14_ok : TblOk Try.prog tb14 := TblOk.cons rname_ok tb13_ok

abbrev c_find_ok : Ct := .fn [tSchema, .str] (some (fun (s : Schema) (name : ByteArray) => (s.1.length ≤ 9223372036854775807))) (fun (s : Schema) (name : ByteArray) => .d (.int .i64) (colIdx name s.1 0))
set_option maxRecDepth 100000 in
set_option maxHeartbeats 4000000 in
theorem find_ok : CtOk Try.prog 49 c_find_ok := by
  refine CtOk.fn tb14_ok mixed [] [65, 66] rfl rfl ?_
  rintro ⟨(s : Schema), (name : ByteArray), _⟩ hpre
  replace hpre := hpre _ rfl
  dsimp only [cu] at hpre
  have hl := hpre
  refine ⟨[(65, 4, LA.mk [.sl 8 (.int .i64)] (fun y => Tag 3 ∧ cu [.int .i64] (fun (k : Int) => (0 ≤ k ∧ k ≤ s.1.length) ∧ (colIdx name s.1 0 = colIdx name (s.1.drop k.toNat) k)) y) (cu [.int .i64] (fun (k : Int) => ((s.1.length : Int) - k).toNat)) (cu [.int .i64] (fun (k : Int) => ([] : List (Nat × Nat × LA)))))], ?_⟩
  repeat' (first
    | (
 with_reducible refine Side.mk ⟨(⟨⟩ : Tag 3), ?_⟩
 dsimp only [cu, joinT, ckTys, gts, Prod.eta, List.nil_append]
 refine ⟨?_, ?_⟩
 · omega
 · first
   | (simp; done)
   | (
  rw [drop_step _ _ (by omega)] at hi
  simp only [colIdx, idxFrom] at hi ⊢
  rw [hi]
  grind))
    | (
 with_reducible refine Side.mk ?_
 (try dsimp only [cu, joinT, ckTys, gts, loK, hiK, Prod.eta, List.nil_append])
 first
 | (done)
 | (with_reducible rfl)
 | (omega)
 | (exact Eq.refl _)
 | (simp only [List.length_append, List.length_cons, List.length_nil]; omega)
 | (grind))
    | (conv => whnf
       first
        | done
        | exact trivial
        | with_reducible refine NilBr.mk (fun h => ?_) ?_
        | with_reducible first | refine w_andS ?_ ?_ | refine w_andL ?_ ?_ | refine w_kern (by kernel_rfl) ?_ | refine w_true ?_ | refine w_nd ?_ ?_ | refine w_in ?_ ?_ | refine w_and ?_ ?_
        | ((with_reducible first | refine w_brN (fun h => ?_) (fun h => ?_) | refine w_brD (fun h => ?_) (fun h => ?_) | refine w_br (fun h => ?_) (fun h => ?_)) <;> (try dsimp only [cu, Prod.eta, List.nil_append] at h) <;> (try (exfalso; omega; done)))
        | (
 intro yy (hy : Tag 3 ∧ _)
 obtain ⟨(k : Int), _⟩ := yy
 replace hy := hy.2
 dsimp only [cu, joinT, ckTys, gts, Prod.eta, List.nil_append] at hy
 obtain ⟨hk, hi⟩ := hy)))
  all_goals (
 with_reducible refine Leaf.mk ?_
 (try dsimp only [cu, joinT, ckTys, gts, Prod.eta, List.nil_append] at *)
 first
 | (done)
 | (
  rw [hi, drop_step _ _ (by omega)]
  simp only [colIdx, idxFrom]
  grind)
 | (
  rw [hi, drop_end _ _ (by omega)]
  rfl))
abbrev tb15 : Tbl := (49, c_find_ok) :: tb14
theorem tb15_ok : TblOk Try.prog tb15 := TblOk.cons find_ok tb14_ok

abbrev c_schema_ok : Ct := .fn [tSchema] (none) (fun (s : Schema) => .d (.int .i64) (schemaErr s))
set_option maxRecDepth 100000 in
set_option maxHeartbeats 4000000 in
theorem schema_ok : CtOk Try.prog 29 c_schema_ok := by
  refine CtOk.fn tb15_ok mixed [] [] rfl rfl ?_
  rintro ⟨(s : Schema), _⟩ -
  refine ⟨[(0, 12, LA.mk [.sl 18 (.int .i64)] (fun y => Tag 4 ∧ cu [.int .i64] (fun (k : Int) => (0 ≤ k ∧ k ≤ s.1.length) ∧ (errFrom (colErr s.1) 0 s.1 = errFrom (colErr s.1) k (s.1.drop k.toNat))) y) (cu [.int .i64] (fun (k : Int) => ((s.1.length : Int) - k).toNat)) (cu [.int .i64] (fun (k : Int) => ([] : List (Nat × Nat × LA)))))], ?_⟩
  repeat' (first
    | (
 with_reducible refine Side.mk ⟨(⟨⟩ : Tag 4), ?_⟩
 dsimp only [cu, joinT, ckTys, gts, Prod.eta, List.nil_append]
 refine ⟨?_, ?_⟩
 · omega
 · first
   | (simp; done)
   | (
  rw [drop_step _ _ (by omega)] at hi
  rw [hi, errFrom, if_pos (by grind [colErr, okScale, vKnown])]))
    | (
 with_reducible refine Side.mk ?_
 (try dsimp only [cu, joinT, ckTys, gts, loK, hiK, Prod.eta, List.nil_append])
 first
 | (done)
 | (with_reducible rfl)
 | (omega)
 | (exact Eq.refl _)
 | (simp only [List.length_append, List.length_cons, List.length_nil]; omega)
 | (grind))
    | (conv => whnf
       first
        | done
        | exact trivial
        | with_reducible refine NilBr.mk (fun h => ?_) ?_
        | with_reducible first | refine w_andS ?_ ?_ | refine w_andL ?_ ?_ | refine w_kern (by kernel_rfl) ?_ | refine w_true ?_ | refine w_nd ?_ ?_ | refine w_in ?_ ?_ | refine w_and ?_ ?_
        | ((with_reducible first | refine w_brN (fun h => ?_) (fun h => ?_) | refine w_brD (fun h => ?_) (fun h => ?_) | refine w_br (fun h => ?_) (fun h => ?_)) <;> (try dsimp only [cu, Prod.eta, List.nil_append] at h) <;> (try (exfalso; omega; done)))
        | (
 intro yy (hy : Tag 4 ∧ _)
 obtain ⟨(k : Int), _⟩ := yy
 replace hy := hy.2
 dsimp only [cu, joinT, ckTys, gts, Prod.eta, List.nil_append] at hy
 obtain ⟨hk, hi⟩ := hy)))
  all_goals (
 with_reducible refine Leaf.mk ?_
 (try dsimp only [cu, joinT, ckTys, gts, Prod.eta, List.nil_append] at *)
 first
 | (done)
 | (grind [schemaErr])
 | (
  have e : errFrom (colErr s.1) 0 s.1 = colErr s.1 k s.1[k.toNat]! := (by rw [hi, drop_step _ _ (by omega), errFrom]; grind [colErr, vKnown, okScale])
  grind [schemaErr, colErr, vKnown, okScale])
 | (
  rw [drop_end _ _ (by omega)] at hi
  grind [schemaErr, errFrom]))
abbrev tb16 : Tbl := (29, c_schema_ok) :: tb15
theorem tb16_ok : TblOk Try.prog tb16 := TblOk.cons schema_ok tb15_ok

abbrev c_rschema_ok : Ct := .fn [tSchema] (none) (fun (s : Schema) => .d (.int .i64) (schemaErr s))
set_option maxRecDepth 100000 in
set_option maxHeartbeats 4000000 in
theorem rschema_ok : CtOk Try.prog 31 c_rschema_ok := by
  refine CtOk.fn tb16_ok mixed [] [] rfl rfl ?_
  rintro ⟨(s : Schema), _⟩ -
  refine ⟨[(0, 12, LA.mk [.sl 18 (.int .i64)] (fun y => Tag 5 ∧ cu [.int .i64] (fun (k : Int) => (0 ≤ k ∧ k ≤ s.1.length) ∧ (errFrom (colErr s.1) 0 s.1 = errFrom (colErr s.1) k (s.1.drop k.toNat))) y) (cu [.int .i64] (fun (k : Int) => ((s.1.length : Int) - k).toNat)) (cu [.int .i64] (fun (k : Int) => ([(0, 22, LA.mk [.sl 32 (.int .i64)] (fun y => Tag 6 ∧ cu [.int .i64] (fun (j : Int) => (0 ≤ j ∧ j ≤ k) ∧ (∀ i : Nat, i < j.toNat → ¬ s.1[i]!.1 = s.1[k.toNat]!.1)) y) (cu [.int .i64] (fun (j : Int) => (k - j).toNat)) (cu [.int .i64] (fun (j : Int) => ([] : List (Nat × Nat × LA)))))] : List (Nat × Nat × LA)))))], ?_⟩
  repeat' (first
    | (
 with_reducible refine Side.mk ⟨(⟨⟩ : Tag 5), ?_⟩
 dsimp only [cu, joinT, ckTys, gts, Prod.eta, List.nil_append]
 refine ⟨?_, ?_⟩
 · omega
 · first
   | (simp; done)
   | (
  have hcol := colIdx_none (l := s.1) (k := k) (by omega) rfl (fun i hi => hd i (by have := List.length_take (i := k.toNat) (l := s.1); omega))
  rw [drop_step _ _ (by omega)] at hi
  rw [hi, errFrom, if_pos (by grind [colErr, okScale, vKnown])]))
    | (
 with_reducible refine Side.mk ⟨(⟨⟩ : Tag 6), ?_⟩
 dsimp only [cu, joinT, ckTys, gts, Prod.eta, List.nil_append]
 refine ⟨?_, ?_⟩
 · first
   | (omega)
   | (have := List.length_take (i := k.toNat) (l := s.1); omega)
 · first
   | (intro i hi; simp at hi; done)
   | (
  intro i hi
  by_cases q : i < j.toNat
  · exact hd i q
  · have e : i = j.toNat := by omega
    subst e
    rw [← getElem!_take s.1 k.toNat j.toNat (by have := List.length_take (i := k.toNat) (l := s.1); omega)]
    assumption))
    | (
 with_reducible refine Side.mk ?_
 (try dsimp only [cu, joinT, ckTys, gts, loK, hiK, Prod.eta, List.nil_append])
 first
 | (done)
 | (with_reducible rfl)
 | (omega)
 | (exact Eq.refl _)
 | (simp only [List.length_append, List.length_cons, List.length_nil]; omega)
 | (have := List.length_take (i := k.toNat) (l := s.1); omega))
    | (conv => whnf
       first
        | done
        | exact trivial
        | with_reducible refine NilBr.mk (fun h => ?_) ?_
        | with_reducible first | refine w_andS ?_ ?_ | refine w_andL ?_ ?_ | refine w_kern (by kernel_rfl) ?_ | refine w_true ?_ | refine w_nd ?_ ?_ | refine w_in ?_ ?_ | refine w_and ?_ ?_
        | ((with_reducible first | refine w_brN (fun h => ?_) (fun h => ?_) | refine w_brD (fun h => ?_) (fun h => ?_) | refine w_br (fun h => ?_) (fun h => ?_)) <;> (try dsimp only [cu, Prod.eta, List.nil_append] at h) <;> (try (exfalso; omega; done)))
        | (
 intro yy (hy : Tag 5 ∧ _)
 obtain ⟨(k : Int), _⟩ := yy
 replace hy := hy.2
 dsimp only [cu, joinT, ckTys, gts, Prod.eta, List.nil_append] at hy
 obtain ⟨hk, hi⟩ := hy)
        | (
 intro yy (hy : Tag 6 ∧ _)
 obtain ⟨(j : Int), _⟩ := yy
 replace hy := hy.2
 dsimp only [cu, joinT, ckTys, gts, Prod.eta, List.nil_append] at hy
 obtain ⟨hj, hd⟩ := hy)))
  all_goals (
 with_reducible refine Leaf.mk ?_
 (try dsimp only [cu, joinT, ckTys, gts, Prod.eta, List.nil_append] at *)
 first
 | (done)
 | (grind [schemaErr])
 | (
  have hjk : j < k := by have := List.length_take (i := k.toNat) (l := s.1); omega
  have hcol := colIdx_found (name := s.1[k.toNat]!.1) (l := s.1) (k := k) j.toNat (by omega) (by omega) (by rw [← getElem!_take s.1 k.toNat j.toNat (by omega)]; assumption)
  have e : errFrom (colErr s.1) 0 s.1 = colErr s.1 k s.1[k.toNat]! := (by rw [hi, drop_step _ _ (by omega), errFrom]; grind [colErr, vKnown, okScale])
  grind [schemaErr, colErr, vKnown, okScale])
 | (
  have hcol := colIdx_none (l := s.1) (k := k) (by omega) rfl (fun i hi => hd i (by have := List.length_take (i := k.toNat) (l := s.1); omega))
  have e : errFrom (colErr s.1) 0 s.1 = colErr s.1 k s.1[k.toNat]! := (by rw [hi, drop_step _ _ (by omega), errFrom]; grind [colErr, vKnown, okScale])
  grind [schemaErr, colErr, vKnown, okScale])
 | (
  have e : errFrom (colErr s.1) 0 s.1 = colErr s.1 k s.1[k.toNat]! := (by rw [hi, drop_step _ _ (by omega), errFrom]; grind [colErr, vKnown, okScale])
  grind [schemaErr, colErr, vKnown, okScale])
 | (
  rw [drop_end _ _ (by omega)] at hi
  grind [schemaErr, errFrom]))
abbrev tb17 : Tbl := (31, c_rschema_ok) :: tb16
theorem tb17_ok : TblOk Try.prog tb17 := TblOk.cons rschema_ok tb16_ok

end Go.Proofs.Ytinehkfcploeiaa
