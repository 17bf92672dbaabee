/- Contracts of the helpers of the statements. -/
import Derived.Test.YtinehkfcploeiaaRows
import Derived.Test.YtinehkfcploeiaaAbsZc
namespace Go.Proofs.Ytinehkfcploeiaa
open Go.Abs
set_option linter.unusedVariables false
set_option linter.unusedSimpArgs false

theorem mixed : Try.prog.follows .mixedOrders = true := by kernel_rfl
structure Tag (n : Nat) : Prop where
@[reducible] instance : Inhabited Int := instInhabitedDen (.int .i64)
@[reducible] instance : Inhabited Bool := instInhabitedDen .bool
@[reducible] instance : Inhabited ByteArray := instInhabitedDen .str

abbrev tVal : Ty := .pair .bool (.pair (.int .i64) .str)
abbrev Val : Type := Bool × Int × ByteArray
@[reducible] instance : Inhabited Val := instInhabitedDen tVal

abbrev tCol : Ty := .pair .str (.pair (.int .i64) (.pair (.int .i64) .bool))
abbrev Col : Type := ByteArray × Int × Int × Bool
@[reducible] instance : Inhabited Col := instInhabitedDen tCol

abbrev tSchema : Ty := .pair (.list tCol) (.int .i64)
abbrev Schema : Type := (List Col) × Int
@[reducible] instance : Inhabited Schema := instInhabitedDen tSchema


abbrev EMP : ByteArray := ⟨#[]⟩
def vKnown (t : Int) : Bool := decide (1 ≤ t) && decide (t ≤ 5)
def vPermitted (t : Int) (v : Val) : Bool :=
  if t = 2 then decide (v.2.1 = 0) || decide (v.2.1 = 1) else if t = 4 then decide (-719162 ≤ v.2.1) && decide (v.2.1 ≤ 2932896)
  else if t = 5 then decide (-999999999999999999 ≤ v.2.1) && decide (v.2.1 ≤ 999999999999999999) else if t = 3 then decide (v.2.2.size ≤ 64) else true
def vCheck (c : Col) (v : Val) : Int :=
  if vKnown c.2.1 = false then 1 else if (v.1 = true ∨ c.2.1 ≠ 3) ∧ v.2.2 ≠ EMP then 11 else if (v.1 = true ∨ c.2.1 = 3) ∧ v.2.1 ≠ 0 then 11
  else if v.1 = true ∧ c.2.2.2 = false then 12 else if v.1 = false ∧ vPermitted c.2.1 v = false then 4 else 0
def intCmp (a b : Int) : Int := if a < b then -1 else if a > b then 1 else 0
def strCmp (a b : ByteArray) : Int := if strLt a b then -1 else if a = b then 0 else 1
def vCompare (t : Int) (a b : Val) : Int :=
  if a.1 = true ∧ b.1 = true then 0 else if a.1 = true then -1 else if b.1 = true then 1 else if t = 3 then strCmp a.2.2 b.2.2 else intCmp a.2.1 b.2.1
theorem size_pos {s : ByteArray} (h : ¬ s = ⟨#[]⟩) : 0 < s.size := by
  rcases Nat.eq_zero_or_pos s.size with q | q
  · exfalso; apply h
    apply ByteArray.ext
    exact Array.eq_empty_of_size_eq_zero q
  · exact q
theorem bytesLess_irrefl : ∀ l : List UInt8, Op.bytesLess l l = false
  | [] => rfl
  | a :: x => by simp [Op.bytesLess, bytesLess_irrefl x]
theorem bytesLess_asymm : ∀ a b : List UInt8, Op.bytesLess a b = true → Op.bytesLess b a = false
  | [], [], _ => rfl
  | [], _ :: _, _ => rfl
  | _ :: _, [], h => by simp [Op.bytesLess] at h
  | a :: x, b :: y, h => by
    simp only [Op.bytesLess, Bool.or_eq_true, Bool.and_eq_true, decide_eq_true_eq, beq_iff_eq] at h
    simp only [Op.bytesLess, Bool.or_eq_false_iff, Bool.and_eq_false_iff, decide_eq_false_iff_not]
    rcases h with h | ⟨rfl, h⟩
    · exact ⟨fun q => absurd (UInt8.lt_trans h q) (UInt8.lt_irrefl _), .inl (by simpa using fun e => UInt8.lt_irrefl _ (by rw [e] at h; exact h))⟩
    · exact ⟨UInt8.lt_irrefl _, .inr (bytesLess_asymm x y h)⟩
theorem bytesLess_total : ∀ a b : List UInt8, Op.bytesLess a b = false → Op.bytesLess b a = false → a = b
  | [], [], _, _ => rfl
  | [], _ :: _, h, _ => by simp [Op.bytesLess] at h
  | _ :: _, [], _, h => by simp [Op.bytesLess] at h
  | a :: x, b :: y, h1, h2 => by
    simp only [Op.bytesLess, Bool.or_eq_false_iff, Bool.and_eq_false_iff, decide_eq_false_iff_not] at h1 h2
    have e : a = b := UInt8.le_antisymm (UInt8.not_lt.1 h2.1) (UInt8.not_lt.1 h1.1)
    subst e
    rw [bytesLess_total x y (by simpa using h1.2) (by simpa using h2.2)]
theorem strLt_irrefl (a : ByteArray) : strLt a a = false := bytesLess_irrefl _
theorem strCmp_alt (a b : ByteArray) : strCmp a b = if strLt a b then -1 else if strLt b a then 1 else 0 := by
  unfold strCmp
  by_cases h : strLt a b = true
  · simp [h]
  · by_cases e : a = b
    · subst e; simp [strLt_irrefl]
    · have h2 : strLt b a = true := by
        cases q : strLt b a with
        | true => rfl
        | false => exact absurd (str_inj (bytesLess_total _ _ (by simpa [strLt] using h) (by simpa [strLt] using q))) e
      simp [h, e, h2]

abbrev c_known_ok : Ct := .fn [.int .i64] (none) (fun (t : Int) => .d .bool (vKnown t))
set_option maxRecDepth 100000 in
set_option maxHeartbeats 4000000 in
theorem known_ok : CtOk Try.prog 42 c_known_ok := by
  refine CtOk.fn TblOk.nil mixed [] [] rfl rfl ?_
  rintro ⟨(t : Int), _⟩ -
  refine ⟨[], ?_⟩
  repeat' (first
    | (
 with_reducible refine Side.mk ?_
 (try dsimp only [cu, joinT, ckTys, gts, loK, hiK, Prod.eta, List.nil_append])
 first
 | (done)
 | (with_reducible rfl)
 | (omega)
 | (exact Eq.refl _)
 | (simp only [List.length_append, List.length_cons, List.length_nil]; omega)
 | (grind))
    | (conv => whnf
       first
        | done
        | exact trivial
        | with_reducible refine NilBr.mk (fun h => ?_) ?_
        | with_reducible first | refine w_andS ?_ ?_ | refine w_andL ?_ ?_ | refine w_kern (by kernel_rfl) ?_ | refine w_true ?_ | refine w_nd ?_ ?_ | refine w_in ?_ ?_ | refine w_and ?_ ?_
        | ((with_reducible first | refine w_brN (fun h => ?_) (fun h => ?_) | refine w_brD (fun h => ?_) (fun h => ?_) | refine w_br (fun h => ?_) (fun h => ?_)) <;> (try dsimp only [cu, Prod.eta, List.nil_append] at h) <;> (try (exfalso; omega; done)))))
  all_goals (
 with_reducible refine Leaf.mk ?_
 (try dsimp only [cu, joinT, ckTys, gts, Prod.eta, List.nil_append] at *)
 first
 | (done)
 | (grind [vKnown]))
abbrev tb1 : Tbl := (42, c_known_ok) :: ([] : Tbl)
theorem tb1_ok : TblOk Try.prog tb1 := TblOk.cons known_ok TblOk.nil

abbrev c_permitted_ok : Ct := .fn [.int .i64, tVal] (none) (fun (t : Int) (v : Val) => .d .bool (vPermitted t v))
set_option maxRecDepth 100000 in
set_option maxHeartbeats 4000000 in
theorem permitted_ok : CtOk Try.prog 43 c_permitted_ok := by
  refine CtOk.fn tb1_ok mixed [] [] rfl rfl ?_
  rintro ⟨(t : Int), (v : Val), _⟩ -
  refine ⟨[], ?_⟩
  repeat' (first
    | (
 with_reducible refine Side.mk ?_
 (try dsimp only [cu, joinT, ckTys, gts, loK, hiK, Prod.eta, List.nil_append])
 first
 | (done)
 | (with_reducible rfl)
 | (omega)
 | (exact Eq.refl _)
 | (simp only [List.length_append, List.length_cons, List.length_nil]; omega)
 | (grind))
    | (conv => whnf
       first
        | done
        | exact trivial
        | with_reducible refine NilBr.mk (fun h => ?_) ?_
        | with_reducible first | refine w_andS ?_ ?_ | refine w_andL ?_ ?_ | refine w_kern (by kernel_rfl) ?_ | refine w_true ?_ | refine w_nd ?_ ?_ | refine w_in ?_ ?_ | refine w_and ?_ ?_
        | ((with_reducible first | refine w_brN (fun h => ?_) (fun h => ?_) | refine w_brD (fun h => ?_) (fun h => ?_) | refine w_br (fun h => ?_) (fun h => ?_)) <;> (try dsimp only [cu, Prod.eta, List.nil_append] at h) <;> (try (exfalso; omega; done)))))
  all_goals (
 with_reducible refine Leaf.mk ?_
 (try dsimp only [cu, joinT, ckTys, gts, Prod.eta, List.nil_append] at *)
 first
 | (done)
 | (grind [vPermitted]))
abbrev tb2 : Tbl := (43, c_permitted_ok) :: tb1
theorem tb2_ok : TblOk Try.prog tb2 := TblOk.cons permitted_ok tb1_ok

abbrev c_vCheck_ok : Ct := .fn [tCol, tVal] (none) (fun (c : Col) (v : Val) => .d (.int .i64) (vCheck c v))
set_option maxRecDepth 100000 in
set_option maxHeartbeats 4000000 in
theorem vCheck_ok : CtOk Try.prog 26 c_vCheck_ok := by
  refine CtOk.fn tb2_ok mixed [] [] rfl rfl ?_
  rintro ⟨(c : Col), (v : Val), _⟩ -
  refine ⟨[], ?_⟩
  repeat' (first
    | (
 with_reducible refine Side.mk ?_
 (try dsimp only [cu, joinT, ckTys, gts, loK, hiK, Prod.eta, List.nil_append])
 first
 | (done)
 | (with_reducible rfl)
 | (omega)
 | (exact Eq.refl _)
 | (simp only [List.length_append, List.length_cons, List.length_nil]; omega)
 | (grind))
    | (conv => whnf
       first
        | done
        | exact trivial
        | with_reducible refine NilBr.mk (fun h => ?_) ?_
        | with_reducible first | refine w_andS ?_ ?_ | refine w_andL ?_ ?_ | refine w_kern (by kernel_rfl) ?_ | refine w_true ?_ | refine w_nd ?_ ?_ | refine w_in ?_ ?_ | refine w_and ?_ ?_
        | ((with_reducible first | refine w_brN (fun h => ?_) (fun h => ?_) | refine w_brD (fun h => ?_) (fun h => ?_) | refine w_br (fun h => ?_) (fun h => ?_)) <;> (try dsimp only [cu, Prod.eta, List.nil_append] at h) <;> (try (exfalso; omega; done)))))
  all_goals (
 with_reducible refine Leaf.mk ?_
 (try dsimp only [cu, joinT, ckTys, gts, Prod.eta, List.nil_append] at *)
 first
 | (done)
 | (grind [vCheck, vKnown, vPermitted, vCompare, intCmp]))
abbrev tb3 : Tbl := (26, c_vCheck_ok) :: tb2
theorem tb3_ok : TblOk Try.prog tb3 := TblOk.cons vCheck_ok tb2_ok

abbrev c_isNaNs_ok : Ct := .fn [.str] (none) (fun (a : ByteArray) => .d .bool false)
set_option maxRecDepth 100000 in
set_option maxHeartbeats 4000000 in
theorem isNaNs_ok : CtOk Try.prog 82 c_isNaNs_ok := by
  refine CtOk.fn tb3_ok mixed [] [] rfl rfl ?_
  rintro ⟨(a : ByteArray), _⟩ -
  refine ⟨[], ?_⟩
  repeat' (first
    | (
 with_reducible refine Side.mk ?_
 (try dsimp only [cu, joinT, ckTys, gts, loK, hiK, Prod.eta, List.nil_append])
 first
 | (done)
 | (with_reducible rfl)
 | (omega)
 | (exact Eq.refl _)
 | (simp only [List.length_append, List.length_cons, List.length_nil]; omega)
 | (grind))
    | (conv => whnf
       first
        | done
        | exact trivial
        | with_reducible refine NilBr.mk (fun h => ?_) ?_
        | with_reducible first | refine w_andS ?_ ?_ | refine w_andL ?_ ?_ | refine w_kern (by kernel_rfl) ?_ | refine w_true ?_ | refine w_nd ?_ ?_ | refine w_in ?_ ?_ | refine w_and ?_ ?_
        | ((with_reducible first | refine w_brN (fun h => ?_) (fun h => ?_) | refine w_brD (fun h => ?_) (fun h => ?_) | refine w_br (fun h => ?_) (fun h => ?_)) <;> (try dsimp only [cu, Prod.eta, List.nil_append] at h) <;> (try (exfalso; omega; done)))))
  all_goals (
 with_reducible refine Leaf.mk ?_
 (try dsimp only [cu, joinT, ckTys, gts, Prod.eta, List.nil_append] at *)
 first
 | (done)
 | (simp))
abbrev tb4 : Tbl := (82, c_isNaNs_ok) :: tb3
theorem tb4_ok : TblOk Try.prog tb4 := TblOk.cons isNaNs_ok tb3_ok

abbrev c_isNaN64_ok : Ct := .fn [.int .i64] (none) (fun (a : Int) => .d .bool false)
set_option maxRecDepth 100000 in
set_option maxHeartbeats 4000000 in
theorem isNaN64_ok : CtOk Try.prog 83 c_isNaN64_ok := by
  refine CtOk.fn tb4_ok mixed [] [] rfl rfl ?_
  rintro ⟨(a : Int), _⟩ -
  refine ⟨[], ?_⟩
  repeat' (first
    | (
 with_reducible refine Side.mk ?_
 (try dsimp only [cu, joinT, ckTys, gts, loK, hiK, Prod.eta, List.nil_append])
 first
 | (done)
 | (with_reducible rfl)
 | (omega)
 | (exact Eq.refl _)
 | (simp only [List.length_append, List.length_cons, List.length_nil]; omega)
 | (grind))
    | (conv => whnf
       first
        | done
        | exact trivial
        | with_reducible refine NilBr.mk (fun h => ?_) ?_
        | with_reducible first | refine w_andS ?_ ?_ | refine w_andL ?_ ?_ | refine w_kern (by kernel_rfl) ?_ | refine w_true ?_ | refine w_nd ?_ ?_ | refine w_in ?_ ?_ | refine w_and ?_ ?_
        | ((with_reducible first | refine w_brN (fun h => ?_) (fun h => ?_) | refine w_brD (fun h => ?_) (fun h => ?_) | refine w_br (fun h => ?_) (fun h => ?_)) <;> (try dsimp only [cu, Prod.eta, List.nil_append] at h) <;> (try (exfalso; omega; done)))))
  all_goals (
 with_reducible refine Leaf.mk ?_
 (try dsimp only [cu, joinT, ckTys, gts, Prod.eta, List.nil_append] at *)
 first
 | (done)
 | (simp))
abbrev tb5 : Tbl := (83, c_isNaN64_ok) :: tb4
theorem tb5_ok : TblOk Try.prog tb5 := TblOk.cons isNaN64_ok tb4_ok

abbrev c_cmp64_ok : Ct := .fn [.int .i64, .int .i64] (none) (fun (a : Int) (b : Int) => .d (.int .i64) (intCmp a b))
set_option maxRecDepth 100000 in
set_option maxHeartbeats 4000000 in
theorem cmp64_ok : CtOk Try.prog 63 c_cmp64_ok := by
  refine CtOk.fn tb5_ok mixed [] [] rfl rfl ?_
  rintro ⟨(a : Int), (b : Int), _⟩ -
  refine ⟨[], ?_⟩
  repeat' (first
    | (
 with_reducible refine Side.mk ?_
 (try dsimp only [cu, joinT, ckTys, gts, loK, hiK, Prod.eta, List.nil_append])
 first
 | (done)
 | (with_reducible rfl)
 | (omega)
 | (exact Eq.refl _)
 | (simp only [List.length_append, List.length_cons, List.length_nil]; omega)
 | (grind))
    | (conv => whnf
       first
        | done
        | exact trivial
        | with_reducible refine NilBr.mk (fun h => ?_) ?_
        | with_reducible first | refine w_andS ?_ ?_ | refine w_andL ?_ ?_ | refine w_kern (by kernel_rfl) ?_ | refine w_true ?_ | refine w_nd ?_ ?_ | refine w_in ?_ ?_ | refine w_and ?_ ?_
        | ((with_reducible first | refine w_brN (fun h => ?_) (fun h => ?_) | refine w_brD (fun h => ?_) (fun h => ?_) | refine w_br (fun h => ?_) (fun h => ?_)) <;> (try dsimp only [cu, Prod.eta, List.nil_append] at h) <;> (try (exfalso; omega; done)))))
  all_goals (
 with_reducible refine Leaf.mk ?_
 (try dsimp only [cu, joinT, ckTys, gts, Prod.eta, List.nil_append] at *)
 first
 | (done)
 | (grind [vCheck, vKnown, vPermitted, vCompare, intCmp]))
abbrev tb6 : Tbl := (63, c_cmp64_ok) :: tb5
theorem tb6_ok : TblOk Try.prog tb6 := TblOk.cons cmp64_ok tb5_ok

abbrev c_cmpS_ok : Ct := .fn [.str, .str] (none) (fun (a : ByteArray) (b : ByteArray) => .d (.int .i64) (strCmp a b))
set_option maxRecDepth 100000 in
set_option maxHeartbeats 4000000 in
theorem cmpS_ok : CtOk Try.prog 62 c_cmpS_ok := by
  refine CtOk.fn tb6_ok mixed [] [] rfl rfl ?_
  rintro ⟨(a : ByteArray), (b : ByteArray), _⟩ -
  refine ⟨[], ?_⟩
  repeat' (first
    | (
 with_reducible refine Side.mk ?_
 (try dsimp only [cu, joinT, ckTys, gts, loK, hiK, Prod.eta, List.nil_append])
 first
 | (done)
 | (with_reducible rfl)
 | (omega)
 | (exact Eq.refl _)
 | (simp only [List.length_append, List.length_cons, List.length_nil]; omega)
 | (grind))
    | (conv => whnf
       first
        | done
        | exact trivial
        | with_reducible refine NilBr.mk (fun h => ?_) ?_
        | with_reducible first | refine w_andS ?_ ?_ | refine w_andL ?_ ?_ | refine w_kern (by kernel_rfl) ?_ | refine w_true ?_ | refine w_nd ?_ ?_ | refine w_in ?_ ?_ | refine w_and ?_ ?_
        | ((with_reducible first | refine w_brN (fun h => ?_) (fun h => ?_) | refine w_brD (fun h => ?_) (fun h => ?_) | refine w_br (fun h => ?_) (fun h => ?_)) <;> (try dsimp only [cu, Prod.eta, List.nil_append] at h) <;> (try (exfalso; omega; done)))))
  all_goals (
 with_reducible refine Leaf.mk ?_
 (try dsimp only [cu, joinT, ckTys, gts, Prod.eta, List.nil_append] at *)
 first
 | (done)
 | (grind [strCmp]))
abbrev tb7 : Tbl := (62, c_cmpS_ok) :: tb6
theorem tb7_ok : TblOk Try.prog tb7 := TblOk.cons cmpS_ok tb6_ok

abbrev c_vCompare_ok : Ct := .fn [.int .i64, tVal, tVal] (none) (fun (t : Int) (a : Val) (b : Val) => .d (.int .i64) (vCompare t a b))
set_option maxRecDepth 100000 in
set_option maxHeartbeats 4000000 in
theorem vCompare_ok : CtOk Try.prog 45 c_vCompare_ok := by
  refine CtOk.fn tb7_ok mixed [] [] rfl rfl ?_
  rintro ⟨(t : Int), (a : Val), (b : Val), _⟩ -
  refine ⟨[], ?_⟩
  repeat' (first
    | (
 with_reducible refine Side.mk ?_
 (try dsimp only [cu, joinT, ckTys, gts, loK, hiK, Prod.eta, List.nil_append])
 first
 | (done)
 | (with_reducible rfl)
 | (omega)
 | (exact Eq.refl _)
 | (simp only [List.length_append, List.length_cons, List.length_nil]; omega)
 | (grind))
    | (conv => whnf
       first
        | done
        | exact trivial
        | with_reducible refine NilBr.mk (fun h => ?_) ?_
        | with_reducible first | refine w_andS ?_ ?_ | refine w_andL ?_ ?_ | refine w_kern (by kernel_rfl) ?_ | refine w_true ?_ | refine w_nd ?_ ?_ | refine w_in ?_ ?_ | refine w_and ?_ ?_
        | ((with_reducible first | refine w_brN (fun h => ?_) (fun h => ?_) | refine w_brD (fun h => ?_) (fun h => ?_) | refine w_br (fun h => ?_) (fun h => ?_)) <;> (try dsimp only [cu, Prod.eta, List.nil_append] at h) <;> (try (exfalso; omega; done)))))
  all_goals (
 with_reducible refine Leaf.mk ?_
 (try dsimp only [cu, joinT, ckTys, gts, Prod.eta, List.nil_append] at *)
 first
 | (done)
 | (grind [vCheck, vKnown, vPermitted, vCompare, intCmp]))
abbrev tb8 : Tbl := (45, c_vCompare_ok) :: tb7
theorem tb8_ok : TblOk Try.prog tb8 := TblOk.cons vCompare_ok tb7_ok

abbrev c_typed_ok : Ct := .fn [.int .i64] (none) (fun (t : Int) => .d .bool (vKnown t))
set_option maxRecDepth 100000 in
set_option maxHeartbeats 4000000 in
theorem typed_ok : CtOk Try.prog 51 c_typed_ok := by
  refine CtOk.fn tb8_ok mixed [] [] rfl rfl ?_
  rintro ⟨(t : Int), _⟩ -
  refine ⟨[], ?_⟩
  repeat' (first
    | (
 with_reducible refine Side.mk ?_
 (try dsimp only [cu, joinT, ckTys, gts, loK, hiK, Prod.eta, List.nil_append])
 first
 | (done)
 | (with_reducible rfl)
 | (omega)
 | (exact Eq.refl _)
 | (simp only [List.length_append, List.length_cons, List.length_nil]; omega)
 | (grind))
    | (conv => whnf
       first
        | done
        | exact trivial
        | with_reducible refine NilBr.mk (fun h => ?_) ?_
        | with_reducible first | refine w_andS ?_ ?_ | refine w_andL ?_ ?_ | refine w_kern (by kernel_rfl) ?_ | refine w_true ?_ | refine w_nd ?_ ?_ | refine w_in ?_ ?_ | refine w_and ?_ ?_
        | ((with_reducible first | refine w_brN (fun h => ?_) (fun h => ?_) | refine w_brD (fun h => ?_) (fun h => ?_) | refine w_br (fun h => ?_) (fun h => ?_)) <;> (try dsimp only [cu, Prod.eta, List.nil_append] at h) <;> (try (exfalso; omega; done)))))
  all_goals (
 with_reducible refine Leaf.mk ?_
 (try dsimp only [cu, joinT, ckTys, gts, Prod.eta, List.nil_append] at *)
 first
 | (done)
 | (grind [vKnown]))
abbrev tb9 : Tbl := (51, c_typed_ok) :: tb8
theorem tb9_ok : TblOk Try.prog tb9 := TblOk.cons typed_ok tb8_ok

abbrev c_rCheck_ok : Ct := .fn [tCol, tVal] (none) (fun (c : Col) (v : Val) => .d (.int .i64) (vCheck c v))
set_option maxRecDepth 100000 in
set_option maxHeartbeats 4000000 in
theorem rCheck_ok : CtOk Try.prog 53 c_rCheck_ok := by
  refine CtOk.fn tb9_ok mixed [] [] rfl rfl ?_
  rintro ⟨(c : Col), (v : Val), _⟩ -
  refine ⟨[], ?_⟩
  repeat' (first
    | (
 with_reducible refine Side.mk ?_
 (try dsimp only [cu, joinT, ckTys, gts, loK, hiK, Prod.eta, List.nil_append])
 first
 | (done)
 | (with_reducible rfl)
 | (omega)
 | (exact Eq.refl _)
 | (simp only [List.length_append, List.length_cons, List.length_nil]; omega)
 | (grind))
    | (conv => whnf
       first
        | done
        | exact trivial
        | with_reducible refine NilBr.mk (fun h => ?_) ?_
        | with_reducible first | refine w_andS ?_ ?_ | refine w_andL ?_ ?_ | refine w_kern (by kernel_rfl) ?_ | refine w_true ?_ | refine w_nd ?_ ?_ | refine w_in ?_ ?_ | refine w_and ?_ ?_
        | ((with_reducible first | refine w_brN (fun h => ?_) (fun h => ?_) | refine w_brD (fun h => ?_) (fun h => ?_) | refine w_br (fun h => ?_) (fun h => ?_)) <;> (try dsimp only [cu, Prod.eta, List.nil_append] at h) <;> (try (exfalso; omega; done)))))
  all_goals (
 with_reducible refine Leaf.mk ?_
 (try dsimp only [cu, joinT, ckTys, gts, Prod.eta, List.nil_append] at *)
 first
 | (done)
 | (grind [vCheck, vKnown, vPermitted, vCompare, intCmp]))
abbrev tb10 : Tbl := (53, c_rCheck_ok) :: tb9
theorem tb10_ok : TblOk Try.prog tb10 := TblOk.cons rCheck_ok tb9_ok

abbrev c_order_ok : Ct := .fn [.bool, .bool] (none) (fun (l : Bool) (e : Bool) => .d (.int .i64) (if l = true then -1 else if e = true then 0 else 1))
set_option maxRecDepth 100000 in
set_option maxHeartbeats 4000000 in
theorem order_ok : CtOk Try.prog 84 c_order_ok := by
  refine CtOk.fn tb10_ok mixed [] [] rfl rfl ?_
  rintro ⟨(l : Bool), (e : Bool), _⟩ -
  refine ⟨[], ?_⟩
  repeat' (first
    | (
 with_reducible refine Side.mk ?_
 (try dsimp only [cu, joinT, ckTys, gts, loK, hiK, Prod.eta, List.nil_append])
 first
 | (done)
 | (with_reducible rfl)
 | (omega)
 | (exact Eq.refl _)
 | (simp only [List.length_append, List.length_cons, List.length_nil]; omega)
 | (grind))
    | (conv => whnf
       first
        | done
        | exact trivial
        | with_reducible refine NilBr.mk (fun h => ?_) ?_
        | with_reducible first | refine w_andS ?_ ?_ | refine w_andL ?_ ?_ | refine w_kern (by kernel_rfl) ?_ | refine w_true ?_ | refine w_nd ?_ ?_ | refine w_in ?_ ?_ | refine w_and ?_ ?_
        | ((with_reducible first | refine w_brN (fun h => ?_) (fun h => ?_) | refine w_brD (fun h => ?_) (fun h => ?_) | refine w_br (fun h => ?_) (fun h => ?_)) <;> (try dsimp only [cu, Prod.eta, List.nil_append] at h) <;> (try (exfalso; omega; done)))))
  all_goals (
 with_reducible refine Leaf.mk ?_
 (try dsimp only [cu, joinT, ckTys, gts, Prod.eta, List.nil_append] at *)
 first
 | (done)
 | (simp_all))
abbrev tb11 : Tbl := (84, c_order_ok) :: tb10
theorem tb11_ok : TblOk Try.prog tb11 := TblOk.cons order_ok tb10_ok

abbrev c_rCompare_ok : Ct := .fn [.int .i64, tVal, tVal] (none) (fun (t : Int) (a : Val) (b : Val) => .d (.int .i64) (vCompare t a b))
set_option maxRecDepth 100000 in
set_option maxHeartbeats 4000000 in
theorem rCompare_ok : CtOk Try.prog 69 c_rCompare_ok := by
  refine CtOk.fn tb11_ok mixed [] [] rfl rfl ?_
  rintro ⟨(t : Int), (a : Val), (b : Val), _⟩ -
  refine ⟨[], ?_⟩
  repeat' (first
    | (
 with_reducible refine Side.mk ?_
 (try dsimp only [cu, joinT, ckTys, gts, loK, hiK, Prod.eta, List.nil_append])
 first
 | (done)
 | (with_reducible rfl)
 | (omega)
 | (exact Eq.refl _)
 | (simp only [List.length_append, List.length_cons, List.length_nil]; omega)
 | (grind))
    | (conv => whnf
       first
        | done
        | exact trivial
        | with_reducible refine NilBr.mk (fun h => ?_) ?_
        | with_reducible first | refine w_andS ?_ ?_ | refine w_andL ?_ ?_ | refine w_kern (by kernel_rfl) ?_ | refine w_true ?_ | refine w_nd ?_ ?_ | refine w_in ?_ ?_ | refine w_and ?_ ?_
        | ((with_reducible first | refine w_brN (fun h => ?_) (fun h => ?_) | refine w_brD (fun h => ?_) (fun h => ?_) | refine w_br (fun h => ?_) (fun h => ?_)) <;> (try dsimp only [cu, Prod.eta, List.nil_append] at h) <;> (try (exfalso; omega; done)))))
  all_goals (
 with_reducible refine Leaf.mk ?_
 (try dsimp only [cu, joinT, ckTys, gts, Prod.eta, List.nil_append] at *)
 first
 | (done)
 | (grind [vCompare, intCmp, strCmp]))
abbrev tb12 : Tbl := (69, c_rCompare_ok) :: tb11
theorem tb12_ok : TblOk Try.prog tb12 := TblOk.cons rCompare_ok tb11_ok

end Go.Proofs.Ytinehkfcploeiaa
