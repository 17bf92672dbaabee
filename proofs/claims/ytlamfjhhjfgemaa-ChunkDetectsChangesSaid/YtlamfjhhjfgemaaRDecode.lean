/- Contracts of decoding a dictionary (reference); checks of values. -/
import Derived.Test.YtlamfjhhjfgemaaDecode
namespace Go.Proofs.Ytlamfjhhjfgemaa
open Go.Abs
set_option linter.unusedVariables false
set_option linter.unusedSimpArgs false


theorem extract_le (s : ByteArray) (a b : Nat) : (s.extract a b).size ≤ s.size := by simp; omega
theorem wdN_zero : wdN ((([] : List ByteArray).length : Nat) : Int) = 0 := lenI_zero (by unfold maxI; simp)
theorem extract_size (s : ByteArray) {a : Int} (h : 0 ≤ a) : (s.extract a.toNat s.size).size = s.size - a.toNat := by simp
theorem unp0 (t : ByteArray) : unpackR t 0 0 = if 0 < t.size then ([], 2) else ([], 0) := by
  have hn : needR 0 0 = 0 := by decide
  have hp : ¬ ¬ permB 0 0 = true := by decide
  rw [unpackR, if_neg hp, hn, if_neg (by omega)]
  by_cases h : 0 < t.size
  · rw [if_pos (by omega), if_pos h]
  · rw [if_neg (by omega), if_neg h, if_neg]
    · rfl
    · exact tail_no fun q _ h2 => by omega
theorem dec_n0 {s : ByteArray} {a : Int} (h : 0 ≤ a) : decA s 0 ([], a, 0) = if a < s.size then ([], 2) else ([], 0) := by
  rw [dec_a1 (by rfl), wdN_zero, unp0, extract_size s h]
  by_cases q : a < s.size
  · rw [if_pos q, if_pos (show 0 < s.size - a.toNat by omega)]; rfl
  · rw [if_neg q, if_neg (show ¬ 0 < s.size - a.toNat by omega), dec_b1 (by rfl)]; rfl
theorem wdN_u64 {M : List ByteArray} {k : Int} (h : (M.length : Int) = k) (h1 : 1 ≤ k ∧ k ≤ 4096) : lenI (IntKind.u64.wrap (k - 1)) = wdN (M.length : Int) := by
  rw [u64_id (by omega), wdN, h]
  congr 1
  unfold maxI; split <;> omega
def sizeOk (n : Int) : Bool := decide (0 ≤ n) && decide (n ≤ 4096)
theorem sizeOk_no {n : Int} (h : (!sizeOk n) = true) : n < 0 ∨ n > 4096 := by
  simp [sizeOk] at h; omega
theorem sizeOk_yes {n : Int} (h : (!sizeOk n) = false) : ¬ (n < 0 ∨ n > 4096) := by
  simp [sizeOk] at h; omega
theorem not_t {b : Bool} (h : (!b) = true) : false = b := by cases b <;> simp_all
theorem not_f {b : Bool} (h : (!b) = false) : ¬ false = b := by cases b <;> simp_all
theorem hasB_yes {l : List Bool} {k : Int} (h : ixGo l false 0 = k) (h0 : 0 ≤ k) : hasB l false = true := by simp [hasB, h, h0]
theorem hasB_no {l : List Bool} (h : ixGo l false 0 = -1) : ¬ hasB l false = true := by simp [hasB, h]


abbrev EMP : ByteArray := ⟨#[]⟩
def vKnown (t : Int) : Bool := decide (1 ≤ t) && decide (t ≤ 5)
def vPermitted (t : Int) (v : Val) : Bool :=
  if t = 2 then decide (v.2.1 = 0) || decide (v.2.1 = 1) else if t = 4 then decide (-719162 ≤ v.2.1) && decide (v.2.1 ≤ 2932896)
  else if t = 5 then decide (-999999999999999999 ≤ v.2.1) && decide (v.2.1 ≤ 999999999999999999) else if t = 3 then decide (v.2.2.size ≤ 64) else true
def vCheck (c : Col) (v : Val) : Int :=
  if vKnown c.2.1 = false then 1 else if (v.1 = true ∨ c.2.1 ≠ 3) ∧ v.2.2 ≠ EMP then 11 else if (v.1 = true ∨ c.2.1 = 3) ∧ v.2.1 ≠ 0 then 11
  else if v.1 = true ∧ c.2.2.2 = false then 12 else if v.1 = false ∧ vPermitted c.2.1 v = false then 4 else 0
def intCmp (a b : Int) : Int := if a < b then -1 else if a > b then 1 else 0
def strCmp (a b : ByteArray) : Int := if strLt a b then -1 else if a = b then 0 else 1
def vCompare (t : Int) (a b : Val) : Int :=
  if a.1 = true ∧ b.1 = true then 0 else if a.1 = true then -1 else if b.1 = true then 1 else if t = 3 then strCmp a.2.2 b.2.2 else intCmp a.2.1 b.2.1
theorem size_pos {s : ByteArray} (h : ¬ s = ⟨#[]⟩) : 0 < s.size := by
  rcases Nat.eq_zero_or_pos s.size with q | q
  · exfalso; apply h
    apply ByteArray.ext
    exact Array.eq_empty_of_size_eq_zero q
  · exact q
theorem bytesLess_irrefl : ∀ l : List UInt8, Op.bytesLess l l = false
  | [] => rfl
  | a :: x => by simp [Op.bytesLess, bytesLess_irrefl x]
theorem bytesLess_asymm : ∀ a b : List UInt8, Op.bytesLess a b = true → Op.bytesLess b a = false
  | [], [], _ => rfl
  | [], _ :: _, _ => rfl
  | _ :: _, [], h => by simp [Op.bytesLess] at h
  | a :: x, b :: y, h => by
    simp only [Op.bytesLess, Bool.or_eq_true, Bool.and_eq_true, decide_eq_true_eq, beq_iff_eq] at h
    simp only [Op.bytesLess, Bool.or_eq_false_iff, Bool.and_eq_false_iff, decide_eq_false_iff_not]
    rcases h with h | ⟨rfl, h⟩
    · exact ⟨fun q => absurd (UInt8.lt_trans h q) (UInt8.lt_irrefl _), .inl (by simpa using fun e => UInt8.lt_irrefl _ (by rw [e] at h; exact h))⟩
    · exact ⟨UInt8.lt_irrefl _, .inr (bytesLess_asymm x y h)⟩
theorem bytesLess_total : ∀ a b : List UInt8, Op.bytesLess a b = false → Op.bytesLess b a = false → a = b
  | [], [], _, _ => rfl
  | [], _ :: _, h, _ => by simp [Op.bytesLess] at h
  | _ :: _, [], _, h => by simp [Op.bytesLess] at h
  | a :: x, b :: y, h1, h2 => by
    simp only [Op.bytesLess, Bool.or_eq_false_iff, Bool.and_eq_false_iff, decide_eq_false_iff_not] at h1 h2
    have e : a = b := UInt8.le_antisymm (UInt8.not_lt.1 h2.1) (UInt8.not_lt.1 h1.1)
    subst e
    rw [bytesLess_total x y (by simpa using h1.2) (by simpa using h2.2)]
theorem strLt_irrefl (a : ByteArray) : strLt a a = false := bytesLess_irrefl _
theorem strCmp_alt (a b : ByteArray) : strCmp a b = if strLt a b then -1 else if strLt b a then 1 else 0 := by
  unfold strCmp
  by_cases h : strLt a b = true
  · simp [h]
  · by_cases e : a = b
    · subst e; simp [strLt_irrefl]
    · have h2 : strLt b a = true := by
        cases q : strLt b a with
        | true => rfl
        | false => exact absurd (str_inj (bytesLess_total _ _ (by simpa [strLt] using h) (by simpa [strLt] using q))) e
      simp [h, e, h2]

abbrev c_known_ok : Ct := .fn [.int .i64] (none) (fun (t : Int) => .d .bool (vKnown t))
set_option maxRecDepth 100000 in
set_option maxHeartbeats 4000000 in
theorem known_ok : CtOk Try.prog 60 c_known_ok := by
  refine CtOk.fn tb21_ok mixed [] [] rfl rfl ?_
  rintro ⟨(t : Int), _⟩ -
  refine ⟨[], ?_⟩
  repeat' (first
    | (
 with_reducible refine Side.mk ?_
 (try dsimp only [cu, joinT, ckTys, gts, loK, hiK, Prod.eta, List.nil_append])
 first
 | (done)
 | (with_reducible rfl)
 | (omega)
 | (exact Eq.refl _)
 | (simp only [List.length_append, List.length_cons, List.length_nil]; omega)
 | (grind))
    | (conv => whnf
       first
        | done
        | exact trivial
        | with_reducible refine NilBr.mk (fun h => ?_) ?_
        | with_reducible first | refine w_andS ?_ ?_ | refine w_andL ?_ ?_ | refine w_kern (by kernel_rfl) ?_ | refine w_true ?_ | refine w_nd ?_ ?_ | refine w_in ?_ ?_ | refine w_and ?_ ?_
        | ((with_reducible first | refine w_brN (fun h => ?_) (fun h => ?_) | refine w_brD (fun h => ?_) (fun h => ?_) | refine w_br (fun h => ?_) (fun h => ?_)) <;> (try dsimp only [cu, Prod.eta, List.nil_append] at h) <;> (try (exfalso; omega; done)))))
  all_goals (
 with_reducible refine Leaf.mk ?_
 (try dsimp only [cu, joinT, ckTys, gts, Prod.eta, List.nil_append] at *)
 first
 | (done)
 | (grind [vKnown]))
abbrev tb22 : Tbl := (60, c_known_ok) :: tb21
theorem tb22_ok : TblOk Try.prog tb22 := TblOk.cons known_ok tb21_ok

abbrev c_permitted_ok : Ct := .fn [.int .i64, tVal] (none) (fun (t : Int) (v : Val) => .d .bool (vPermitted t v))
set_option maxRecDepth 100000 in
set_option maxHeartbeats 4000000 in
theorem permitted_ok : CtOk Try.prog 61 c_permitted_ok := by
  refine CtOk.fn tb22_ok mixed [] [] rfl rfl ?_
  rintro ⟨(t : Int), (v : Val), _⟩ -
  refine ⟨[], ?_⟩
  repeat' (first
    | (
 with_reducible refine Side.mk ?_
 (try dsimp only [cu, joinT, ckTys, gts, loK, hiK, Prod.eta, List.nil_append])
 first
 | (done)
 | (with_reducible rfl)
 | (omega)
 | (exact Eq.refl _)
 | (simp only [List.length_append, List.length_cons, List.length_nil]; omega)
 | (grind))
    | (conv => whnf
       first
        | done
        | exact trivial
        | with_reducible refine NilBr.mk (fun h => ?_) ?_
        | with_reducible first | refine w_andS ?_ ?_ | refine w_andL ?_ ?_ | refine w_kern (by kernel_rfl) ?_ | refine w_true ?_ | refine w_nd ?_ ?_ | refine w_in ?_ ?_ | refine w_and ?_ ?_
        | ((with_reducible first | refine w_brN (fun h => ?_) (fun h => ?_) | refine w_brD (fun h => ?_) (fun h => ?_) | refine w_br (fun h => ?_) (fun h => ?_)) <;> (try dsimp only [cu, Prod.eta, List.nil_append] at h) <;> (try (exfalso; omega; done)))))
  all_goals (
 with_reducible refine Leaf.mk ?_
 (try dsimp only [cu, joinT, ckTys, gts, Prod.eta, List.nil_append] at *)
 first
 | (done)
 | (grind [vPermitted]))
abbrev tb23 : Tbl := (61, c_permitted_ok) :: tb22
theorem tb23_ok : TblOk Try.prog tb23 := TblOk.cons permitted_ok tb22_ok

abbrev c_vCheck_ok : Ct := .fn [tCol, tVal] (none) (fun (c : Col) (v : Val) => .d (.int .i64) (vCheck c v))
set_option maxRecDepth 100000 in
set_option maxHeartbeats 4000000 in
theorem vCheck_ok : CtOk Try.prog 38 c_vCheck_ok := by
  refine CtOk.fn tb23_ok mixed [] [] rfl rfl ?_
  rintro ⟨(c : Col), (v : Val), _⟩ -
  refine ⟨[], ?_⟩
  repeat' (first
    | (
 with_reducible refine Side.mk ?_
 (try dsimp only [cu, joinT, ckTys, gts, loK, hiK, Prod.eta, List.nil_append])
 first
 | (done)
 | (with_reducible rfl)
 | (omega)
 | (exact Eq.refl _)
 | (simp only [List.length_append, List.length_cons, List.length_nil]; omega)
 | (grind))
    | (conv => whnf
       first
        | done
        | exact trivial
        | with_reducible refine NilBr.mk (fun h => ?_) ?_
        | with_reducible first | refine w_andS ?_ ?_ | refine w_andL ?_ ?_ | refine w_kern (by kernel_rfl) ?_ | refine w_true ?_ | refine w_nd ?_ ?_ | refine w_in ?_ ?_ | refine w_and ?_ ?_
        | ((with_reducible first | refine w_brN (fun h => ?_) (fun h => ?_) | refine w_brD (fun h => ?_) (fun h => ?_) | refine w_br (fun h => ?_) (fun h => ?_)) <;> (try dsimp only [cu, Prod.eta, List.nil_append] at h) <;> (try (exfalso; omega; done)))))
  all_goals (
 with_reducible refine Leaf.mk ?_
 (try dsimp only [cu, joinT, ckTys, gts, Prod.eta, List.nil_append] at *)
 first
 | (done)
 | (grind [vCheck, vKnown, vPermitted, vCompare, intCmp]))
abbrev tb24 : Tbl := (38, c_vCheck_ok) :: tb23
theorem tb24_ok : TblOk Try.prog tb24 := TblOk.cons vCheck_ok tb23_ok

end Go.Proofs.Ytlamfjhhjfgemaa
