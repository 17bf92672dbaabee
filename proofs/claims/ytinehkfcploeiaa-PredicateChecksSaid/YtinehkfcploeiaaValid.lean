/- What the makers make is valid. -/
import Derived.Test.YtinehkfcploeiaaKSchema
namespace Go.Proofs.Ytinehkfcploeiaa
open Go.Abs
set_option linter.unusedVariables false
set_option linter.unusedSimpArgs false


theorem bitAnd1 (n : Int) : bitAnd n 1 = 0 ∨ bitAnd n 1 = 1 := by
  have h : (BitVec.ofInt IntKind.i64.bits n &&& BitVec.ofInt IntKind.i64.bits 1).toNat ≤ 1 := by
    rw [BitVec.toNat_and]
    exact Nat.and_le_right
  unfold bitAnd
  generalize (BitVec.ofInt IntKind.i64.bits n &&& BitVec.ofInt IntKind.i64.bits 1).toNat = k at h
  rw [wrap64] <;> omega
theorem tmod_abs (n d : Int) (h : 0 < d) : -d < Int.tmod n d ∧ Int.tmod n d < d := by
  refine ⟨?_, Int.tmod_lt_of_pos n h⟩
  rcases Int.le_total 0 n with q | q
  · have := Int.tmod_nonneg d q; omega
  · have h1 := Int.tmod_lt_of_pos (-n) h
    rw [Int.neg_tmod] at h1; omega
theorem kValue_valid (s : Src) (c : Col) (h : vKnown c.2.1 = true) : vCheck c (kValue s c).1 = 0 := by
  have hk : 1 ≤ c.2.1 ∧ c.2.1 ≤ 5 := by simpa [vKnown] using h
  unfold kValue
  by_cases hn : kNull s c = true
  · have hnull : c.2.2.2 = true := by simp [kNull] at hn; exact hn.1
    rw [if_pos hn]
    simp [vCheck, h, hnull]
  · rw [if_neg hn]
    unfold kFin
    generalize (kNum (kSrc1 s c)).1 = n
    generalize (kNum (kSrc1 s c)).2 = t
    by_cases h2 : c.2.1 = 2
    · rw [if_pos h2]
      have := bitAnd1 n
      simp [vCheck, h2, vKnown, vPermitted]
      grind
    · rw [if_neg h2]
      by_cases h3 : c.2.1 = 3
      · rw [if_pos h3]
        have h1 := lettersGo_size (Src.pick t 4).toNat (Src.next t) EMP
        have h4 := Src.pick_lt (s := t) (n := 4) (by decide)
        have h5 : (EMP : ByteArray).size = 0 := rfl
        simp [vCheck, h3, vKnown, vPermitted]
        omega
      · rw [if_neg h3]
        by_cases h4 : c.2.1 = 4
        · rw [if_pos h4]
          have := tmod_abs n 700000 (by decide)
          simp [vCheck, h4, vKnown, vPermitted]
          omega
        · rw [if_neg h4]
          by_cases h5 : c.2.1 = 5
          · rw [if_pos h5]
            have := tmod_abs n 1000000000000000000 (by decide)
            simp [vCheck, h5, vKnown, vPermitted]
            omega
          · rw [if_neg h5]
            have h1 : c.2.1 = 1 := by omega
            simp [vCheck, h1, vKnown, vPermitted]
/-- A column that a schema of the statements has. -/
def goodCol (c : Col) : Prop := vKnown c.2.1 = true ∧ okScale c = true
theorem kCol_good (s : Src) (n : Int) : goodCol (kCol s n).1 ∧ (kCol s n).1.1 = ABCD.extract (n - 1).toNat n.toNat := by
  have h := Src.pick_lt (s := s) (n := 5) (by decide)
  have h4 := Src.pick_lt (s := Src.next (Src.next s)) (n := 4) (by decide)
  unfold kCol goodCol
  split
  · refine ⟨⟨?_, ?_⟩, rfl⟩
    · simp [vKnown]; omega
    · simp [okScale]; omega
  · refine ⟨⟨?_, ?_⟩, rfl⟩
    · simp [vKnown]; omega
    · simp [okScale]
theorem kCols_good : ∀ (n : Nat) (s : Src) (acc : List Col), ∃ r, (kCols n s acc).1 = acc ++ r ∧ r.length = n ∧ ∀ i, i < n → goodCol r[i]! ∧ r[i]!.1 = ABCD.extract (n - i - 1) (n - i)
  | 0, s, acc => ⟨[], by simp [kCols], rfl, fun i h => by omega⟩
  | n + 1, s, acc => by
    obtain ⟨r, h1, h2, h3⟩ := kCols_good n (kCol s (n + 1)).2 (acc ++ [(kCol s (n + 1)).1])
    refine ⟨(kCol s (n + 1)).1 :: r, by rw [kCols, h1]; simp, by simp [h2], fun i hi => ?_⟩
    obtain ⟨g1, g2⟩ := kCol_good s (n + 1)
    cases i with
    | zero =>
      refine ⟨g1, ?_⟩
      have e1 : ((n : Int) + 1 - 1).toNat = n + 1 - 0 - 1 := by omega
      have e2 : ((n : Int) + 1).toNat = n + 1 - 0 := by omega
      rw [← e1, ← e2]; exact g2
    | succ i =>
      have := h3 i (by omega)
      rw [show n + 1 - (i + 1) - 1 = n - i - 1 by omega, show n + 1 - (i + 1) = n - i by omega]
      exact this
theorem letters_ok : ∀ a : Nat, a < 4 → okName (ABCD.extract a (a + 1)) = true := by
  intro a h
  obtain rfl | rfl | rfl | rfl : a = 0 ∨ a = 1 ∨ a = 2 ∨ a = 3 := by omega
  all_goals rfl
theorem letters_ne : ∀ a b : Nat, a < 4 → b < 4 → a ≠ b → ¬ ABCD.extract a (a + 1) = ABCD.extract b (b + 1) := by
  intro a b h1 h2 h3
  obtain rfl | rfl | rfl | rfl : a = 0 ∨ a = 1 ∨ a = 2 ∨ a = 3 := by omega
  all_goals (obtain rfl | rfl | rfl | rfl : b = 0 ∨ b = 1 ∨ b = 2 ∨ b = 3 := by omega)
  all_goals first | (exfalso; exact h3 rfl) | decide
theorem errFrom_all {α : Type} [Inhabited α] (f : Int → α → Int) : ∀ (l : List α) (k : Int), (∀ i : Nat, i < l.length → f (k + i) l[i]! = 0) → errFrom f k l = 0
  | [], k, _ => rfl
  | x :: l, k, h => by
    have h0 := h 0 (by simp)
    have e : f k x = 0 := by simpa using h0
    rw [errFrom, if_pos e]
    refine errFrom_all f l (k + 1) (fun i hi => ?_)
    have := h (i + 1) (by simp; omega)
    rw [show k + 1 + (i : Int) = k + ((i + 1 : Nat) : Int) by omega]
    simpa using this
theorem kSchema_valid (l : List Int) : schemaErr (kSchema l) = 0 ∧ 1 ≤ (kSchema l).1.length ∧ (kSchema l).1.length ≤ 4 ∧ ∀ i, i < (kSchema l).1.length → vKnown (kSchema l).1[i]!.2.1 = true := by
  have hp := Src.pick_lt (s := (l, 0)) (n := 4) (by decide)
  obtain ⟨r, h1, h2, h3⟩ := kCols_good (1 + Src.pick (l, 0) 4).toNat (Src.next (l, 0)) []
  have hc : (kSchema l).1 = r := by simpa [kSchema] using h1
  have hk : (kSchema l).2 = Src.pick (kCols (1 + Src.pick (l, 0) 4).toNat (Src.next (l, 0)) []).2 r.length := by
    have e : (kCols (1 + Src.pick (l, 0) 4).toNat (Src.next (l, 0)) []).1 = r := by simpa using h1
    rw [← e]; rfl
  have hlen : r.length = (1 + Src.pick (l, 0) 4).toNat := h2
  have hkey := Src.pick_lt (s := (kCols (1 + Src.pick (l, 0) 4).toNat (Src.next (l, 0)) []).2) (n := (r.length : Int)) (by omega)
  have herr : errFrom (colErr r) 0 r = 0 := by
    refine errFrom_all _ _ _ (fun i hi => ?_)
    obtain ⟨⟨g1, g2⟩, g3⟩ := h3 i (by omega)
    have hnm := letters_ok ((1 + Src.pick (l, 0) 4).toNat - i - 1) (by omega)
    rw [show (1 + Src.pick (l, 0) 4).toNat - i - 1 + 1 = (1 + Src.pick (l, 0) 4).toNat - i by omega] at hnm
    have hidx : ¬ colIdx r[i]!.1 r 0 < 0 + (i : Int) := by
      rw [Int.zero_add]
      have := colIdx_none (name := r[i]!.1) (l := r) (k := (i : Int)) (by omega) (by simp) (fun j hj => by
        obtain ⟨_, q⟩ := h3 j (by omega)
        rw [q, g3]
        have := letters_ne ((1 + Src.pick (l, 0) 4).toNat - j - 1) ((1 + Src.pick (l, 0) 4).toNat - i - 1) (by omega) (by omega) (by omega)
        rw [show (1 + Src.pick (l, 0) 4).toNat - j - 1 + 1 = (1 + Src.pick (l, 0) 4).toNat - j by omega, show (1 + Src.pick (l, 0) 4).toNat - i - 1 + 1 = (1 + Src.pick (l, 0) 4).toNat - i by omega] at this
        exact this)
      exact this
    unfold colErr
    rw [g3, hnm, ← g3]
    simp only [if_neg hidx, g1, g2]
    simp
  refine ⟨?_, by rw [hc]; omega, by rw [hc]; omega, fun i hi => ?_⟩
  · unfold schemaErr
    rw [hc, hk, herr]
    rw [if_neg (by omega), if_neg (by omega), if_neg (by simp), if_neg (by omega)]
  · rw [hc] at hi ⊢
    exact (h3 i (by omega)).1.1
theorem vKnown_nullable (c : Col) : vKnown (nullableCol c).2.1 = vKnown c.2.1 := rfl
theorem kVals_valid (c : Col) (h : vKnown c.2.1 = true) (c2 : Col) (hc2 : ∀ v, vCheck c v = 0 → vCheck c2 v = 0) : ∀ (n : Nat) (s : Src) (acc : List Val), (∀ v, v ∈ acc → vCheck c2 v = 0) → (kVals n s c acc).1.length = acc.length + n ∧ ∀ v, v ∈ (kVals n s c acc).1 → vCheck c2 v = 0
  | 0, s, acc, ha => ⟨rfl, ha⟩
  | n + 1, s, acc, ha => by
    obtain ⟨h1, h2⟩ := kVals_valid c h c2 hc2 n (kValue s c).2 (acc ++ [(kValue s c).1]) (fun v hv => by
      rcases List.mem_append.1 hv with q | q
      · exact ha v q
      · simp at q; subst q; exact hc2 _ (kValue_valid s c h))
    exact ⟨by rw [kVals, h1]; simp; omega, h2⟩
theorem vCheck_nullable {c : Col} {b : Bool} {v : Val} (h : vCheck (colN c b) v = 0) : vCheck (nullableCol c) v = 0 := by
  revert h
  unfold vCheck colN nullableCol vPermitted
  simp only []
  grind
theorem vCheck_null {c : Col} {v : Val} (h : vCheck (colN c false) v = 0) : v.1 = false ∧ vCheck c v = 0 := by
  revert h
  unfold vCheck colN vPermitted
  simp only []
  grind
theorem kNode_valid (s : Src) (x : Schema) (i : Int) (hi : 0 ≤ i ∧ i ≤ 64) (hx : 1 ≤ x.1.length ∧ x.1.length ≤ 12) (hk : ∀ j, j < x.1.length → vKnown x.1[j]!.2.1 = true) : nodeErr x i (kNode s x i).1 = 0 ∧ (kNode s x i).1.2.2.2.1.length ≤ 16 := by
  have h11 := Src.pick_lt (s := s) (n := 11) (by decide)
  have hop : 1 ≤ kOp s i ∧ kOp s i ≤ 11 ∧ (kOp s i ≥ 9 → 0 < i) := by unfold kOp; split <;> omega
  have hcol := Src.pick_lt (s := Src.next s) (n := (x.1.length : Int)) (by omega)
  have hkc := hk (Src.pick (Src.next s) x.1.length).toNat (by omega)
  by_cases h9 : kOp s i ≥ 9
  · have hm := minI_pos (i := i) (hop.2.2 h9)
    have hmi : minI i 3 ≤ i := by unfold minI; split <;> omega
    have h1 := Src.pick_lt (s := Src.next s) (n := minI i 3) (by omega)
    have h2 := Src.pick_lt (s := Src.next (Src.next s)) (n := i) (by have := hop.2.2 h9; omega)
    unfold kNode
    simp only [if_pos h9]
    split
    · refine ⟨?_, by simp⟩
      unfold nodeErr
      simp only []
      grind
    · refine ⟨?_, by simp⟩
      unfold nodeErr
      simp only []
      grind
  · unfold kNode
    simp only [if_neg h9]
    by_cases h6 : kOp s i ≤ 6
    · simp only [if_pos h6]
      refine ⟨?_, by simp⟩
      obtain ⟨v1, v2⟩ := vCheck_null (kValue_valid (Src.next (Src.next s)) (colN x.1[(Src.pick (Src.next s) x.1.length).toNat]! false) hkc)
      unfold nodeErr
      simp only [v1, v2]
      grind
    · simp only [if_neg h6]
      by_cases h7 : kOp s i = 7
      · simp only [if_pos h7]
        have hp4 := Src.pick_lt (s := Src.next (Src.next (Src.next s))) (n := 4) (by decide)
        obtain ⟨w1, w2⟩ := kVals_valid (colN x.1[(Src.pick (Src.next s) x.1.length).toNat]! (decide (Src.pick (Src.next (Src.next s)) 3 = 0))) hkc (nullableCol x.1[(Src.pick (Src.next s) x.1.length).toNat]!) (fun v => vCheck_nullable)
          (1 + Src.pick (Src.next (Src.next (Src.next s))) 4).toNat (Src.next (Src.next (Src.next (Src.next s)))) [] (fun v h => by cases h)
        generalize (kVals (1 + Src.pick (Src.next (Src.next (Src.next s))) 4).toNat (Src.next (Src.next (Src.next (Src.next s)))) (colN x.1[(Src.pick (Src.next s) x.1.length).toNat]! (decide (Src.pick (Src.next (Src.next s)) 3 = 0))) []).1 = L at w1 w2
        have hL : 1 ≤ L.length ∧ L.length ≤ 4 := by simp at w1; omega
        refine ⟨?_, show L.length ≤ 16 by omega⟩
        have he : errFrom (fun _ v => vCheck (nullableCol x.1[(Src.pick (Src.next s) x.1.length).toNat]!) v) 0 L = 0 :=
          errFrom_all _ _ _ (fun j hj => w2 _ (by rw [getElem!_pos L j hj]; exact List.getElem_mem hj))
        unfold nodeErr
        simp only [he]
        grind
      · simp only [if_neg h7]
        refine ⟨?_, by simp⟩
        unfold nodeErr
        simp only []
        grind
theorem kNodes_valid (x : Schema) (hx : 1 ≤ x.1.length ∧ x.1.length ≤ 12) (hk : ∀ j, j < x.1.length → vKnown x.1[j]!.2.1 = true) : ∀ (n : Nat) (s : Src) (acc : List Nd), acc.length + n ≤ 64 → (∀ i : Nat, i < acc.length → nodeErr x i acc[i]! = 0 ∧ acc[i]!.2.2.2.1.length ≤ 16) →
    (kNodes n s x acc).length = acc.length + n ∧ ∀ i : Nat, i < (kNodes n s x acc).length → nodeErr x i (kNodes n s x acc)[i]! = 0 ∧ (kNodes n s x acc)[i]!.2.2.2.1.length ≤ 16
  | 0, s, acc, _, h => ⟨rfl, h⟩
  | n + 1, s, acc, hn, h => by
    obtain ⟨h1, h2⟩ := kNodes_valid x hx hk n (kNode s x acc.length).2 (acc ++ [(kNode s x acc.length).1]) (by simp; omega) (fun i hi => by
      by_cases q : i < acc.length
      · have := h i q
        rw [getElem!_pos acc i q] at this
        rw [getElem!_pos _ i hi, List.getElem_append_left q]; exact this
      · have : i = acc.length := by simp at hi; omega
        subst this
        rw [getElem!_pos (acc ++ [(kNode s x acc.length).1]) acc.length hi, List.getElem_append_right (by omega)]
        simpa using kNode_valid s x acc.length (by omega) hx hk)
    exact ⟨by rw [kNodes, h1]; simp; omega, h2⟩
theorem kPred_valid (x : List Int) (l : List Int) : predErr (kSchema x) (kPred (kSchema x) l) = 0 ∧ (kPred (kSchema x) l).length ≤ 7 ∧ ∀ i : Nat, (kPred (kSchema x) l)[i]!.2.2.2.1.length ≤ 9223372036854775807 := by
  obtain ⟨h1, h2, h3, h4⟩ := kSchema_valid x
  have hp := Src.pick_lt (s := (l, 0)) (n := 8) (by decide)
  obtain ⟨g1, g2⟩ := kNodes_valid (kSchema x) ⟨h2, by omega⟩ h4 (Src.pick (l, 0) 8).toNat (Src.next (l, 0)) [] (by simp; omega) (fun i h => by simp at h)
  have hl : (kPred (kSchema x) l).length ≤ 7 := by unfold kPred; rw [g1]; simp; omega
  refine ⟨?_, hl, fun i => ?_⟩
  · unfold predErr
    rw [if_neg (by rw [h1]; simp), if_neg (by omega)]
    exact errFrom_all _ _ _ (fun i hi => by rw [Int.zero_add]; exact (g2 i hi).1)
  · by_cases hi : i < (kPred (kSchema x) l).length
    · have := (g2 i hi).2
      exact Nat.le_trans this (by decide)
    · rw [getElem!_neg _ i hi]; decide
theorem rowVals_valid (x m : List Int) : rowErr (kSchema x) (rowVals (kSchema x) m) = 0 ∧ (rowVals (kSchema x) m).length = (kSchema x).1.length := by
  obtain ⟨h1, h2, h3, h4⟩ := kSchema_valid x
  have hl : (rowVals (kSchema x) m).length = (kSchema x).1.length := by simp [rowVals]
  refine ⟨?_, hl⟩
  unfold rowErr
  rw [if_neg (by omega)]
  refine errFrom_all _ _ _ (fun i hi => ?_)
  have hi' : i < (kSchema x).1.length := by omega
  rw [getElem!_pos _ i hi]
  simp only [rowVals, List.getElem_map, List.getElem_range]
  rw [show (0 + (i : Int)).toNat = i by omega]
  exact kValue_valid _ _ (h4 i hi')

end Go.Proofs.Ytinehkfcploeiaa
