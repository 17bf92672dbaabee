/- The order of strings; sorting, compacting and searching them: what the result is, without a program. -/
import Derived.Test.YtlamfjhhjfgemaaGreatAbsSs
namespace Go.Abs
set_option linter.unusedVariables false

theorem sLt_iff (a b : ByteArray) : strLt a b = true ↔ a.data.toList < b.data.toList := by
  unfold strLt; rw [Proofs.bytesLess_eq, Lib.toList_data, Lib.toList_data]; simp
theorem sLt_irrefl (a : ByteArray) : ¬ strLt a a = true := by rw [sLt_iff]; exact List.lt_irrefl _
theorem sLt_trans {a b c : ByteArray} (h1 : strLt a b = true) (h2 : strLt b c = true) : strLt a c = true := by
  rw [sLt_iff] at *; exact List.lt_trans h1 h2
theorem data_inj {a b : ByteArray} (h : a.data.toList = b.data.toList) : a = b := by
  cases a; cases b; simp at h; rw [h]
theorem ltL_tri (a b : List UInt8) : a < b ∨ a = b ∨ b < a := by
  rcases List.le_total a b with h | h
  · by_cases q : a < b
    · exact .inl q
    · exact .inr (.inl (List.le_antisymm h (List.not_lt.1 q)))
  · by_cases q : b < a
    · exact .inr (.inr q)
    · exact .inr (.inl (List.le_antisymm (List.not_lt.1 q) h))
theorem sLt_tri (a b : ByteArray) : strLt a b = true ∨ a = b ∨ strLt b a = true := by
  rw [sLt_iff, sLt_iff]
  rcases ltL_tri a.data.toList b.data.toList with h | h | h
  · exact .inl h
  · exact .inr (.inl (data_inj h))
  · exact .inr (.inr h)
theorem sLt_asym {a b : ByteArray} (h1 : strLt a b = true) : ¬ strLt b a = true := fun h2 => sLt_irrefl a (sLt_trans h1 h2)
/-- Strings that ascend. -/
def ascS (l : List ByteArray) : Prop := l.Pairwise fun a b => strLt a b = true
/-- Lists that ascend are equal if they have the same elements. -/
theorem ascS_ext : ∀ {a b : List ByteArray}, ascS a → ascS b → (∀ v, v ∈ a ↔ v ∈ b) → a = b
  | [], [], _, _, _ => rfl
  | [], y :: b, _, _, h => by have := (h y).2 (by simp); simp at this
  | x :: a, [], _, _, h => by have := (h x).1 (by simp); simp at this
  | x :: a, y :: b, ha, hb, h => by
    have ha := List.pairwise_cons.1 ha
    have hb := List.pairwise_cons.1 hb
    have hxy : x = y := by
      have h1 := (h x).1 (by simp)
      have h2 := (h y).2 (by simp)
      rcases List.mem_cons.1 h1 with q | q
      · exact q
      · rcases List.mem_cons.1 h2 with q2 | q2
        · exact q2.symm
        · exact absurd (ha.1 y q2) (sLt_asym (hb.1 x q))
    subst hxy
    rw [ascS_ext ha.2 hb.2 (fun v => ?_)]
    constructor
    · intro hv
      rcases List.mem_cons.1 ((h v).1 (List.mem_cons_of_mem _ hv)) with q | q
      · subst q; exact absurd (ha.1 v hv) (sLt_irrefl v)
      · exact q
    · intro hv
      rcases List.mem_cons.1 ((h v).2 (List.mem_cons_of_mem _ hv)) with q | q
      · subst q; exact absurd (hb.1 v hv) (sLt_irrefl v)
      · exact q
theorem keepsS_iff (l : List (List UInt8)) (j : Nat) : Lib.keeps l.toArray j = true ↔ j = 0 ∨ l[j]! ≠ l[j - 1]! := by
  simp [Lib.keeps, List.getElem!_toArray]
theorem compact_eq (l : List (List UInt8)) : Lib.compact l = ((List.range l.length).filter (Lib.keeps l.toArray)).map (fun j => l[j]!) := by
  simp [Lib.compact, Lib.compactUpTo, List.getElem!_toArray]
def leL (a b : List UInt8) : Prop := a < b ∨ a = b
theorem leS_get {l : List (List UInt8)} (h : l.Pairwise leL) {i j : Nat} (hij : i ≤ j) (hj : j < l.length) : leL l[i]! l[j]! := by
  rw [getElem!_pos l i (by omega), getElem!_pos l j hj]
  rcases Nat.eq_or_lt_of_le hij with q | q
  · subst q; exact .inr rfl
  · exact (List.pairwise_iff_getElem.1 h) i j (by omega) hj q
theorem compact_pw {l : List (List UInt8)} (h : l.Pairwise leL) : (Lib.compact l).Pairwise (fun a b => a < b) := by
  rw [compact_eq, List.pairwise_map]
  have hr : ((List.range l.length).filter (Lib.keeps l.toArray)).Pairwise (fun a b => a < b) := List.Pairwise.filter _ List.pairwise_lt_range
  refine hr.imp_of_mem (fun {i j} hi hj hij => ?_)
  have hj2 := List.mem_filter.1 hj
  have hjl : j < l.length := by simpa using hj2.1
  have hk := (keepsS_iff l j).1 hj2.2
  have h1 := leS_get h (i := i) (j := j - 1) (by omega) (by omega)
  have h2 := leS_get h (i := j - 1) (j := j) (by omega) hjl
  rcases hk with q | q
  · omega
  · rcases h2 with h2 | h2
    · rcases h1 with h1 | h1
      · exact List.lt_trans h1 h2
      · rw [h1]; exact h2
    · exact absurd h2.symm q
theorem compact_mem {l : List (List UInt8)} (v : List UInt8) : v ∈ Lib.compact l ↔ v ∈ l := by
  rw [compact_eq]
  constructor
  · intro hv
    obtain ⟨j, hj, rfl⟩ := List.mem_map.1 hv
    have hjl : j < l.length := by simpa using (List.mem_filter.1 hj).1
    rw [getElem!_pos l j hjl]
    exact List.getElem_mem hjl
  · intro hv
    obtain ⟨i, hi, rfl⟩ := List.mem_iff_getElem.1 hv
    have go : ∀ i, i < l.length → ∃ j, j < l.length ∧ Lib.keeps l.toArray j = true ∧ l[j]! = l[i]! := by
      intro i
      induction i with
      | zero => intro hi; exact ⟨0, hi, (keepsS_iff l 0).2 (.inl rfl), rfl⟩
      | succ i ih =>
        intro hi
        by_cases q : l[i + 1]! = l[i]!
        · obtain ⟨j, j1, j2, j3⟩ := ih (by omega)
          exact ⟨j, j1, j2, by rw [j3, q]⟩
        · exact ⟨i + 1, hi, (keepsS_iff l (i + 1)).2 (.inr (by simpa using q)), rfl⟩
    obtain ⟨j, j1, j2, j3⟩ := go i hi
    refine List.mem_map.2 ⟨j, List.mem_filter.2 ⟨by simpa using j1, j2⟩, ?_⟩
    rw [j3, getElem!_pos l i hi]
theorem mem_bsL {v : ByteArray} {l : List ByteArray} : v.data.toList ∈ bsL l ↔ v ∈ l := by
  unfold bsL
  rw [List.mem_map]
  constructor
  · rintro ⟨x, h1, h2⟩; rw [← data_inj h2]; exact h1
  · exact fun h => ⟨v, h, rfl⟩
/-- The strings of a list, ascending, each once. -/
theorem compS_sort {l r : List ByteArray} (hr : ascS r) (h : ∀ v, v ∈ r ↔ v ∈ l) : compS (sortS l) = r := by
  refine ascS_ext ?_ hr fun v => ?_
  · unfold compS sortS ascS
    rw [bs_mk, List.pairwise_map]
    have hp : (((bsL l).mergeSort fun x y => decide (x ≤ y))).Pairwise leL := by
      have := List.pairwise_mergeSort (le := fun x y : List UInt8 => decide (x ≤ y)) (fun a b c h1 h2 => by
        simp only [decide_eq_true_eq] at *; exact List.le_trans h1 h2) (fun a b => by
        simp only [Bool.or_eq_true, decide_eq_true_eq]; exact List.le_total a b) (bsL l)
      refine this.imp (fun {a b} q => ?_)
      simp only [decide_eq_true_eq] at q
      rcases ltL_tri a b with p | p | p
      · exact .inl p
      · exact .inr p
      · exact absurd p (List.not_lt.2 q)
    exact (compact_pw hp).imp (fun {a b} q => (sLt_iff _ _).2 q)
  · rw [h v]
    unfold compS sortS
    rw [bs_mk, List.mem_map]
    constructor
    · rintro ⟨x, h1, rfl⟩
      rw [compact_mem, (List.mergeSort_perm _ _).mem_iff] at h1
      unfold bsL at h1
      obtain ⟨y, h2, rfl⟩ := List.mem_map.1 h1
      exact h2
    · intro hv
      refine ⟨v.data.toList, ?_, rfl⟩
      rw [compact_mem, (List.mergeSort_perm _ _).mem_iff, mem_bsL]; exact hv
/-- How many strings at the head of a list are less than a string. -/
def plS (l : List ByteArray) (s : ByteArray) : Nat := (l.takeWhile fun w => strLt w s).length
theorem plS_le (l : List ByteArray) (s : ByteArray) : plS l s ≤ l.length := by
  unfold plS
  induction l with
  | nil => simp
  | cons x l ih => rw [List.takeWhile_cons]; split <;> simp; omega
theorem plS_lt : ∀ {l : List ByteArray} {s : ByteArray} {t : Nat}, t < plS l s → strLt l[t]! s = true
  | [], s, t, h => by simp [plS] at h
  | x :: l, s, t, h => by
    unfold plS at h
    rw [List.takeWhile_cons] at h
    split at h
    · rename_i q
      cases t with
      | zero => exact q
      | succ t => exact plS_lt (l := l) (t := t) (by unfold plS; simpa using h)
    · simp at h
theorem plS_at : ∀ {l : List ByteArray} {s : ByteArray}, plS l s < l.length → ¬ strLt l[plS l s]! s = true
  | [], s, h => by simp at h
  | x :: l, s, h => by
    unfold plS at h ⊢
    rw [List.takeWhile_cons] at h ⊢
    split
    · rename_i q
      rw [if_pos q] at h
      exact plS_at (l := l) (by unfold plS; simpa using h)
    · rename_i q
      exact q
theorem plS_unique {l : List ByteArray} {s : ByteArray} {k : Nat} (h1 : ∀ t, t < k → strLt l[t]! s = true) (h0 : k ≤ l.length) (h2 : k = l.length ∨ ¬ strLt l[k]! s = true) : plS l s = k := by
  rcases Nat.lt_trichotomy (plS l s) k with q | q | q
  · exact absurd (h1 _ q) (plS_at (by omega))
  · exact q
  · rcases h2 with p | p
    · have := plS_le l s; omega
    · exact absurd (plS_lt q) p
theorem ascS_get {l : List ByteArray} (h : ascS l) {i j : Nat} (hij : i < j) (hj : j < l.length) : strLt l[i]! l[j]! = true := by
  rw [getElem!_pos l i (by omega), getElem!_pos l j hj]
  exact (List.pairwise_iff_getElem.1 h) i j (by omega) hj hij
theorem plS_ge {l : List ByteArray} (h : ascS l) {s : ByteArray} {t : Nat} (h1 : plS l s ≤ t) (h2 : t < l.length) : ¬ strLt l[t]! s = true := by
  intro q
  rcases Nat.eq_or_lt_of_le h1 with p | p
  · subst p; exact plS_at h2 q
  · exact plS_at (by omega) (sLt_trans (ascS_get h p h2) q)
theorem plS_idx {l : List ByteArray} (h : ascS l) {i : Nat} (hi : i < l.length) : plS l l[i]! = i :=
  plS_unique (fun t ht => ascS_get h ht hi) (by omega) (.inr (sLt_irrefl _))
theorem plS_mem {l : List ByteArray} (h : ascS l) {s : ByteArray} (hs : s ∈ l) : plS l s < l.length ∧ l[plS l s]! = s := by
  obtain ⟨i, hi, rfl⟩ := List.mem_iff_getElem.1 hs
  have e : l[i] = l[i]! := (getElem!_pos l i hi).symm
  rw [e, plS_idx h hi]
  exact ⟨hi, rfl⟩
theorem bsGo_in (less : Nat → Bool) (k n : Nat) (h1 : ∀ t, t < k → less t = true) (h2 : ∀ t, k ≤ t → t < n → less t = false) : ∀ (f lo hi : Nat), hi - lo ≤ f → lo ≤ k → k ≤ hi → hi ≤ n → Lib.bsGo less f lo hi = k
  | 0, lo, hi, hf, a, b, _ => by
    rw [Lib.bsGo]; omega
  | f + 1, lo, hi, hf, a, b, c => by
    rw [Lib.bsGo]
    by_cases h : lo < hi
    · rw [if_pos h]
      by_cases hm : (lo + hi) / 2 < k
      · rw [h1 _ hm, if_pos rfl]; exact bsGo_in less k n h1 h2 f _ _ (by omega) (by omega) b c
      · rw [h2 _ (by omega) (by omega)]; exact bsGo_in less k n h1 h2 f _ _ (by omega) a (by omega) (by omega)
    · rw [if_neg h]; omega
theorem bsI_plS {l : List ByteArray} (h : ascS l) (x : ByteArray) : bsI l x = (plS l x : Int) := by
  unfold bsI
  congr 1
  exact bsGo_in _ (plS l x) l.length (fun t ht => plS_lt ht) (fun t ht htl => by
    show strLt l[t]! x = false
    rw [Bool.eq_false_iff]; exact plS_ge h ht htl) _ _ _ (by omega) (by omega) (plS_le l x) (by omega)
/-- A string is put at its place. -/
def insS (l : List ByteArray) (s : ByteArray) : List ByteArray := if plS l s = l.length ∨ l[plS l s]! ≠ s then l.take (plS l s) ++ [s] ++ l.drop (plS l s) else l
theorem insS_mem {l : List ByteArray} (h : ascS l) (s v : ByteArray) : v ∈ insS l s ↔ v = s ∨ v ∈ l := by
  unfold insS
  split
  · have e : v ∈ l ↔ v ∈ l.take (plS l s) ∨ v ∈ l.drop (plS l s) := by
      conv => lhs; rw [← List.take_append_drop (plS l s) l]
      exact List.mem_append
    rw [List.mem_append, List.mem_append, List.mem_singleton, e]; grind
  · rename_i q
    have hlt : plS l s < l.length := by have := plS_le l s; omega
    have hs : s ∈ l := by
      have p : l[plS l s]! = s := Decidable.not_not.1 fun p => q (.inr p)
      rw [← p, getElem!_pos l _ hlt]; exact List.getElem_mem hlt
    constructor
    · exact fun h => .inr h
    · rintro (rfl | h)
      · exact hs
      · exact h
theorem insS_asc {l : List ByteArray} (h : ascS l) (s : ByteArray) : ascS (insS l s) := by
  unfold insS
  split
  · rename_i q
    unfold ascS
    rw [List.append_assoc, List.pairwise_append]
    have ht : ∀ a, a ∈ l.take (plS l s) → strLt a s = true := fun a ha => by
      obtain ⟨i, hi, rfl⟩ := List.mem_iff_getElem.1 ha
      have hi2 : i < plS l s ∧ i < l.length := by simp at hi; omega
      have := plS_lt (l := l) (s := s) (t := i) hi2.1
      rw [getElem!_pos l i hi2.2] at this
      rw [List.getElem_take]; exact this
    have hd : ∀ b, b ∈ l.drop (plS l s) → strLt s b = true := fun b hb => by
      obtain ⟨i, hi, rfl⟩ := List.mem_iff_getElem.1 hb
      have hi2 : plS l s + i < l.length := by simp at hi; omega
      have h1 := plS_ge h (s := s) (t := plS l s + i) (by omega) hi2
      rw [List.getElem_drop, ← getElem!_pos l _ hi2]
      rcases sLt_tri l[plS l s + i]! s with p | p | p
      · exact absurd p h1
      · exfalso
        have e := plS_idx h hi2
        rw [p] at e
        have hi0 : i = 0 := by omega
        subst hi0
        rcases q with q | q
        · omega
        · exact q p
      · exact p
    refine ⟨List.Pairwise.sublist (List.take_sublist _ _) h, ?_, ?_⟩
    · rw [List.singleton_append, List.pairwise_cons]
      exact ⟨hd, List.Pairwise.sublist (List.drop_sublist _ _) h⟩
    · intro a ha b hb
      rw [List.singleton_append, List.mem_cons] at hb
      rcases hb with rfl | hb
      · exact ht a ha
      · exact sLt_trans (ht a ha) (hd b hb)
  · exact h
theorem insS_len (l : List ByteArray) (s : ByteArray) : (insS l s).length ≤ l.length + 1 := by
  unfold insS
  split
  · simp only [List.length_append, List.length_take, List.length_drop, List.length_singleton]; omega
  · omega
/-- The different strings of a list, ascending. -/
def wordsS (l : List ByteArray) : List ByteArray := l.foldl insS []
theorem foldIns : ∀ (l a : List ByteArray), ascS a → ascS (l.foldl insS a) ∧ (∀ v, v ∈ l.foldl insS a ↔ v ∈ a ∨ v ∈ l) ∧ (l.foldl insS a).length ≤ a.length + l.length
  | [], a, h => ⟨h, fun v => by simp, by simp⟩
  | x :: l, a, h => by
    obtain ⟨h1, h2, h3⟩ := foldIns l (insS a x) (insS_asc h x)
    have := insS_len a x
    refine ⟨h1, fun v => ?_, by rw [List.foldl_cons, List.length_cons]; omega⟩
    rw [List.foldl_cons, h2 v, insS_mem h, List.mem_cons]; grind
theorem wordsS_asc (l : List ByteArray) : ascS (wordsS l) := (foldIns l [] List.Pairwise.nil).1
theorem wordsS_mem (l : List ByteArray) (v : ByteArray) : v ∈ wordsS l ↔ v ∈ l := by
  have := (foldIns l [] List.Pairwise.nil).2.1 v
  unfold wordsS; simpa using this
theorem wordsS_len (l : List ByteArray) : (wordsS l).length ≤ l.length := by
  have := (foldIns l [] List.Pairwise.nil).2.2
  unfold wordsS; simpa using this
theorem comp_words (l : List ByteArray) : compS (sortS l) = wordsS l := compS_sort (wordsS_asc l) (wordsS_mem l)
/-- The numbers of the strings of a list among its different strings. -/
def codesS (l : List ByteArray) : List Int := l.map fun s => (plS (wordsS l) s : Int)
theorem codesS_len (l : List ByteArray) : (codesS l).length = l.length := by simp [codesS]
end Go.Abs
