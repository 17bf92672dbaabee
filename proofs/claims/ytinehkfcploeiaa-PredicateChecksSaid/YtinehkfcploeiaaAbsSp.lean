/- Sorting and compacting: what the result is, without a program. -/
import Derived.Test.YtinehkfcploeiaaAbsSo
namespace Go.Abs
set_option linter.unusedVariables false

theorem sortL_pw (l : List Int) : (sortL l).Pairwise (fun a b => a ≤ b) := by
  have := List.pairwise_mergeSort (le := fun x y : Int => decide (x ≤ y)) (fun a b c h1 h2 => by simp at *; omega) (fun a b => by simp; omega) l
  exact this.imp (fun h => by simpa using h)
theorem sortL_mem (l : List Int) (v : Int) : v ∈ sortL l ↔ v ∈ l := (List.mergeSort_perm l _).mem_iff
/-- Lists that ascend are equal if they have the same elements. -/
theorem asc_ext : ∀ {a b : List Int}, a.Pairwise (fun x y => x < y) → b.Pairwise (fun x y => x < y) → (∀ v, v ∈ a ↔ v ∈ b) → a = b
  | [], [], _, _, _ => rfl
  | [], y :: b, _, _, h => by have := (h y).2 (by simp); simp at this
  | x :: a, [], _, _, h => by have := (h x).1 (by simp); simp at this
  | x :: a, y :: b, ha, hb, h => by
    rw [List.pairwise_cons] at ha hb
    have hxy : x = y := by
      have h1 := (h x).1 (by simp)
      have h2 := (h y).2 (by simp)
      rcases List.mem_cons.1 h1 with q | q
      · exact q
      · rcases List.mem_cons.1 h2 with q2 | q2
        · exact q2.symm
        · have := hb.1 x q; have := ha.1 y q2; omega
    subst hxy
    rw [asc_ext ha.2 hb.2 (fun v => ?_)]
    constructor
    · intro hv
      rcases List.mem_cons.1 ((h v).1 (List.mem_cons_of_mem _ hv)) with q | q
      · subst q; have := ha.1 v hv; omega
      · exact q
    · intro hv
      rcases List.mem_cons.1 ((h v).2 (List.mem_cons_of_mem _ hv)) with q | q
      · subst q; have := hb.1 v hv; omega
      · exact q
theorem keeps_iff (l : List Int) (j : Nat) : Lib.keeps l.toArray j = true ↔ j = 0 ∨ l[j]! ≠ l[j - 1]! := by
  simp [Lib.keeps, List.getElem!_toArray]
theorem compL_eq (l : List Int) : compL l = ((List.range l.length).filter (Lib.keeps l.toArray)).map (fun j => l[j]!) := by
  simp [compL, Lib.compact, Lib.compactUpTo, List.getElem!_toArray]
theorem le_get {l : List Int} (h : l.Pairwise (fun a b => a ≤ b)) {i j : Nat} (hij : i ≤ j) (hj : j < l.length) : l[i]! ≤ l[j]! := by
  rw [getElem!_pos l i (by omega), getElem!_pos l j hj]
  rcases Nat.eq_or_lt_of_le hij with q | q
  · subst q; exact Int.le_refl _
  · exact (List.pairwise_iff_getElem.1 h) i j (by omega) hj q
theorem compL_pw {l : List Int} (h : l.Pairwise (fun a b => a ≤ b)) : (compL l).Pairwise (fun a b => a < b) := by
  rw [compL_eq, List.pairwise_map]
  have hr : ((List.range l.length).filter (Lib.keeps l.toArray)).Pairwise (fun a b => a < b) := List.Pairwise.filter _ List.pairwise_lt_range
  refine hr.imp_of_mem (fun {i j} hi hj hij => ?_)
  have hj2 := List.mem_filter.1 hj
  have hjl : j < l.length := by simpa using hj2.1
  have hk := (keeps_iff l j).1 hj2.2
  have h1 := le_get h (i := i) (j := j - 1) (by omega) (by omega)
  have h2 := le_get h (i := j - 1) (j := j) (by omega) hjl
  rcases hk with q | q
  · omega
  · omega
theorem compL_mem {l : List Int} (v : Int) : v ∈ compL l ↔ v ∈ l := by
  rw [compL_eq]
  constructor
  · intro hv
    obtain ⟨j, hj, rfl⟩ := List.mem_map.1 hv
    have hjl : j < l.length := by simpa using (List.mem_filter.1 hj).1
    rw [getElem!_pos l j hjl]
    exact List.getElem_mem hjl
  · intro hv
    obtain ⟨i, hi, rfl⟩ := List.mem_iff_getElem.1 hv
    have go : ∀ i, i < l.length → ∃ j, j < l.length ∧ Lib.keeps l.toArray j = true ∧ l[j]! = l[i]! := by
      intro i
      induction i with
      | zero => intro hi; exact ⟨0, hi, (keeps_iff l 0).2 (.inl rfl), rfl⟩
      | succ i ih =>
        intro hi
        by_cases q : l[i + 1]! = l[i]!
        · obtain ⟨j, j1, j2, j3⟩ := ih (by omega)
          exact ⟨j, j1, j2, by rw [j3, q]⟩
        · exact ⟨i + 1, hi, (keeps_iff l (i + 1)).2 (.inr (by simpa using q)), rfl⟩
    obtain ⟨j, j1, j2, j3⟩ := go i hi
    refine List.mem_map.2 ⟨j, List.mem_filter.2 ⟨by simpa using j1, j2⟩, ?_⟩
    rw [j3, getElem!_pos l i hi]
/-- The numbers of a list, ascending, each once. -/
theorem comp_sort {l r : List Int} (hr : r.Pairwise (fun a b => a < b)) (h : ∀ v, v ∈ r ↔ v ∈ l) : compL (sortL l) = r :=
  asc_ext (compL_pw (sortL_pw l)) hr fun v => by rw [compL_mem, sortL_mem, h]
end Go.Abs
