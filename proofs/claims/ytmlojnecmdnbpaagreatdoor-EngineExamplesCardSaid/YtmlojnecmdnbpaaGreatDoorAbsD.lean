/- The operations on abstract values, part 2: what writes and what makes memory. -/
import Derived.Test.YtmlojnecmdnbpaaGreatDoorAbsC
namespace Go.Abs
set_option linter.unusedVariables false

/-- The cells that a value takes. -/
def leaves (x : V) : Option (List V) :=
  match norm x with
  | .agg xs => some xs
  | .tup _ => none
  | .any => none
  | y => some [y]

def leafOk : V → Bool
  | .v x => x.oneCell'
  | .any => false
  | .agg _ => false
  | .tup _ => false
  | _ => true

theorem rep_one {w ι M} {x : V} {y : Value} (r : Rep w ι M x y) : (∃ t l, x = .sL t l) ∨ (∃ a b, x = .oL a b) → y.oneCell' = true := by
  rintro (⟨t, l, rfl⟩ | ⟨a, b, rfl⟩)
  · cases r with
    | sL _ _ _ r =>
      generalize List.map t.row l = q at r
      cases r <;> rfl
  · cases r with
    | oL _ _ _ r =>
      by_cases hb : b = 0
      · rw [if_pos hb] at r; cases r; rfl
      · rw [if_neg hb] at r; cases r; rfl

theorem leafOk_rep {w ι M} {x : V} {y : Value} (r : Rep w ι M x y) (h : leafOk x = true) : y.oneCell' = true := by
  cases x with
  | sL t l => exact rep_one r (.inl ⟨t, l, rfl⟩)
  | oL a b => exact rep_one r (.inr ⟨a, b, rfl⟩)
  | _ => cases r <;> simp_all [leafOk, Value.oneCell']

theorem norm_v {x : V} {u : Value} (h : norm x = .v u) : u.oneCell' = true := by
  cases x with
  | v q => cases q <;> simp only [norm, ofValue] at h <;> first | (injection h with h; subst h; rfl) | cases h
  | _ => simp [norm] at h

theorem cells_one {y : Value} (h : y.oneCell' = true) : y.cells = #[y] := by
  cases y <;> first | rfl | (simp [Value.oneCell'] at h)

theorem leaves_rep {w ι M} {x : V} {y : Value} {ls : List V} (r : Rep w ι M x y) (h : leaves x = some ls) :
    ls.length = y.cells.size ∧ ∀ i, (h : i < ls.length) → (h' : i < y.cells.size) → Rep w ι M ls[i] y.cells[i] := by
  have rn := r.norm
  have hv := @norm_v x
  unfold leaves at h
  generalize norm x = q at *
  split at h
  · injection h with h; subst h
    cases rn with
    | agg _ vs hl hr => exact ⟨hl, hr⟩
  · cases h
  · cases h
  · rename_i z n1 n2 n3
    injection h with h; subst h
    have hy : y.cells = #[y] := by
      cases rn with
      | v u => exact cells_one (hv rfl)
      | any => simp_all
      | agg => simp_all
      | tup => simp_all
      | sL t l _ r => exact cells_one (rep_one (.sL t l _ r) (.inl ⟨t, l, rfl⟩))
      | oL a b _ r => exact cells_one (rep_one (.oL a b _ r) (.inr ⟨a, b, rfl⟩))
      | _ => rfl
    rw [hy]
    refine ⟨rfl, fun i h1 h2 => ?_⟩
    simp at h1
    subst h1
    simpa using rn

/- moving values about -/
def aPick (h : Heap) (c a b : V) : Option (V × Heap) :=
  match c with
  | .v (.bool t) => some (if t then a else b, h)
  | _ => none

/- a new variable -/
def aBox (h : Heap) (new : Nat) (elem : TypeId) (x : V) : Option (V × Heap) :=
  match leaves x with
  | some ls => match halloc h new ⟨ls.length, [ls], elem⟩ with
    | some h' => some (.pO new 0 0, h')
    | none => none
  | none => none

theorem alloc_row {h : Heap} {ι : Iota} {w : World} (H : HRel h ι w) {new : Nat} {elem : TypeId} {ls : List V} {h' : Heap} {y : Value}
    (e : halloc h new ⟨ls.length, [ls], elem⟩ = some h') (hl : ls.length = y.cells.size)
    (hr : ∀ i, (h1 : i < ls.length) → (h2 : i < y.cells.size) → Rep w ι (Mt h ι) ls[i] y.cells[i]) :
    HRel h' (ι.put new ⟨w.heap.size, 0, ls.length, Nat.zero_mod _⟩) { w with heap := w.heap.push (.cells y.cells elem) } ∧ Evolve h ι w h' (ι.put new ⟨w.heap.size, 0, ls.length, Nat.zero_mod _⟩) { w with heap := w.heap.push (.cells y.cells elem) } := by
  refine H.alloc e y.cells (0, 0) (Unfr.zero _ _) (by simp) (by simp [hl]) ?_ rfl
  intro i hi j hj
  simp at hi
  subst hi
  simp at hj
  exact ⟨y.cells[j]'(by omega), by simp [Array.getElem?_eq_getElem (show j < y.cells.size by omega)], hr j hj (by omega)⟩

theorem put_same (ι : Iota) (n : Nat) (l : Loc) : (ι.put n l) n = some l := by simp [Iota.put]

theorem aBox_sound {P h ι w} (H : HRel h ι w) {new : Nat} {elem : TypeId} {x : V} {y : Value} (r : Rep w ι (Mt h ι) x y) : VS P h ι w (Instr.box elem y) (aBox h new elem x) := by
  unfold aBox
  split
  · rename_i ls hls
    split
    · rename_i h1 e
      intro x' h' ee
      injection ee with ee
      injection ee with e1 e2
      subst e1 e2
      obtain ⟨hl, hr⟩ := leaves_rep r hls
      obtain ⟨HH, ev⟩ := alloc_row H e hl hr
      exact ⟨.pointer (some ⟨w.heap.size, 0 + 0 * ls.length + 0, none⟩), _, _, by simp [Instr.box, newVar, newRow], .pO new 0 0 ⟨w.heap.size, 0, ls.length, Nat.zero_mod _⟩ (put_same _ _ _), HH, ev⟩
    · exact VS.none
  · exact VS.none

def zeroV (P : Program) (t : TypeId) : Option V :=
  match P.info? t with
  | some i => match i.zero with
    | some z => some (ofValue z)
    | none => none
  | none => none

theorem run_zeroV {P : Program} {t : TypeId} {x : V} (h : zeroV P t = some x) : ∃ z, (∀ w : World, (zeroValue t).run P w = .ok z w) ∧ x = ofValue z := by
  unfold zeroV at h
  split at h
  · rename_i i hi
    split at h
    · rename_i z hz
      injection h with h
      exact ⟨z, fun w => by simp [zeroValue, typeInfo, hi, hz], h.symm⟩
    · cases h
  · cases h

def aAlloc (P : Program) (h : Heap) (new : Nat) (elem : TypeId) : Option (V × Heap) :=
  match zeroV P elem with
  | some z => aBox h new elem z
  | none => none

theorem aAlloc_sound {P h ι w} (H : HRel h ι w) {new : Nat} {elem : TypeId} : VS P h ι w (Instr.alloc elem true (.tuple #[])) (aAlloc P h new elem) := by
  unfold aAlloc
  split
  · rename_i x hx
    obtain ⟨z, hz, rfl⟩ := run_zeroV hx
    intro x' h' e
    obtain ⟨y, w', ι', h1, h2, h3, h4⟩ := aBox_sound (P := P) H (new := new) (elem := elem) (Rep.ofValue (w := w) (ι := ι) (M := Mt h ι) z) x' h' e
    refine ⟨y, w', ι', ?_, h2, h3, h4⟩
    simpa [Instr.alloc, Instr.box, hz] using h1
  · exact VS.none

theorem dep_of_opt {rows : List (List V)} {p : Nat → Nat → V → Prop} (h : ∀ i j r x, rows[i]? = some r → r[j]? = some x → p i j x) :
    ∀ i, (hi : i < rows.length) → ∀ j, (hj : j < rows[i].length) → p i j rows[i][j] :=
  fun i hi j hj => h i j rows[i] rows[i][j] (List.getElem?_eq_getElem hi) (List.getElem?_eq_getElem hj)

theorem LiveAt.get {w ι M o l c fr} (la : LiveAt w ι M o l c fr) {i j : Nat} {r : List V} {x : V} (hi : o.rows[i]? = some r) (hj : r[j]? = some x) :
    j < o.sz ∧ i < o.rows.length ∧ ∃ y, c[l.base + i * o.sz + j]? = some y ∧ Rep w ι M x y := by
  have h1 : i < o.rows.length := by
    rcases Nat.lt_or_ge i o.rows.length with q | q
    · exact q
    · rw [List.getElem?_eq_none q] at hi; cases hi
  rw [List.getElem?_eq_getElem h1] at hi
  injection hi with hi
  subst hi
  have h2 : j < o.rows[i].length := by
    rcases Nat.lt_or_ge j o.rows[i].length with q | q
    · exact q
    · rw [List.getElem?_eq_none q] at hj; cases hj
  rw [List.getElem?_eq_getElem h2] at hj
  injection hj with hj
  subst hj
  have := la.rows _ (List.getElem_mem h1)
  exact ⟨by omega, h1, la.reads i h1 j h2⟩

theorem splice_get {row ls : List V} {off j : Nat} {x : V} (hf : off + ls.length ≤ row.length) (h : (row.take off ++ ls ++ row.drop (off + ls.length))[j]? = some x) :
    (off ≤ j ∧ j < off + ls.length ∧ ls[j - off]? = some x) ∨ ((j < off ∨ off + ls.length ≤ j) ∧ row[j]? = some x) := by
  by_cases h1 : j < off
  · right
    refine ⟨.inl h1, ?_⟩
    rw [List.append_assoc, List.getElem?_append_left (by simp; omega), List.getElem?_take_of_lt h1] at h
    exact h
  · by_cases h2 : j < off + ls.length
    · left
      refine ⟨by omega, h2, ?_⟩
      rw [List.append_assoc, List.getElem?_append_right (by simp; omega), List.getElem?_append_left (by simp; omega)] at h
      simpa [Nat.min_eq_left (show off ≤ row.length by omega)] using h
    · right
      refine ⟨.inr (by omega), ?_⟩
      rw [List.getElem?_append_right (by simp; omega), List.getElem?_drop] at h
      rw [← h]
      congr 1
      simp
      omega

/- a store -/
def aStore (P : Program) (h : Heap) (t : TypeId) (p x : V) : Option (V × Heap) :=
  match p, leaves x, sizeT P t with
  | .pO id r off, some ls, some n => if ls.length = n ∧ ls.all leafOk = true then match h[id]? with
      | some (.live o) => match o.rows[r]? with
        | some row => if off + n ≤ row.length ∧ o.elem.fz ≤ 1 then some (.any, h.set id (.live { o with rows := o.rows.set r (row.take off ++ ls ++ row.drop (off + n)) })) else none
        | none => none
      | _ => none
    else none
  | _, _, _ => none

/-- What a unit operation is to do. -/
def US (P : Program) (h : Heap) (ι : Iota) (w : World) (m : Sem Unit) (r : Option (V × Heap)) : Prop :=
  ∀ x h', r = some (x, h') → x = .any ∧ ∃ w' ι', m.run P w = .ok () w' ∧ HRel h' ι' w' ∧ Evolve h ι w h' ι' w'

theorem LiveAt.frozen {w ι M o l c fr} (la : LiveAt w ι M o l c fr) {k : Nat} (hk : k < c.size) (hz : l.base + o.elem.fz ≤ k + 1 ∨ o.elem.fz ≤ 1) : w.frozen? ⟨l.blk, k, none⟩ = false := by
  have := la.unfrozen.at' k hk
  simp only [World.frozen?, la.blk]
  simp
  omega

theorem aStore_sound {P h ι w} (H : HRel h ι w) {t : TypeId} {p x : V} {y z : Value} (r : Rep w ι (Mt h ι) p y) (rx : Rep w ι (Mt h ι) x z) :
    US P h ι w (Instr.storeAt t y z) (aStore P h t p x) := by
  unfold aStore
  split
  · rename_i id rr off ls n hls hn
    split
    · rename_i hcond
      obtain ⟨hlen, hok⟩ := hcond
      split
      · rename_i o ho
        split
        · rename_i row hrow
          split
          · rename_i hfit0
            obtain ⟨hfit, hfz⟩ := hfit0
            intro x' h' e
            injection e with e
            injection e with e1 e2
            subst e1
            refine ⟨rfl, ?_⟩
            cases r with
            | pO _ _ _ l hl =>
              obtain ⟨l', c, fr, h1, la⟩ := H.live id o ho
              rw [hl] at h1; injection h1 with h1; subst h1
              obtain ⟨hzl, hzr⟩ := leaves_rep rx hls
              have hlt : rr < o.rows.length := by
                rcases Nat.lt_or_ge rr o.rows.length with q | q
                · exact q
                · rw [List.getElem?_eq_none q] at hrow; cases hrow
              have hrow' : o.rows[rr] = row := by rw [List.getElem?_eq_getElem hlt] at hrow; injection hrow
              have hrl : row.length = o.sz := la.rows row (by rw [← hrow']; exact List.getElem_mem hlt)
              have hmul : rr * o.sz + o.sz ≤ o.rows.length * o.sz := by
                have : (rr + 1) * o.sz ≤ o.rows.length * o.sz := Nat.mul_le_mul_right _ hlt
                rwa [Nat.add_mul, Nat.one_mul] at this
              have hfits := la.fits
              have hsz : z.cells.toList.length = n := by simp; omega
              have hone : ∀ v ∈ z.cells.toList, v.oneCell' = true := by
                intro v hv
                obtain ⟨i, hi, rfl⟩ := List.getElem_of_mem hv
                have hi' : i < ls.length := by simp at hi; omega
                have := hzr i hi' (by simpa using hi)
                simp only [Array.getElem_toList]
                exact leafOk_rep this (List.all_eq_true.1 hok _ (List.getElem_mem hi'))
              have hbound : l.base + rr * o.sz + off + n ≤ c.size := by omega
              have hrun := run_storeCells_cells (P := P) l.blk (l.base + rr * l.sz + off) z.cells.toList 0 w
                (fun j hj => by
                  rw [la.cell, la.sz]
                  rw [Array.getElem?_eq_getElem (by omega)]; rfl)
                (fun j hj => by rw [la.sz]; exact la.frozen (by omega) (.inr hfz)) hone
              obtain ⟨c', q1, q2, q3, q4, q5⟩ := setCells_row l.blk o.elem.t fr z.cells.toList (l.base + rr * l.sz + off) w c la.blk (by rw [la.sz]; omega)
              have key := H.upd ho hl la (o' := { o with rows := o.rows.set rr (row.take off ++ ls ++ row.drop (off + n)) }) q3 q1 q2 rfl rfl ?_ ?_ ?_
              · refine ⟨_, ι, ?_, by rw [← e2]; exact key.1, by rw [← e2]; exact key.2⟩
                have hz : z.cells.size = n := by omega
                simp only [Instr.storeAt, Instr.sureAddr, storeVar, Sem.run_bind, Sem.run_pure, Result.andThen_ok, run_sizeOf hn, hz]
                simpa using hrun
              · intro r' hr'
                rcases List.mem_or_eq_of_mem_set hr' with h2 | h2
                · exact la.rows r' h2
                · subst h2
                  simp
                  omega
              · simpa using hfits
              · refine dep_of_opt (rows := o.rows.set rr (row.take off ++ ls ++ row.drop (off + n))) (p := fun i j x => ∃ y, c'[l.base + i * o.sz + j]? = some y ∧ Rep w ι (Mt h ι) x y) ?_
                intro i j r x hi hj
                by_cases hir : i = rr
                · subst hir
                  rw [List.getElem?_set_self hlt] at hi
                  injection hi with hi
                  subst hi
                  rw [← hlen] at hj
                  rcases splice_get (by omega) hj with ⟨j1, j2, j3⟩ | ⟨j1, j3⟩
                  · have hk := q5 (j - off) (by omega)
                    refine ⟨z.cells[j - off]'(by omega), ?_, ?_⟩
                    · have ee : l.base + i * o.sz + j = l.base + i * l.sz + off + (j - off) := by rw [la.sz]; omega
                      rw [ee, hk]
                      rw [List.getElem?_eq_getElem (by omega)]
                      simp
                    · have hz2 := hzr (j - off) (by omega) (by omega)
                      rw [List.getElem?_eq_getElem (by omega)] at j3
                      injection j3 with j3
                      rw [← j3]; exact hz2
                  · obtain ⟨_, _, u, u1, u2⟩ := la.get hrow j3
                    exact ⟨u, by rw [q4 _ (by rw [la.sz]; rcases j1 with j1 | j1; · left; omega
                                              · right; omega)]; exact u1, u2⟩
                · rw [List.getElem?_set_ne (by omega)] at hi
                  obtain ⟨hjs, hil, u, u1, u2⟩ := la.get hi hj
                  have hsep : l.base + i * o.sz + j < l.base + rr * o.sz + off ∨ l.base + rr * o.sz + off + n ≤ l.base + i * o.sz + j := by
                    rcases Nat.lt_or_gt_of_ne hir with q | q
                    · left
                      have : (i + 1) * o.sz ≤ rr * o.sz := Nat.mul_le_mul_right _ q
                      rw [Nat.add_mul, Nat.one_mul] at this
                      omega
                    · right
                      have : (rr + 1) * o.sz ≤ i * o.sz := Nat.mul_le_mul_right _ q
                      rw [Nat.add_mul, Nat.one_mul] at this
                      omega
                  exact ⟨u, by rw [q4 _ (by rw [la.sz, hsz]; exact hsep)]; exact u1, u2⟩
          · intro _ _ e; cases e
        · intro _ _ e; cases e
      · intro _ _ e; cases e
    · intro _ _ e; cases e
  · intro _ _ e; cases e

end Go.Abs
