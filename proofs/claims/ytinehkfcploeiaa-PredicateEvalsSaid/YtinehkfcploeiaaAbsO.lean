/- Arguments of struct types: what the statement's reader reads is a tree of a form. -/
import Derived.Test.YtinehkfcploeiaaAbsP
import Derived.ChangeArms
import Derived.DataElems
namespace Go.Abs
set_option linter.unusedVariables false
open Go.RowKit

/-- What every value of the form satisfies: integers in range, sizes that a machine has. -/
def Ty.ok : (t : Ty) → t.den → Prop
  | .int k, n => (Lit.int k n).wf = true
  | .bool, _ => True
  | .str, s => s.size ≤ maxLen
  | .list t, l => l.length ≤ maxLen ∧ ∀ x, x ∈ l → t.ok x
  | .pair a b, x => a.ok x.1 ∧ b.ok x.2
def fitsFs (P : Program) (f : TypeId → Ty → Bool) : List Field → Nat → Ty → Bool
  | [], _, _ => false
  | [x], off, y => decide (x.offset = off) && f x.type y && decide (P.cellsOf x.type = y.size)
  | x :: xs, off, .pair a b => decide (x.offset = off) && f x.type a && decide (P.cellsOf x.type = a.size) && fitsFs P f xs (off + a.size) b
  | _, _, _ => false
/-- The program's type t is laid out as the form. -/
def fits (P : Program) : Nat → TypeId → Ty → Bool
  | 0, _, _ => false
  | n + 1, t, y => match P.underlying t, y with
    | some (.int k), .int k' => decide (k = k')
    | some .bool, .bool => true
    | some .string, .str => true
    | some (.slice e), .list y => fits P n e y && decide (P.cellsOf e = y.size)
    | some (.struct fs), y => fitsFs P (fits P n) fs.toList 0 y && decide (P.cellsOf t = y.size)
    | _, _ => false

theorem Ty.size_pos : ∀ (t : Ty), 0 < t.size
  | .int _ => Nat.one_pos
  | .bool => Nat.one_pos
  | .str => Nat.one_pos
  | .list _ => Nat.one_pos
  | .pair a b => by have := a.size_pos; simp only [Ty.size]; omega

/-- Cells read as a row. -/
def RowAs (w : World) (r : List V) (cs : List Value) : Prop := r.length = cs.length ∧ ∀ (i : Nat) (u : V) (z : Value), r[i]? = some u → cs[i]? = some z → ReadsAs w u z
theorem RowAs.one {w : World} {u : V} {z : Value} (h : ReadsAs w u z) : RowAs w [u] [z] := by
  refine ⟨rfl, fun i a b ha hb => ?_⟩
  cases i with
  | zero => simp at ha hb; subst ha hb; exact h
  | succ i => simp at ha
theorem RowAs.app {w : World} {r r' : List V} {cs cs' : List Value} (h : RowAs w r cs) (h' : RowAs w r' cs') : RowAs w (r ++ r') (cs ++ cs') := by
  refine ⟨by simp [h.1, h'.1], fun i a b ha hb => ?_⟩
  by_cases hi : i < r.length
  · rw [List.getElem?_append_left hi] at ha
    rw [List.getElem?_append_left (by rw [← h.1]; exact hi)] at hb
    exact h.2 i a b ha hb
  · rw [List.getElem?_append_right (by omega)] at ha
    rw [List.getElem?_append_right (by rw [← h.1]; omega), ← h.1] at hb
    exact h'.2 _ a b ha hb

variable {H : Type} {enc : TypeId × Value → H} {P : Program} {w : World} {base : Nat} {spare : Nat → Bool} {held : Bool}

theorem fitsFs_reads {f : TypeId → Ty → Bool} {n : Nat} {cs : List Value} (ih : ∀ (t : TypeId) (y : Ty) (cs : List Value) (x : DataW H × List MemPlace), f t y = true → DataW.trod enc P w base spare held n t cs = some x → ∃ a : y.den, y.ok a ∧ RowAs w (y.row a) cs) :
    ∀ (l : List Field) (off : Nat) (y : Ty), fitsFs P f l off y = true → (∀ g, g ∈ l → ∃ x, DataW.trod enc P w base spare held n g.type ((cs.drop g.offset).take (P.cellsOf g.type)) = some x) → cs.length = off + y.size → ∃ a : y.den, y.ok a ∧ RowAs w (y.row a) (cs.drop off)
  | [], _, _, h, _, _ => by simp [fitsFs] at h
  | [g], off, y, h, hx, hl => by
    simp only [fitsFs, Bool.and_eq_true, decide_eq_true_eq] at h
    obtain ⟨⟨h1, h2⟩, h3⟩ := h
    obtain ⟨x, hx⟩ := hx g (by simp)
    rw [h1, h3, List.take_of_length_le (by simp; omega)] at hx
    exact ih _ _ _ _ h2 hx
  | g :: g2 :: l, off, .pair a b, h, hx, hl => by
    simp only [fitsFs, Bool.and_eq_true, decide_eq_true_eq] at h
    obtain ⟨⟨⟨h1, h2⟩, h3⟩, h4⟩ := h
    obtain ⟨x, hx1⟩ := hx g (by simp)
    rw [h1, h3] at hx1
    obtain ⟨p, p1, p2⟩ := ih _ _ _ _ h2 hx1
    obtain ⟨q, q1, q2⟩ := fitsFs_reads ih (g2 :: l) (off + a.size) b h4 (fun k hk => hx k (by simp only [List.mem_cons] at hk ⊢; exact .inr hk)) (by simp only [Ty.size] at hl; omega)
    refine ⟨(p, q), ⟨p1, q1⟩, ?_⟩
    have e : Ty.row (.pair a b) (p, q) = a.row p ++ b.row q := by
      simp only [Ty.row, Ty.cells]
      rw [a.cells_row]
    rw [e, show cs.drop off = (cs.drop off).take a.size ++ cs.drop (off + a.size) by rw [← List.drop_drop, List.take_append_drop]]
    exact p2.app q2
  | _ :: _ :: _, _, .int _, h, _, _ => by simp [fitsFs] at h
  | _ :: _ :: _, _, .bool, h, _, _ => by simp [fitsFs] at h
  | _ :: _ :: _, _, .str, h, _, _ => by simp [fitsFs] at h
  | _ :: _ :: _, _, .list _, h, _, _ => by simp [fitsFs] at h

theorem fits_reads : ∀ (n : Nat) (t : TypeId) (y : Ty) (fuel : Nat) (cs : List Value) (x : DataW H × List MemPlace), fits P n t y = true → DataW.trod enc P w base spare held fuel t cs = some x → ∃ a : y.den, y.ok a ∧ RowAs w (y.row a) cs
  | 0, _, _, _, _, _, h, _ => by simp [fits] at h
  | n + 1, t, y, fuel, cs, x, h, hx => by
    unfold fits at h
    split at h
    · rename_i k k' hu
      obtain rfl : k = k' := by simpa using h
      obtain ⟨m, rfl, _, hw⟩ := DataW.trod_int hu hx
      exact ⟨m, hw, RowAs.one (reads_v _ _)⟩
    · rename_i hu
      obtain ⟨b, rfl, _⟩ := DataW.trod_bool hu hx
      exact ⟨b, trivial, RowAs.one (reads_v _ _)⟩
    · rename_i hu
      obtain ⟨s, rfl, _, hs⟩ := DataW.trod_string hu hx
      exact ⟨s, hs, RowAs.one (reads_v _ _)⟩
    · rename_i e y hu
      simp only [Bool.and_eq_true, decide_eq_true_eq] at h
      rcases DataW.trod_slice hu hx with ⟨rfl, _⟩ | ⟨a, len, cap, elems, rest, m, rfl, rfl, _, hb, hlc, hm, hel, hget, _, _⟩
      · exact ⟨([] : List y.den), ⟨by simp, fun x hx => by cases hx⟩, RowAs.one (Rep.sL _ _ _ (Rep.sN _))⟩
      · have each : ∀ i, ∃ d : y.den, i < len → y.ok d ∧ ∃ c, (∀ j, j < y.size → w.cell? ((a.add (i * y.size)).add j) = c[j]?) ∧ RowAs w (y.row d) c := by
          intro i
          by_cases hi : i < len
          · have h1 := hget i hi
            rw [List.getElem?_eq_getElem (by omega), Option.bind_eq_some_iff, h.2] at h1
            obtain ⟨c, hc, hr⟩ := h1
            obtain ⟨_, _, hcell⟩ := World.cells?_some hc
            obtain ⟨d, d1, d2⟩ := fits_reads n e y m c _ h.1 hr
            exact ⟨d, fun _ => ⟨d1, c, hcell, d2⟩⟩
          · exact ⟨default, fun q => absurd q hi⟩
        obtain ⟨g, hg⟩ := Classical.axiomOfChoice each
        have hln : ((List.range len).map g).length = len := by simp
        have top : 0 < len → a.spot = none ∧ a.block < w.heap.size := by
          intro h0
          obtain ⟨_, c, c1, c2⟩ := hg 0 h0
          have hcl : 0 < c.length := by rw [← c2.1, show (y.row (g 0)).length = y.size by simpa using y.cells_len (g 0) []]; exact y.size_pos
          have := cell_addr ((c1 0 y.size_pos).trans (List.getElem?_eq_getElem hcl))
          unfold Addr.add at this
          simpa using this
        refine ⟨((List.range len).map g : List y.den), ⟨by rw [hln]; omega, fun x hx => ?_⟩, RowAs.one (Rep.sL _ _ _ ?_)⟩
        · obtain ⟨i, hi, rfl⟩ := List.mem_map.1 hx
          exact (hg i (List.mem_range.1 hi)).1
        · have hrl : (((List.range len).map g).map y.row).length = len := by simp
          have := Rep.sF_mk (w := w) (ι := ι0) (M := Mt [] ι0) (sz := y.size) (rows := ((List.range len).map g).map y.row) a cap ?_ (by omega) (fun r hr => by obtain ⟨d, _, rfl⟩ := List.mem_map.1 hr; simpa using y.cells_len d []) ?_
          · rw [hrl] at this; exact this
          · intro hne
            have h0 : 0 < len := by
              rcases Nat.eq_zero_or_pos len with q | q
              · exfalso; apply hne; subst q; rfl
              · exact q
            have this := top h0
            exact ⟨this.1, this.2, mt0 _⟩
          · intro i j r u hi hj
            rw [List.getElem?_map, List.getElem?_map] at hi
            by_cases hil : i < len
            · rw [List.getElem?_range hil] at hi
              simp at hi
              subst hi
              obtain ⟨_, c, c1, c2⟩ := hg i hil
              have hjl : j < y.size := by have := get_lt hj; rwa [show (y.row (g i)).length = y.size by simpa using y.cells_len (g i) []] at this
              have hjc : j < c.length := by rw [← c2.1, show (y.row (g i)).length = y.size by simpa using y.cells_len (g i) []]; exact hjl
              have hcell := c1 j hjl
              have hc0 := hcell.trans (List.getElem?_eq_getElem hjc)
              refine ⟨c[j], ?_, c2.2 j _ _ hj (List.getElem?_eq_getElem hjc)⟩
              have hsp0 : a.spot = none := (top (by omega)).1
              obtain ⟨b, o, sp⟩ := a
              simp only at hsp0; subst hsp0
              rw [add_mk, add_mk] at hc0
              exact hc0
            · rw [List.getElem?_eq_none (by simpa using hil)] at hi
              simp at hi
    · rename_i _ fs hu
      simp only [Bool.and_eq_true, decide_eq_true_eq] at h
      obtain ⟨xs, m, rfl, _, hl, hxl, hf⟩ := DataW.trod_struct hu hx
      have := fitsFs_reads (cs := cs) (n := m) (fun t y cs x h1 h2 => fits_reads n t y m cs x h1 h2) fs.toList 0 _ h.1 (fun g hg => ?_) (by omega)
      · simpa using this
      · obtain ⟨i, hi, rfl⟩ := List.getElem_of_mem hg
        have hi' : i < fs.size := by simpa using hi
        have := hf i fs[i] (by simp [hi'])
        refine ⟨xs[i]'(by omega), ?_⟩
        rw [List.getElem?_eq_getElem (by omega)] at this
        simpa using this
    · cases h

/-- An argument of a struct type, or of any other type that fits. -/
theorem val_reads {y : Ty} {a : y.den} {v : Value} (h : RowAs w (y.row a) v.cells.toList) (hv : ∀ p q, y = .pair p q → ∃ vs, v = .agg vs) (hs : (∀ p q, y ≠ .pair p q) → v.cells.toList = [v]) : ReadsAs w (y.val a) v := by
  cases y with
  | pair p q =>
    obtain ⟨vs, rfl⟩ := hv p q rfl
    simp [Value.cells] at h
    exact Rep.agg _ _ (by simpa using h.1) (fun i h1 h2 => h.2 i _ _ (List.getElem?_eq_getElem h1) (by simp [h2]))
  | int k => have e := hs (fun _ _ => by simp); rw [e] at h; exact h.2 0 _ _ rfl rfl
  | bool => have e := hs (fun _ _ => by simp); rw [e] at h; exact h.2 0 _ _ rfl rfl
  | str => have e := hs (fun _ _ => by simp); rw [e] at h; exact h.2 0 _ _ rfl rfl
  | list t => have e := hs (fun _ _ => by simp); rw [e] at h; exact h.2 0 _ _ rfl rfl

end Go.Abs
