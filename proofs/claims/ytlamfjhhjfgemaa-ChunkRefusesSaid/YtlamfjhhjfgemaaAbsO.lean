/- Arguments of struct types: what the statement's reader reads is a tree of a form. -/
import Derived.Test.YtlamfjhhjfgemaaAbsP
import Derived.ChangeArms
import Derived.DataElems
namespace Go.Abs
set_option linter.unusedVariables false
open Go.RowKit

/-- What every value of the form satisfies: integers in range, sizes that a machine has. -/
def Ty.ok : (t : Ty) → t.den → Prop
  | .int k, n => (Lit.int k n).wf = true
  | .bool, _ => True
  | .str, s => s.size ≤ maxLen
  | .list t, l => l.length ≤ maxLen ∧ ∀ x, x ∈ l → t.ok x
  | .pair a b, x => a.ok x.1 ∧ b.ok x.2
/-- How many values and letters it holds. -/
def Ty.vol : (t : Ty) → t.den → Nat
  | .int _, _ => 1
  | .bool, _ => 1
  | .str, s => s.size + 1
  | .list t, l => (l.map t.vol).sum + 1
  | .pair a b, x => a.vol x.1 + b.vol x.2
/-- A measure of what a reader reads. -/
structure BkOk {H : Type} (blk : DataW H → Nat) : Prop where
  lit : ∀ x, 1 ≤ blk (.lit x)
  str : ∀ s, s.length + 1 ≤ blk (.lit (.string s))
  nil : 1 ≤ blk .nil
  slice : ∀ a b, (a.map blk).sum + 1 ≤ blk (.slice a b)
  agg : ∀ a, (a.map blk).sum ≤ blk (.agg a)
def fitsFs (P : Program) (f : TypeId → Ty → Bool) : List Field → Nat → Ty → Bool
  | [], _, _ => false
  | [x], off, y => decide (x.offset = off) && f x.type y && decide (P.cellsOf x.type = y.size)
  | x :: xs, off, .pair a b => decide (x.offset = off) && f x.type a && decide (P.cellsOf x.type = a.size) && fitsFs P f xs (off + a.size) b
  | _, _, _ => false
/-- The program's type t is laid out as the form. -/
def fits (P : Program) : Nat → TypeId → Ty → Bool
  | 0, _, _ => false
  | n + 1, t, y => match P.underlying t, y with
    | some (.int k), .int k' => decide (k = k')
    | some .bool, .bool => true
    | some .string, .str => true
    | some (.slice e), .list y => fits P n e y && decide (P.cellsOf e = y.size)
    | some (.struct fs), y => fitsFs P (fits P n) fs.toList 0 y && decide (P.cellsOf t = y.size)
    | _, _ => false

theorem Ty.size_pos : ∀ (t : Ty), 0 < t.size
  | .int _ => Nat.one_pos
  | .bool => Nat.one_pos
  | .str => Nat.one_pos
  | .list _ => Nat.one_pos
  | .pair a b => by have := a.size_pos; simp only [Ty.size]; omega

/-- Cells read as a row. -/
def RowAs (w : World) (r : List V) (cs : List Value) : Prop := r.length = cs.length ∧ ∀ (i : Nat) (u : V) (z : Value), r[i]? = some u → cs[i]? = some z → ReadsAs w u z
theorem RowAs.one {w : World} {u : V} {z : Value} (h : ReadsAs w u z) : RowAs w [u] [z] := by
  refine ⟨rfl, fun i a b ha hb => ?_⟩
  cases i with
  | zero => simp at ha hb; subst ha hb; exact h
  | succ i => simp at ha
theorem RowAs.app {w : World} {r r' : List V} {cs cs' : List Value} (h : RowAs w r cs) (h' : RowAs w r' cs') : RowAs w (r ++ r') (cs ++ cs') := by
  refine ⟨by simp [h.1, h'.1], fun i a b ha hb => ?_⟩
  by_cases hi : i < r.length
  · rw [List.getElem?_append_left hi] at ha
    rw [List.getElem?_append_left (by rw [← h.1]; exact hi)] at hb
    exact h.2 i a b ha hb
  · rw [List.getElem?_append_right (by omega)] at ha
    rw [List.getElem?_append_right (by rw [← h.1]; omega), ← h.1] at hb
    exact h'.2 _ a b ha hb

variable {H : Type} {enc : TypeId × Value → H} {P : Program} {w : World} {base : Nat} {spare : Nat → Bool} {held : Bool}

theorem fitsFs_reads {f : TypeId → Ty → Bool} {n : Nat} {cs : List Value} (ih : ∀ (t : TypeId) (y : Ty) (cs : List Value) (x : DataW H × List MemPlace), f t y = true → DataW.trod enc P w base spare held n t cs = some x → ∃ a : y.den, y.ok a ∧ RowAs w (y.row a) cs ∧ ∀ blk : DataW H → Nat, BkOk blk → y.vol a ≤ blk x.1) :
    ∀ (l : List Field) (xs : List (DataW H × List MemPlace)) (off : Nat) (y : Ty), fitsFs P f l off y = true → l.length = xs.length → (∀ (i : Nat) (g : Field), l[i]? = some g → DataW.trod enc P w base spare held n g.type ((cs.drop g.offset).take (P.cellsOf g.type)) = xs[i]?) → cs.length = off + y.size →
      ∃ a : y.den, y.ok a ∧ RowAs w (y.row a) (cs.drop off) ∧ ∀ blk : DataW H → Nat, BkOk blk → y.vol a ≤ (xs.map fun x => blk x.1).sum
  | [], _, _, _, h, _, _, _ => by simp [fitsFs] at h
  | [g], xs, off, y, h, hxl, hx, hl => by
    simp only [fitsFs, Bool.and_eq_true, decide_eq_true_eq] at h
    obtain ⟨⟨h1, h2⟩, h3⟩ := h
    have hx := hx 0 g rfl
    cases xs with
    | nil => simp at hxl
    | cons x xs =>
      rw [h1, h3, List.take_of_length_le (by simp; omega)] at hx
      obtain ⟨a, a1, a2, a3⟩ := ih _ _ _ _ h2 hx
      exact ⟨a, a1, a2, fun blk hb => by have := a3 blk hb; simp; omega⟩
  | g :: g2 :: l, xs, off, .pair a b, h, hxl, hx, hl => by
    simp only [fitsFs, Bool.and_eq_true, decide_eq_true_eq] at h
    obtain ⟨⟨⟨h1, h2⟩, h3⟩, h4⟩ := h
    cases xs with
    | nil => simp at hxl
    | cons x xs =>
      have hx1 := hx 0 g rfl
      rw [h1, h3] at hx1
      obtain ⟨p, p1, p2, p3⟩ := ih _ _ _ _ h2 hx1
      obtain ⟨q, q1, q2, q3⟩ := fitsFs_reads ih (g2 :: l) xs (off + a.size) b h4 (by simpa using hxl) (fun i k hk => hx (i + 1) k (by simpa using hk)) (by simp only [Ty.size] at hl; omega)
      refine ⟨(p, q), ⟨p1, q1⟩, ?_, fun blk hb => by have := p3 blk hb; have := q3 blk hb; simp only [Ty.vol, List.map_cons, List.sum_cons]; omega⟩
      have e : Ty.row (.pair a b) (p, q) = a.row p ++ b.row q := by
        simp only [Ty.row, Ty.cells]
        rw [a.cells_row]
      rw [e, show cs.drop off = (cs.drop off).take a.size ++ cs.drop (off + a.size) by rw [← List.drop_drop, List.take_append_drop]]
      exact p2.app q2
  | _ :: _ :: _, _, _, .int _, h, _, _, _ => by simp [fitsFs] at h
  | _ :: _ :: _, _, _, .bool, h, _, _, _ => by simp [fitsFs] at h
  | _ :: _ :: _, _, _, .str, h, _, _, _ => by simp [fitsFs] at h
  | _ :: _ :: _, _, _, .list _, h, _, _, _ => by simp [fitsFs] at h

theorem sum_map_le {α β : Type} (f : α → Nat) (g : β → Nat) : ∀ (a : List α) (b : List β), a.length = b.length → (∀ (i : Nat) (x : α) (y : β), a[i]? = some x → b[i]? = some y → f x ≤ g y) → (a.map f).sum ≤ (b.map g).sum
  | [], [], _, _ => Nat.le_refl _
  | [], _ :: _, h, _ => by simp at h
  | _ :: _, [], h, _ => by simp at h
  | x :: a, y :: b, h, hx => by
    have h1 := hx 0 x y rfl rfl
    have h2 := sum_map_le f g a b (by simpa using h) (fun i u v hu hv => hx (i + 1) u v (by simpa using hu) (by simpa using hv))
    simp only [List.map_cons, List.sum_cons]; omega

theorem fits_reads2 : ∀ (n : Nat) (t : TypeId) (y : Ty) (fuel : Nat) (cs : List Value) (x : DataW H × List MemPlace), fits P n t y = true → DataW.trod enc P w base spare held fuel t cs = some x → ∃ a : y.den, y.ok a ∧ RowAs w (y.row a) cs ∧ ∀ blk : DataW H → Nat, BkOk blk → y.vol a ≤ blk x.1
  | 0, _, _, _, _, _, h, _ => by simp [fits] at h
  | n + 1, t, y, fuel, cs, x, h, hx => by
    unfold fits at h
    split at h
    · rename_i k k' hu
      obtain rfl : k = k' := by simpa using h
      obtain ⟨m, rfl, rfl, hw⟩ := DataW.trod_int hu hx
      exact ⟨m, hw, RowAs.one (reads_v _ _), fun blk hb => hb.lit _⟩
    · rename_i hu
      obtain ⟨b, rfl, rfl⟩ := DataW.trod_bool hu hx
      exact ⟨b, trivial, RowAs.one (reads_v _ _), fun blk hb => hb.lit _⟩
    · rename_i hu
      obtain ⟨s, rfl, rfl, hs⟩ := DataW.trod_string hu hx
      refine ⟨s, hs, RowAs.one (reads_v _ _), fun blk hb => ?_⟩
      have := hb.str s.data.toList
      rw [Array.length_toList] at this
      exact this
    · rename_i e y hu
      simp only [Bool.and_eq_true, decide_eq_true_eq] at h
      rcases DataW.trod_slice hu hx with ⟨rfl, rfl⟩ | ⟨a, len, cap, elems, rest, m, rfl, rfl, rfl, hb, hlc, hm, hel, hget, _, _⟩
      · exact ⟨([] : List y.den), ⟨by simp, fun x hx => by cases hx⟩, RowAs.one (Rep.sL _ _ _ (Rep.sN _)), fun blk hb => hb.nil⟩
      · have each : ∀ i, ∃ d : y.den, i < len → y.ok d ∧ (∃ c, (∀ j, j < y.size → w.cell? ((a.add (i * y.size)).add j) = c[j]?) ∧ RowAs w (y.row d) c) ∧ ∀ e, elems[i]? = some e → ∀ blk : DataW H → Nat, BkOk blk → y.vol d ≤ blk e.1 := by
          intro i
          by_cases hi : i < len
          · have h1 := hget i hi
            rw [List.getElem?_eq_getElem (by omega), Option.bind_eq_some_iff, h.2] at h1
            obtain ⟨c, hc, hr⟩ := h1
            obtain ⟨_, _, hcell⟩ := World.cells?_some hc
            obtain ⟨d, d1, d2, d3⟩ := fits_reads2 n e y m c _ h.1 hr
            refine ⟨d, fun _ => ⟨d1, ⟨c, hcell, d2⟩, fun e2 he2 => ?_⟩⟩
            rw [List.getElem?_eq_getElem (by omega)] at he2
            injection he2 with he2
            rw [← he2]; exact d3
          · exact ⟨default, fun q => absurd q hi⟩
        obtain ⟨g, hg⟩ := Classical.axiomOfChoice each
        have hln : ((List.range len).map g).length = len := by simp
        have top : 0 < len → a.spot = none ∧ a.block < w.heap.size := by
          intro h0
          obtain ⟨_, ⟨c, c1, c2⟩, _⟩ := hg 0 h0
          have hcl : 0 < c.length := by rw [← c2.1, show (y.row (g 0)).length = y.size by simpa using y.cells_len (g 0) []]; exact y.size_pos
          have := cell_addr ((c1 0 y.size_pos).trans (List.getElem?_eq_getElem hcl))
          unfold Addr.add at this
          simpa using this
        refine ⟨((List.range len).map g : List y.den), ⟨by rw [hln]; omega, fun x hx => ?_⟩, RowAs.one (Rep.sL _ _ _ ?_), fun blk hbk => ?_⟩
        · obtain ⟨i, hi, rfl⟩ := List.mem_map.1 hx
          exact (hg i (List.mem_range.1 hi)).1
        · have hrl : (((List.range len).map g).map y.row).length = len := by simp
          have := Rep.sF_mk (w := w) (ι := ι0) (M := Mt [] ι0) (sz := y.size) (rows := ((List.range len).map g).map y.row) a cap ?_ (by omega) (fun r hr => by obtain ⟨d, _, rfl⟩ := List.mem_map.1 hr; simpa using y.cells_len d []) ?_
          · rw [hrl] at this; exact this
          · intro hne
            have h0 : 0 < len := by
              rcases Nat.eq_zero_or_pos len with q | q
              · exfalso; apply hne; subst q; rfl
              · exact q
            have this := top h0
            exact ⟨this.1, this.2, mt0 _⟩
          · intro i j r u hi hj
            rw [List.getElem?_map, List.getElem?_map] at hi
            by_cases hil : i < len
            · rw [List.getElem?_range hil] at hi
              simp at hi
              subst hi
              obtain ⟨_, ⟨c, c1, c2⟩, _⟩ := hg i hil
              have hjl : j < y.size := by have := get_lt hj; rwa [show (y.row (g i)).length = y.size by simpa using y.cells_len (g i) []] at this
              have hjc : j < c.length := by rw [← c2.1, show (y.row (g i)).length = y.size by simpa using y.cells_len (g i) []]; exact hjl
              have hcell := c1 j hjl
              have hc0 := hcell.trans (List.getElem?_eq_getElem hjc)
              refine ⟨c[j], ?_, c2.2 j _ _ hj (List.getElem?_eq_getElem hjc)⟩
              have hsp0 : a.spot = none := (top (by omega)).1
              obtain ⟨b, o, sp⟩ := a
              simp only at hsp0; subst hsp0
              rw [add_mk, add_mk] at hc0
              exact hc0
            · rw [List.getElem?_eq_none (by simpa using hil)] at hi
              simp at hi
        · have h1 := hbk.slice (elems.map (·.1)) (rest.map (·.1))
          have h2 := sum_map_le (fun d => y.vol d) (fun e : DataW H × List MemPlace => blk e.1) ((List.range len).map g) elems (by rw [hln, hel]) (fun i u v hu hv => by
            by_cases hil : i < len
            · rw [List.getElem?_map, List.getElem?_range hil] at hu
              simp at hu
              subst hu
              exact (hg i hil).2.2 v hv blk hbk
            · rw [List.getElem?_eq_none (by rw [hln]; omega)] at hu
              cases hu)
          rw [List.map_map] at h1
          simp only [Ty.vol]
          have h3 : (List.map (blk ∘ fun x => x.1) elems).sum = (elems.map fun e => blk e.1).sum := rfl
          show ((List.range len).map g |>.map fun d => y.vol d).sum + 1 ≤ _
          omega
    · rename_i _ fs hu
      simp only [Bool.and_eq_true, decide_eq_true_eq] at h
      obtain ⟨xs, m, rfl, rfl, hl, hxl, hf⟩ := DataW.trod_struct hu hx
      obtain ⟨a, a1, a2, a3⟩ := fitsFs_reads (cs := cs) (n := m) (fun t y cs x h1 h2 => fits_reads2 n t y m cs x h1 h2) fs.toList xs 0 _ h.1 (by simp [hxl]) (fun i g hg => hf i g (by simpa using hg)) (by omega)
      refine ⟨a, a1, by simpa using a2, fun blk hb => ?_⟩
      have h1 := a3 blk hb
      have h2 := hb.agg (xs.map (·.1))
      rw [List.map_map] at h2
      exact Nat.le_trans h1 h2
    · cases h

theorem fits_reads (n : Nat) (t : TypeId) (y : Ty) (fuel : Nat) (cs : List Value) (x : DataW H × List MemPlace) (h : fits P n t y = true) (hx : DataW.trod enc P w base spare held fuel t cs = some x) : ∃ a : y.den, y.ok a ∧ RowAs w (y.row a) cs :=
  let ⟨a, a1, a2, _⟩ := fits_reads2 n t y fuel cs x h hx
  ⟨a, a1, a2⟩
theorem vol_list {t : Ty} : ∀ {l : List t.den}, (∀ x, x ∈ l → t.vol x ≤ Ty.vol (.list t) l) ∧ (∀ x, 1 ≤ t.vol x) → l.length ≤ Ty.vol (.list t) l
  | [], _ => Nat.zero_le _
  | a :: l, h => by
    have := vol_list (l := l) ⟨fun x hx => by
      simp only [Ty.vol]
      have : ∀ (l : List t.den), x ∈ l → t.vol x ≤ (l.map t.vol).sum := by
        intro l
        induction l with
        | nil => intro h; simp at h
        | cons b l ih =>
          intro h
          rcases List.mem_cons.1 h with q | q
          · subst q; simp
          · have := ih q; simp; omega
      have := this l hx; omega, h.2⟩
    have h1 := h.2 a
    simp only [Ty.vol, List.map_cons, List.sum_cons, List.length_cons] at *
    omega
theorem vol_mem {t : Ty} {x : t.den} : ∀ {l : List t.den}, x ∈ l → t.vol x ≤ Ty.vol (.list t) l
  | [], h => by simp at h
  | b :: l, h => by
    simp only [Ty.vol, List.map_cons, List.sum_cons]
    rcases List.mem_cons.1 h with q | q
    · subst q; omega
    · have := vol_mem q; simp only [Ty.vol] at this; omega
theorem vol_pos : ∀ (t : Ty) (x : t.den), 1 ≤ t.vol x
  | .int _, _ => Nat.le_refl _
  | .bool, _ => Nat.le_refl _
  | .str, _ => Nat.le_add_left _ _
  | .list _, _ => Nat.le_add_left _ _
  | .pair a b, x => by have := vol_pos a x.1; simp only [Ty.vol]; omega
theorem vol_len {t : Ty} {l : List t.den} : l.length ≤ Ty.vol (.list t) l := vol_list ⟨fun x hx => vol_mem hx, vol_pos t⟩
/-- An argument of a struct type, or of any other type that fits. -/
theorem val_reads {y : Ty} {a : y.den} {v : Value} (h : RowAs w (y.row a) v.cells.toList) (hv : ∀ p q, y = .pair p q → ∃ vs, v = .agg vs) (hs : (∀ p q, y ≠ .pair p q) → v.cells.toList = [v]) : ReadsAs w (y.val a) v := by
  cases y with
  | pair p q =>
    obtain ⟨vs, rfl⟩ := hv p q rfl
    simp [Value.cells] at h
    exact Rep.agg _ _ (by simpa using h.1) (fun i h1 h2 => h.2 i _ _ (List.getElem?_eq_getElem h1) (by simp [h2]))
  | int k => have e := hs (fun _ _ => by simp); rw [e] at h; exact h.2 0 _ _ rfl rfl
  | bool => have e := hs (fun _ _ => by simp); rw [e] at h; exact h.2 0 _ _ rfl rfl
  | str => have e := hs (fun _ _ => by simp); rw [e] at h; exact h.2 0 _ _ rfl rfl
  | list t => have e := hs (fun _ _ => by simp); rw [e] at h; exact h.2 0 _ _ rfl rfl

end Go.Abs
