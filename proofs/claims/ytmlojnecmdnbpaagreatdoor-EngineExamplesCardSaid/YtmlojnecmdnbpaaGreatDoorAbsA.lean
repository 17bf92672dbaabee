/- The abstract values and heaps, their relation to the model's values and world, and its stability. No program in sight. -/

import Derived.Calls
import Derived.Orders
namespace Go.Abs
set_option linter.unusedVariables false

/-- Forms of typed data. -/
inductive Ty where
  | int (k : IntKind)
  | bool
  | str
  | list (t : Ty)
  | pair (a b : Ty)
  deriving DecidableEq, Inhabited

@[reducible] def Ty.den : Ty → Type
  | .int _ => Int
  | .bool => Bool
  | .str => ByteArray
  | .list t => List t.den
  | .pair a b => a.den × b.den

def Ty.size : Ty → Nat
  | .pair a b => a.size + b.size
  | _ => 1

/-- Abstract values: read-only memory is a tree by value, memory that the call itself makes is an object with a number. -/
inductive V where
  | v (x : Value)
  | any
  | pF (row : List V) (off : Nat)
  | pO (id row off : Nat)
  | sF (sz : Nat) (rows : List (List V))
  | sO (id off len : Nat)
  | agg (xs : List V)
  | tup (xs : List V)
  | fn (f : Fn) (first caps : List V)
  | ifc (t : TypeId) (x : V)
  | sL (t : Ty) (l : List t.den)
  | oL (id n : Nat)
  deriving Inhabited

/-- The cells of typed data, ahead of others. -/
def Ty.cells : (t : Ty) → t.den → List V → List V
  | .int k, n, r => .v (.int k n) :: r
  | .bool, b, r => .v (.bool b) :: r
  | .str, s, r => .v (.string s) :: r
  | .list t, l, r => .sL t l :: r
  | .pair a b, x, r => a.cells x.1 (b.cells x.2 r)
abbrev Ty.row (t : Ty) (x : t.den) : List V := t.cells x []

theorem Ty.cells_len : ∀ (t : Ty) (x : t.den) (r : List V), (t.cells x r).length = t.size + r.length
  | .int _, _, _ => Nat.add_comm _ _
  | .bool, _, _ => Nat.add_comm _ _
  | .str, _, _ => Nat.add_comm _ _
  | .list _, _, _ => Nat.add_comm _ _
  | .pair a b, x, r => by rw [Ty.cells, a.cells_len, b.cells_len, Ty.size, Nat.add_assoc]

/-- A typed list as its rows; a list that may be nil as nil or as an object. -/
def V.nf : V → V
  | .sL t l => .sF t.size (l.map t.row)
  | .oL id n => if n = 0 then .v (.slice none 0 0) else .sO id 0 n
  | x => x

/-- The type of an object's elements; fz = 0, or 1 more than the number of its first rows that may be frozen. -/
structure El where
  t : TypeId
  fz : Nat
  deriving DecidableEq, Inhabited
instance : Coe TypeId El := ⟨fun t => ⟨t, 0⟩⟩
def El.is (e : El) (t : TypeId) : Bool := Nat.beq e.t t && Nat.beq e.fz 0
theorem El.is_eq {e : El} {t : TypeId} (h : e.is t = true) : e = ⟨t, 0⟩ := by
  obtain ⟨a, b⟩ := e
  obtain ⟨h1, h2⟩ := Bool.and_eq_true_iff.1 h
  have h1 : a = t := Nat.eq_of_beq_eq_true h1
  have h2 : b = 0 := Nat.eq_of_beq_eq_true h2
  rw [h1, h2]
theorem El.mk_t {e : El} (h : e.fz = 0) : (⟨e.t, 0⟩ : El) = e := by rw [← h]
structure AObj where
  sz : Nat
  rows : List (List V)
  elem : El
  deriving Inhabited

inductive HS where
  | free
  | dead
  | live (o : AObj)
  deriving Inhabited

abbrev Heap := List HS

structure Loc where
  blk : Nat
  base : Nat
  sz : Nat
  al : base % sz = 0

/-- Where the objects lie, and the blocks that are somebody else's objects. -/
structure Iota where
  at' : Nat → Option Loc
  X : Nat → Prop

instance : CoeFun Iota (fun _ => Nat → Option Loc) := ⟨Iota.at'⟩

def Ob (h : Heap) (ι : Iota) (b : Nat) : Prop := ∃ id o l, h[id]? = some (.live o) ∧ ι id = some l ∧ l.blk = b

def Mt (h : Heap) (ι : Iota) (b : Nat) : Prop := ι.X b ∨ Ob h ι b

def ofValue : Value → V
  | .agg cs => .agg (cs.toList.map .v)
  | .tuple vs => .tup (vs.toList.map .v)
  | x => .v x

def norm : V → V
  | .v x => ofValue x
  | y => y

inductive Rep (w : World) (ι : Iota) (M : Nat → Prop) : V → Value → Prop
  | v (x : Value) : Rep w ι M (.v x) x
  | any (x : Value) : Rep w ι M .any x
  | pF (row : List V) (off b o : Nat) (cells : Nat → Value) : b < w.heap.size → ¬ M b →
      (∀ j, (h : j < row.length) → w.cell? ⟨b, o + j, none⟩ = some (cells j)) →
      (∀ j, (h : j < row.length) → Rep w ι M row[j] (cells j)) →
      Rep w ι M (.pF row off) (.pointer (some ⟨b, o + off, none⟩))
  | pO (id row off : Nat) (l : Loc) : ι id = some l → Rep w ι M (.pO id row off) (.pointer (some ⟨l.blk, l.base + row * l.sz + off, none⟩))
  | sF (sz : Nat) (rows : List (List V)) (a : Addr) (cap : Nat) (cells : Nat → Nat → Value) :
      (rows ≠ [] → a.spot = none ∧ a.block < w.heap.size ∧ ¬ M a.block) → rows.length ≤ cap → (∀ r, r ∈ rows → r.length = sz) →
      (∀ i, (h : i < rows.length) → ∀ j, (h' : j < rows[i].length) → w.cell? ⟨a.block, a.off + i * sz + j, none⟩ = some (cells i j)) →
      (∀ i, (h : i < rows.length) → ∀ j, (h' : j < rows[i].length) → Rep w ι M rows[i][j] (cells i j)) →
      Rep w ι M (.sF sz rows) (.slice (some a) rows.length cap)
  | sN (sz : Nat) : Rep w ι M (.sF sz []) (.slice none 0 0)
  | sO (id off len cap : Nat) (l : Loc) (c : Array Value) (e : TypeId) (fr : Nat × Nat) : ι id = some l → len ≤ cap →
      w.heap[l.blk]? = some (.cells c e fr) → l.base + (off + cap) * l.sz ≤ c.size →
      Rep w ι M (.sO id off len) (.slice (some ⟨l.blk, l.base + off * l.sz, none⟩) len cap)
  | agg (xs : List V) (vs : Array Value) : xs.length = vs.size → (∀ i, (h : i < xs.length) → (h' : i < vs.size) → Rep w ι M xs[i] vs[i]) → Rep w ι M (.agg xs) (.agg vs)
  | tup (xs : List V) (vs : Array Value) : xs.length = vs.size → (∀ i, (h : i < xs.length) → (h' : i < vs.size) → Rep w ι M xs[i] vs[i]) → Rep w ι M (.tup xs) (.tuple vs)
  | fn (f : Fn) (first caps : List V) (vs us : Array Value) : first.length = vs.size → caps.length = us.size →
      (∀ i, (h : i < first.length) → (h' : i < vs.size) → Rep w ι M first[i] vs[i]) →
      (∀ i, (h : i < caps.length) → (h' : i < us.size) → Rep w ι M caps[i] us[i]) → Rep w ι M (.fn f first caps) (.func f vs us)
  | ifc (t : TypeId) (x : V) (y : Value) : Rep w ι M x y → Rep w ι M (.ifc t x) (.iface t y)
  | sL (t : Ty) (l : List t.den) (y : Value) : Rep w ι M (.sF t.size (l.map t.row)) y → Rep w ι M (.sL t l) y
  | oL (id n : Nat) (y : Value) : Rep w ι M (if n = 0 then .v (.slice none 0 0) else .sO id 0 n) y → Rep w ι M (.oL id n) y

/-- The cells of a block are not frozen, but for the first z - 1 rows (z = 0: none, but a mark may lie behind the block); where its rows are not bytes, the place behind them neither. -/
structure Unfr (z base sz n : Nat) (fr : Nat × Nat) : Prop where
  at' : ∀ k, k < n → fr.1 ≤ k → k < fr.2 → base ≤ k ∧ k + 1 < base + z
  last : sz ≠ 1 → ¬ (fr.1 ≤ n ∧ n < fr.2)
  clean : 0 < z → fr.1 ≤ fr.2 ∧ ∀ k, fr.1 ≤ k → k < fr.2 → base ≤ k ∧ k + 1 < base + z
theorem Unfr.zero {z base : Nat} (sz n : Nat) : Unfr z base sz n (0, 0) := ⟨fun k _ _ q => (Nat.not_lt_zero _ q).elim, fun _ q => Nat.not_lt_zero _ q.2, fun _ => ⟨Nat.le_refl _, fun k _ q => (Nat.not_lt_zero _ q).elim⟩⟩
theorem Unfr.move {z base base' sz n : Nat} {fr : Nat × Nat} (h : Unfr z base sz n fr) (hz : z ≤ 1) : Unfr z base' sz n fr :=
  ⟨fun k h1 h2 h3 => absurd (h.at' k h1 h2 h3) (by omega), h.last, fun q => ⟨(h.clean q).1, fun k h1 h2 => absurd ((h.clean q).2 k h1 h2) (by omega)⟩⟩
theorem Unfr.drop {z base sz n : Nat} {fr : Nat × Nat} (h : Unfr z base sz n fr) (hz : z ≤ 1) : Unfr 0 base sz n fr :=
  ⟨fun k h1 h2 h3 => absurd (h.at' k h1 h2 h3) (by omega), h.last, fun q => absurd q (Nat.lt_irrefl 0)⟩
structure LiveAt (w : World) (ι : Iota) (M : Nat → Prop) (o : AObj) (l : Loc) (c : Array Value) (fr : Nat × Nat) : Prop where
  blk : w.heap[l.blk]? = some (.cells c o.elem.t fr)
  unfrozen : Unfr o.elem.fz l.base o.sz c.size fr
  sz : l.sz = o.sz
  rows : ∀ r, r ∈ o.rows → r.length = o.sz
  fits : l.base + o.rows.length * o.sz ≤ c.size
  reads : ∀ i, (h : i < o.rows.length) → ∀ j, (h' : j < o.rows[i].length) → ∃ x, c[l.base + i * o.sz + j]? = some x ∧ Rep w ι M o.rows[i][j] x

structure HRel (h : Heap) (ι : Iota) (w : World) : Prop where
  live : ∀ id o, h[id]? = some (.live o) → ∃ l c fr, ι id = some l ∧ LiveAt w ι (Mt h ι) o l c fr
  free : ∀ id, h[id]? = some .free → ι id = none
  out : ∀ id, h.length ≤ id → ι id = none
  apart : ∀ id o l id' o' l', h[id]? = some (.live o) → ι id = some l → h[id']? = some (.live o') → ι id' = some l' → l.blk = l'.blk → id = id'
  xlt : ∀ b, ι.X b → b < w.heap.size
  xob : ∀ b, ι.X b → ¬ Ob h ι b

structure Evolve (h : Heap) (ι : Iota) (w : World) (h' : Heap) (ι' : Iota) (w' : World) : Prop where
  os : w'.os = w.os
  tape : w'.tape = w.tape
  output : w'.output = w.output
  size : w.heap.size ≤ w'.heap.size
  iota : ∀ id l, ι id = some l → ι' id = some l
  away : ι'.X = ι.X
  frame : ∀ b, b < w.heap.size → ¬ Ob h ι b → w'.heap[b]? = w.heap[b]? ∧ ¬ Ob h' ι' b
  sizes : ∀ (b : Nat) (c : Array Value) (e : TypeId) (fr : Nat × Nat), w.heap[b]? = some (.cells c e fr) → ∃ (c' : Array Value) (fr' : Nat × Nat), w'.heap[b]? = some (.cells c' e fr') ∧ c'.size = c.size

theorem Evolve.refl (h : Heap) (ι : Iota) (w : World) : Evolve h ι w h ι w :=
  ⟨rfl, rfl, rfl, Nat.le_refl _, fun _ _ h => h, rfl, fun _ _ h => ⟨rfl, h⟩, fun _ c _ fr h => ⟨c, fr, h, rfl⟩⟩

theorem Evolve.trans {h ι w h₁ ι₁ w₁ h₂ ι₂ w₂} (a : Evolve h ι w h₁ ι₁ w₁) (b : Evolve h₁ ι₁ w₁ h₂ ι₂ w₂) : Evolve h ι w h₂ ι₂ w₂ where
  os := b.os.trans a.os
  tape := b.tape.trans a.tape
  output := b.output.trans a.output
  size := Nat.le_trans a.size b.size
  iota := fun id l e => b.iota id l (a.iota id l e)
  away := b.away.trans a.away
  frame := fun k hk hm => by
    obtain ⟨e1, m1⟩ := a.frame k hk hm
    obtain ⟨e2, m2⟩ := b.frame k (Nat.lt_of_lt_of_le hk a.size) m1
    exact ⟨e2.trans e1, m2⟩
  sizes := fun k c e fr hc => by
    obtain ⟨c1, fr1, h1, s1⟩ := a.sizes k c e fr hc
    obtain ⟨c2, fr2, h2, s2⟩ := b.sizes k c1 e fr1 h1
    exact ⟨c2, fr2, h2, s2.trans s1⟩

theorem cell?_congr {w w' : World} {b o : Nat} (e : w'.heap[b]? = w.heap[b]?) : w'.cell? ⟨b, o, none⟩ = w.cell? ⟨b, o, none⟩ := by
  simp only [World.cell?, e]

theorem Evolve.mt {h ι w h' ι' w'} (ev : Evolve h ι w h' ι' w') {b : Nat} (hb : b < w.heap.size) (hm : ¬ Mt h ι b) : w'.heap[b]? = w.heap[b]? ∧ ¬ Mt h' ι' b := by
  obtain ⟨e, m⟩ := ev.frame b hb (fun q => hm (.inr q))
  refine ⟨e, fun q => ?_⟩
  rcases q with q | q
  · rw [ev.away] at q; exact hm (.inl q)
  · exact m q

theorem Rep.mono {h ι w h' ι' w'} (ev : Evolve h ι w h' ι' w') {x : V} {y : Value} (r : Rep w ι (Mt h ι) x y) : Rep w' ι' (Mt h' ι') x y := by
  induction r with
  | v x => exact .v x
  | any x => exact .any x
  | pF row off b o cells hb hm hc _ ih =>
    obtain ⟨e, m⟩ := ev.mt hb hm
    exact .pF row off b o cells (Nat.lt_of_lt_of_le hb ev.size) m (fun j hj => (cell?_congr e).trans (hc j hj)) ih
  | pO id row off l hl => exact .pO id row off l (ev.iota _ _ hl)
  | sF sz rows a cap cells hb hcap hr hc _ ih =>
    refine .sF sz rows a cap cells (fun hne => ?_) hcap hr (fun i hi j hj => ?_) ih
    · obtain ⟨hs, hb, hm⟩ := hb hne
      exact ⟨hs, Nat.lt_of_lt_of_le hb ev.size, (ev.mt hb hm).2⟩
    · have hne : rows ≠ [] := by intro e; subst e; simp at hi
      obtain ⟨hs, hb, hm⟩ := hb hne
      exact (cell?_congr (ev.mt hb hm).1).trans (hc i hi j hj)
  | sN sz => exact .sN sz
  | sO id off len cap l c e fr hl hcap hb hs =>
    obtain ⟨c', fr', h1, h2⟩ := ev.sizes _ _ _ _ hb
    exact .sO id off len cap l c' e fr' (ev.iota _ _ hl) hcap h1 (by omega)
  | agg xs vs hl _ ih => exact .agg xs vs hl ih
  | tup xs vs hl _ ih => exact .tup xs vs hl ih
  | fn f a b vs us h1 h2 _ _ ih1 ih2 => exact .fn f a b vs us h1 h2 ih1 ih2
  | ifc t x y _ ih => exact .ifc t x y ih
  | sL t l y _ ih => exact .sL t l y ih
  | oL id n y _ ih => exact .oL id n y ih

theorem Rep.nf {w ι M} {x : V} {y : Value} (r : Rep w ι M x y) : Rep w ι M x.nf y := by
  cases x with
  | sL t l => cases r; assumption
  | oL id n => cases r; assumption
  | _ => exact r
theorem Rep.of_nf {w ι M} {x : V} {y : Value} (r : Rep w ι M x.nf y) : Rep w ι M x y := by
  cases x with
  | sL t l => exact .sL _ _ _ r
  | oL id n => exact .oL _ _ _ r
  | _ => exact r

theorem Rep.ofValue {w ι M} (x : Value) : Rep w ι M (ofValue x) x := by
  cases x with
  | agg cs => exact .agg _ _ (by simp) (fun i h h' => by simp; exact .v _)
  | tuple vs => exact .tup _ _ (by simp) (fun i h h' => by simp; exact .v _)
  | _ => exact .v _

theorem Rep.norm {w ι M} {x : V} {y : Value} (r : Rep w ι M x y) : Rep w ι M (norm x) y := by
  cases x with
  | v z => cases r; exact Rep.ofValue _
  | _ => exact r

/-- A new object: the number 'new' is the heap's length, or a free place. -/
def halloc (h : Heap) (new : Nat) (o : AObj) : Option Heap :=
  match h[new]? with
  | none => if new = h.length then some (h ++ [.live o]) else none
  | some .free => some (h.set new (.live o))
  | _ => none

theorem halloc_get {h : Heap} {new : Nat} {o : AObj} {h' : Heap} (e : halloc h new o = some h') :
    h'[new]? = some (.live o) ∧ (∀ id, id ≠ new → h'[id]? = h[id]?) ∧ (∀ id, h.length ≤ id → id ≠ new → h'.length ≤ id) ∧ (h[new]? = some .free ∨ h.length ≤ new) := by
  unfold halloc at e
  split at e
  · rename_i hn
    split at e
    · rename_i hl
      injection e with e
      subst e
      refine ⟨by simp [hl], fun id hid => ?_, fun id h1 h2 => ?_, .inr (by omega)⟩
      · rw [List.getElem?_append]
        split
        · rfl
        · rename_i hlt
          rw [List.getElem?_eq_none (by simp; omega), List.getElem?_eq_none (by omega)]
      · simp; omega
    · cases e
  · rename_i hn
    injection e with e
    subst e
    have hlt : new < h.length := by
      rcases Nat.lt_or_ge new h.length with hh | hh
      · exact hh
      · rw [List.getElem?_eq_none hh] at hn; cases hn
    refine ⟨by simp [hlt], fun id hid => ?_, fun id h1 _ => by simpa using h1, .inl hn⟩
    rw [List.getElem?_set_ne (by omega)]
  · cases e

def Iota.put (ι : Iota) (id : Nat) (l : Loc) : Iota := { at' := fun i => if i = id then some l else ι i, X := ι.X }

theorem heap_push {w : World} {x : Obj} {b : Nat} (h : b < w.heap.size) : (w.heap.push x)[b]? = w.heap[b]? := by
  rw [Array.getElem?_push, if_neg (by omega)]

theorem HRel.blk_lt {h ι w} (H : HRel h ι w) {b : Nat} (m : Ob h ι b) : b < w.heap.size := by
  obtain ⟨id, o, l, h1, h2, h3⟩ := m
  obtain ⟨l', c, fr, e1, la⟩ := H.live id o h1
  rw [h2] at e1; injection e1 with e1; subst e1
  subst h3
  rcases Nat.lt_or_ge l.blk w.heap.size with hh | hh
  · exact hh
  · have := la.blk; rw [Array.getElem?_eq_none hh] at this; cases this

theorem HRel.alloc {h : Heap} {ι : Iota} {w : World} (H : HRel h ι w) {new : Nat} {o : AObj} {h' : Heap} (e : halloc h new o = some h')
    (c : Array Value) (fr : Nat × Nat) (hfr : Unfr o.elem.fz 0 o.sz c.size fr) (hr : ∀ r, r ∈ o.rows → r.length = o.sz) (hf : o.rows.length * o.sz ≤ c.size)
    (hc : ∀ i, (hi : i < o.rows.length) → ∀ j, (hj : j < o.rows[i].length) → ∃ x, c[i * o.sz + j]? = some x ∧ Rep w ι (Mt h ι) o.rows[i][j] x)
    {w' : World} (hw : w' = { w with heap := w.heap.push (.cells c o.elem.t fr) }) :
    HRel h' (ι.put new ⟨w.heap.size, 0, o.sz, Nat.zero_mod _⟩) w' ∧ Evolve h ι w h' (ι.put new ⟨w.heap.size, 0, o.sz, Nat.zero_mod _⟩) w' := by
  obtain ⟨g1, g2, g3, g4⟩ := halloc_get e
  have hnew : ι new = none := by
    rcases g4 with g4 | g4
    · exact H.free _ g4
    · exact H.out _ g4
  have io : ∀ id l, ι id = some l → (ι.put new ⟨w.heap.size, 0, o.sz, Nat.zero_mod _⟩) id = some l := by
    intro id l hl
    have : id ≠ new := by intro e; subst e; rw [hnew] at hl; cases hl
    simp [Iota.put, this, hl]
  have mt : ∀ b, Ob h' (ι.put new ⟨w.heap.size, 0, o.sz, Nat.zero_mod _⟩) b → b = w.heap.size ∨ Ob h ι b := by
    rintro b ⟨id, o', l, h1, h2, h3⟩
    by_cases hid : id = new
    · subst hid
      simp [Iota.put] at h2
      subst h2
      exact .inl h3.symm
    · rw [g2 id hid] at h1
      simp [Iota.put, hid] at h2
      exact .inr ⟨id, o', l, h1, h2, h3⟩
  have ev : Evolve h ι w h' (ι.put new ⟨w.heap.size, 0, o.sz, Nat.zero_mod _⟩) w' := by
    subst hw
    refine ⟨rfl, rfl, rfl, by simp, io, rfl, fun b hb hm => ⟨heap_push hb, fun m => ?_⟩, fun b cc el f hb => ?_⟩
    · rcases mt b m with m | m
      · omega
      · exact hm m
    · have hlt : b < w.heap.size := by
        rcases Nat.lt_or_ge b w.heap.size with hh | hh
        · exact hh
        · rw [Array.getElem?_eq_none hh] at hb; cases hb
      exact ⟨cc, f, (heap_push hlt).trans hb, rfl⟩
  refine ⟨⟨?_, ?_, ?_, ?_, fun b hb => Nat.lt_of_lt_of_le (H.xlt b hb) ev.size, fun b hb => (ev.frame b (H.xlt b hb) (H.xob b hb)).2⟩, ev⟩
  · intro id o' ho'
    by_cases hid : id = new
    · subst hid
      rw [g1] at ho'
      injection ho' with ho'
      injection ho' with ho'
      subst ho'
      refine ⟨⟨w.heap.size, 0, o.sz, Nat.zero_mod _⟩, c, fr, by simp [Iota.put], ⟨by subst hw; simp, hfr, rfl, hr, by simpa using hf, ?_⟩⟩
      intro i hi j hj
      obtain ⟨x, h1, h2⟩ := hc i hi j hj
      exact ⟨x, by simpa using h1, h2.mono ev⟩
    · rw [g2 id hid] at ho'
      obtain ⟨l, c0, fr0, h1, la⟩ := H.live id o' ho'
      refine ⟨l, c0, fr0, io id l h1, ⟨?_, la.unfrozen, la.sz, la.rows, la.fits, ?_⟩⟩
      · have hlt := H.blk_lt ⟨id, o', l, ho', h1, rfl⟩
        subst hw
        exact (heap_push hlt).trans la.blk
      · intro i hi j hj
        obtain ⟨x, h1, h2⟩ := la.reads i hi j hj
        exact ⟨x, h1, h2.mono ev⟩
  · intro id hid
    have hne : id ≠ new := by intro e; subst e; rw [g1] at hid; cases hid
    rw [g2 id hne] at hid
    simp [Iota.put, hne, H.free id hid]
  · intro id hid
    have hne : id ≠ new := by
      intro e; subst e
      rw [List.getElem?_eq_none hid] at g1; cases g1
    have : h.length ≤ id := by
      rcases Nat.lt_or_ge id h.length with hh | hh
      · have h0 := g2 id hne
        rw [List.getElem?_eq_none hid, List.getElem?_eq_getElem hh] at h0
        cases h0
      · exact hh
    simp [Iota.put, hne, H.out id this]
  · intro id o1 l1 id' o2 l2 a1 a2 b1 b2 hb
    by_cases h1 : id = new
    · by_cases h2 : id' = new
      · rw [h1, h2]
      · exfalso
        rw [g2 id' h2] at b1
        simp [Iota.put, h2] at b2
        have := H.blk_lt ⟨id', o2, l2, b1, b2, rfl⟩
        simp [Iota.put, h1] at a2
        rw [← hb, ← a2] at this
        simp at this
    · by_cases h2 : id' = new
      · exfalso
        rw [g2 id h1] at a1
        simp [Iota.put, h1] at a2
        have := H.blk_lt ⟨id, o1, l1, a1, a2, rfl⟩
        simp [Iota.put, h2] at b2
        rw [hb, ← b2] at this
        simp at this
      · rw [g2 id h1] at a1
        rw [g2 id' h2] at b1
        simp [Iota.put, h1] at a2
        simp [Iota.put, h2] at b2
        exact H.apart _ _ _ _ _ _ a1 a2 b1 b2 hb

end Go.Abs
