/- Freezing what a call has made, and the frame: what holds in the empty heap holds in every heap. -/
import Derived.Test.YtmlojnecmdnbpaaGreatDoorAbsK
namespace Go.Abs
set_option linter.unusedVariables false

/-- No reference to an object from n on. -/
inductive NI (n : Nat) : V → Prop
  | v (x : Value) : NI n (.v x)
  | any : NI n .any
  | pO {id : Nat} (row off : Nat) : id < n → NI n (.pO id row off)
  | sO {id : Nat} (off len : Nat) : id < n → NI n (.sO id off len)
  | pF {row : List V} (off : Nat) : (∀ x, x ∈ row → NI n x) → NI n (.pF row off)
  | sF (sz : Nat) {rows : List (List V)} : (∀ r, r ∈ rows → ∀ x, x ∈ r → NI n x) → NI n (.sF sz rows)
  | agg {xs : List V} : (∀ x, x ∈ xs → NI n x) → NI n (.agg xs)
  | tup {xs : List V} : (∀ x, x ∈ xs → NI n x) → NI n (.tup xs)
  | fn {f : Fn} {a b : List V} : (∀ x, x ∈ a → NI n x) → (∀ x, x ∈ b → NI n x) → NI n (.fn f a b)
  | ifc {t : TypeId} {x : V} : NI n x → NI n (.ifc t x)
  | sL (t : Ty) (l : List t.den) : NI n (.sL t l)
  | oL {id : Nat} (m : Nat) : id < n → NI n (.oL id m)

def NIs (n : Nat) (xs : List V) : Prop := ∀ x, x ∈ xs → NI n x
def NIr (n : Nat) (rows : List (List V)) : Prop := ∀ r, r ∈ rows → NIs n r
def NIh (n : Nat) (h : Heap) : Prop := ∀ o, HS.live o ∈ h → NIr n o.rows

theorem NI_v (n : Nat) (x : Value) : NI n (.v x) ↔ True := ⟨fun _ => trivial, fun _ => .v x⟩
theorem NI_any (n : Nat) : NI n .any ↔ True := ⟨fun _ => trivial, fun _ => .any⟩
theorem NI_pO (n id r o : Nat) : NI n (.pO id r o) ↔ id < n := ⟨fun h => by cases h; assumption, fun h => .pO r o h⟩
theorem NI_sO (n id r o : Nat) : NI n (.sO id r o) ↔ id < n := ⟨fun h => by cases h; assumption, fun h => .sO r o h⟩
theorem NI_pF (n : Nat) (row : List V) (o : Nat) : NI n (.pF row o) ↔ NIs n row := ⟨fun h => by cases h; assumption, fun h => .pF o h⟩
theorem NI_sF (n sz : Nat) (rows : List (List V)) : NI n (.sF sz rows) ↔ NIr n rows := ⟨fun h => by cases h; assumption, fun h => .sF sz h⟩
theorem NI_agg (n : Nat) (xs : List V) : NI n (.agg xs) ↔ NIs n xs := ⟨fun h => by cases h; assumption, fun h => .agg h⟩
theorem NI_tup (n : Nat) (xs : List V) : NI n (.tup xs) ↔ NIs n xs := ⟨fun h => by cases h; assumption, fun h => .tup h⟩
theorem NI_fn (n : Nat) (f : Fn) (a b : List V) : NI n (.fn f a b) ↔ NIs n a ∧ NIs n b := ⟨fun h => by cases h; exact ⟨by assumption, by assumption⟩, fun h => .fn h.1 h.2⟩
theorem NIs_nil (n : Nat) : NIs n [] ↔ True := ⟨fun _ => trivial, fun _ x h => by simp at h⟩
theorem NIs_cons (n : Nat) (x : V) (xs : List V) : NIs n (x :: xs) ↔ NI n x ∧ NIs n xs := by simp [NIs]
theorem NIr_nil (n : Nat) : NIr n [] ↔ True := ⟨fun _ => trivial, fun _ x h => by simp at h⟩
theorem NIr_cons (n : Nat) (x : List V) (xs : List (List V)) : NIr n (x :: xs) ↔ NIs n x ∧ NIr n xs := by simp [NIr]
theorem NIr_map {α : Type} (n : Nat) (f : α → List V) (l : List α) (h : ∀ x, NIs n (f x)) : NIr n (l.map f) ↔ True := by
  refine ⟨fun _ => trivial, fun _ r hr => ?_⟩
  obtain ⟨x, _, rfl⟩ := List.mem_map.1 hr
  exact h x
theorem NIr_append (n : Nat) (a b : List (List V)) : NIr n (a ++ b) ↔ NIr n a ∧ NIr n b := by
  simp only [NIr, List.mem_append]
  exact ⟨fun h => ⟨fun r hr => h r (.inl hr), fun r hr => h r (.inr hr)⟩, fun h r hr => hr.elim (h.1 r) (h.2 r)⟩
theorem NIh_nil (n : Nat) : NIh n [] ↔ True := ⟨fun _ => trivial, fun _ o h => by simp at h⟩
theorem NIh_live (n : Nat) (sz : Nat) (rows : List (List V)) (e : TypeId) (h : Heap) : NIh n (.live ⟨sz, rows, e⟩ :: h) ↔ NIr n rows ∧ NIh n h := by simp [NIh]
theorem NIh_dead (n : Nat) (h : Heap) : NIh n (.dead :: h) ↔ NIh n h := by simp [NIh]
theorem NIh_free (n : Nat) (h : Heap) : NIh n (.free :: h) ↔ NIh n h := by simp [NIh]

theorem NI_sL (n : Nat) (t : Ty) (l : List t.den) : NI n (.sL t l) ↔ True := ⟨fun _ => trivial, fun _ => .sL t l⟩
theorem NI_oL (n id m : Nat) : NI n (.oL id m) ↔ id < n := ⟨fun h => by cases h; assumption, fun h => .oL m h⟩
theorem Ty.nis (n : Nat) : ∀ (t : Ty) (x : t.den) (r : List V), NIs n r → NIs n (t.cells x r)
  | .int _, _, _, h => (NIs_cons n _ _).2 ⟨.v _, h⟩
  | .bool, _, _, h => (NIs_cons n _ _).2 ⟨.v _, h⟩
  | .str, _, _, h => (NIs_cons n _ _).2 ⟨.v _, h⟩
  | .list t, l, _, h => (NIs_cons n _ _).2 ⟨.sL t l, h⟩
  | .pair a b, x, r, h => a.nis n x.1 _ (b.nis n x.2 r h)
theorem Ty.nir (n : Nat) (t : Ty) (l : List t.den) : NIr n (l.map t.row) := (NIr_map n t.row l fun x => t.nis n x [] ((NIs_nil n).2 trivial)).2 trivial

theorem Rep.free {w : World} {M M' : Nat → Prop} {ι1 ι2 : Iota} (hM : ∀ b, M' b → M b) : ∀ {x : V} {y : Value}, Rep w ι1 M x y → NI 0 x → Rep w ι2 M' x y := by
  intro x y r
  induction r with
  | v x => intro _; exact .v x
  | any x => intro _; exact .any x
  | pF row off b o cells hb hm hc _ ih => intro h; cases h with | pF _ h => exact .pF row off b o cells hb (fun q => hm (hM _ q)) hc (fun j hj => ih j hj (h _ (List.getElem_mem hj)))
  | pO id row off l hl => intro h; cases h with | pO _ _ h => omega
  | sF sz rows a cap cells hb hcap hr hc _ ih => intro h; cases h with | sF _ h => exact .sF sz rows a cap cells (fun hne => ⟨(hb hne).1, (hb hne).2.1, fun q => (hb hne).2.2 (hM _ q)⟩) hcap hr hc (fun i hi j hj => ih i hi j hj (h _ (List.getElem_mem hi) _ (List.getElem_mem hj)))
  | sN sz => intro _; exact .sN sz
  | sO id off len cap l c e fr hl hcap hb hs => intro h; cases h with | sO _ _ h => omega
  | agg xs vs hl _ ih => intro h; cases h with | agg h => exact .agg xs vs hl (fun i h1 h2 => ih i h1 h2 (h _ (List.getElem_mem h1)))
  | tup xs vs hl _ ih => intro h; cases h with | tup h => exact .tup xs vs hl (fun i h1 h2 => ih i h1 h2 (h _ (List.getElem_mem h1)))
  | fn f a b vs us h1 h2 _ _ ih1 ih2 => intro h; cases h with | fn ha hb => exact .fn f a b vs us h1 h2 (fun i q1 q2 => ih1 i q1 q2 (ha _ (List.getElem_mem q1))) (fun i q1 q2 => ih2 i q1 q2 (hb _ (List.getElem_mem q1)))
  | ifc t x y _ ih => intro h; cases h with | ifc h => exact .ifc t x y (ih h)
  | sL t l y _ ih => intro _; exact .sL t l y (ih (.sF _ (t.nir 0 l)))
  | oL id m y _ ih => intro h; cases h with | oL _ h => omega

theorem Rep.pF_opt {w ι M} {row : List V} {off : Nat} {y : Value} (r : Rep w ι M (.pF row off) y) :
    ∃ b o, y = .pointer (some ⟨b, o + off, none⟩) ∧ b < w.heap.size ∧ ¬ M b ∧ ∀ (j : Nat) (x : V), row[j]? = some x → ∃ z, w.cell? ⟨b, o + j, none⟩ = some z ∧ Rep w ι M x z := by
  cases r with
  | pF _ _ b o cells hb hm hc hr =>
    refine ⟨b, o, rfl, hb, hm, fun j x hx => ?_⟩
    have hlt := get_lt hx
    rw [List.getElem?_eq_getElem hlt] at hx
    injection hx with hx
    subst hx
    exact ⟨_, hc j hlt, hr j hlt⟩

theorem Rep.pF_mk {w ι M} {row : List V} {off b o : Nat} (hb : b < w.heap.size) (hm : ¬ M b) (h : ∀ (j : Nat) (x : V), row[j]? = some x → ∃ z, w.cell? ⟨b, o + j, none⟩ = some z ∧ Rep w ι M x z) :
    Rep w ι M (.pF row off) (.pointer (some ⟨b, o + off, none⟩)) := by
  have hch : ∀ j, ∃ z, ∀ (hj : j < row.length), w.cell? ⟨b, o + j, none⟩ = some z ∧ Rep w ι M row[j] z := by
    intro j
    by_cases hj : j < row.length
    · obtain ⟨z, h1, h2⟩ := h j row[j] (List.getElem?_eq_getElem hj)
      exact ⟨z, fun _ => ⟨h1, h2⟩⟩
    · exact ⟨undef, fun q => absurd q hj⟩
  obtain ⟨f, hf⟩ := Classical.axiomOfChoice hch
  exact .pF row off b o f hb hm (fun j hj => (hf j hj).1) (fun j hj => (hf j hj).2)

structure Conv (τ : Nat → Option Nat) (h : Heap) (w : World) (ι : Iota) (M : Nat → Prop) (ι₂ : Iota) (M₂ : Nat → Prop) : Prop where
  keep : ∀ id j l, τ id = some j → ι id = some l → ι₂ j = some l
  wide : ∀ b, ¬ M b → ¬ M₂ b
  live : ∀ id o, τ id = none → h[id]? = some (.live o) → ∃ l c fr, ι id = some l ∧ LiveAt w ι M o l c fr ∧ l.blk < w.heap.size ∧ ¬ M₂ l.blk

/-- The first one, read where τ renames references and the rest of the heap h is frozen, is the second one. -/
def Frz (τ : Nat → Option Nat) (h : Heap) (x x0 : V) : Prop :=
  ∀ {w : World} {ι : Iota} {M : Nat → Prop} {ι₂ : Iota} {M₂ : Nat → Prop}, Conv τ h w ι M ι₂ M₂ → ∀ {y : Value}, Rep w ι M x y → Rep w ι₂ M₂ x0 y
def Frzs (τ : Nat → Option Nat) (h : Heap) (xs ys : List V) : Prop := xs.length = ys.length ∧ ∀ (i : Nat) (x y : V), xs[i]? = some x → ys[i]? = some y → Frz τ h x y
structure FrzO (τ : Nat → Option Nat) (h : Heap) (o o' : AObj) : Prop where
  sz : o'.sz = o.sz
  elem : o'.elem = o.elem
  len : o'.rows.length = o.rows.length
  rows : ∀ (i : Nat) (r r' : List V), o.rows[i]? = some r → o'.rows[i]? = some r' → Frzs τ h r r'

theorem Frz.tree {τ : Nat → Option Nat} {h : Heap} {x : V} (hx : NI 0 x) : Frz τ h x x := fun {_ _ M _ M₂} cv {_} r =>
  r.free (M := M) (M' := M₂) (fun b hb => Classical.byContradiction fun q => cv.wide b q hb) hx
theorem Frzs.tree {τ : Nat → Option Nat} {h : Heap} {xs : List V} (hx : NIs 0 xs) : Frzs τ h xs xs :=
  ⟨rfl, fun i x y h1 h2 => by rw [h1] at h2; injection h2 with h2; subst h2; exact Frz.tree (hx x (get_mem h1))⟩
theorem FrzO.tree {τ : Nat → Option Nat} {h : Heap} {o : AObj} (ho : NIr 0 o.rows) : FrzO τ h o o :=
  ⟨rfl, rfl, rfl, fun i r r' h1 h2 => by rw [h1] at h2; injection h2 with h2; subst h2; exact Frzs.tree (ho r (get_mem h1))⟩

/-- An object's place, its rows renamed. -/
theorem LiveAt.conv {τ h w ι M ι₂ M₂} (cv : Conv τ h w ι M ι₂ M₂) {o o' : AObj} {l : Loc} {c : Array Value} {fr : Nat × Nat} (la : LiveAt w ι M o l c fr)
    (hf : FrzO τ h o o') : LiveAt w ι₂ M₂ o' l c fr := by
  have get : ∀ (i : Nat) (r' : List V), o'.rows[i]? = some r' → ∃ r, o.rows[i]? = some r ∧ Frzs τ h r r' := by
    intro i r' hr'
    have hi : i < o.rows.length := by rw [← hf.len]; exact get_lt hr'
    exact ⟨_, List.getElem?_eq_getElem hi, hf.rows i _ _ (List.getElem?_eq_getElem hi) hr'⟩
  refine ⟨by rw [hf.elem]; exact la.blk, by rw [hf.elem, hf.sz]; exact la.unfrozen, by rw [hf.sz]; exact la.sz, fun r' hr' => ?_, by rw [hf.sz, hf.len]; exact la.fits, ?_⟩
  · obtain ⟨i, hi, e⟩ := List.getElem_of_mem hr'
    obtain ⟨r, h1, h2⟩ := get i r' (by rw [List.getElem?_eq_getElem hi, e])
    rw [← h2.1, hf.sz]; exact la.rows r (get_mem h1)
  refine dep_of_opt (rows := o'.rows) (p := fun i j x => ∃ y, c[l.base + i * o'.sz + j]? = some y ∧ Rep w ι₂ M₂ x y) (fun i j r' x' hi hj => ?_)
  obtain ⟨r, h1, h2⟩ := get i r' hi
  have hjr : j < r.length := by rw [h2.1]; exact get_lt hj
  obtain ⟨_, _, u, u1, u2⟩ := la.get h1 (List.getElem?_eq_getElem hjr)
  exact ⟨u, by rw [hf.sz]; exact u1, h2.2 j _ _ (List.getElem?_eq_getElem hjr) hj cv u2⟩

def noTau : Nat → Option Nat := fun _ => none

theorem PC.frame {P : Program} {f : FuncId} {args : List V} {x0 : V} (hargs : NIs 0 args) (hc : PC P f args [] (fun x h' => Frz noTau h' x x0)) (k : Heap) :
    PC P f args k (fun x k' => x = x0 ∧ k' = k) := by
  intro ι w vals hp H
  have hlt : ∀ b, Mt k ι b → b < w.heap.size := by
    rintro b (q | q)
    · exact H.xlt b q
    · exact H.blk_lt q
  let ι0 : Iota := { at' := fun _ => none, X := Mt k ι }
  have H0 : HRel [] ι0 w := ⟨fun id o h => by simp at h, fun id h => by simp at h, fun id _ => rfl, fun id o l id' o' l' h => by simp at h, hlt, fun b _ ⟨id, o, l, q, _⟩ => by simp at q⟩
  have cv0 : Conv noTau [] w ι (Mt k ι) ι0 (Mt [] ι0) := ⟨fun id j l h => by simp [noTau] at h, fun b hb q => by
    rcases q with q | ⟨id, o, l, q, _⟩
    · exact hb q
    · simp at q, fun id o _ h => by simp at h⟩
  have hp0 : PW2 w ι0 (Mt [] ι0) args vals := by
    refine ⟨hp.1, fun i x hx => ?_⟩
    obtain ⟨y, y1, y2⟩ := hp.2 i x hx
    exact ⟨y, y1, Frz.tree (hargs x (get_mem hx)) cv0 y2⟩
  refine (hc ι0 w vals hp0 H0).mono ?_
  rintro e w' ⟨y, x, h', ι', rfl, hm, ry, H', ev⟩
  have hob0 : ∀ b, ¬ Ob [] ι0 b := by rintro b ⟨id, o, l, q, _⟩; simp at q
  have ev' : Evolve k ι w k ι w' := ⟨ev.os, ev.tape, ev.output, ev.size, fun _ _ q => q, rfl, fun b hb q => ⟨(ev.frame b hb (hob0 b)).1, q⟩, ev.sizes⟩
  refine ⟨y, x0, k, ι, rfl, ⟨rfl, rfl⟩, ?_, ?_, ev'⟩
  · refine hm (ι := ι') (M := Mt h' ι') ⟨fun id j l h => by simp [noTau] at h, fun b hb q => hb (.inl ?_), fun id o _ ho => ?_⟩ ry
    · rw [ev.away]; exact q
    · obtain ⟨l, c, fr, h1, la⟩ := H'.live id o ho
      refine ⟨l, c, fr, h1, la, H'.blk_lt ⟨id, o, l, ho, h1, rfl⟩, fun q => ?_⟩
      exact (ev.frame l.blk (hlt _ q) (hob0 _)).2 ⟨id, o, l, ho, h1, rfl⟩
  · refine ⟨fun id o ho => ?_, H.free, H.out, H.apart, fun b hb => Nat.lt_of_lt_of_le (H.xlt b hb) ev.size, H.xob⟩
    obtain ⟨l, c, fr, h1, la⟩ := H.live id o ho
    have hb := H.blk_lt ⟨id, o, l, ho, h1, rfl⟩
    exact ⟨l, c, fr, h1, ⟨((ev.frame _ hb (hob0 _)).1).trans la.blk, la.unfrozen, la.sz, la.rows, la.fits, fun i hi j hj => let ⟨u, u1, u2⟩ := la.reads i hi j hj; ⟨u, u1, u2.mono ev'⟩⟩⟩


def down (S : List Nat) : Nat → Option Nat := fun id => S.idxOf? id
def up (S : List Nat) : Nat → Option Nat := fun i => S[i]?

theorem down_spec {S : List Nat} {id j : Nat} (h : down S id = some j) : S[j]? = some id := by
  unfold down at h
  rw [List.idxOf?_eq_some_iff] at h
  obtain ⟨h1, h2, _⟩ := h
  rw [List.getElem?_eq_getElem h1]
  simpa using h2

theorem setMany_get {id : Nat} {c : HS} : ∀ (l : List (Nat × HS)) (h : Heap), (l.map (·.1)).Nodup → (id, c) ∈ l → id < h.length → (setMany h l)[id]? = some c
  | [], _, _, hm, _ => by cases hm
  | p :: r, h, hn, hm, hl => by
    simp only [List.map_cons, List.nodup_cons] at hn
    rw [setMany]
    rcases List.mem_cons.1 hm with q | q
    · subst q
      rw [setMany_other r _ (fun x hx e => hn.1 (by have := List.mem_map_of_mem (f := Prod.fst) hx; rw [e] at this; exact this))]
      rw [List.getElem?_set_self hl]
    · exact setMany_get r _ hn.2 q (by simpa using hl)

/-- What a call does to some objects it does to them wherever they lie. -/
theorem PC.lift {P : Program} {f : FuncId} {args args0 : List V} {x0 : V} {S : List Nat} {h0 : Heap} {post : List AObj} {k : Heap} (hS : S.Nodup) (hlen : h0.length = S.length) (hpl : post.length = S.length)
    (hk : ∀ (i id : Nat), S[i]? = some id → ∃ o c, k[id]? = some (.live o) ∧ h0[i]? = some (.live c) ∧ FrzO (down S) [] o c)
    (hargs : Frzs (down S) [] args args0)
    (hc : PC P f args0 h0 (fun x h' => Frz (up S) h' x x0 ∧ ∀ (i : Nat) (c : AObj), post[i]? = some c → ∃ c0, h'[i]? = some (.live c0) ∧ FrzO (up S) h' c0 c)) :
    PC P f args k (fun x k' => x = x0 ∧ k' = setMany k (S.zip (post.map .live))) := by
  intro ι w vals hp H
  have Slt : ∀ (i id : Nat), S[i]? = some id → id < k.length := fun i id h => by obtain ⟨o, c, h1, _⟩ := hk i id h; exact get_lt h1
  let ι0 : Iota := { at' := fun i => match S[i]? with | some id => ι id | none => none, X := fun b => ι.X b ∨ ∃ id o l, id ∉ S ∧ k[id]? = some (.live o) ∧ ι id = some l ∧ l.blk = b }
  have at0 : ∀ (i id : Nat), S[i]? = some id → ι0 i = ι id := by intro i id h; show (match S[i]? with | some id => ι id | none => none) = _; rw [h]
  have live0 : ∀ (i : Nat) (o' : AObj), h0[i]? = some (.live o') → ∃ (id : Nat) (o : AObj), S[i]? = some id ∧ k[id]? = some (.live o) ∧ FrzO (down S) [] o o' := by
    intro i o' h
    have hi : i < S.length := by rw [← hlen]; exact get_lt h
    obtain ⟨o, c, h1, h2, h3⟩ := hk i S[i] (List.getElem?_eq_getElem hi)
    rw [h] at h2; injection h2 with h2; injection h2 with h2; subst h2
    exact ⟨_, o, List.getElem?_eq_getElem hi, h1, h3⟩
  have ob0 : ∀ (b : Nat), Ob h0 ι0 b → ∃ (i id : Nat) (o : AObj) (l : Loc), S[i]? = some id ∧ k[id]? = some (.live o) ∧ ι id = some l ∧ l.blk = b := by
    rintro b ⟨i, o', l, h1, h2, h3⟩
    obtain ⟨id, o, e1, e2, _⟩ := live0 i o' h1
    rw [at0 i id e1] at h2
    exact ⟨i, id, o, l, e1, e2, h2, h3⟩
  have ob0' : ∀ (i id : Nat) (o : AObj) (l : Loc), S[i]? = some id → k[id]? = some (.live o) → ι id = some l → Ob h0 ι0 l.blk := by
    intro i id o l h1 h2 h3
    obtain ⟨o2, c, e1, e2, e3⟩ := hk i id h1
    exact ⟨i, c, l, e2, by rw [at0 i id h1]; exact h3, rfl⟩
  have mt0 : ∀ b, Mt h0 ι0 b ↔ Mt k ι b := by
    intro b
    constructor
    · rintro ((q | ⟨id, o, l, _, h1, h2, h3⟩) | q)
      · exact .inl q
      · exact .inr ⟨id, o, l, h1, h2, h3⟩
      · obtain ⟨i, id, o, l, _, h1, h2, h3⟩ := ob0 b q
        exact .inr ⟨id, o, l, h1, h2, h3⟩
    · rintro (q | ⟨id, o, l, h1, h2, h3⟩)
      · exact .inl (.inl q)
      · by_cases hid : id ∈ S
        · obtain ⟨i, hi, e⟩ := List.getElem_of_mem hid
          have := ob0' i id o l (by rw [List.getElem?_eq_getElem hi, e]) h1 h2
          rw [h3] at this
          exact .inr this
        · exact .inl (.inr ⟨id, o, l, hid, h1, h2, h3⟩)
  have cvd : Conv (down S) [] w ι (Mt k ι) ι0 (Mt h0 ι0) := ⟨fun id j l h1 h2 => by rw [at0 j id (down_spec h1)]; exact h2, fun b hb q => hb ((mt0 b).1 q), fun id o _ h => by simp at h⟩
  have idx : ∀ (i j id : Nat), S[i]? = some id → S[j]? = some id → i = j := by
    intro i j id h1 h2
    have hi := get_lt h1
    have hj := get_lt h2
    rw [List.getElem?_eq_getElem hi] at h1; injection h1 with h1
    rw [List.getElem?_eq_getElem hj] at h2; injection h2 with h2
    have hpw := List.pairwise_iff_getElem.1 hS
    rcases Nat.lt_trichotomy i j with q | q | q
    · exact absurd (h1.trans h2.symm) (hpw i j hi hj q)
    · exact q
    · exact absurd (h2.trans h1.symm) (hpw j i hj hi q)
  have x0ob : ∀ b, ι0.X b → ¬ Ob h0 ι0 b := by
    rintro b (q | ⟨id, o, l, hid, h1, h2, h3⟩) hob
    · obtain ⟨i, id, o, l, _, h1, h2, h3⟩ := ob0 b hob
      exact H.xob b q ⟨id, o, l, h1, h2, h3⟩
    · obtain ⟨i, id', o', l', g0, g1, g2, g3⟩ := ob0 b hob
      have := H.apart id o l id' o' l' h1 h2 g1 g2 (h3.trans g3.symm)
      subst this
      exact hid (get_mem g0)
  have H0 : HRel h0 ι0 w := by
    refine ⟨fun i o' h => ?_, fun i h => ?_, fun i h => ?_, fun i o l i' o' l' h1 h2 h3 h4 h5 => ?_, fun b hb => ?_, x0ob⟩
    · obtain ⟨id, o, e1, e2, e3⟩ := live0 i o' h
      obtain ⟨l, c, fr, g1, la⟩ := H.live id o e2
      exact ⟨l, c, fr, by rw [at0 i id e1]; exact g1, la.conv cvd e3⟩
    · exfalso
      have hi : i < S.length := by rw [← hlen]; exact get_lt h
      obtain ⟨o, c, h1, h2, h3⟩ := hk i S[i] (List.getElem?_eq_getElem hi)
      rw [h] at h2; cases h2
    · show (match S[i]? with | some id => ι id | none => none) = none
      rw [List.getElem?_eq_none (by omega)]
    · obtain ⟨id, q, e1, e2, _⟩ := live0 i o h1
      obtain ⟨id', q', e1', e2', _⟩ := live0 i' o' h3
      rw [at0 i id e1] at h2
      rw [at0 i' id' e1'] at h4
      have := H.apart id q l id' q' l' e2 h2 e2' h4 h5
      subst this
      exact idx i i' id e1 e1'
    · rcases hb with q | ⟨id, o, l, _, h1, h2, h3⟩
      · exact H.xlt b q
      · exact H.blk_lt ⟨id, o, l, h1, h2, h3⟩
  have hp0 : PW2 w ι0 (Mt h0 ι0) args0 vals := by
    obtain ⟨l1, l2⟩ := hargs
    refine ⟨by rw [← l1]; exact hp.1, fun i x hx => ?_⟩
    have hi : i < args.length := by rw [l1]; exact get_lt hx
    obtain ⟨y, y1, y2⟩ := hp.2 i _ (List.getElem?_eq_getElem hi)
    exact ⟨y, y1, l2 i _ _ (List.getElem?_eq_getElem hi) hx cvd y2⟩
  refine (hc ι0 w vals hp0 H0).mono ?_
  rintro e w' ⟨y, x, h', ι', rfl, ⟨hm, hpost0⟩, ry, H', ev⟩
  have hpl' : (post.map HS.live).length = S.length := by simpa using hpl
  have hpost : ∀ (i : Nat) (c : HS), (post.map HS.live)[i]? = some c → ∃ c0 c1, c = .live c1 ∧ h'[i]? = some (.live c0) ∧ FrzO (up S) h' c0 c1 := by
    intro i c hc
    rw [List.getElem?_map] at hc
    cases hp : post[i]? with
    | none => rw [hp] at hc; simp at hc
    | some o => rw [hp] at hc; simp at hc; subst hc; obtain ⟨c0, q1, q2⟩ := hpost0 i o hp; exact ⟨c0, o, rfl, q1, q2⟩
  have zmap : (S.zip (post.map HS.live)).map (·.1) = S := by rw [List.map_fst_zip]; omega
  have getS : ∀ (i id : Nat) (c : HS), S[i]? = some id → (post.map HS.live)[i]? = some c → (setMany k (S.zip (post.map HS.live)))[id]? = some c := by
    intro i id c h1 h2
    refine setMany_get _ _ (by rw [zmap]; exact hS) ?_ (Slt i id h1)
    have : (S.zip (post.map HS.live))[i]? = some (id, c) := by rw [List.getElem?_zip_eq_some]; exact ⟨h1, h2⟩
    exact get_mem this
  have getO : ∀ (id : Nat), id ∉ S → (setMany k (S.zip (post.map HS.live)))[id]? = k[id]? := by
    intro id hid
    refine setMany_other _ _ (fun p hp e => hid ?_)
    rw [← e, ← zmap]; exact List.mem_map_of_mem hp
  have liveK : ∀ (id : Nat) (o' : AObj), (setMany k (S.zip (post.map HS.live)))[id]? = some (.live o') → (id ∉ S ∧ k[id]? = some (.live o')) ∨
      ∃ (i : Nat) (o : AObj) (l : Loc), S[i]? = some id ∧ h'[i]? = some (.live o) ∧ FrzO (up S) h' o o' ∧ ι id = some l ∧ ι' i = some l ∧ ∃ o2, k[id]? = some (.live o2) := by
    intro id o' h
    by_cases hid : id ∈ S
    · right
      obtain ⟨i, hi, e⟩ := List.getElem_of_mem hid
      have hSi : S[i]? = some id := by rw [List.getElem?_eq_getElem hi, e]
      have hpi : (post.map HS.live)[i]? = some (post.map HS.live)[i] := List.getElem?_eq_getElem (by omega)
      rw [getS i id _ hSi hpi] at h
      injection h with h
      obtain ⟨o, c1, g0, g1, g3⟩ := hpost i _ hpi
      rw [h] at g0; injection g0 with g0; subst g0
      obtain ⟨o2, c, f1, f2, f3⟩ := hk i id hSi
      obtain ⟨l, cc, fr, p1, p2⟩ := H.live id o2 f1
      exact ⟨i, o, l, hSi, g1, g3, p1, ev.iota i l (by rw [at0 i id hSi]; exact p1), o2, f1⟩
    · left
      rw [getO id hid] at h
      exact ⟨hid, h⟩
  have obK : ∀ b, Ob (setMany k (S.zip (post.map HS.live))) ι b → Ob k ι b ∧ (ι'.X b ∨ Ob h' ι' b) := by
    rintro b ⟨id, o', l, h1, h2, h3⟩
    rcases liveK id o' h1 with ⟨q1, q2⟩ | ⟨i, o, l2, q1, q2, _, q3, q4, o2, q5⟩
    · exact ⟨⟨id, o', l, q2, h2, h3⟩, .inl (by rw [ev.away]; exact .inr ⟨id, o', l, q1, q2, h2, h3⟩)⟩
    · rw [h2] at q3; injection q3 with q3; subst q3
      exact ⟨⟨id, o2, l, q5, h2, h3⟩, .inr ⟨i, o, l, q2, q4, h3⟩⟩
  have evk : Evolve k ι w (setMany k (S.zip (post.map HS.live))) ι w' := by
    refine ⟨ev.os, ev.tape, ev.output, ev.size, fun _ _ q => q, rfl, fun b hb q => ⟨(ev.frame b hb (fun z => q ?_)).1, fun z => q (obK b z).1⟩, ev.sizes⟩
    obtain ⟨i, id, o, l, _, h1, h2, h3⟩ := ob0 b z
    exact ⟨id, o, l, h1, h2, h3⟩
  have cvu : Conv (up S) h' w' ι' (Mt h' ι') ι (Mt (setMany k (S.zip (post.map HS.live))) ι) := by
    refine ⟨fun i id l h1 h2 => ?_, fun b hb q => hb ?_, fun i o hi ho => ?_⟩
    · obtain ⟨o2, c, f1, _⟩ := hk i id h1
      obtain ⟨l2, cc, fr, p1, p2⟩ := H.live id o2 f1
      have := ev.iota i l2 (by rw [at0 i id h1]; exact p1)
      rw [h2] at this; injection this with this
      rw [this]; exact p1
    · rcases q with q | q
      · exact .inl (by rw [ev.away]; exact .inl q)
      · exact (obK b q).2
    · obtain ⟨l, c, fr, g1, la⟩ := H'.live i o ho
      refine ⟨l, c, fr, g1, la, H'.blk_lt ⟨i, o, l, ho, g1, rfl⟩, fun q => ?_⟩
      have hob : Ob h' ι' l.blk := ⟨i, o, l, ho, g1, rfl⟩
      rcases q with q | q
      · exact H'.xob l.blk (by rw [ev.away]; exact .inl q) hob
      · obtain ⟨id, o', l', h1, h2, h3⟩ := q
        rcases liveK id o' h1 with ⟨q1, q2⟩ | ⟨j, o3, l2, q1, q2, _, q3, q4, _⟩
        · exact H'.xob l.blk (by rw [ev.away]; exact .inr ⟨id, o', l', q1, q2, h2, h3⟩) hob
        · rw [h2] at q3; injection q3 with q3; subst q3
          have := H'.apart i o l j o3 l' ho g1 q2 q4 h3.symm
          subst this
          have : up S i = some id := q1
          rw [hi] at this; cases this
  refine ⟨y, x0, _, ι, rfl, ⟨rfl, rfl⟩, hm cvu ry, ?_, evk⟩
  refine ⟨fun id o' ho => ?_, fun id hid => ?_, fun id hid => H.out id (by rw [setMany_length] at hid; exact hid), fun id o l id' o' l' h1 h2 h3 h4 h5 => ?_, fun b hb => Nat.lt_of_lt_of_le (H.xlt b hb) ev.size, fun b hb q => H.xob b hb (obK b q).1⟩
  · rcases liveK id o' ho with ⟨q1, q2⟩ | ⟨i, o, l, q1, q2, q3, q6, q7, _⟩
    · obtain ⟨l, c, fr, g1, la⟩ := H.live id o' q2
      have hb := H.blk_lt ⟨id, o', l, q2, g1, rfl⟩
      have hno : ¬ Ob h0 ι0 l.blk := x0ob l.blk (.inr ⟨id, o', l, q1, q2, g1, rfl⟩)
      exact ⟨l, c, fr, g1, ⟨((ev.frame _ hb hno).1).trans la.blk, la.unfrozen, la.sz, la.rows, la.fits, fun i hi j hj => let ⟨u, u1, u2⟩ := la.reads i hi j hj; ⟨u, u1, u2.mono evk⟩⟩⟩
    · obtain ⟨l2, c, fr, g1, la⟩ := H'.live i o q2
      rw [q7] at g1; injection g1 with g1; subst g1
      exact ⟨l, c, fr, q6, la.conv cvu q3⟩
  · by_cases hid' : id ∈ S
    · exfalso
      obtain ⟨i, hi, e⟩ := List.getElem_of_mem hid'
      have hSi : S[i]? = some id := by rw [List.getElem?_eq_getElem hi, e]
      have hpi : (post.map HS.live)[i]? = some (post.map HS.live)[i] := List.getElem?_eq_getElem (by omega)
      rw [getS i id _ hSi hpi] at hid
      injection hid with hid
      obtain ⟨c0, c1, g1, _, _⟩ := hpost i _ hpi
      rw [hid] at g1; cases g1
    · rw [getO id hid'] at hid
      exact H.free id hid
  · have f : ∀ (a : Nat) (b : AObj), (setMany k (S.zip (post.map HS.live)))[a]? = some (.live b) → ∃ b', k[a]? = some (.live b') := by
      intro a b hab
      rcases liveK a b hab with ⟨_, q2⟩ | ⟨i, o, l, _, _, _, _, _, o2, q5⟩
      · exact ⟨b, q2⟩
      · exact ⟨o2, q5⟩
    obtain ⟨b1, c1⟩ := f _ _ h1
    obtain ⟨b2, c2⟩ := f _ _ h3
    exact H.apart id b1 l id' b2 l' c1 h2 c2 h4 h5

end Go.Abs
