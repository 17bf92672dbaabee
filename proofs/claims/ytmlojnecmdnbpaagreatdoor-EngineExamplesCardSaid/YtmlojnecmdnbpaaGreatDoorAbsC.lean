/- The operations on abstract values, and that the model carries them out as told. Part 1: what reads. -/
import Derived.Test.YtmlojnecmdnbpaaGreatDoorAbsB
namespace Go.Abs
set_option linter.unusedVariables false

def pureRun (P : Program) {α : Type} : Sem α → Option α
  | .pure a => some a
  | .program k => pureRun P (k P)
  | .mark _ k => pureRun P k
  | _ => none

theorem pureRun_run {P : Program} {α : Type} {m : Sem α} {a : α} (h : pureRun P m = some a) (w : World) : m.run P w = .ok a w := by
  induction m with
  | pure b => simp [pureRun] at h; subst h; rfl
  | program k ih => exact ih P h
  | mark x k ih => exact ih h
  | _ => simp [pureRun] at h

/-- What a value operation is to do. -/
def VS (P : Program) (h : Heap) (ι : Iota) (w : World) (m : Sem Value) (r : Option (V × Heap)) : Prop :=
  ∀ x h', r = some (x, h') → ∃ y w' ι', m.run P w = .ok y w' ∧ Rep w' ι' (Mt h' ι') x y ∧ HRel h' ι' w' ∧ Evolve h ι w h' ι' w'

theorem VS.of_pure {P h ι w} (H : HRel h ι w) {m : Sem Value} {x : V} (hx : ∃ y, m.run P w = .ok y w ∧ Rep w ι (Mt h ι) x y) : VS P h ι w m (some (x, h)) := by
  intro x' h' e
  injection e with e
  injection e with e1 e2
  subst e1 e2
  obtain ⟨y, h1, h2⟩ := hx
  exact ⟨y, w, ι, h1, h2, H, Evolve.refl _ _ _⟩

theorem VS.none {P h ι w} {m : Sem Value} : VS P h ι w m none := by intro x h' e; cases e

def toValues : List V → Option (List Value)
  | [] => some []
  | .v x :: r => match toValues r with
    | some xs => some (x :: xs)
    | none => none
  | _ => none

def toValue : V → Option Value
  | .v x => some x
  | .agg xs => match toValues xs with
    | some vs => some (.agg vs.toArray)
    | none => none
  | _ => none

theorem toValues_rep {w ι M} : ∀ (xs : List V) (vs : List Value) (ys : List Value), toValues xs = some vs → xs.length = ys.length →
    (∀ i, (h : i < xs.length) → (h' : i < ys.length) → Rep w ι M xs[i] ys[i]) → ys = vs
  | [], vs, ys, e, hl, _ => by
    simp [toValues] at e; subst e
    cases ys with
    | nil => rfl
    | cons => simp at hl
  | x :: r, vs, ys, e, hl, h => by
    cases ys with
    | nil => simp at hl
    | cons y ys =>
      cases x with
      | v x =>
        simp only [toValues] at e
        split at e
        · rename_i us hu
          injection e with e
          subst e
          have h0 := h 0 (by simp) (by simp)
          simp at h0
          cases h0
          rw [toValues_rep r us ys hu (by simpa using hl) (fun i h1 h2 => by have := h (i + 1) (by simpa using h1) (by simpa using h2); simpa using this)]
        · cases e
      | _ => simp [toValues] at e

theorem toValue_rep {w ι M} {x : V} {y z : Value} (r : Rep w ι M x y) (e : toValue x = some z) : y = z := by
  cases r with
  | v x => simpa [toValue] using e
  | agg xs vs hl h =>
    simp only [toValue] at e
    split at e
    · rename_i us hu
      injection e with e
      subst e
      have := toValues_rep xs us vs.toList hu (by simpa using hl) (fun i h1 h2 => by have := h i h1 (by simpa using h2); simpa using this)
      rw [← this]
    · cases e
  | _ => simp [toValue] at e

def isAggT (P : Program) (t : TypeId) : Option Bool :=
  match P.underlying t with
  | some (.struct _) => some true
  | some (.array _ _) => some true
  | some _ => some false
  | none => none

def sizeT (P : Program) (t : TypeId) : Option Nat :=
  match P.info? t with
  | some i => some i.size
  | none => none

theorem run_sizeOf {P : Program} {t : TypeId} {n : Nat} (h : sizeT P t = some n) (w : World) : (sizeOf t).run P w = .ok n w := by
  unfold sizeT at h
  split at h
  · rename_i i hi
    injection h with h
    simp [sizeOf, typeInfo, hi, h]
  · cases h

theorem run_isAgg {P : Program} {t : TypeId} {b : Bool} (h : isAggT P t = some b) (w : World) : (isAgg t).run P w = .ok b w := by
  unfold isAggT at h
  split at h <;> (try cases h) <;> rename_i hu <;> simp [isAgg, run_underlying hu]

/-- Reading a value of type t out of a row, from 'off' on. -/
def readAt (P : Program) (t : TypeId) (row : List V) (off : Nat) : Option V :=
  match isAggT P t with
  | some true => match sizeT P t with
    | some n => if off + n ≤ row.length then some (.agg ((row.drop off).take n)) else none
    | none => none
  | some false => row[off]?
  | none => none

theorem run_loadVar_rep {P : Program} {w : World} {ι : Iota} {M : Nat → Prop} {t : TypeId} {row : List V} {off b o : Nat} {x : V}
    (hc : ∀ j, (h : j < row.length) → ∃ z, w.cell? ⟨b, o + j, none⟩ = some z ∧ Rep w ι M row[j] z) (h : readAt P t row off = some x) :
    ∃ y, (loadVar t ⟨b, o + off, none⟩).run P w = .ok y w ∧ Rep w ι M x y := by
  have add : ∀ j, (⟨b, o + off, none⟩ : Addr).add j = ⟨b, o + off + j, none⟩ := by
    intro j; unfold Addr.add; split <;> simp_all
  unfold readAt at h
  split at h
  · rename_i ha
    split at h
    · rename_i n hn
      split at h
      · rename_i hle
        injection h with h
        subst h
        have hch : ∀ j, ∃ z, j < n → w.cell? ((⟨b, o + off, none⟩ : Addr).add j) = some z ∧ ∃ hj : off + j < row.length, Rep w ι M row[off + j] z := by
          intro j
          by_cases hj : j < n
          · obtain ⟨z, h1, h2⟩ := hc (off + j) (by omega)
            exact ⟨z, fun _ => ⟨by rw [add, Nat.add_assoc]; exact h1, by omega, h2⟩⟩
          · exact ⟨undef, fun q => absurd q hj⟩
        obtain ⟨f, hf⟩ := Classical.axiomOfChoice hch
        refine ⟨.agg ((List.range n).map f).toArray, ?_, .agg _ _ ?_ ?_⟩
        · simp [loadVar, run_isAgg ha, run_sizeOf hn, run_loadCells (P := P) w ⟨b, o + off, none⟩ n f (fun j hj => (hf j hj).1)]
        · simp; omega
        · intro i h1 h2
          have hin : i < n := by simp at h2; exact h2
          obtain ⟨hj, hr⟩ := (hf i hin).2
          simpa using hr
      · cases h
    · cases h
  · rename_i ha
    have hlt : off < row.length := by
      rcases Nat.lt_or_ge off row.length with q | q
      · exact q
      · rw [List.getElem?_eq_none q] at h; cases h
    rw [List.getElem?_eq_getElem hlt] at h
    injection h with h
    subst h
    obtain ⟨z, h1, h2⟩ := hc off hlt
    exact ⟨z, by simp [loadVar, run_isAgg ha, h1], h2⟩
  · cases h

/-- The row that a pointer leads into, and how far. -/
def rowAt (h : Heap) : V → Option (List V × Nat)
  | .pF row off => some (row, off)
  | .pO id r off => match h[id]? with
    | some (.live o) => match o.rows[r]? with
      | some row => some (row, off)
      | none => none
    | _ => none
  | _ => none

theorem LiveAt.cell {w ι M o l c fr} (la : LiveAt w ι M o l c fr) (k : Nat) : w.cell? ⟨l.blk, k, none⟩ = c[k]? := by
  simp [World.cell?, la.blk]

theorem rowAt_rep {h ι w} (H : HRel h ι w) {p : V} {y : Value} (r : Rep w ι (Mt h ι) p y) {row : List V} {off : Nat} (e : rowAt h p = some (row, off)) :
    ∃ b o, y = .pointer (some ⟨b, o + off, none⟩) ∧ ∀ j, (hj : j < row.length) → ∃ z, w.cell? ⟨b, o + j, none⟩ = some z ∧ Rep w ι (Mt h ι) row[j] z := by
  cases r with
  | pF row' off' b o cells hb hm hc hr =>
    simp [rowAt] at e
    obtain ⟨rfl, rfl⟩ := e
    exact ⟨b, o, rfl, fun j hj => ⟨cells j, hc j hj, hr j hj⟩⟩
  | pO id r' off' l hl =>
    simp only [rowAt] at e
    split at e
    · rename_i o ho
      split at e
      · rename_i row' hrow
        injection e with e
        injection e with e1 e2
        subst e1 e2
        obtain ⟨l', c, fr, h1, la⟩ := H.live id o ho
        rw [hl] at h1; injection h1 with h1; subst h1
        have hlt : r' < o.rows.length := by
          rcases Nat.lt_or_ge r' o.rows.length with q | q
          · exact q
          · rw [List.getElem?_eq_none q] at hrow; cases hrow
        rw [List.getElem?_eq_getElem hlt] at hrow
        injection hrow with hrow
        subst hrow
        refine ⟨l.blk, l.base + r' * l.sz, rfl, fun j hj => ?_⟩
        obtain ⟨z, q1, q2⟩ := la.reads r' hlt j hj
        exact ⟨z, by rw [la.cell, la.sz]; exact q1, q2⟩
      · cases e
    · cases e
  | _ => simp [rowAt] at e

/- load -/
def aLoad (P : Program) (h : Heap) (t : TypeId) (p : V) : Option (V × Heap) :=
  match rowAt h p with
  | some (row, off) => match readAt P t row off with
    | some x => some (x, h)
    | none => none
  | none => none

theorem aLoad_sound {P h ι w} (H : HRel h ι w) {t : TypeId} {p : V} {y : Value} (r : Rep w ι (Mt h ι) p y) : VS P h ι w (Instr.loadAt t y) (aLoad P h t p) := by
  unfold aLoad
  split
  · rename_i row off e
    split
    · rename_i x hx
      obtain ⟨b, o, rfl, hc⟩ := rowAt_rep H r e
      obtain ⟨z, h1, h2⟩ := run_loadVar_rep hc hx
      exact VS.of_pure H ⟨z, by simpa [Instr.loadAt, Instr.sureAddr] using h1, h2⟩
    · exact VS.none
  · exact VS.none

/- a part of a struct or an array that is held by value -/
theorem part_rep {P : Program} {w ι M} {t : TypeId} {xs : List V} {vs : Array Value} {off : Nat} {x : V} (hl : xs.length = vs.size)
    (hr : ∀ i, (h : i < xs.length) → (h' : i < vs.size) → Rep w ι M xs[i] vs[i]) (h : readAt P t xs off = some x) (w₀ : World) :
    ∃ y, (part t vs off).run P w₀ = .ok y w₀ ∧ Rep w ι M x y := by
  unfold readAt at h
  split at h
  · rename_i ha
    split at h
    · rename_i n hn
      split at h
      · rename_i hle
        injection h with h
        subst h
        refine ⟨.agg (vs.extract off (off + n)), by simp [part, run_isAgg ha, run_sizeOf hn], .agg _ _ (by simp; omega) ?_⟩
        intro i h1 h2
        have := hr (off + i) (by simp at h1; omega) (by simp at h2; omega)
        simpa using this
      · cases h
    · cases h
  · rename_i ha
    have hlt : off < xs.length := by
      rcases Nat.lt_or_ge off xs.length with q | q
      · exact q
      · rw [List.getElem?_eq_none q] at h; cases h
    rw [List.getElem?_eq_getElem hlt] at h
    injection h with h
    subst h
    refine ⟨vs[off]'(by omega), ?_, hr off hlt (by omega)⟩
    simp [part, run_isAgg ha, Array.getElem?_eq_getElem (show off < vs.size by omega)]
  · cases h

def fieldOf (P : Program) (s : TypeId) (f : Nat) : Option Field :=
  match P.underlying s with
  | some (.struct fields) => fields[f]?
  | _ => none

def aField (P : Program) (h : Heap) (s : TypeId) (x : V) (f : Nat) : Option (V × Heap) :=
  match norm x, fieldOf P s f with
  | .agg xs, some fd => match readAt P fd.type xs fd.offset with
    | some y => some (y, h)
    | none => none
  | _, _ => none

theorem fieldOf_run {P : Program} {s : TypeId} {f : Nat} {fd : Field} (h : fieldOf P s f = some fd) :
    ∃ fields, P.underlying s = some (.struct fields) ∧ fields[f]? = some fd := by
  unfold fieldOf at h
  split at h
  · rename_i fields hu
    exact ⟨fields, hu, h⟩
  · cases h

theorem aField_sound {P h ι w} (H : HRel h ι w) {s : TypeId} {x : V} {y : Value} {f : Nat} (r : Rep w ι (Mt h ι) x y) : VS P h ι w (Instr.field s y f) (aField P h s x f) := by
  have rn := r.norm
  unfold aField
  split
  · rename_i xs fd e1 e2
    split
    · rename_i z hz
      rw [e1] at rn
      cases rn with
      | agg _ vs hl hr =>
        obtain ⟨fields, hu, hf⟩ := fieldOf_run e2
        obtain ⟨u, h1, h2⟩ := part_rep hl hr hz w
        exact VS.of_pure H ⟨u, by simp [Instr.field, run_underlying hu, hf, asAgg, h1], h2⟩
    · exact VS.none
  · exact VS.none

/- the address of a field -/
def aFieldAddr (P : Program) (h : Heap) (s : TypeId) (x : V) (f : Nat) : Option (V × Heap) :=
  match x, fieldOf P s f with
  | .pF row off, some fd => match sizeT P fd.type with
    | some (_ + 1) => some (.pF row (off + fd.offset), h)
    | _ => none
  | .pO id r off, some fd => match sizeT P fd.type with
    | some (_ + 1) => some (.pO id r (off + fd.offset), h)
    | _ => none
  | _, _ => none

theorem add_mk (b o n : Nat) : (⟨b, o, none⟩ : Addr).add n = ⟨b, o + n, none⟩ := by
  unfold Addr.add; split <;> simp_all

theorem aFieldAddr_sound {P h ι w} (H : HRel h ι w) {s : TypeId} {x : V} {y : Value} {f : Nat} (r : Rep w ι (Mt h ι) x y) : VS P h ι w (Instr.fieldAt s y f) (aFieldAddr P h s x f) := by
  unfold aFieldAddr
  split
  · rename_i row off fd e2
    split
    · rename_i n hn
      cases r with
      | pF _ _ b o cells hb hm hc hr =>
        obtain ⟨fields, hu, hf⟩ := fieldOf_run e2
        refine VS.of_pure H ⟨.pointer (some ⟨b, o + (off + fd.offset), none⟩), ?_, .pF row _ b o cells hb hm hc hr⟩
        simp [Instr.fieldAt, run_underlying hu, hf, Instr.sureAddr, fieldPlace, run_sizeOf hn, add_mk, Nat.add_assoc]
    · exact VS.none
  · rename_i id r' off fd e2
    split
    · rename_i n hn
      cases r with
      | pO _ _ _ l hl =>
        obtain ⟨fields, hu, hf⟩ := fieldOf_run e2
        refine VS.of_pure H ⟨.pointer (some ⟨l.blk, l.base + r' * l.sz + (off + fd.offset), none⟩), ?_, .pO id r' _ l hl⟩
        simp [Instr.fieldAt, run_underlying hu, hf, Instr.sureAddr, fieldPlace, run_sizeOf hn, add_mk, Nat.add_assoc]
    · exact VS.none
  · exact VS.none

/- the address of an element -/
def asIdx : V → Option Int
  | .v (.int _ n) => some n
  | _ => none

def aIndexAddr (P : Program) (h : Heap) (t : TypeId) (x i : V) : Option (V × Heap) :=
  match asIdx i with
  | none => none
  | some n => match P.underlying t with
    | some (.slice elem) => match sizeT P elem with
      | none => none
      | some s => match x with
        | .sF sz rows => if s = sz ∧ 0 ≤ n then match rows[n.toNat]? with
            | some row => some (.pF row 0, h)
            | none => none
          else none
        | .sO id off len => match h[id]? with
          | some (.live o) => if o.sz = s ∧ 0 ≤ n ∧ n < len then some (.pO id (off + n.toNat) 0, h) else none
          | _ => none
        | _ => none
    | some (.array len elem) => match sizeT P elem with
      | none => none
      | some s => if 0 ≤ n ∧ n < len then match x with
          | .pF row off => some (.pF row (off + n.toNat * s), h)
          | .pO id r off => some (.pO id r (off + n.toNat * s), h)
          | _ => none
        else none
    | _ => none

theorem aIndexAddr_sound {P h ι w} (H : HRel h ι w) {t : TypeId} {x i : V} {y z : Value} (r : Rep w ι (Mt h ι) x y) (ri : Rep w ι (Mt h ι) i z) :
    VS P h ι w (Instr.indexAt t y z) (aIndexAddr P h t x i) := by
  unfold aIndexAddr
  split
  · exact VS.none
  · rename_i n hn
    have hz : ∃ k, z = .int k n := by
      cases i with
      | v q => cases ri; cases z <;> simp [asIdx] at hn; subst hn; exact ⟨_, rfl⟩
      | _ => simp [asIdx] at hn
    obtain ⟨k, rfl⟩ := hz
    split
    · rename_i elem hu
      split
      · exact VS.none
      · rename_i s hs
        split
        · rename_i sz rows
          split
          · rename_i hsz
            obtain ⟨rfl, h0⟩ := hsz
            split
            · rename_i row hrow
              cases r with
              | sN => simp at hrow
              | sF _ _ a cap cells hb hcap hr hc hrep =>
                have hlt : n.toNat < rows.length := by
                  rcases Nat.lt_or_ge n.toNat rows.length with q | q
                  · exact q
                  · rw [List.getElem?_eq_none q] at hrow; cases hrow
                rw [List.getElem?_eq_getElem hlt] at hrow
                injection hrow with hrow
                subst hrow
                have hne : rows ≠ [] := by intro e; subst e; simp at hlt
                obtain ⟨b1, b2, b3⟩ := hb hne
                obtain ⟨ab, ao, asp⟩ := a
                simp only at b1 b2 b3; subst b1
                refine VS.of_pure H ⟨.pointer (some ⟨ab, ao + n.toNat * s, none⟩), ?_, ?_⟩
                · have : n < (rows.length : Int) := by omega
                  simp [Instr.indexAt, asIntOf, run_underlying hu, run_sizeOf hs, h0, this, add_mk]
                · exact .pF rows[n.toNat] 0 ab (ao + n.toNat * s) (cells n.toNat) b2 b3 (fun j hj => hc _ hlt j hj) (fun j hj => hrep _ hlt j hj)
            · exact VS.none
          · exact VS.none
        · rename_i id off len
          split
          · rename_i o ho
            split
            · rename_i hsz
              obtain ⟨rfl, h0, h1⟩ := hsz
              cases r with
              | sO _ _ _ cap l c e fr hl hcap hb hsize =>
                obtain ⟨l', c', fr', q1, la⟩ := H.live id o ho
                rw [hl] at q1; injection q1 with q1; subst q1
                refine VS.of_pure H ⟨.pointer (some ⟨l.blk, l.base + (off + n.toNat) * l.sz + 0, none⟩), ?_, .pO id _ 0 l hl⟩
                have e1 : l.base + off * l.sz + n.toNat * o.sz = l.base + (off + n.toNat) * l.sz := by rw [la.sz, Nat.add_mul]; omega
                simp [Instr.indexAt, asIntOf, run_underlying hu, run_sizeOf hs, h0, h1, add_mk, e1]
            · exact VS.none
          · exact VS.none
        · exact VS.none
    · rename_i len elem hu
      split
      · exact VS.none
      · rename_i s hs
        split
        · rename_i hn0
          obtain ⟨h0, h1⟩ := hn0
          split
          · rename_i row off
            cases r with
            | pF _ _ b o cells hb hm hc hr =>
              refine VS.of_pure H ⟨.pointer (some ⟨b, o + (off + n.toNat * s), none⟩), ?_, .pF row _ b o cells hb hm hc hr⟩
              simp [Instr.indexAt, asIntOf, run_underlying hu, run_sizeOf hs, h0, h1, Instr.sureAddr, add_mk, Nat.add_assoc]
          · rename_i id r' off
            cases r with
            | pO _ _ _ l hl =>
              refine VS.of_pure H ⟨.pointer (some ⟨l.blk, l.base + r' * l.sz + (off + n.toNat * s), none⟩), ?_, .pO id r' _ l hl⟩
              simp [Instr.indexAt, asIntOf, run_underlying hu, run_sizeOf hs, h0, h1, Instr.sureAddr, add_mk, Nat.add_assoc]
          · exact VS.none
        · exact VS.none
    · exact VS.none

end Go.Abs
