/- The operations on abstract values, part 3: composite literals, make, slices. -/
import Derived.Test.YtmlojnecmdnbpaaGreatDoorAbsD
namespace Go.Abs
set_option linter.unusedVariables false

def PW2 (w : World) (ι : Iota) (M : Nat → Prop) (ls : List V) (c : Array Value) : Prop :=
  ls.length = c.size ∧ ∀ (k : Nat) (x : V), ls[k]? = some x → ∃ y, c[k]? = some y ∧ Rep w ι M x y

def afill (place : Nat → Option (Nat × Nat)) : List V → List (Nat × V) → Option (List V)
  | ls, [] => some ls
  | ls, (i, x) :: rest => match place i, leaves x with
    | some (off, size), some xs => if xs.length = size ∧ off + xs.length ≤ ls.length then afill place (ls.take off ++ xs ++ ls.drop (off + xs.length)) rest else none
    | _, _ => none

theorem foldl_write (off : Nat) : ∀ (vs : List Value) (k : Nat) (c : Array Value), off + k + vs.length ≤ c.size →
    let c' := (vs.zipIdx k).foldl (fun cs (p : Value × Nat) => cs.setIfInBounds (off + p.2) p.1) c
    c'.size = c.size ∧ (∀ j, (j < off + k ∨ off + k + vs.length ≤ j) → c'[j]? = c[j]?) ∧ (∀ j, j < vs.length → c'[off + k + j]? = vs[j]?)
  | [], k, c, _ => ⟨rfl, fun _ _ => rfl, fun j hj => by simp at hj⟩
  | v :: r, k, c, h => by
    simp only [List.length_cons] at h
    obtain ⟨h1, h2, h3⟩ := foldl_write off r (k + 1) (c.setIfInBounds (off + k) v) (by simp; omega)
    simp only [List.zipIdx_cons, List.foldl_cons]
    refine ⟨by rw [h1]; simp, fun j hj => ?_, fun j hj => ?_⟩
    · rw [h2 j (by simp only [List.length_cons] at hj; omega)]
      rw [Array.getElem?_setIfInBounds_ne (by simp only [List.length_cons] at hj; omega)]
    · cases j with
      | zero =>
        rw [h2 _ (by omega)]
        simp [Array.getElem?_setIfInBounds]
        omega
      | succ j =>
        have := h3 j (by simpa using hj)
        rw [show off + k + (j + 1) = off + (k + 1) + j by omega, this]
        simp

theorem afill_sound {w ι M} {place : Nat → Option (Nat × Nat)} : ∀ (parts : List (Nat × V)) (vparts : List (Nat × Value)) (ls : List V) (c : Array Value) (ls' : List V),
    PW2 w ι M ls c → parts.length = vparts.length → (∀ (k i : Nat) (x : V), parts[k]? = some (i, x) → ∃ y, vparts[k]? = some (i, y) ∧ Rep w ι M x y) → afill place ls parts = some ls' →
    ∃ c', Instr.fill place c vparts = some c' ∧ PW2 w ι M ls' c' ∧ c'.size = c.size
  | [], vparts, ls, c, ls', hp, hl, _, h => by
    cases vparts with
    | nil => simp [afill] at h; subst h; exact ⟨c, rfl, hp, rfl⟩
    | cons => simp at hl
  | (i, x) :: rest, vparts, ls, c, ls', hp, hl, hr, h => by
    cases vparts with
    | nil => simp at hl
    | cons q vrest =>
      obtain ⟨y, hy, rxy⟩ := hr 0 i x (by simp)
      simp at hy
      subst hy
      simp only [afill] at h
      split at h
      · rename_i off size xs hplace hxs
        split at h
        · rename_i hc
          obtain ⟨c1, c2⟩ := hc
          obtain ⟨l1, l2⟩ := leaves_rep rxy hxs
          have hsz := hp.1
          obtain ⟨f1, f2, f3⟩ := foldl_write off y.cells.toList 0 c (by simp; omega)
          simp only [Nat.add_zero] at f1 f2 f3
          have hlen2 : y.cells.toList.length = xs.length := by simp; omega
          have hp' : PW2 w ι M (ls.take off ++ xs ++ ls.drop (off + xs.length)) (y.cells.toList.zipIdx.foldl (fun cs (p : Value × Nat) => cs.setIfInBounds (off + p.2) p.1) c) := by
            refine ⟨by rw [f1]; simp; omega, fun k z hz => ?_⟩
            rcases splice_get (by omega) hz with ⟨j1, j2, j3⟩ | ⟨j1, j3⟩
            · have hk := f3 (k - off) (by omega)
              have hk2 : k - off < y.cells.size := by omega
              refine ⟨y.cells[k - off], ?_, ?_⟩
              · rw [show off + (k - off) = k by omega] at hk
                rw [hk]
                rw [List.getElem?_eq_getElem (by simpa using hk2)]
                simp
              · have := l2 (k - off) (by omega) hk2
                rw [List.getElem?_eq_getElem (by omega)] at j3
                injection j3 with j3
                rw [← j3]; exact this
            · obtain ⟨u, u1, u2⟩ := hp.2 k z j3
              exact ⟨u, by rw [f2 k (by rw [hlen2]; exact j1)]; exact u1, u2⟩
          obtain ⟨c', q1, q2, q3⟩ := afill_sound rest vrest _ _ ls' hp' (by simpa using hl) (fun k j z hz => by
            have := hr (k + 1) j z (by simpa using hz)
            simpa using this) h
          refine ⟨c', ?_, q2, by rw [q3, f1]⟩
          simp only [Instr.fill, hplace]
          rw [if_neg (by simp; omega)]
          rw [← Array.foldl_toList, Array.toList_zipIdx]
          exact q1
        · cases h
      · cases h

theorem ofList_PW2 {w ι M} (c : Array Value) : PW2 w ι M (c.toList.map .v) c := by
  refine ⟨by simp, fun k x hx => ?_⟩
  rw [List.getElem?_map] at hx
  rw [← Array.getElem?_toList]
  cases h : c.toList[k]? with
  | none => rw [h] at hx; simp at hx
  | some y =>
    rw [h] at hx
    simp at hx
    subst hx
    exact ⟨y, rfl, .v y⟩

/-- The zero of a type, cell by cell. -/
def zeroCellsV (P : Program) (t : TypeId) : Option (List V) :=
  match P.info? t with
  | some i => match i.zero with
    | some z => some (z.cells.toList.map .v)
    | none => none
  | none => none

theorem run_zeroCells {P : Program} {t : TypeId} {ls : List V} (h : zeroCellsV P t = some ls) : ∃ z, (∀ w : World, (zeroValue t).run P w = .ok z w) ∧ ls = z.cells.toList.map .v := by
  unfold zeroCellsV at h
  split at h
  · rename_i i hi
    split at h
    · rename_i z hz
      injection h with h
      exact ⟨z, fun w => by simp [zeroValue, typeInfo, hi, hz], h.symm⟩
    · cases h
  · cases h

def zipParts (parts : Array (Nat × Operand)) (xs : List V) : List (Nat × V) := (parts.toList.map (·.1)).zip xs

def placesOf (P : Program) : List Field → Option (List (Nat × Nat))
  | [] => some []
  | f :: r => match sizeT P f.type, placesOf P r with
    | some n, some l => some ((f.offset, n) :: l)
    | _, _ => none

theorem placesOf_run {P : Program} {w : World} : ∀ (fs : List Field) (l : List (Nat × Nat)), placesOf P fs = some l →
    (fs.mapM fun f => (do pure (f.offset, ← sizeOf f.type) : Sem (Nat × Nat))).run P w = .ok l w
  | [], l, h => by simp [placesOf] at h; subst h; rfl
  | f :: r, l, h => by
    simp only [placesOf] at h
    split at h
    · rename_i n l' hn hl
      injection h with h
      subst h
      have ih := placesOf_run (w := w) r l' hl
      simp only [List.mapM_cons, Sem.run_bind, run_sizeOf hn, Result.andThen_ok, ih, Sem.run_pure]
    · cases h

def aBuild (P : Program) (h : Heap) (t : TypeId) (ps : List (Nat × V)) : Option (V × Heap) :=
  match P.underlying t, zeroCellsV P t with
  | some (.struct fields), some zs => match placesOf P fields.toList with
    | some places => match afill (fun i => places[i]?) zs ps with
      | some ls => some (.agg ls, h)
      | none => none
    | none => none
  | some (.array _ elem), some zs => match sizeT P elem with
    | some size => match afill (fun i => some (i * size, size)) zs ps with
      | some ls => some (.agg ls, h)
      | none => none
    | none => none
  | _, _ => none

theorem agg_of_PW2 {w ι M} {ls : List V} {c : Array Value} (h : PW2 w ι M ls c) : Rep w ι M (.agg ls) (.agg c) := by
  refine .agg _ _ h.1 (fun i h1 h2 => ?_)
  obtain ⟨y, e1, e2⟩ := h.2 i ls[i] (List.getElem?_eq_getElem h1)
  rw [Array.getElem?_eq_getElem h2] at e1
  injection e1 with e1
  rw [e1]; exact e2

theorem aBuild_sound {P h ι w} (H : HRel h ι w) {t : TypeId} {ps : List (Nat × V)} {vps : Array (Nat × Value)} (hl : ps.length = vps.size)
    (hr : ∀ (k i : Nat) (x : V), ps[k]? = some (i, x) → ∃ y, vps[k]? = some (i, y) ∧ Rep w ι (Mt h ι) x y) : VS P h ι w (Instr.build t vps) (aBuild P h t ps) := by
  unfold aBuild
  split
  · rename_i fields zs hu hz
    split
    · rename_i places hp
      split
      · rename_i ls hf
        obtain ⟨z, z1, z2⟩ := run_zeroCells hz
        obtain ⟨c', f1, f2, _⟩ := afill_sound (w := w) (ι := ι) (M := Mt h ι) ps vps.toList zs z.cells ls (by rw [z2]; exact ofList_PW2 _) (by simpa using hl) (fun k i x hx => by
          obtain ⟨y, y1, y2⟩ := hr k i x hx
          exact ⟨y, by simpa using y1, y2⟩) hf
        refine VS.of_pure H ⟨.agg c', ?_, agg_of_PW2 f2⟩
        have hpl := placesOf_run (P := P) (w := w) fields.toList places hp
        have hpl' : (fields.mapM fun f => (do pure (f.offset, ← sizeOf f.type) : Sem (Nat × Nat))).run P w = .ok places.toArray w := by
          rw [← Array.toArray_toList (xs := fields), List.mapM_toArray, Sem.run_map, hpl]
          rfl
        simp only [Instr.build, Sem.run_bind, z1, Result.andThen_ok, run_underlying hu, hpl']
        have : (fun (x : Nat) => places.toArray[x]?) = fun (i : Nat) => places[i]? := by funext i; simp
        rw [this, f1]
        rfl
      · exact VS.none
    · exact VS.none
  · rename_i n elem zs hu hz
    split
    · rename_i size hs
      split
      · rename_i ls hf
        obtain ⟨z, z1, z2⟩ := run_zeroCells hz
        obtain ⟨c', f1, f2, _⟩ := afill_sound (w := w) (ι := ι) (M := Mt h ι) ps vps.toList zs z.cells ls (by rw [z2]; exact ofList_PW2 _) (by simpa using hl) (fun k i x hx => by
          obtain ⟨y, y1, y2⟩ := hr k i x hx
          exact ⟨y, by simpa using y1, y2⟩) hf
        refine VS.of_pure H ⟨.agg c', ?_, agg_of_PW2 f2⟩
        simp only [Instr.build, Sem.run_bind, z1, Result.andThen_ok, run_underlying hu, run_sizeOf hs]
        rw [f1]
        rfl
      · exact VS.none
    · exact VS.none
  · exact VS.none

def chunk (sz : Nat) : Nat → List V → List (List V)
  | 0, _ => []
  | n + 1, ls => ls.take sz :: chunk sz n (ls.drop sz)

theorem chunk_get {sz : Nat} : ∀ {n : Nat} {ls : List V} {i j : Nat} {r : List V} {x : V}, (chunk sz n ls)[i]? = some r → r[j]? = some x → ls[i * sz + j]? = some x
  | 0, _, _, _, _, _, h, _ => by simp [chunk] at h
  | n + 1, ls, 0, j, r, x, h, hj => by
    simp [chunk] at h
    subst h
    simp only [List.getElem?_take] at hj
    split at hj
    · simpa using hj
    · cases hj
  | n + 1, ls, i + 1, j, r, x, h, hj => by
    simp only [chunk, List.getElem?_cons_succ] at h
    have := chunk_get h hj
    rw [List.getElem?_drop] at this
    rw [← this]
    congr 1
    rw [Nat.add_mul]; omega

theorem chunk_len {sz : Nat} : ∀ {n : Nat} {ls : List V}, n * sz = ls.length → (chunk sz n ls).length = n ∧ ∀ r, r ∈ chunk sz n ls → r.length = sz
  | 0, _, _ => ⟨rfl, fun r hr => by simp [chunk] at hr⟩
  | n + 1, ls, h => by
    have e : n * sz = (ls.drop sz).length := by rw [Nat.add_mul] at h; simp; omega
    obtain ⟨h1, h2⟩ := chunk_len (n := n) (ls := ls.drop sz) e
    refine ⟨by simp [chunk, h1], fun r hr => ?_⟩
    simp only [chunk, List.mem_cons] at hr
    rcases hr with rfl | hr
    · rw [Nat.add_mul] at h; simp; omega
    · exact h2 r hr

def repl (n : Nat) (zs : List V) : List V := (List.replicate n zs).flatten

theorem mod_block {n s k : Nat} (h : k < n * s) : k % s < s ∧ k / s < n := by
  have hs : 0 < s := by
    rcases Nat.eq_zero_or_pos s with q | q
    · subst q; simp at h
    · exact q
  exact ⟨Nat.mod_lt _ hs, (Nat.div_lt_iff_lt_mul hs).2 h⟩

theorem repl_get {zs : List V} : ∀ {n k : Nat} {x : V}, (repl n zs)[k]? = some x → k < n * zs.length ∧ zs[k % zs.length]? = some x
  | 0, _, _, h => by simp [repl] at h
  | n + 1, k, x, h => by
    have e : repl (n + 1) zs = zs ++ repl n zs := by simp [repl, List.replicate_succ]
    rw [e] at h
    rw [Nat.add_mul, Nat.one_mul]
    by_cases hk : k < zs.length
    · rw [List.getElem?_append_left hk] at h
      exact ⟨by omega, by rw [Nat.mod_eq_of_lt hk]; exact h⟩
    · rw [List.getElem?_append_right (by omega)] at h
      obtain ⟨h1, h2⟩ := repl_get h
      refine ⟨by omega, ?_⟩
      rw [← h2]
      congr 1
      rw [Nat.mod_eq_sub_mod (by omega)]

theorem repl_len {zs : List V} (n : Nat) : (repl n zs).length = n * zs.length := by simp [repl]

theorem repl_PW2 {w ι M} (z : Array Value) (n : Nat) : PW2 w ι M (repl n (z.toList.map .v)) ((Array.range (n * z.size)).map (z[· % z.size]!)) := by
  refine ⟨by simp [repl_len], fun k x hx => ?_⟩
  obtain ⟨h1, h2⟩ := repl_get hx
  simp only [List.length_map, Array.length_toList] at h1 h2
  obtain ⟨m1, _⟩ := mod_block h1
  rw [List.getElem?_map] at h2
  simp only [Array.getElem?_toList, Array.getElem?_eq_getElem m1, Option.map_some, Option.some.injEq] at h2
  subst h2
  refine ⟨z[k % z.size]!, by simp [h1], ?_⟩
  rw [getElem!_pos z (k % z.size) m1]
  exact .v _

def aBuildSlice (P : Program) (h : Heap) (new : Nat) (t : TypeId) (len : Nat) (ps : List (Nat × V)) : Option (V × Heap) :=
  match P.underlying t with
  | some (.slice elem) => match sizeT P elem, zeroCellsV P elem with
    | some size, some zs => if zs.length = size ∧ len * size ≤ 2 ^ 24 then
        match afill (fun i => some (i * size, size)) (repl len zs) ps with
        | some ls => match halloc h new ⟨size, chunk size len ls, elem⟩ with
          | some h' => some (.sO new 0 len, h')
          | none => none
        | none => none
      else none
    | _, _ => none
  | _ => none

theorem alloc_rows {h : Heap} {ι : Iota} {w : World} (H : HRel h ι w) {new : Nat} {elem : TypeId} {size len : Nat} {ls : List V} {c : Array Value} {h' : Heap}
    (e : halloc h new ⟨size, chunk size len ls, elem⟩ = some h') (hp : PW2 w ι (Mt h ι) ls c) (hl : len * size = ls.length) :
    HRel h' (ι.put new ⟨w.heap.size, 0, size, Nat.zero_mod _⟩) { w with heap := w.heap.push (.cells c elem) } ∧ Evolve h ι w h' (ι.put new ⟨w.heap.size, 0, size, Nat.zero_mod _⟩) { w with heap := w.heap.push (.cells c elem) } ∧
      Rep { w with heap := w.heap.push (.cells c elem) } (ι.put new ⟨w.heap.size, 0, size, Nat.zero_mod _⟩) (Mt h' (ι.put new ⟨w.heap.size, 0, size, Nat.zero_mod _⟩)) (.sO new 0 len) (.slice (some ⟨w.heap.size, 0, none⟩) len len) := by
  obtain ⟨k1, k2⟩ := chunk_len hl
  have hps := hp.1
  obtain ⟨HH, ev⟩ := H.alloc e c (0, 0) (Unfr.zero _ _) (fun r hr => k2 r hr) (by simp only [k1]; omega)
    (dep_of_opt (rows := chunk size len ls) (p := fun i j x => ∃ y, c[i * size + j]? = some y ∧ Rep w ι (Mt h ι) x y) (fun i j r x hi hj => hp.2 _ x (chunk_get hi hj))) rfl
  refine ⟨HH, ev, ?_⟩
  have := Rep.sO (w := { w with heap := w.heap.push (.cells c elem) }) (ι := ι.put new ⟨w.heap.size, 0, size, Nat.zero_mod _⟩) (M := Mt h' (ι.put new ⟨w.heap.size, 0, size, Nat.zero_mod _⟩)) new 0 len len ⟨w.heap.size, 0, size, Nat.zero_mod _⟩ c elem (0, 0)
    (put_same _ _ _) (Nat.le_refl _) (by simp) (by simp; omega)
  simpa using this

theorem afill_len {place : Nat → Option (Nat × Nat)} : ∀ (ps : List (Nat × V)) (ls ls' : List V), afill place ls ps = some ls' → ls'.length = ls.length
  | [], ls, ls', h => by simp [afill] at h; rw [h]
  | (i, x) :: r, ls, ls', h => by
    simp only [afill] at h
    split at h
    · split at h
      · rename_i hc
        rw [afill_len r _ _ h]
        simp
        omega
      · cases h
    · cases h

theorem aBuildSlice_sound {P h ι w} (H : HRel h ι w) {new : Nat} {t : TypeId} {len : Nat} {ps : List (Nat × V)} {vps : Array (Nat × Value)} (hl : ps.length = vps.size)
    (hr : ∀ (k i : Nat) (x : V), ps[k]? = some (i, x) → ∃ y, vps[k]? = some (i, y) ∧ Rep w ι (Mt h ι) x y) : VS P h ι w (Instr.buildSlice t len vps) (aBuildSlice P h new t len ps) := by
  unfold aBuildSlice
  split
  · rename_i elem hu
    split
    · rename_i size zs hs hz
      split
      · rename_i hcond
        obtain ⟨c1, c2⟩ := hcond
        split
        · rename_i ls hf
          split
          · rename_i h1 e
            intro x' h' ee
            injection ee with ee
            injection ee with e1 e2
            subst e1 e2
            obtain ⟨z, z1, z2⟩ := run_zeroCells hz
            have hzs : z.cells.size = size := by rw [← c1, z2]; simp
            have hp0 : PW2 w ι (Mt h ι) (repl len zs) ((Array.range (len * size)).map (z.cells[· % z.cells.size]!)) := by
              have := repl_PW2 (w := w) (ι := ι) (M := Mt h ι) z.cells len
              rw [z2]; rw [hzs] at this ⊢; exact this
            obtain ⟨c', f1, f2, f3⟩ := afill_sound ps vps.toList _ _ ls hp0 (by simpa using hl) (fun k i x hx => by
              obtain ⟨y, y1, y2⟩ := hr k i x hx
              exact ⟨y, by simpa using y1, y2⟩) hf
            have hlen := afill_len _ _ _ hf
            rw [repl_len, c1] at hlen
            obtain ⟨HH, ev, rp⟩ := alloc_rows H e f2 hlen.symm
            refine ⟨_, _, _, ?_, rp, HH, ev⟩
            simp only [Instr.buildSlice, Sem.run_bind, run_underlying hu, Result.andThen_ok, run_sizeOf hs]
            rw [if_neg (by omega)]
            by_cases h0 : len * size = 0
            · simp only [h0, if_true, pure_bind]
              have hempty : (Array.range 0).map (fun x => (#[] : Array Value)[x % (#[] : Array Value).size]!) = (Array.range (len * size)).map (z.cells[· % z.cells.size]!) := by simp [h0]
              rw [hempty, f1]
              simp [newRow]
            · simp only [h0, if_false, Sem.run_bind, z1, Result.andThen_ok, Sem.run_pure]
              rw [f1]
              simp [newRow]
          · exact VS.none
        · exact VS.none
      · exact VS.none
    · exact VS.none
  · exact VS.none

end Go.Abs
