/- The operations on abstract values, part 4: make, slicing, append, conversions. -/
import Derived.Test.YtmlojnecmdnbpaaGreatDoorAbsE
namespace Go.Abs
set_option linter.unusedVariables false

def bytesT (P : Program) (t : TypeId) : Option Nat :=
  match P.info? t with
  | some i => some i.bytes
  | none => none

theorem run_typeInfo {P : Program} {t : TypeId} {n : Nat} (h : bytesT P t = some n) : ∃ i, P.info? t = some i ∧ i.bytes = n := by
  unfold bytesT at h
  split at h
  · rename_i i hi
    injection h with h
    exact ⟨i, hi, h⟩
  · cases h

def aMakeSlice (P : Program) (h : Heap) (new : Nat) (t : TypeId) (l c : V) : Option (V × Heap) :=
  match P.underlying t, asIdx l, asIdx c with
  | some (.slice elem), some n, some m => match sizeT P elem, zeroCellsV P elem, bytesT P elem with
    | some size, some zs, some b => if zs.length = size ∧ 0 ≤ n ∧ n ≤ m ∧ m ≤ 2 ^ 48 ∧ b * m ≤ 2 ^ 48 then
        match halloc h new ⟨size, List.replicate n.toNat zs, elem⟩ with
        | some h' => some (.sO new 0 n.toNat, h')
        | none => none
      else none
    | _, _, _ => none
  | _, _, _ => none

theorem asIdx_rep {w ι M} {x : V} {y : Value} {n : Int} (r : Rep w ι M x y) (h : asIdx x = some n) : ∃ k, y = .int k n := by
  cases x with
  | v q => cases r; cases y <;> simp [asIdx] at h; subst h; exact ⟨_, rfl⟩
  | _ => simp [asIdx] at h

theorem wrap_small {n : Int} (h0 : 0 ≤ n) (h1 : n ≤ 2 ^ 48) : IntKind.i64.wrap n = n := by
  have h2 : n ≤ 281474976710656 := by simpa using h1
  exact IntWalk.i64_in n (by omega)

theorem replicate_get {zs : List V} {n i j : Nat} {r : List V} {x : V} (h : (List.replicate n zs)[i]? = some r) (hj : r[j]? = some x) : i < n ∧ r = zs := by
  rw [List.getElem?_replicate] at h
  split at h
  · injection h with h
    exact ⟨by assumption, h.symm⟩
  · cases h

theorem aMakeSlice_sound {P h ι w} (H : HRel h ι w) {new : Nat} {t : TypeId} {l c : V} {yl yc : Value} (rl : Rep w ι (Mt h ι) l yl) (rc : Rep w ι (Mt h ι) c yc) :
    VS P h ι w (Instr.makeSlice t yl yc) (aMakeSlice P h new t l c) := by
  unfold aMakeSlice
  split
  · rename_i elem n m hu hn hm
    split
    · rename_i size zs b hs hz hb
      split
      · rename_i hcond
        obtain ⟨c1, c2, c3, c4, c5⟩ := hcond
        split
        · rename_i h1 e
          intro x' h' ee
          injection ee with ee
          injection ee with e1 e2
          subst e1 e2
          obtain ⟨kl, rfl⟩ := asIdx_rep rl hn
          obtain ⟨kc, rfl⟩ := asIdx_rep rc hm
          obtain ⟨z, z1, z2⟩ := run_zeroCells hz
          obtain ⟨inf, hi, hbytes⟩ := run_typeInfo hb
          have hzs : z.cells.size = size := by rw [← c1, z2]; simp
          have w1 : IntKind.i64.wrap n = n := wrap_small c2 (by omega)
          have w2 : IntKind.i64.wrap m = m := wrap_small (by omega) c4
          obtain ⟨cells, hcells⟩ : ∃ c : Array Value, c = (Array.range (m.toNat * size)).map (z.cells[· % z.cells.size]!) := ⟨_, rfl⟩
          have hcs : cells.size = m.toNat * size := by simp [hcells]
          have hle : n.toNat * size ≤ m.toNat * size := Nat.mul_le_mul_right _ (by omega)
          obtain ⟨HH, ev⟩ := H.alloc e cells (0, 0) (Unfr.zero _ _) (fun r hr => by rw [List.eq_of_mem_replicate hr]; exact c1) (by simp only [List.length_replicate]; omega)
            (dep_of_opt (rows := List.replicate n.toNat zs) (p := fun i j x => ∃ y, cells[i * size + j]? = some y ∧ Rep w ι (Mt h ι) x y) (fun i j r x hi hj => by
              obtain ⟨q1, q2⟩ := replicate_get hi hj
              subst q2
              have hj' : j < size := by
                rcases Nat.lt_or_ge j r.length with q | q
                · omega
                · rw [List.getElem?_eq_none q] at hj; cases hj
              have hk : i * size + j < m.toNat * size := by
                have : (i + 1) * size ≤ m.toNat * size := Nat.mul_le_mul_right _ (by omega)
                rw [Nat.add_mul, Nat.one_mul] at this
                omega
              have hmod : (i * size + j) % size = j := by rw [Nat.mul_comm, Nat.mul_add_mod, Nat.mod_eq_of_lt hj']
              refine ⟨z.cells[j]'(by omega), ?_, ?_⟩
              · simp [hcells, hzs, hk, hmod]
                rw [getElem!_pos z.cells j (by omega)]
              · rw [z2, List.getElem?_map, Array.getElem?_toList, Array.getElem?_eq_getElem (by omega)] at hj
                simp at hj
                subst hj
                exact .v _)) rfl
          refine ⟨.slice (some ⟨w.heap.size, 0, none⟩) n.toNat m.toNat, _, _, ?_, ?_, HH, ev⟩
          · simp only [Instr.makeSlice, Sem.run_bind, run_underlying hu, Result.andThen_ok, asInt, asIntOf, Sem.run_pure, typeInfo, run_program, hi, hbytes, w1, w2]
            have t1 : (decide (m < 0) || decide ((b : Int) * m > 2 ^ 48)) = false := by simp; omega
            have hcc : ((((decide (m < 0) || decide ((b : Int) * m > 2 ^ 48)) || decide (n < 0)) || decide (n > m)) = true) = False := by
              simp; omega
            simp only [hcc, if_false, Sem.run_bind, run_askRoom, Result.andThen_ok, run_sizeOf hs]
            by_cases h0 : m.toNat * size = 0
            · simp only [h0, if_true, pure_bind]
              have r0 : Array.range 0 = #[] := by simp [Array.range]
              have : cells = #[] := by rw [hcells, h0, r0]; simp
              rw [this]
              simp [newRow, r0]
            · simp only [h0, if_false, Sem.run_bind, z1, Result.andThen_ok, Sem.run_pure]
              rw [hcells]
              simp [newRow]
          · have := Rep.sO (w := { w with heap := w.heap.push (.cells cells elem) }) (ι := ι.put new ⟨w.heap.size, 0, size, Nat.zero_mod _⟩) (M := Mt h1 (ι.put new ⟨w.heap.size, 0, size, Nat.zero_mod _⟩)) new 0 n.toNat m.toNat ⟨w.heap.size, 0, size, Nat.zero_mod _⟩ cells elem (0, 0)
              (put_same _ _ _) (by omega) (by simp) (by simp; omega)
            simpa using this
        · exact VS.none
      · exact VS.none
    · exact VS.none
  · exact VS.none

/- slicing -/
def bound (x : Option V) (d : Nat) : Option Nat :=
  match x with
  | none => some d
  | some (.v (.int _ n)) => if 0 ≤ n then some n.toNat else none
  | _ => none

def aSlice (P : Program) (h : Heap) (t : TypeId) (x : V) (lo hi : Option V) : Option (V × Heap) :=
  match x with
  | .sF sz rows => match P.underlying t, bound lo 0, bound hi rows.length with
    | some (.slice elem), some l, some u => match sizeT P elem with
      | some s => if s = sz ∧ l ≤ u ∧ u ≤ rows.length then some (.sF sz ((rows.take u).drop l), h) else none
      | none => none
    | _, _, _ => none
  | .sO id off len => match P.underlying t, bound lo 0, bound hi len with
    | some (.slice elem), some l, some u => match sizeT P elem, h[id]? with
      | some s, some (.live o) => if o.sz = s ∧ l ≤ u ∧ u ≤ len then
          if l = u ∧ l ≠ 0 then some (.sF s [], h) else some (.sO id (off + l) (u - l), h)
        else none
      | _, _ => none
    | _, _, _ => none
  | _ => none



theorem bound_run {P : Program} {w w₀ : World} {ι : Iota} {M : Nat → Prop} {x : Option V} {y : Option Value} {d n c : Nat} {code : BoundsCode}
    (hxy : (x = none ∧ y = none) ∨ ∃ a b, x = some a ∧ y = some b ∧ Rep w ι M a b) (h : bound x d = some n) (hc : n ≤ c) :
    (match y with | some v => Instr.sliceBound v c code | none => pure d : Sem Nat).run P w₀ = .ok n w₀ := by
  rcases hxy with ⟨rfl, rfl⟩ | ⟨a, b, rfl, rfl, r⟩
  · simp [bound] at h
    simp [h]
  · cases a with
    | v q =>
      cases r
      cases b <;> simp [bound] at h
      obtain ⟨h0, h1⟩ := h
      rename_i k m
      have : m ≤ (c : Int) := by omega
      simp [Instr.sliceBound, asIntOf, h0, this, h1]
    | _ => simp [bound] at h

def OptRep (w : World) (ι : Iota) (M : Nat → Prop) (x : Option V) (y : Option Value) : Prop :=
  (x = none ∧ y = none) ∨ ∃ a b, x = some a ∧ y = some b ∧ Rep w ι M a b

theorem sliceBounds_run {P : Program} {w w₀ : World} {ι : Iota} {M : Nat → Prop} {lo hi : Option V} {ylo yhi : Option Value} {len cap l u : Nat}
    (rlo : OptRep w ι M lo ylo) (rhi : OptRep w ι M hi yhi) (hl : bound lo 0 = some l) (hu : bound hi len = some u) (h1 : l ≤ u) (h2 : u ≤ len) (h3 : len ≤ cap) :
    (Instr.sliceBounds true len cap ylo yhi none).run P w₀ = .ok (l, u, cap) w₀ := by
  have e1 := fun code => bound_run (P := P) (w₀ := w₀) (c := cap) (code := code) rhi hu (by omega)
  have e2 := fun code => bound_run (P := P) (w₀ := w₀) (c := u) (code := code) rlo hl h1
  rcases rhi with ⟨rfl, rfl⟩ | ⟨a, b, rfl, rfl, r⟩ <;> rcases rlo with ⟨rfl, rfl⟩ | ⟨a', b', rfl, rfl, r'⟩ <;> simp at e1 e2 <;> simp [Instr.sliceBounds, e1, e2]

theorem take_drop_get {rows : List (List V)} {l u i : Nat} {r : List V} (h : ((rows.take u).drop l)[i]? = some r) : rows[l + i]? = some r := by
  rw [List.getElem?_drop, List.getElem?_take] at h
  split at h
  · exact h
  · cases h

theorem dep_inv {w : World} {ι : Iota} {M : Nat → Prop} {sz : Nat} {rows : List (List V)} {a : Addr} {cells : Nat → Nat → Value}
    (hc : ∀ i, (h : i < rows.length) → ∀ j, (h' : j < rows[i].length) → w.cell? ⟨a.block, a.off + i * sz + j, none⟩ = some (cells i j))
    (hrep : ∀ i, (h : i < rows.length) → ∀ j, (h' : j < rows[i].length) → Rep w ι M rows[i][j] (cells i j)) {i j : Nat} {r : List V} {x : V}
    (hi : rows[i]? = some r) (hj : r[j]? = some x) : ∃ z, w.cell? ⟨a.block, a.off + i * sz + j, none⟩ = some z ∧ Rep w ι M x z := by
  have h1 : i < rows.length := by
    rcases Nat.lt_or_ge i rows.length with q | q
    · exact q
    · rw [List.getElem?_eq_none q] at hi; cases hi
  rw [List.getElem?_eq_getElem h1] at hi
  injection hi with hi
  subst hi
  have h2 : j < rows[i].length := by
    rcases Nat.lt_or_ge j rows[i].length with q | q
    · exact q
    · rw [List.getElem?_eq_none q] at hj; cases hj
  rw [List.getElem?_eq_getElem h2] at hj
  injection hj with hj
  subst hj
  exact ⟨_, hc i h1 j h2, hrep i h1 j h2⟩


theorem Rep.sF_opt {w ι M} {sz : Nat} {rows : List (List V)} {y : Value} (r : Rep w ι M (.sF sz rows) y) :
    (rows = [] ∧ y = .slice none 0 0) ∨ ∃ a cap, y = .slice (some a) rows.length cap ∧ (rows ≠ [] → a.spot = none ∧ a.block < w.heap.size ∧ ¬ M a.block) ∧ rows.length ≤ cap ∧ (∀ r, r ∈ rows → r.length = sz) ∧
      ∀ (i j : Nat) (r : List V) (x : V), rows[i]? = some r → r[j]? = some x → ∃ z, w.cell? ⟨a.block, a.off + i * sz + j, none⟩ = some z ∧ Rep w ι M x z := by
  cases r with
  | sN => exact .inl ⟨rfl, rfl⟩
  | sF _ _ a cap cells hb hcap hr hc hrep =>
    exact .inr ⟨a, cap, rfl, hb, hcap, hr, fun i j r x hi hj => dep_inv hc hrep hi hj⟩
theorem Rep.sF_mk {w ι M} {sz : Nat} {rows : List (List V)} (a : Addr) (cap : Nat) (hb : rows ≠ [] → a.spot = none ∧ a.block < w.heap.size ∧ ¬ M a.block) (hcap : rows.length ≤ cap)
    (hr : ∀ r, r ∈ rows → r.length = sz)
    (h : ∀ (i j : Nat) (r : List V) (x : V), rows[i]? = some r → r[j]? = some x → ∃ z, w.cell? ⟨a.block, a.off + i * sz + j, none⟩ = some z ∧ Rep w ι M x z) :
    Rep w ι M (.sF sz rows) (.slice (some a) rows.length cap) := by
  have hch : ∀ i, ∀ j, ∃ z, ∀ (hi : i < rows.length) (hj : j < rows[i].length), w.cell? ⟨a.block, a.off + i * sz + j, none⟩ = some z ∧ Rep w ι M rows[i][j] z := by
    intro i j
    by_cases hi : i < rows.length
    · by_cases hj : j < rows[i].length
      · obtain ⟨z, h1, h2⟩ := h i j rows[i] rows[i][j] (List.getElem?_eq_getElem hi) (List.getElem?_eq_getElem hj)
        exact ⟨z, fun _ _ => ⟨h1, h2⟩⟩
      · exact ⟨undef, fun _ q => absurd q hj⟩
    · exact ⟨undef, fun q => absurd q hi⟩
  have hch2 : ∀ i, ∃ f : Nat → Value, ∀ j, ∀ (hi : i < rows.length) (hj : j < rows[i].length), w.cell? ⟨a.block, a.off + i * sz + j, none⟩ = some (f j) ∧ Rep w ι M rows[i][j] (f j) :=
    fun i => Classical.axiomOfChoice (hch i)
  obtain ⟨f, hf⟩ := Classical.axiomOfChoice hch2
  exact .sF sz rows a cap f hb hcap hr (fun i hi j hj => (hf i j hi hj).1) (fun i hi j hj => (hf i j hi hj).2)

theorem aSlice_sound {P h ι w} (H : HRel h ι w) {t : TypeId} {x : V} {y : Value} {lo hi : Option V} {ylo yhi : Option Value} (r : Rep w ι (Mt h ι) x y)
    (rlo : OptRep w ι (Mt h ι) lo ylo) (rhi : OptRep w ι (Mt h ι) hi yhi) : VS P h ι w (Instr.sliceAt t y ylo yhi none) (aSlice P h t x lo hi) := by
  unfold aSlice
  split
  · rename_i sz rows
    split
    · rename_i elem l u hu hl hh
      split
      · rename_i s hs
        split
        · rename_i hc
          obtain ⟨rfl, c1, c2⟩ := hc
          rcases r.sF_opt with ⟨rfl, rfl⟩ | ⟨a, cap, rfl, hb, hcap, hr, hcells⟩
          · simp only [List.length_nil] at c2
            obtain rfl : u = 0 := by omega
            obtain rfl : l = 0 := by omega
            have hb' := sliceBounds_run (P := P) (w₀ := w) (cap := 0) rlo rhi hl hh (by omega) (by simp) (by simp)
            simp only [List.length_nil] at hb'
            refine VS.of_pure H ⟨.slice none 0 0, ?_, by simpa using Rep.sN _⟩
            simp only [Instr.sliceAt, Sem.run_bind, run_underlying hu, Result.andThen_ok, Instr.slice, hb', run_sizeOf hs, Sem.run_pure]
            simp
          have hb' := sliceBounds_run (P := P) (w₀ := w) rlo rhi hl hh c1 c2 hcap
          have hlen : ((rows.take u).drop l).length = u - l := by simp; omega
          refine VS.of_pure H ⟨.slice (some (if cap = l then a else a.add (l * s))) (u - l) (cap - l), ?_, ?_⟩
          · simp only [Instr.sliceAt, Sem.run_bind, run_underlying hu, Result.andThen_ok, Instr.slice, hb', run_sizeOf hs, Sem.run_pure]
            split <;> rfl
          · rw [← hlen]
            by_cases hcl : cap = l
            · have : (rows.take u).drop l = [] := List.eq_nil_of_length_eq_zero (by omega)
              rw [this]
              exact Rep.sF_mk _ _ (fun q => absurd rfl q) (by simp) (by simp) (by intro i j r x hi; simp at hi)
            · rw [if_neg hcl]
              refine Rep.sF_mk _ _ (fun q => ?_) (by omega) (fun r hr' => hr r (List.mem_of_mem_take (List.mem_of_mem_drop hr'))) (fun i j r x hi hj => ?_)
              · have hne : rows ≠ [] := by intro e; subst e; simp at q
                obtain ⟨b1, b2, b3⟩ := hb hne
                unfold Addr.add
                split <;> exact ⟨by first | rfl | exact b1, b2, b3⟩
              · have hi' := take_drop_get hi
                obtain ⟨z, z1, z2⟩ := hcells _ _ _ _ hi' hj
                refine ⟨z, ?_, z2⟩
                have hadd : (a.add (l * s)).block = a.block ∧ (a.add (l * s)).off = a.off + l * s := by
                  unfold Addr.add; split <;> simp_all
                rw [hadd.1, hadd.2, ← z1]
                congr 2
                rw [Nat.add_mul]; omega
        · exact VS.none
      · exact VS.none
    · exact VS.none
  · rename_i id off len
    split
    · rename_i elem l u hu hl hh
      split
      · rename_i s o hs ho
        split
        · rename_i hc
          obtain ⟨hsz, c1, c2⟩ := hc
          cases r with
          | sO _ _ _ cap lc c e fr hlc hcap hb hsize =>
            obtain ⟨l', c', fr', q1, la⟩ := H.live id o ho
            rw [hlc] at q1; injection q1 with q1; subst q1
            have hb' := sliceBounds_run (P := P) (w₀ := w) rlo rhi hl hh c1 c2 hcap
            have hrun : (Instr.sliceAt t (.slice (some ⟨lc.blk, lc.base + off * lc.sz, none⟩) len cap) ylo yhi none).run P w =
                .ok (.slice (some (if cap = l then ⟨lc.blk, lc.base + off * lc.sz, none⟩ else (⟨lc.blk, lc.base + off * lc.sz, none⟩ : Addr).add (l * s))) (u - l) (cap - l)) w := by
              simp only [Instr.sliceAt, Sem.run_bind, run_underlying hu, Result.andThen_ok, Instr.slice, hb', run_sizeOf hs, Sem.run_pure]
              split <;> rfl
            split
            · rename_i hlu
              obtain ⟨hlu, _⟩ := hlu
              refine VS.of_pure H ⟨_, hrun, ?_⟩
              have e0 : u - l = ([] : List (List V)).length := by simp; omega
              rw [e0]
              exact Rep.sF_mk _ _ (fun q => absurd rfl q) (by simp) (by simp) (by intro i j r x hi; simp at hi)
            · rename_i hlu
              refine VS.of_pure H ⟨_, hrun, ?_⟩
              have haddr : (if cap = l then (⟨lc.blk, lc.base + off * lc.sz, none⟩ : Addr) else (⟨lc.blk, lc.base + off * lc.sz, none⟩ : Addr).add (l * s)) = ⟨lc.blk, lc.base + (off + l) * lc.sz, none⟩ := by
                have e1 : lc.base + off * lc.sz + l * s = lc.base + (off + l) * lc.sz := by rw [← hsz, la.sz, Nat.add_mul]; omega
                by_cases hcl : cap = l
                · have hl0 : l = 0 := by
                    rcases Nat.eq_zero_or_pos l with q | q
                    · exact q
                    · exfalso; exact hlu ⟨by omega, by omega⟩
                  rw [if_pos hcl, hl0]; simp
                · rw [if_neg hcl, add_mk, e1]
              rw [haddr]
              refine .sO id (off + l) (u - l) (cap - l) lc c e fr hlc (by omega) hb ?_
              have : off + l + (cap - l) = off + cap := by omega
              rw [this]; exact hsize
        · exact VS.none
      · exact VS.none
    · exact VS.none
  · exact VS.none

end Go.Abs
