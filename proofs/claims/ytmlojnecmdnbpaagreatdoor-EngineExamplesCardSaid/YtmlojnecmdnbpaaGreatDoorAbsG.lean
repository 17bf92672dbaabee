/- The operations on abstract values, part 5: append, copy, strings and bytes. -/
import Derived.Test.YtmlojnecmdnbpaaGreatDoorAbsF
namespace Go.Abs
set_option linter.unusedVariables false

def isNilSlice : V → Bool
  | .v (.slice none 0 0) => true
  | _ => false

def byteRow (b : UInt8) : List V := [.v (.int .u8 b.toNat)]

/-- The elements of a slice, or the bytes of a string. -/
def rowsOf (h : Heap) (s : Nat) (y : V) : Option (List (List V)) :=
  match y with
  | .sF sz rows => if sz = s then some rows else none
  | .sO id off len => match h[id]? with
    | some (.live o) => if o.sz = s ∧ off + len ≤ o.rows.length then some ((o.rows.drop off).take len) else none
    | _ => none
  | .v (.slice none 0 0) => some []
  | .v (.string b) => if s = 1 then some (b.data.toList.map byteRow) else none
  | _ => none

structure CM (w : World) (ι : Iota) (M : Nat → Prop) (s : Nat) (rows : List (List V)) (c : Array Value) : Prop where
  size : c.size = rows.length * s
  lens : ∀ r, r ∈ rows → r.length = s
  get : ∀ (i j : Nat) (r : List V) (x : V), rows[i]? = some r → r[j]? = some x → ∃ z, c[i * s + j]? = some z ∧ Rep w ι M x z

theorem get_lt {α : Type} {l : List α} {i : Nat} {x : α} (h : l[i]? = some x) : i < l.length := by
  rcases Nat.lt_or_ge i l.length with q | q
  · exact q
  · rw [List.getElem?_eq_none q] at h; cases h

theorem get_mem {α : Type} {l : List α} {i : Nat} {x : α} (h : l[i]? = some x) : x ∈ l := by
  have := get_lt h
  rw [List.getElem?_eq_getElem this] at h
  injection h with h
  rw [← h]; exact List.getElem_mem this

theorem CM.append {w ι M s r1 c1 r2 c2} (a : CM w ι M s r1 c1) (b : CM w ι M s r2 c2) : CM w ι M s (r1 ++ r2) (c1 ++ c2) := by
  refine ⟨by simp [a.size, b.size, Nat.add_mul], fun r hr => ?_, fun i j r x hi hj => ?_⟩
  · rcases List.mem_append.1 hr with q | q
    · exact a.lens r q
    · exact b.lens r q
  · by_cases h1 : i < r1.length
    · rw [List.getElem?_append_left h1] at hi
      obtain ⟨z, z1, z2⟩ := a.get i j r x hi hj
      refine ⟨z, ?_, z2⟩
      rw [Array.getElem?_append_left]
      · exact z1
      · rcases Nat.lt_or_ge (i * s + j) c1.size with q | q
        · exact q
        · rw [Array.getElem?_eq_none q] at z1; cases z1
    · rw [List.getElem?_append_right (by omega)] at hi
      obtain ⟨z, z1, z2⟩ := b.get _ j r x hi hj
      refine ⟨z, ?_, z2⟩
      have e : i * s + j = c1.size + ((i - r1.length) * s + j) := by
        rw [a.size]
        have : i * s = r1.length * s + (i - r1.length) * s := by rw [← Nat.add_mul]; congr 1; omega
        omega
      rw [e, Array.getElem?_append_right (by omega)]
      simpa using z1

theorem load_rows {P : Program} {w ι M} {s : Nat} {rows : List (List V)} (a : Addr) (hr : ∀ r, r ∈ rows → r.length = s)
    (h : ∀ (i j : Nat) (r : List V) (x : V), rows[i]? = some r → r[j]? = some x → ∃ z, w.cell? (a.add (i * s + j)) = some z ∧ Rep w ι M x z) :
    ∃ c, (∀ w' : World, w'.heap = w.heap → (loadCells a (rows.length * s)).run P w' = .ok c w') ∧ CM w ι M s rows c := by
  have hch : ∀ k, ∃ z, k < rows.length * s → w.cell? (a.add k) = some z ∧ ∀ r x, rows[k / s]? = some r → r[k % s]? = some x → Rep w ι M x z := by
    intro k
    by_cases hk : k < rows.length * s
    · obtain ⟨m1, m2⟩ := mod_block hk
      have hrow := List.getElem?_eq_getElem m2
      have hl := hr _ (List.getElem_mem m2)
      have hx := List.getElem?_eq_getElem (l := rows[k / s]) (i := k % s) (by omega)
      obtain ⟨z, z1, z2⟩ := h _ _ _ _ hrow hx
      have e : k / s * s + k % s = k := by rw [Nat.mul_comm]; exact Nat.div_add_mod k s
      rw [e] at z1
      refine ⟨z, fun _ => ⟨z1, fun r x q1 q2 => ?_⟩⟩
      rw [hrow] at q1; injection q1 with q1; subst q1
      rw [hx] at q2; injection q2 with q2; subst q2
      exact z2
    · exact ⟨undef, fun q => absurd q hk⟩
  obtain ⟨f, hf⟩ := Classical.axiomOfChoice hch
  refine ⟨((List.range (rows.length * s)).map f).toArray, fun w' he => run_loadCells w' a _ f (fun j hj => by rw [← (hf j hj).1]; simp only [World.cell?, he]), by simp, hr, fun i j r x hi hj => ?_⟩
  have h1 := get_lt hi
  have h2 : j < s := by have := get_lt hj; rw [hr r (get_mem hi)] at this; exact this
  have hk : i * s + j < rows.length * s := by
    have : (i + 1) * s ≤ rows.length * s := Nat.mul_le_mul_right _ h1
    rw [Nat.add_mul, Nat.one_mul] at this
    omega
  have d1 : (i * s + j) / s = i := by
    have hs : 0 < s := by omega
    rw [Nat.mul_comm, Nat.mul_add_div hs, Nat.div_eq_of_lt h2, Nat.add_zero]
  have d2 : (i * s + j) % s = j := by rw [Nat.mul_comm, Nat.mul_add_mod, Nat.mod_eq_of_lt h2]
  refine ⟨f (i * s + j), by simp [hk], (hf _ hk).2 r x (by rw [d1]; exact hi) (by rw [d2]; exact hj)⟩

theorem live_rows {h ι w} (H : HRel h ι w) {id : Nat} {o : AObj} {l : Loc} (ho : h[id]? = some (.live o)) (hl : ι id = some l) : ∃ c fr, LiveAt w ι (Mt h ι) o l c fr := by
  obtain ⟨l', c, fr, e, la⟩ := H.live id o ho
  rw [hl] at e; injection e with e; subst e
  exact ⟨c, fr, la⟩

theorem take_drop_get' {rows : List (List V)} {l n i : Nat} {r : List V} (h : ((rows.drop l).take n)[i]? = some r) : i < n ∧ rows[l + i]? = some r := by
  rw [List.getElem?_take] at h
  split at h
  · rw [List.getElem?_drop] at h
    exact ⟨by assumption, h⟩
  · cases h

theorem rowsOf_rep {P : Program} {h ι w} (H : HRel h ι w) {s : Nat} {y : V} {v : Value} {rows : List (List V)} (r : Rep w ι (Mt h ι) y v) (e : rowsOf h s y = some rows) :
    (Builtin.lenOf v).run P w = .ok rows.length w ∧ ∃ c, (∀ w' : World, w'.heap = w.heap → (Builtin.firstCells s rows.length v).run P w' = .ok c w') ∧ CM w ι (Mt h ι) s rows c := by
  unfold rowsOf at e
  split at e
  · rename_i sz rows'
    split at e
    · rename_i hsz
      subst hsz
      injection e with e; subst e
      rcases r.sF_opt with ⟨rfl, rfl⟩ | ⟨a, cap, rfl, hb, hcap, hr, hcells⟩
      · exact ⟨by simp [Builtin.lenOf], #[], fun w' _ => by simp [Builtin.firstCells], by simp, by simp, by intro i j r x hi; simp at hi⟩
      refine ⟨by simp [Builtin.lenOf], ?_⟩
      obtain ⟨c, c1, c2⟩ := load_rows (P := P) (w := w) (ι := ι) (M := Mt h ι) a hr (fun i j r x hi hj => by
        obtain ⟨z, z1, z2⟩ := hcells i j r x hi hj
        have hne : rows' ≠ [] := by intro q; subst q; simp at hi
        have hsp := (hb hne).1
        refine ⟨z, ?_, z2⟩
        rw [← z1]
        unfold Addr.add
        obtain ⟨ab, ao, asp⟩ := a
        simp only at hsp; subst hsp
        split
        · rename_i h0; congr 2; simp; omega
        · congr 2; omega)
      exact ⟨c, fun w' he => by simpa [Builtin.firstCells] using c1 w' he, c2⟩
    · cases e
  · rename_i id off len
    split at e
    · rename_i o ho
      split at e
      · rename_i hc
        obtain ⟨hsz, hfit⟩ := hc
        injection e with e
        cases r with
        | sO _ _ _ cap l cc el fr hl hcap hb hsize =>
          obtain ⟨c0, fr0, la⟩ := live_rows H ho hl
          have hlen : rows.length = len := by rw [← e]; simp; omega
          rw [hlen]
          refine ⟨by simp [Builtin.lenOf], ?_⟩
          obtain ⟨c, c1, c2⟩ := load_rows (P := P) (w := w) (ι := ι) (M := Mt h ι) (s := s) (rows := rows) ⟨l.blk, l.base + off * l.sz, none⟩
            (fun r hr => by rw [← e] at hr; rw [← hsz]; exact la.rows r (List.mem_of_mem_drop (List.mem_of_mem_take hr)))
            (fun i j r x hi hj => by
              rw [← e] at hi
              obtain ⟨_, hi⟩ := take_drop_get' hi
              obtain ⟨_, _, z, z1, z2⟩ := la.get hi hj
              refine ⟨z, ?_, z2⟩
              rw [add_mk, la.cell, ← z1, la.sz, ← hsz]
              congr 1
              rw [Nat.add_mul]; omega)
          rw [hlen] at c1
          exact ⟨c, fun w' he => by simpa [Builtin.firstCells] using c1 w' he, c2⟩
      · cases e
    · cases e
  · injection e with e; subst e
    cases r
    exact ⟨by simp [Builtin.lenOf], #[], fun w' _ => by simp [Builtin.firstCells], by simp, by simp, by intro i j r x hi; simp at hi⟩
  · rename_i b
    split at e
    · rename_i hs
      subst hs
      injection e with e; subst e
      cases r
      have hsz : (b.data.toList.map byteRow).length = b.size := by simp
      rw [hsz]
      refine ⟨by simp [Builtin.lenOf], b.data.map (fun x => .int .u8 x.toNat), ?_, ?_, ?_, ?_⟩
      · intro w' _
        simp only [Builtin.firstCells, Sem.run_pure]
        congr 2
        have : b.extract 0 b.size = b := by
          apply ByteArray.ext
          simp
        rw [this]
      · simp
      · intro r hr
        obtain ⟨x, _, rfl⟩ := List.mem_map.1 hr
        rfl
      · intro i j r x hi hj
        rw [List.getElem?_map] at hi
        cases hq : b.data.toList[i]? with
        | none => rw [hq] at hi; simp at hi
        | some u =>
          rw [hq] at hi
          simp at hi
          subst hi
          have hj0 : j = 0 := by have := get_lt hj; simp [byteRow] at this; exact this
          subst hj0
          simp [byteRow] at hj
          subst hj
          refine ⟨.int .u8 u.toNat, ?_, .v _⟩
          simp only [Nat.mul_one, Nat.add_zero, Array.getElem?_map]
          rw [← Array.getElem?_toList, hq]
          rfl
    · cases e
  · cases e

theorem growBy_le (n : Nat) : ∀ (k c : Nat), 256 ≤ c → c < n → Builtin.growBy n k c ≤ 2 * n
  | 0, c, _, h => by simp [Builtin.growBy]; omega
  | k + 1, c, h0, h => by
    simp only [Builtin.growBy]
    split
    · omega
    · by_cases h2 : c + (c + 768) / 4 < n
      · exact growBy_le n k _ (by omega) h2
      · cases k with
        | zero => simp only [Builtin.growBy]; omega
        | succ k => simp only [Builtin.growBy]; rw [if_pos (by omega)]; omega

theorem next_le {need cap : Nat} (h : cap < need) : Builtin.nextslicecap need cap ≤ 2 * need := by
  unfold Builtin.nextslicecap
  split
  · omega
  · split
    · omega
    · exact growBy_le need 4 cap (by omega) h

def roomOk (n b : Nat) : Bool := decide (n ≤ 2 ^ 47) && decide (n * b ≤ 2 ^ 47)

/-- May a list of an object be appended to? What is frozen lies ahead of the place. -/
def apOk (e : El) (t : TypeId) (off n : Nat) : Prop := e.t = t ∧ (e.fz ≤ 1 ∨ (off = 0 ∧ e.fz ≤ n + 1))
instance (e : El) (t : TypeId) (off n : Nat) : Decidable (apOk e t off n) := by unfold apOk; infer_instance
def aAppendRows (P : Program) (h : Heap) (new : Nat) (elem : TypeId) (s b : Nat) (zs : List V) (x : V) (rows : List (List V)) : Option (V × Heap) :=
  if rows.isEmpty then
    match x with
    | .v q => if isNilSlice (.v q) then some (.v q, h) else none
    | .sF a c => some (.sF a c, h)
    | .sO a c d => some (.sO a c d, h)
    | _ => none
  else if zs.length = s ∧ rows.all (·.all leafOk) = true then
    match x with
    | .v q => if isNilSlice (.v q) ∧ roomOk rows.length b = true then
        match halloc h new ⟨s, rows, ⟨elem, 1⟩⟩ with
        | some h' => some (.sO new 0 rows.length, h')
        | none => none
      else none
    | .sO id off len => match h[id]? with
      | some (.live o) => if o.sz = s ∧ apOk o.elem elem off (len * s) ∧ off + len ≤ o.rows.length ∧ roomOk (len + rows.length) b = true then
          match halloc (h.set id .dead) new ⟨s, (o.rows.drop off).take len ++ rows, o.elem⟩ with
          | some h' => some (.sO new 0 (len + rows.length), h')
          | none => none
        else none
      | _ => none
    | _ => none
  else none

def aAppendE (P : Program) (h : Heap) (new : Nat) (elem : TypeId) (x y : V) : Option (V × Heap) :=
  match sizeT P elem, bytesT P elem, zeroCellsV P elem with
  | some s, some b, some zs => match rowsOf h s y with
    | some rows => aAppendRows P h new elem s b zs x rows
    | none => none
  | _, _, _ => none

def isStrOrSlice (P : Program) (t : TypeId) : Bool :=
  match P.underlying t with
  | some (.slice _) => true
  | some .string => true
  | _ => false

theorem isStrOrSlice_spec {P : Program} {t : TypeId} (h : isStrOrSlice P t = true) : (∃ e, P.underlying t = some (.slice e)) ∨ P.underlying t = some .string := by
  unfold isStrOrSlice at h
  split at h
  · rename_i e hu; exact .inl ⟨e, hu⟩
  · rename_i hu; exact .inr hu
  · cases h

def aAppend (P : Program) (h : Heap) (new : Nat) (argTypes : Array TypeId) (x y : V) : Option (V × Heap) :=
  match argTypes[0]?, argTypes[1]? with
  | some sT, some xT => match P.underlying sT with
    | some (.slice elem) => if isStrOrSlice P xT then aAppendE P h new elem x y else none
    | _ => none
  | _, _ => none

theorem isNilSlice_spec {q : Value} (h : isNilSlice (.v q) = true) : q = .slice none 0 0 := by
  unfold isNilSlice at h
  split at h
  · rename_i e; injection e
  · cases h

theorem zeroCells_eq (z : Array Value) (n : Nat) : (Builtin.zeroCells z n).size = n * z.size := by simp [Builtin.zeroCells]

theorem append_grow {P : Program} {w : World} {sT xT ty elem : TypeId} {inf : TypeInfo} {s b sLen sCap n : Nat} {base : Option Addr} {v : Value} {c1 c2 : Array Value} {z : Value}
    (hT : P.underlying sT = some (.slice elem)) (hx : (∃ e, P.underlying xT = some (.slice e)) ∨ P.underlying xT = some .string) (hs : sizeT P elem = some s) (hi : P.info? elem = some inf) (hb : inf.bytes = b)
    (hz : ∀ w : World, (zeroValue elem).run P w = .ok z w) (hlen : (Builtin.lenOf v).run P w = .ok n w) (hneed : sCap < sLen + n) (hroom : roomOk (sLen + n) b = true)
    (h1 : ∀ w' : World, w'.heap = w.heap → (Builtin.firstCells s sLen (.slice base sLen sCap)).run P w' = .ok c1 w') (h2 : ∀ w' : World, w'.heap = w.heap → (Builtin.firstCells s n v).run P w' = .ok c2 w') :
    ∃ cap d, sLen + n ≤ cap ∧ (Builtin.append_ #[sT, xT] ty #[.slice base sLen sCap, v]).run P w =
      .ok (.slice (some ⟨w.heap.size, 0, none⟩) (sLen + n) cap) { w with drawn := d, heap := w.heap.push (.cells (c1 ++ c2 ++ Builtin.zeroCells z.cells (cap - (sLen + n))) elem) } := by
  simp only [roomOk, Bool.and_eq_true, decide_eq_true_eq] at hroom
  obtain ⟨r1, r2⟩ := hroom
  have hnext := next_le hneed
  have hbig : ¬ (Builtin.nextslicecap (sLen + n) sCap * b > 2 ^ 48) := by
    have : Builtin.nextslicecap (sLen + n) sCap * b ≤ 2 * (sLen + n) * b := Nat.mul_le_mul_right _ hnext
    have e : 2 * (sLen + n) * b = 2 * ((sLen + n) * b) := by rw [Nat.mul_assoc]
    omega
  refine ⟨(Question.appendCap (sLen + n) sCap elem).cut (w.tape w.drawn (.appendCap (sLen + n) sCap elem)), w.drawn + 1, by simp [Question.cut], ?_⟩
  have hmax : ¬ (((sLen + n : Nat) : Int) > IntKind.i64.max ∧ (False ∨ b = 0)) := by
    intro ⟨q, _⟩
    have : IntKind.i64.max = 9223372036854775807 := by rfl
    rw [this] at q
    omega
  have hmax' : ¬ ((9223372036854775807 : Int) < (sLen : Int) + (n : Int) ∧ b = 0) := by omega
  rcases hx with ⟨e, hd⟩ | hd
  · simp [Builtin.append_, run_underlying hT, run_sizeOf hs, run_underlying hd, hlen, Nat.not_le.2 hneed, typeInfo, hi, hb, hbig, hz, newRow, Question.forced, hmax']
    rw [h1 w.drew rfl, Result.andThen_ok, h2 w.drew rfl, Result.andThen_ok]
    rfl
  · simp [Builtin.append_, run_underlying hT, run_sizeOf hs, run_underlying hd, hlen, Nat.not_le.2 hneed, typeInfo, hi, hb, hbig, hz, newRow, Question.forced, hmax']
    rw [h1 w.drew rfl, Result.andThen_ok, h2 w.drew rfl, Result.andThen_ok]
    rfl


theorem append_none {P : Program} {w : World} {sT xT ty elem : TypeId} {s sLen sCap : Nat} {base : Option Addr} {v : Value} {c2 : Array Value}
    (hT : P.underlying sT = some (.slice elem)) (hx : (∃ e, P.underlying xT = some (.slice e)) ∨ P.underlying xT = some .string) (hs : sizeT P elem = some s)
    (hlen : (Builtin.lenOf v).run P w = .ok 0 w) (hneed : sLen ≤ sCap) (h2 : (Builtin.firstCells s 0 v).run P w = .ok c2 w) (hc : c2 = #[]) :
    (Builtin.append_ #[sT, xT] ty #[.slice base sLen sCap, v]).run P w = .ok (.slice base sLen sCap) w := by
  subst hc
  rcases hx with ⟨e, hd⟩ | hd
  · cases base <;> simp [Builtin.append_, run_underlying hT, run_sizeOf hs, run_underlying hd, hlen, hneed, h2, storeCells]
  · cases base <;> simp [Builtin.append_, run_underlying hT, run_sizeOf hs, run_underlying hd, hlen, hneed, h2, storeCells]

theorem append_fits {P : Program} {w w' : World} {sT xT ty elem : TypeId} {s sLen sCap n : Nat} {a : Addr} {v : Value} {c2 : Array Value}
    (hT : P.underlying sT = some (.slice elem)) (hx : (∃ e, P.underlying xT = some (.slice e)) ∨ P.underlying xT = some .string) (hs : sizeT P elem = some s)
    (hlen : (Builtin.lenOf v).run P w = .ok n w) (hneed : sLen + n ≤ sCap) (h2 : (Builtin.firstCells s n v).run P w = .ok c2 w)
    (hst : (storeCells (a.add (sLen * s)) c2.toList).run P w = .ok () w') :
    (Builtin.append_ #[sT, xT] ty #[.slice (some a) sLen sCap, v]).run P w = .ok (.slice (some a) (sLen + n) sCap) w' := by
  rcases hx with ⟨e, hd⟩ | hd
  · simp [Builtin.append_, run_underlying hT, run_sizeOf hs, run_underlying hd, hlen, hneed, h2, hst]
  · simp [Builtin.append_, run_underlying hT, run_sizeOf hs, run_underlying hd, hlen, hneed, h2, hst]


theorem info_of {P : Program} {t : TypeId} {b : Nat} (h : bytesT P t = some b) : ∃ i, P.info? t = some i ∧ i.bytes = b := run_typeInfo h

theorem nil_rep {w ι M} {x : V} {y : Value} (r : Rep w ι M x y) (e : x = .v (.slice none 0 0)) : y = .slice none 0 0 := by subst e; cases r; rfl

theorem aAppend_sound {P h ι w} (H : HRel h ι w) {new : Nat} {argTypes : Array TypeId} {ty : TypeId} {x y : V} {xv yv : Value} (rx : Rep w ι (Mt h ι) x xv) (ry : Rep w ι (Mt h ι) y yv) (h2 : argTypes.size = 2) :
    VS P h ι w (Builtin.append_ argTypes ty #[xv, yv]) (aAppend P h new argTypes x y) := by
  obtain ⟨sT, xT, rfl⟩ : ∃ a b, argTypes = #[a, b] := by
    obtain ⟨l⟩ := argTypes
    match l, h2 with
    | [a, b], _ => exact ⟨a, b, rfl⟩
  have main : ∀ elem, P.underlying sT = some (.slice elem) → ((∃ e, P.underlying xT = some (.slice e)) ∨ P.underlying xT = some .string) →
      ∀ s b zs, sizeT P elem = some s → bytesT P elem = some b → zeroCellsV P elem = some zs → ∀ rows, rowsOf h s y = some rows →
      (rows = [] → (∃ q, x = .v q ∧ q = .slice none 0 0) ∨ (∃ a c, x = .sF a c) ∨ (∃ a c d, x = .sO a c d) → VS P h ι w (Builtin.append_ #[sT, xT] ty #[xv, yv]) (some (x, h))) ∧
      (zs.length = s → rows.all (·.all leafOk) = true → x = .v (.slice none 0 0) → rows ≠ [] → roomOk rows.length b = true → ∀ h', halloc h new ⟨s, rows, ⟨elem, 1⟩⟩ = some h' →
        VS P h ι w (Builtin.append_ #[sT, xT] ty #[xv, yv]) (some (.sO new 0 rows.length, h'))) ∧
      (zs.length = s → rows.all (·.all leafOk) = true → ∀ id off len o, x = .sO id off len → h[id]? = some (.live o) → rows ≠ [] → o.sz = s → apOk o.elem elem off (len * s) → off + len ≤ o.rows.length → roomOk (len + rows.length) b = true →
        ∀ h', halloc (h.set id .dead) new ⟨s, (o.rows.drop off).take len ++ rows, o.elem⟩ = some h' → VS P h ι w (Builtin.append_ #[sT, xT] ty #[xv, yv]) (some (.sO new 0 (len + rows.length), h'))) := by
    intro elem hT hx s b zs hs hb hz rows hrows
    obtain ⟨hlen, c2, hc2, cm2⟩ := rowsOf_rep (P := P) H ry hrows
    obtain ⟨inf, hinf, hinfb⟩ := info_of hb
    obtain ⟨z, z1, z2⟩ := run_zeroCells hz
    refine ⟨?_, ?_, ?_⟩
    · intro hnil hxx
      subst hnil
      have hc0 : c2 = #[] := by have := cm2.size; simp at this; exact this
      have hc2' := hc2 w rfl
      refine VS.of_pure H ⟨xv, ?_, rx⟩
      rcases hxx with ⟨q, rfl, rfl⟩ | ⟨a, c, rfl⟩ | ⟨a, c, d, rfl⟩
      · cases rx
        exact append_none hT hx hs (by simpa using hlen) (Nat.le_refl _) (by simpa using hc2') hc0
      · rcases rx.sF_opt with ⟨rfl, rfl⟩ | ⟨ad, cap, rfl, _, hcap, _, _⟩
        · exact append_none hT hx hs (by simpa using hlen) (Nat.le_refl _) (by simpa using hc2') hc0
        exact append_none hT hx hs (by simpa using hlen) hcap (by simpa using hc2') hc0
      · cases rx with
        | sO _ _ _ cap l cc el fr hl hcap hbb hsize =>
          exact append_none hT hx hs (by simpa using hlen) hcap (by simpa using hc2') hc0
    · intro hzs _ hxe hne hroom h' e
      obtain rfl := nil_rep rx hxe
      intro x' h'' ee
      injection ee with ee
      injection ee with e1 e2
      subst e1 e2
      have hpos : 0 < rows.length := List.length_pos_iff.2 hne
      obtain ⟨cap, d, hcap, hrun⟩ := append_grow (P := P) (w := w) (ty := ty) (s := s) (b := b) (sLen := 0) (sCap := 0) (n := rows.length) (base := none) (v := yv) (c1 := #[]) (c2 := c2) (z := z) hT hx hs hinf hinfb z1 hlen (by omega) (by simpa using hroom)
        (fun w' _ => by simp [Builtin.firstCells]) hc2
      simp only [Nat.zero_add] at hcap hrun
      obtain ⟨Hd, evd⟩ := H.drawn d
      have hzsz : z.cells.size = s := by rw [← hzs, z2]; simp
      have hsz := cm2.size
      obtain ⟨HH, ev⟩ := Hd.alloc e (#[] ++ c2 ++ Builtin.zeroCells z.cells (cap - rows.length)) (0, 0) (Unfr.zero _ _) cm2.lens (by simp [zeroCells_eq, hsz])
        (dep_of_opt (rows := rows) (p := fun i j x => ∃ y, (#[] ++ c2 ++ Builtin.zeroCells z.cells (cap - rows.length))[i * s + j]? = some y ∧ Rep { w with drawn := d } ι (Mt h ι) x y) (fun i j r x hi hj => by
          obtain ⟨u, u1, u2⟩ := cm2.get i j r x hi hj
          refine ⟨u, ?_, u2.mono evd⟩
          have hlt : i * s + j < c2.size := by
            rcases Nat.lt_or_ge (i * s + j) c2.size with q | q
            · exact q
            · rw [Array.getElem?_eq_none q] at u1; cases u1
          rw [Array.empty_append, Array.getElem?_append_left hlt]; exact u1)) rfl
      refine ⟨_, _, _, hrun, ?_, HH, evd.trans ev⟩
      have hcs : (#[] ++ c2 ++ Builtin.zeroCells z.cells (cap - rows.length)).size = cap * s := by
        simp only [Array.empty_append, Array.size_append, zeroCells_eq, hsz, hzsz]
        rw [← Nat.add_mul]; congr 1; omega
      have := Rep.sO (w := { w with drawn := d, heap := w.heap.push (.cells (#[] ++ c2 ++ Builtin.zeroCells z.cells (cap - rows.length)) elem) }) (ι := ι.put new ⟨w.heap.size, 0, s, Nat.zero_mod _⟩) (M := Mt h' (ι.put new ⟨w.heap.size, 0, s, Nat.zero_mod _⟩)) new 0 rows.length cap ⟨w.heap.size, 0, s, Nat.zero_mod _⟩ (#[] ++ c2 ++ Builtin.zeroCells z.cells (cap - rows.length)) elem (0, 0)
        (put_same _ _ _) hcap (by simp) (by rw [hcs]; simp)
      simpa using this
    · intro hzs hok id off len o hxe ho hne hosz hoel hfit hroom h' e
      subst hxe
      obtain ⟨hoel, hofz⟩ := hoel
      subst hoel
      cases rx with
      | sO _ _ _ cap l cc el fr hl hcap hbb hsize =>
        obtain ⟨c0, fr0, la⟩ := live_rows H ho hl
        have hcc : cc = c0 ∧ fr = fr0 := by
          have := la.blk
          rw [hbb] at this
          injection this with this
          injection this with q1 q2 q3
          exact ⟨q1, q3⟩
        obtain ⟨rfl, rfl⟩ := hcc
        have hlsz : l.sz = s := by rw [la.sz, hosz]
        have hold : rowsOf h s (.sO id off len) = some ((o.rows.drop off).take len) := by simp [rowsOf, ho, hosz, hfit]
        have hrep : Rep w ι (Mt h ι) (.sO id off len) (.slice (some ⟨l.blk, l.base + off * l.sz, none⟩) len cap) := .sO id off len cap l cc el fr hl hcap hbb hsize
        obtain ⟨_, c1, hc1, cm1⟩ := rowsOf_rep (P := P) H hrep hold
        have holdlen : ((o.rows.drop off).take len).length = len := by simp; omega
        rw [holdlen] at hc1
        have cm := cm1.append cm2
        have hnl : ((o.rows.drop off).take len ++ rows).length = len + rows.length := by rw [List.length_append, holdlen]
        intro x' h'' ee
        injection ee with ee
        injection ee with e1 e2
        subst e1 e2
        have hzsz : z.cells.size = s := by rw [← hzs, z2]; simp
        by_cases hneed : len + rows.length ≤ cap
        · -- in place
          have hsz2 := cm2.size
          have hbound : l.base + (off + cap) * s ≤ cc.size := by rw [← hlsz]; exact hsize
          have hmul : (off + (len + rows.length)) * s ≤ (off + cap) * s := Nat.mul_le_mul_right _ (by omega)
          have hsplit : (off + (len + rows.length)) * s = off * s + len * s + rows.length * s := by rw [Nat.add_mul, Nat.add_mul]; omega
          have hone : ∀ v ∈ c2.toList, v.oneCell' = true := by
            intro v hv
            obtain ⟨k, hk, rfl⟩ := List.getElem_of_mem hv
            have hk' : k < rows.length * s := by simp at hk; omega
            obtain ⟨m1, m2⟩ := mod_block hk'
            have hrow := List.getElem?_eq_getElem m2
            have hll := cm2.lens _ (List.getElem_mem m2)
            have hxx := List.getElem?_eq_getElem (l := rows[k / s]) (i := k % s) (by omega)
            obtain ⟨u, u1, u2⟩ := cm2.get _ _ _ _ hrow hxx
            have ee : k / s * s + k % s = k := by rw [Nat.mul_comm]; exact Nat.div_add_mod k s
            rw [ee] at u1
            have hleaf : leafOk rows[k / s][k % s] = true := by
              have := List.all_eq_true.1 hok _ (List.getElem_mem m2)
              exact List.all_eq_true.1 this _ (List.getElem_mem _)
            have := leafOk_rep u2 hleaf
            rw [Array.getElem?_eq_getElem (by simpa using hk)] at u1
            injection u1 with u1
            simpa [← u1] using this
          have hrun0 := run_storeCells_cells (P := P) l.blk (l.base + off * s + len * s) c2.toList 0 w
            (fun j hj => by
              rw [la.cell, Array.getElem?_eq_getElem (by simp at hj; omega)]; rfl)
            (fun j hj => la.frozen (by simp at hj; omega) (by
              rcases hofz with q | ⟨q1, q2⟩
              · exact .inr q
              · left; rw [q1, Nat.zero_mul]; omega)) hone
          obtain ⟨c', q1, q2, q3, q4, q5⟩ := setCells_row l.blk o.elem.t fr c2.toList (l.base + off * s + len * s) w cc la.blk (by simp; omega)
          have hrun := append_fits (P := P) (w := w) (ty := ty) (s := s) (sLen := len) (sCap := cap) (n := rows.length) (a := ⟨l.blk, l.base + off * l.sz, none⟩) (v := yv) (c2 := c2) (w' := w.setCells l.blk (l.base + off * s + len * s) c2.toList) hT hx hs hlen hneed (hc2 w rfl)
            (by rw [add_mk, hlsz]; simpa using hrun0)
          have hal : (l.base + off * s) % s = 0 := by rw [Nat.add_mul_mod_self_right, ← hlsz]; exact l.al
          obtain ⟨HH, ev⟩ := H.reloc ho hl la (new := new) (o' := ⟨s, (o.rows.drop off).take len ++ rows, o.elem⟩) (h' := h') e (base' := l.base + off * s) hal (c' := c') (w' := w.setCells l.blk (l.base + off * s + len * s) c2.toList) q3 q1 q2 rfl hosz.symm (by
              rcases hofz with q | ⟨q1, _⟩
              · exact .inl q
              · right; rw [q1, Nat.zero_mul, Nat.add_zero]) cm.lens
            (by simp only [hnl]; rw [Nat.add_mul]; omega)
            (dep_of_opt (rows := (o.rows.drop off).take len ++ rows) (p := fun i j x => ∃ y, c'[l.base + off * s + i * s + j]? = some y ∧ Rep w ι (Mt h ι) x y) (fun i j r x hi hj => by
              have hjs : j < s := by have := get_lt hj; rw [cm.lens r (get_mem hi)] at this; exact this
              by_cases hil : i < len
              · rw [List.getElem?_append_left (by omega)] at hi
                obtain ⟨_, hi⟩ := take_drop_get' hi
                obtain ⟨_, _, u, u1, u2⟩ := la.get hi hj
                refine ⟨u, ?_, u2⟩
                have : (i + 1) * s ≤ len * s := Nat.mul_le_mul_right _ hil
                rw [Nat.add_mul, Nat.one_mul] at this
                rw [q4 _ (by left; omega), ← u1, hosz]
                congr 1
                rw [Nat.add_mul]; omega
              · rw [List.getElem?_append_right (by omega), holdlen] at hi
                obtain ⟨u, u1, u2⟩ := cm2.get _ j r x hi hj
                refine ⟨u, ?_, u2⟩
                have hlt : (i - len) * s + j < c2.size := by
                  rcases Nat.lt_or_ge ((i - len) * s + j) c2.size with q | q
                  · exact q
                  · rw [Array.getElem?_eq_none q] at u1; cases u1
                have := q5 ((i - len) * s + j) (by simpa using hlt)
                have e3 : i * s = len * s + (i - len) * s := by rw [← Nat.add_mul]; congr 1; omega
                rw [show l.base + off * s + i * s + j = l.base + off * s + len * s + ((i - len) * s + j) by omega, this]
                simpa using u1))
          refine ⟨_, _, _, hrun, ?_, HH, ev⟩
          have hb' : (w.setCells l.blk (l.base + off * s + len * s) c2.toList).heap[l.blk]? = some (.cells c' o.elem.t fr) := q1
          have := Rep.sO (w := w.setCells l.blk (l.base + off * s + len * s) c2.toList) (ι := ι.put new ⟨l.blk, l.base + off * s, s, hal⟩) (M := Mt h' (ι.put new ⟨l.blk, l.base + off * s, s, hal⟩)) new 0 (len + rows.length) cap ⟨l.blk, l.base + off * s, s, hal⟩ c' o.elem.t fr
            (put_same _ _ _) hneed hb' (by simp only [Nat.zero_add, q2]; rw [Nat.add_mul] at hbound; omega)
          rw [hlsz]
          simpa using this
        · -- a new row
          obtain ⟨ncap, d, hncap, hrun⟩ := append_grow (P := P) (w := w) (ty := ty) (s := s) (b := b) (sLen := len) (sCap := cap) (n := rows.length) (base := some ⟨l.blk, l.base + off * l.sz, none⟩) (v := yv) (c1 := c1) (c2 := c2) (z := z) hT hx hs hinf hinfb z1 hlen (by omega) hroom hc1 hc2
          obtain ⟨Hk, evk⟩ := H.kill ho
          obtain ⟨Hd, evd⟩ := Hk.drawn d
          have evkd := evk.trans evd
          have hsz := cm.size
          obtain ⟨HH, ev⟩ := Hd.alloc e (c1 ++ c2 ++ Builtin.zeroCells z.cells (ncap - (len + rows.length))) (0, 0) (Unfr.zero _ _) cm.lens (by rw [Array.size_append, hsz]; simp)
            (dep_of_opt (rows := (o.rows.drop off).take len ++ rows) (p := fun i j x => ∃ y, (c1 ++ c2 ++ Builtin.zeroCells z.cells (ncap - (len + rows.length)))[i * s + j]? = some y ∧ Rep { w with drawn := d } ι (Mt (h.set id .dead) ι) x y) (fun i j r x hi hj => by
              obtain ⟨u, u1, u2⟩ := cm.get i j r x hi hj
              refine ⟨u, ?_, u2.mono evkd⟩
              have hlt : i * s + j < (c1 ++ c2).size := by
                rcases Nat.lt_or_ge (i * s + j) (c1 ++ c2).size with q | q
                · exact q
                · rw [Array.getElem?_eq_none q] at u1; cases u1
              rw [Array.getElem?_append_left hlt]; exact u1)) rfl
          refine ⟨_, _, _, hrun, ?_, HH, evkd.trans ev⟩
          have hcs : (c1 ++ c2 ++ Builtin.zeroCells z.cells (ncap - (len + rows.length))).size = ncap * s := by
            rw [Array.size_append, hsz, zeroCells_eq, hnl, hzsz, ← Nat.add_mul]; congr 1; omega
          have := Rep.sO (w := { w with drawn := d, heap := w.heap.push (.cells (c1 ++ c2 ++ Builtin.zeroCells z.cells (ncap - (len + rows.length))) o.elem.t) }) (ι := ι.put new ⟨w.heap.size, 0, s, Nat.zero_mod _⟩) (M := Mt h' (ι.put new ⟨w.heap.size, 0, s, Nat.zero_mod _⟩)) new 0 (len + rows.length) ncap ⟨w.heap.size, 0, s, Nat.zero_mod _⟩ (c1 ++ c2 ++ Builtin.zeroCells z.cells (ncap - (len + rows.length))) o.elem.t (0, 0)
            (put_same _ _ _) hncap (by simp) (by rw [hcs]; simp)
          simpa using this
  have glue : ∀ elem, P.underlying sT = some (.slice elem) → ((∃ e, P.underlying xT = some (.slice e)) ∨ P.underlying xT = some .string) →
      VS P h ι w (Builtin.append_ #[sT, xT] ty #[xv, yv]) (aAppendE P h new elem x y) := by
    intro elem hT hx
    unfold aAppendE
    split
    · rename_i s b zs hs hb hz
      split
      · rename_i rows hrows
        obtain ⟨m1, m2, m3⟩ := main elem hT hx s b zs hs hb hz rows hrows
        unfold aAppendRows
        split
        · rename_i hem
          have hem' : rows = [] := by simpa using hem
          split
          · rename_i q
            split
            · rename_i hq; exact m1 hem' (.inl ⟨q, rfl, isNilSlice_spec hq⟩)
            · exact VS.none
          · exact m1 hem' (.inr (.inl ⟨_, _, rfl⟩))
          · exact m1 hem' (.inr (.inr ⟨_, _, _, rfl⟩))
          · exact VS.none
        · rename_i hem
          have hne' : rows ≠ [] := by simpa using hem
          split
          · rename_i hc
            split
            · rename_i q
              split
              · rename_i hroom
                split
                · rename_i h' e
                  exact m2 hc.1 hc.2 (by rw [isNilSlice_spec hroom.1]) hne' hroom.2 h' e
                · exact VS.none
              · exact VS.none
            · rename_i id off len
              split
              · rename_i o ho
                split
                · rename_i hcc
                  split
                  · rename_i h' e
                    exact m3 hc.1 hc.2 id off len o rfl ho hne' hcc.1 hcc.2.1 hcc.2.2.1 hcc.2.2.2 h' e
                  · exact VS.none
                · exact VS.none
              · exact VS.none
            · exact VS.none
          · exact VS.none
      · exact VS.none
    · exact VS.none
  unfold aAppend
  simp only [List.getElem?_toArray, List.getElem?_cons_zero, List.getElem?_cons_succ]
  split
  · rename_i elem hT
    split
    · rename_i hx
      exact glue elem hT (isStrOrSlice_spec hx)
    · exact VS.none
  · exact VS.none


/- clear and copy: rows written in place -/
def putRows (o : AObj) (off : Nat) (new : List (List V)) : AObj := { o with rows := o.rows.take off ++ new ++ o.rows.drop (off + new.length) }

theorem write_rows {P : Program} {h ι w} (H : HRel h ι w) {id off len : Nat} {o : AObj} {l : Loc} {cc : Array Value} {el : TypeId} {fr : Nat × Nat} {new : List (List V)} {c2 : Array Value}
    (ho : h[id]? = some (.live o)) (hl : ι id = some l) (hbb : w.heap[l.blk]? = some (.cells cc el fr))
    (hlen : new.length ≤ len) (hfit : off + len ≤ o.rows.length) (hfz : o.elem.fz ≤ 1) (hok : new.all (·.all leafOk) = true) (cm2 : CM w ι (Mt h ι) o.sz new c2) :
    ∃ w', (storeCells ⟨l.blk, l.base + off * l.sz, none⟩ c2.toList).run P w = .ok () w' ∧ HRel (h.set id (.live (putRows o off new))) ι w' ∧ Evolve h ι w (h.set id (.live (putRows o off new))) ι w' := by
  obtain ⟨c0, fr0, la⟩ := live_rows H ho hl
  obtain ⟨rfl, rfl⟩ : cc = c0 ∧ fr = fr0 := by
    have := la.blk
    rw [hbb] at this
    injection this with this
    injection this with q1 q2 q3
    exact ⟨q1, q3⟩
  have hlsz := la.sz
  have hsz2 := cm2.size
  have hfits := la.fits
  have hmul : (off + new.length) * o.sz ≤ o.rows.length * o.sz := Nat.mul_le_mul_right _ (by omega)
  have hsplit : (off + new.length) * o.sz = off * o.sz + new.length * o.sz := Nat.add_mul _ _ _
  have hone : ∀ v ∈ c2.toList, v.oneCell' = true := by
    intro v hv
    obtain ⟨k, hk, rfl⟩ := List.getElem_of_mem hv
    have hk' : k < new.length * o.sz := by simp at hk; omega
    obtain ⟨m1, m2⟩ := mod_block hk'
    have hrow := List.getElem?_eq_getElem m2
    have hll := cm2.lens _ (List.getElem_mem m2)
    have hxx := List.getElem?_eq_getElem (l := new[k / o.sz]) (i := k % o.sz) (by omega)
    obtain ⟨u, u1, u2⟩ := cm2.get _ _ _ _ hrow hxx
    have ee : k / o.sz * o.sz + k % o.sz = k := by rw [Nat.mul_comm]; exact Nat.div_add_mod k o.sz
    rw [ee] at u1
    have hleaf : leafOk new[k / o.sz][k % o.sz] = true := by
      have := List.all_eq_true.1 hok _ (List.getElem_mem m2)
      exact List.all_eq_true.1 this _ (List.getElem_mem _)
    have := leafOk_rep u2 hleaf
    rw [Array.getElem?_eq_getElem (by simpa using hk)] at u1
    injection u1 with u1
    simpa [← u1] using this
  have hrun0 := run_storeCells_cells (P := P) l.blk (l.base + off * l.sz) c2.toList 0 w
    (fun j hj => by rw [la.cell, Array.getElem?_eq_getElem (by rw [hlsz]; simp at hj; omega)]; rfl)
    (fun j hj => la.frozen (by rw [hlsz]; simp at hj; omega) (.inr hfz)) hone
  obtain ⟨c', q1, q2, q3, q4, q5⟩ := setCells_row l.blk o.elem.t fr c2.toList (l.base + off * l.sz) w cc la.blk (by rw [hlsz]; simp; omega)
  refine ⟨_, by simpa using hrun0, ?_⟩
  refine H.upd ho hl la (o' := putRows o off new) q3 q1 q2 rfl rfl ?_ ?_ ?_
  · intro r hr
    simp only [putRows, List.mem_append] at hr
    rcases hr with (q | q) | q
    · exact la.rows r (List.mem_of_mem_take q)
    · exact cm2.lens r q
    · exact la.rows r (List.mem_of_mem_drop q)
  · have : (putRows o off new).rows.length = o.rows.length := by simp [putRows]; omega
    rw [this]; exact hfits
  · refine dep_of_opt (rows := (putRows o off new).rows) (p := fun i j x => ∃ y, c'[l.base + i * o.sz + j]? = some y ∧ Rep w ι (Mt h ι) x y) (fun i j r x hi hj => ?_)
    simp only [putRows] at hi
    by_cases h1 : i < off
    · rw [List.append_assoc, List.getElem?_append_left (by simp; omega), List.getElem?_take_of_lt h1] at hi
      obtain ⟨hjs, _, u, u1, u2⟩ := la.get hi hj
      refine ⟨u, ?_, u2⟩
      have : (i + 1) * o.sz ≤ off * o.sz := Nat.mul_le_mul_right _ h1
      rw [Nat.add_mul, Nat.one_mul] at this
      rw [q4 _ (by left; rw [hlsz]; omega)]; exact u1
    · by_cases h2 : i < off + new.length
      · rw [List.append_assoc, List.getElem?_append_right (by simp; omega), List.getElem?_append_left (by simp; omega)] at hi
        simp only [List.length_take, Nat.min_eq_left (show off ≤ o.rows.length by omega)] at hi
        obtain ⟨u, u1, u2⟩ := cm2.get _ j r x hi hj
        refine ⟨u, ?_, u2⟩
        have hlt : (i - off) * o.sz + j < c2.size := by
          rcases Nat.lt_or_ge ((i - off) * o.sz + j) c2.size with q | q
          · exact q
          · rw [Array.getElem?_eq_none q] at u1; cases u1
        have := q5 ((i - off) * o.sz + j) (by simpa using hlt)
        have e3 : i * o.sz = off * o.sz + (i - off) * o.sz := by rw [← Nat.add_mul]; congr 1; omega
        rw [show l.base + i * o.sz + j = l.base + off * l.sz + ((i - off) * o.sz + j) by rw [hlsz]; omega, this]
        simpa using u1
      · rw [List.getElem?_append_right (by simp; omega), List.getElem?_drop] at hi
        have e4 : off + new.length + (i - (List.take off o.rows ++ new).length) = i := by simp; omega
        rw [e4] at hi
        obtain ⟨hjs, _, u, u1, u2⟩ := la.get hi hj
        refine ⟨u, ?_, u2⟩
        have : (off + new.length) * o.sz ≤ i * o.sz := Nat.mul_le_mul_right _ (by omega)
        rw [q4 _ (by right; rw [hlsz]; simp; omega)]; exact u1

theorem zero_CM {w ι M} {z : Array Value} {zs : List V} (hz : zs = z.toList.map .v) (n : Nat) : CM w ι M zs.length (List.replicate n zs) (Builtin.zeroCells z n) := by
  have hzs : z.size = zs.length := by rw [hz]; simp
  refine ⟨by simp [zeroCells_eq, hzs], fun r hr => by rw [List.eq_of_mem_replicate hr], fun i j r x hi hj => ?_⟩
  obtain ⟨q1, q2⟩ := replicate_get hi hj
  subst q2
  have hj' := get_lt hj
  have hk : i * r.length + j < n * z.size := by
    have : (i + 1) * r.length ≤ n * r.length := Nat.mul_le_mul_right _ (by omega)
    rw [Nat.add_mul, Nat.one_mul] at this
    rw [hzs]; omega
  have hmod : (i * r.length + j) % z.size = j := by rw [hzs, Nat.mul_comm, Nat.mul_add_mod, Nat.mod_eq_of_lt hj']
  refine ⟨z[j]'(by omega), ?_, ?_⟩
  · simp only [Builtin.zeroCells, Array.getElem?_map]
    rw [Array.getElem?_eq_getElem (by simpa using hk)]
    simp only [Array.getElem_range, Option.map_some, hmod]
    rw [getElem!_pos z j (by omega)]
  · rw [hz, List.getElem?_map, Array.getElem?_toList, Array.getElem?_eq_getElem (by omega)] at hj
    simp at hj
    subst hj
    exact .v _

def aClear (P : Program) (h : Heap) (t : TypeId) (x : V) : Option (V × Heap) :=
  match P.underlying t with
  | some (.slice elem) => match x with
    | .sF _ [] => some (.tup [], h)
    | .v (.slice none 0 0) => some (.tup [], h)
    | .sO id off len => match h[id]?, zeroCellsV P elem with
      | some (.live o), some zs => if len = 0 then some (.tup [], h) else if zs.length = o.sz ∧ off + len ≤ o.rows.length ∧ zs.all leafOk = true ∧ o.elem.fz ≤ 1 then
          some (.tup [], h.set id (.live (putRows o off (List.replicate len zs))))
        else none
      | _, _ => none
    | _ => none
  | _ => none

theorem rep_tup0 {w ι M} : Rep w ι M (.tup []) (.tuple #[]) := .tup _ _ rfl (by intro i h; simp at h)

theorem aClear_sound {P h ι w} (H : HRel h ι w) {t ty : TypeId} {x : V} {y : Value} (r : Rep w ι (Mt h ι) x y) : VS P h ι w (Builtin.clear_ #[t] ty #[y]) (aClear P h t x) := by
  unfold aClear
  split
  · rename_i elem hu
    split
    · rcases r.sF_opt with ⟨_, rfl⟩ | ⟨a, cap, rfl, _⟩
      · exact VS.of_pure H ⟨.tuple #[], by simp [Builtin.clear_, run_underlying hu], rep_tup0⟩
      · exact VS.of_pure H ⟨.tuple #[], by simp [Builtin.clear_, run_underlying hu], rep_tup0⟩
    · cases r
      exact VS.of_pure H ⟨.tuple #[], by simp [Builtin.clear_, run_underlying hu], rep_tup0⟩
    · rename_i id off len
      split
      · rename_i o zs ho hz
        split
        · rename_i h0
          subst h0
          cases r
          exact VS.of_pure H ⟨.tuple #[], by simp [Builtin.clear_, run_underlying hu], rep_tup0⟩
        · rename_i h0
          split
          · rename_i hc
            obtain ⟨c1, c2, c3, c4⟩ := hc
            cases r with
            | sO _ _ _ cap l cc el fr hl hcap hbb hsize =>
              obtain ⟨z, z1, z2⟩ := run_zeroCells hz
              have cm := zero_CM (w := w) (ι := ι) (M := Mt h ι) (z := z.cells) z2 len
              rw [c1] at cm
              obtain ⟨w', g1, g2, g3⟩ := write_rows (P := P) H ho hl hbb (len := len) (by simp) c2 c4 (by
                rw [List.all_eq_true]; intro q hq; rw [List.eq_of_mem_replicate hq]; exact c3) cm
              intro x' h' e
              injection e with e
              injection e with e1 e2
              subst e1 e2
              refine ⟨.tuple #[], w', ι, ?_, rep_tup0, g2, g3⟩
              obtain ⟨n, rfl⟩ : ∃ n, len = n + 1 := ⟨len - 1, by omega⟩
              simp [Builtin.clear_, run_underlying hu, z1, g1]
          · exact VS.none
      · exact VS.none
    · exact VS.none
  · exact VS.none


theorem rowsOf_prefix {P : Program} {h ι w} (H : HRel h ι w) {s : Nat} {y : V} {v : Value} {rows : List (List V)} (r : Rep w ι (Mt h ι) y v) (e : rowsOf h s y = some rows) (n : Nat) (hn : n ≤ rows.length) :
    ∃ c, (Builtin.firstCells s n v).run P w = .ok c w ∧ CM w ι (Mt h ι) s (rows.take n) c := by
  have hl : (rows.take n).length = n := by simp; omega
  have fin : ∀ (y' : V) (v' : Value), Rep w ι (Mt h ι) y' v' → rowsOf h s y' = some (rows.take n) → Builtin.firstCells s n v' = Builtin.firstCells s n v → ∃ c, (Builtin.firstCells s n v).run P w = .ok c w ∧ CM w ι (Mt h ι) s (rows.take n) c := by
    intro y' v' r' e' he
    obtain ⟨_, c, hc, cm⟩ := rowsOf_rep (P := P) H r' e'
    rw [hl] at hc
    exact ⟨c, by rw [← he]; exact hc w rfl, cm⟩
  unfold rowsOf at e
  split at e
  · rename_i sz rows'
    split at e
    · rename_i hsz
      subst hsz
      injection e with e; subst e
      rcases r.sF_opt with ⟨rfl, rfl⟩ | ⟨a, cap, rfl, hb, hcap, hr, hcells⟩
      · exact fin (.sF sz []) _ (.sN _) (by simp [rowsOf]) rfl
      · have := Rep.sF_mk (w := w) (ι := ι) (M := Mt h ι) (sz := sz) (rows := rows'.take n) a cap (fun q => hb (by intro q'; subst q'; simp at q)) (by omega) (fun r hr' => hr r (List.mem_of_mem_take hr')) (fun i j r x hi hj => by
          rw [List.getElem?_take] at hi
          split at hi
          · exact hcells i j r x hi hj
          · cases hi)
        exact fin _ _ this (by simp [rowsOf]) rfl
    · cases e
  · rename_i id off len
    split at e
    · rename_i o ho
      split at e
      · rename_i hc
        injection e with e
        cases r with
        | sO _ _ _ cap l cc el fr hl2 hcap hb hsize =>
          have hrl : rows.length = len := by rw [← e]; simp; omega
          refine fin (.sO id off n) (.slice (some ⟨l.blk, l.base + off * l.sz, none⟩) n cap) (.sO id off n cap l cc el fr hl2 (by omega) hb hsize) ?_ rfl
          simp only [rowsOf, ho]
          rw [if_pos ⟨hc.1, by omega⟩, ← e, List.take_take, Nat.min_eq_left (by omega)]
      · cases e
    · cases e
  · injection e with e; subst e
    cases r
    exact fin (.v (.slice none 0 0)) _ (.v _) (by simp [rowsOf]) rfl
  · rename_i b
    split at e
    · rename_i hs
      subst hs
      injection e with e; subst e
      cases r
      refine fin (.v (.string (b.extract 0 n))) _ (.v _) ?_ ?_
      · simp [rowsOf, List.map_take]
      · simp only [Builtin.firstCells]
        have : (b.extract 0 n).extract 0 n = b.extract 0 n := by
          apply ByteArray.ext
          simp
        rw [this]
    · cases e
  · cases e

def aCopy (P : Program) (h : Heap) (t : TypeId) (x y : V) : Option (V × Heap) :=
  match P.underlying t with
  | some (.slice elem) => match sizeT P elem with
    | some s => match rowsOf h s y with
      | some rows => match x with
        | .sF _ [] => some (.v (.int .i64 0), h)
        | .v (.slice none 0 0) => some (.v (.int .i64 0), h)
        | .sO id off len => match h[id]? with
          | some (.live o) => if o.sz = s ∧ off + len ≤ o.rows.length ∧ (rows.take len).all (·.all leafOk) = true ∧ o.elem.fz ≤ 1 then
              some (.v (.int .i64 (rows.take len).length), h.set id (.live (putRows o off (rows.take len))))
            else none
          | _ => none
        | _ => none
      | none => none
    | none => none
  | _ => none

theorem aCopy_sound {P h ι w} (H : HRel h ι w) {t t2 ty : TypeId} {x y : V} {xv yv : Value} (rx : Rep w ι (Mt h ι) x xv) (ry : Rep w ι (Mt h ι) y yv) : VS P h ι w (Builtin.copy_ #[t, t2] ty #[xv, yv]) (aCopy P h t x y) := by
  unfold aCopy
  split
  · rename_i elem hu
    split
    · rename_i s hs
      split
      · rename_i rows hrows
        obtain ⟨hlen, _⟩ := rowsOf_rep (P := P) H ry hrows
        have nil : ∀ (b : Option Addr) (cap : Nat), VS P h ι w (Builtin.copy_ #[t, t2] ty #[.slice b 0 cap, yv]) (some (.v (.int .i64 0), h)) := by
          intro b cap
          obtain ⟨c, c1, c2⟩ := rowsOf_prefix (P := P) H ry hrows 0 (Nat.zero_le _)
          have hc : c = #[] := by have := c2.size; simp at this; exact this
          subst hc
          refine VS.of_pure H ⟨.int .i64 0, ?_, .v _⟩
          cases b <;> simp [Builtin.copy_, run_underlying hu, hlen, run_sizeOf hs, c1, storeCells, goInt]
        split
        · rcases rx.sF_opt with ⟨_, rfl⟩ | ⟨a, cap, rfl, _⟩
          · exact nil _ _
          · exact nil _ _
        · cases rx
          exact nil _ _
        · rename_i id off len
          split
          · rename_i o ho
            split
            · rename_i hc
              obtain ⟨c1, c2, c3, c4⟩ := hc
              cases rx with
              | sO _ _ _ cap l cc el fr hl hcap hbb hsize =>
                have htl : (rows.take len).length = min len rows.length := by simp
                obtain ⟨c, d1, d2⟩ := rowsOf_prefix (P := P) H ry hrows (min len rows.length) (by omega)
                have htake : rows.take (min len rows.length) = rows.take len := by
                  by_cases q : len ≤ rows.length
                  · rw [Nat.min_eq_left q]
                  · rw [Nat.min_eq_right (by omega), List.take_length, List.take_of_length_le (by omega)]
                rw [htake, ← c1] at d2
                obtain ⟨w', g1, g2, g3⟩ := write_rows (P := P) H ho hl hbb (len := len) (by rw [htl]; omega) c2 c4 c3 d2
                intro x' h' e
                injection e with e
                injection e with e1 e2
                subst e1 e2
                refine ⟨.int .i64 (rows.take len).length, w', ι, ?_, .v _, g2, g3⟩
                have hmin : Nat.min rows.length len = min len rows.length := Nat.min_comm _ _
                simp only [Builtin.copy_, List.getElem?_toArray, List.getElem?_cons_zero, List.getElem?_cons_succ, Sem.run_bind, run_underlying hu, Result.andThen_ok, hlen, run_sizeOf hs, hmin, d1, g1, Sem.run_pure, goInt, htl]
            · exact VS.none
          · exact VS.none
        · exact VS.none
      · exact VS.none
    · exact VS.none
  · exact VS.none

end Go.Abs
