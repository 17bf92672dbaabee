/- Arrays of integers that are variables: element by element (arrays of more than 16 elements; in plain regions). -/
import Derived.Test.YtmlojnecmdnbpaaGreatDoorAbsU
namespace Go.Abs
set_option linter.unusedVariables false

def arrInt (P : Program) (t : TypeId) : Option (Nat × TypeId × IntKind) := match P.underlying t with
  | some (.array len el) => match P.underlying el, sizeT P el, sizeT P t with
    | some (.int k), some 1, some m => if 16 < len ∧ m = len then some (len, el, k) else none
    | _, _, _ => none
  | _ => none
theorem arrInt_ok {P : Program} {t : TypeId} {len : Nat} {el : TypeId} {k : IntKind} (e : arrInt P t = some (len, el, k)) :
    P.underlying t = some (.array len el) ∧ sizeT P el = some 1 ∧ sizeT P t = some len ∧ isAggT P t = some true ∧ isAggT P el = some false := by
  unfold arrInt at e
  repeat' split at e
  all_goals first | (cases e; done) | skip
  rename_i _ len' el' hu _ _ _ k' m h1 h2 h3 hc
  injection e with e; injection e with e1 e2; injection e2 with e2 e3; subst e1 e2 e3
  refine ⟨hu, h2, by rw [h3, hc.2], ?_, ?_⟩
  · unfold isAggT
    rw [hu]
  · unfold isAggT
    rw [h1]

def isZero (k : IntKind) (x : V) : Bool := match x with
  | .v (.int k' n) => decide (k' = k) && decide (n = 0)
  | _ => false
theorem isZero_ok {k : IntKind} {x : V} (h : isZero k x = true) : x = .v (.int k 0) := by
  unfold isZero at h
  split at h
  · simp only [Bool.and_eq_true, decide_eq_true_eq] at h
    rw [h.1, h.2]
  · cases h
def zeroOk (P : Program) (t : TypeId) (len : Nat) (k : IntKind) : Bool := match zeroV P t with
  | some (.agg xs) => decide (xs.length = len) && xs.all (isZero k)
  | _ => false
def intsOf (k : IntKind) : List V → Option (List Int)
  | [] => some []
  | .v (.int k' n) :: r => if k' = k then match intsOf k r with
      | some l => some (n :: l)
      | none => none
    else none
  | _ :: _ => none
theorem intsOf_ok {k : IntKind} : ∀ {xs : List V} {l : List Int}, intsOf k xs = some l → xs = l.map fun n => .v (.int k n)
  | [], l, h => by injection h with h; subst h; rfl
  | x :: r, l, h => by
    unfold intsOf at h
    split at h
    · rename_i hx; cases hx
    · rename_i k' n r' hx
      injection hx with h1 h2; subst h1 h2
      split at h
      · rename_i hk
        subst hk
        split at h
        · rename_i l' hl
          injection h with h; subst h
          rw [intsOf_ok hl]; rfl
        · cases h
      · cases h
    · cases h

def darrA (P : Program) (o : Op) (h : List XO) (new : Nat) : DR :=
  match o with
  | .alloc e => match arrInt P e with
    | some (len, _, k) => some ([zeroOk P e len k], .pO new 0 0, h.set new (.tl (.int k) (List.replicate len (0 : Int)) e))
    | none => none
  | _ => none
def darrP (P : Program) (o : Op) (ev : Operand → V) (h : List XO) : DV :=
  match o with
  | .indexAddr t x i => match arrInt P t with
    | some (len, _, k) => match ev x, ev i with
      | .pO id 0 0, .v (.int _ n) => match h[id]? with
        | some (.tl (.int _) _ _) => some ([decide (0 ≤ n), decide (n < (len : Int))], .pO id n.toNat 0)
        | _ => none
      | _, _ => none
    | none => none
  | .load t p => match arrInt P t with
    | some (len, _, k) => match ev p with
      | .pO id 0 0 => match h[id]? with
        | some (.tl (.int k') l _) => if k' = k then some ([decide (l.length = len)], .agg ((List.range len).map fun i => .v (.int k l[i]!))) else none
        | _ => none
      | _ => none
    | none => none
  | .index t x i => match arrInt P t with
    | some (len, _, k) => match ev x, ev i with
      | .agg xs, .v (.int _ n) => match intsOf k xs with
        | some l => some ([decide (0 ≤ n), decide (n < (len : Int)), decide (n < (l.length : Int))], .v (.int k l[n.toNat]!))
        | none => none
      | _, _ => none
    | none => none
  | _ => none

theorem vs_alloc {P : Program} {h : Heap} {ι : Iota} {w : World} (H : HRel h ι w) {new : Nat} (hf : h[new]? = some .free) {t : TypeId} {len : Nat} {k : IntKind} (hz : zeroOk P t len k = true) :
    VS P h ι w (Instr.alloc t true (.tuple #[])) (some (.pO new 0 0, h.set new (.live ⟨1, (List.replicate len (0 : Int)).map (Ty.int k).row, t⟩))) := by
  unfold zeroOk at hz
  split at hz
  · rename_i xs hx
    simp only [Bool.and_eq_true, decide_eq_true_eq, List.all_eq_true] at hz
    obtain ⟨hl, hall⟩ := hz
    obtain ⟨z, hzr, hzx⟩ := run_zeroV hx
    obtain ⟨cs, rfl⟩ : ∃ cs, z = .agg cs := by
      unfold ofValue at hzx
      split at hzx
      · exact ⟨_, rfl⟩
      · cases hzx
      · cases hzx
    have hxs : xs = cs.toList.map .v := by
      have : ofValue (.agg cs) = .agg (cs.toList.map .v) := rfl
      rw [this] at hzx
      injection hzx
    have hcs : cs.size = len := by rw [← hl, hxs]; simp
    have hget : ∀ i, i < len → cs[i]? = some (.int k 0) := by
      intro i hi
      have h1 : i < cs.size := by omega
      rw [Array.getElem?_eq_getElem h1]
      have h2 : V.v cs[i] ∈ xs := by rw [hxs]; exact List.mem_map_of_mem (by simp)
      have h3 := isZero_ok (hall _ h2)
      injection h3 with h3
      rw [h3]
    intro x' h' e
    injection e with e; injection e with e1 e2; subst e1 e2
    obtain ⟨HH, ev⟩ := HRel.alloc H (o := ⟨1, (List.replicate len (0 : Int)).map (Ty.int k).row, t⟩) (halloc_free hf) cs (0, 0) (Unfr.zero _ _) (by intro r hr; obtain ⟨n, _, rfl⟩ := List.mem_map.1 hr; rfl) (by simp [hcs]) (by
      intro i hi j hj
      simp at hi
      simp [Ty.row, Ty.cells] at hj
      subst hj
      refine ⟨.int k 0, by simpa using hget i hi, ?_⟩
      simp [Ty.row, Ty.cells]
      exact Rep.v _) (w' := { w with heap := w.heap.push (.cells cs t) }) rfl
    refine ⟨.pointer (some ⟨w.heap.size, 0 + 0 * 1 + 0, none⟩), _, _, ?_, .pO new 0 0 ⟨w.heap.size, 0, 1, Nat.zero_mod _⟩ (put_same _ _ _), HH, ev⟩
    simp [Instr.alloc, Instr.box, hzr, newVar, newRow, Value.cells]
  · cases hz

theorem vs_index {P : Program} {h : Heap} {ι : Iota} {w : World} (H : HRel h ι w) {t el e : TypeId} {len id : Nat} {rows : List (List V)} {k : IntKind} {n : Int} {y : Value}
    (hu : P.underlying t = some (.array len el)) (hs : sizeT P el = some 1) (ho : h[id]? = some (.live ⟨1, rows, e⟩)) (h0 : 0 ≤ n) (h1 : n < (len : Int)) (r : Rep w ι (Mt h ι) (.pO id 0 0) y) :
    VS P h ι w (Instr.indexAt t y (.int k n)) (some (.pO id n.toNat 0, h)) := by
  cases r with
  | pO _ _ _ l hl =>
    obtain ⟨l', c, fr, q1, la⟩ := H.live id _ ho
    rw [hl] at q1; injection q1 with q1; subst q1
    refine VS.of_pure H ⟨.pointer (some ⟨l.blk, l.base + n.toNat * l.sz + 0, none⟩), ?_, .pO id _ 0 l hl⟩
    have e1 : l.sz = 1 := la.sz
    simp [Instr.indexAt, asIntOf, run_underlying hu, run_sizeOf hs, h0, h1, Instr.sureAddr, add_mk, e1]

theorem vs_load {P : Program} {h : Heap} {ι : Iota} {w : World} (H : HRel h ι w) {t e : TypeId} {len id : Nat} {l : List Int} {k : IntKind} {y : Value}
    (ha : isAggT P t = some true) (hs : sizeT P t = some len) (ho : h[id]? = some (.live ⟨1, l.map (Ty.int k).row, e⟩)) (hlen : l.length = len) (r : Rep w ι (Mt h ι) (.pO id 0 0) y) :
    VS P h ι w (Instr.loadAt t y) (some (.agg ((List.range len).map fun i => .v (.int k l[i]!)), h)) := by
  cases r with
  | pO _ _ _ q hq =>
    obtain ⟨l', c, fr, q1, la⟩ := H.live id _ ho
    rw [hq] at q1; injection q1 with q1; subst q1
    have e1 : q.sz = 1 := la.sz
    have hc : ∀ j, (hj : j < ((List.range len).map fun i => V.v (.int k l[i]!)).length) → ∃ z, w.cell? ⟨q.blk, q.base + j, none⟩ = some z ∧ Rep w ι (Mt h ι) ((List.range len).map fun i => V.v (.int k l[i]!))[j] z := by
      intro j hj
      simp at hj
      have hjl : j < l.length := by omega
      obtain ⟨z, g1, g2⟩ := la.reads j (by simpa using hjl) 0 (by simp [Ty.row, Ty.cells])
      refine ⟨z, ?_, ?_⟩
      · rw [la.cell]; simpa using g1
      · simp [Ty.row, Ty.cells] at g2
        simp only [List.getElem_map, List.getElem_range]
        rw [getElem!_pos l j hjl]
        exact g2
    have hr : readAt P t ((List.range len).map fun i => V.v (.int k l[i]!)) 0 = some (.agg ((List.range len).map fun i => V.v (.int k l[i]!))) := by
      unfold readAt
      rw [ha, hs]
      simp
      exact List.take_of_length_le (by simp)
    obtain ⟨z, h1, h2⟩ := run_loadVar_rep (b := q.blk) (o := q.base) hc hr
    exact VS.of_pure H ⟨z, by simpa [Instr.loadAt, Instr.sureAddr] using h1, h2⟩

theorem darrA_os {P : Program} {o : Oper} {h h' : List XO} {new : Nat} {cs : List Bool} {x : V} (e : darrA P o.op h new = some (cs, x, h')) (hc : allT cs) (hn : h[new]? = some (.raw .free))
    {ι : Iota} {w : World} (H : HRel (dens h) ι w) {a : Act} : OS P (dens h) ι w (execOp a.eval o) (some (x, dens h')) := by
  obtain ⟨dst, op, type, pos, after, guard⟩ := o
  unfold darrA at e
  split at e
  · rename_i t hop
    simp only at hop; subst hop
    split at e
    · rename_i len el k ha
      injection e with e; injection e with e1 e2; injection e2 with e2 e3; subst e1 e2 e3
      have hf : (dens h)[new]? = some .free := by rw [dens_get, hn]; rfl
      rw [dens_set]
      exact OS.of_vs (vs_alloc H hf (allT_cons hc).1)
    · cases e
  · cases e
theorem darrP_os {P : Program} {o : Oper} {ev : Operand → V} {h : List XO} {cs : List Bool} {x : V} (e : darrP P o.op ev h = some (cs, x)) (hc : allT cs)
    {ι : Iota} {w : World} (H : HRel (dens h) ι w) {a : Act} (hev : ∀ x, Rep w ι (Mt (dens h) ι) (ev x) (a.eval x)) : OS P (dens h) ι w (execOp a.eval o) (some (x, dens h)) := by
  obtain ⟨dst, op, type, pos, after, guard⟩ := o
  unfold darrP at e
  split at e
  · rename_i t X i hop
    simp only at hop; subst hop
    split at e
    · rename_i len el k ha
      obtain ⟨u1, u2, u3, u4, u5⟩ := arrInt_ok ha
      split at e
      · rename_i id ki n hX hi
        split at e
        · rename_i k' l et ho
          injection e with e; injection e with e1 e2; subst e1 e2
          obtain ⟨c1, hc⟩ := allT_cons hc
          obtain ⟨c2, _⟩ := allT_cons hc
          have r1 := hev X; rw [hX] at r1
          have r2 := hev i; rw [hi] at r2
          have ri : a.eval i = .int ki n := by
            generalize a.eval i = z at r2
            cases r2; rfl
          have hd : (dens h)[id]? = some (.live ⟨1, l.map (Ty.int k').row, et⟩) := by rw [dens_get, ho]; rfl
          have := OS.of_vs (vs_index (k := ki) H u1 u2 hd (of_decide_eq_true c1) (of_decide_eq_true c2) r1)
          rw [← ri] at this
          exact this
        · cases e
      · cases e
    · cases e
  · rename_i t p hop
    simp only at hop; subst hop
    split at e
    · rename_i len el k ha
      obtain ⟨u1, u2, u3, u4, u5⟩ := arrInt_ok ha
      split at e
      · rename_i id hX
        split at e
        · rename_i k' l et ho
          split at e
          · rename_i hk
            subst hk
            injection e with e; injection e with e1 e2; subst e1 e2
            have r1 := hev p; rw [hX] at r1
            have hd : (dens h)[id]? = some (.live ⟨1, l.map (Ty.int k').row, et⟩) := by rw [dens_get, ho]; rfl
            exact OS.of_vs (vs_load H u4 u3 hd (of_decide_eq_true (allT_cons hc).1) r1)
          · cases e
        · cases e
      · cases e
    · cases e
  · rename_i t X i hop
    simp only at hop; subst hop
    split at e
    · rename_i len el k ha
      obtain ⟨u1, u2, u3, u4, u5⟩ := arrInt_ok ha
      split at e
      · rename_i xs ki n hX hi
        split at e
        · rename_i l hl
          injection e with e; injection e with e1 e2; subst e1 e2
          obtain ⟨c1, hc⟩ := allT_cons hc
          obtain ⟨c2, hc⟩ := allT_cons hc
          obtain ⟨c3, _⟩ := allT_cons hc
          have c1 := of_decide_eq_true c1
          have c2 := of_decide_eq_true c2
          have c3 := of_decide_eq_true c3
          have hx := intsOf_ok hl
          have r1 := hev X; rw [hX] at r1
          have r2 := hev i; rw [hi] at r2
          have hr : readAt P el xs (n.toNat * 1) = some (.v (.int k l[n.toNat]!)) := by
            unfold readAt
            rw [u5, hx]
            have hlt : n.toNat < l.length := by omega
            simp [hlt]
          have hv := aIndex_sound (P := P) H (t := t) r1 r2
          have he : aIndex P (dens h) t (.agg xs) (.v (.int ki n)) = some (.v (.int k l[n.toNat]!), dens h) := by
            simp only [aIndex, u1, asIdx, u2]
            rw [if_pos ⟨c1, c2⟩, hr]
          rw [he] at hv
          exact OS.of_vs hv
        · cases e
      · cases e
    · cases e
  · cases e

end Go.Abs
