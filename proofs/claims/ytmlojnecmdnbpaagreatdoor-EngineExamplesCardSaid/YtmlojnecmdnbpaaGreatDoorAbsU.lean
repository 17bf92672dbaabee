/- Operations on typed data that make objects: appending, making, converting; one function for all operations. -/
import Derived.Test.YtmlojnecmdnbpaaGreatDoorAbsT
namespace Go.Abs
set_option linter.unusedVariables false

/-- The typed content of a slice, exactly. -/
def rdX (h : List XO) (ty : Ty) (y : V) : Option (List Bool × List ty.den) :=
  match y with
  | .sL _ l => match castL (t' := ty) l with
    | some l => some ([], l)
    | none => none
  | .v (.slice none 0 0) => some ([], [])
  | .v (.string b) => match castL (t := .int .u8) (t' := ty) (toInts b) with
    | some l => some ([], l)
    | none => none
  | .sO id off len => match h[id]? with
    | some (.raw (.live o)) => if o.sz = ty.size then match unRows unX ty ((o.rows.drop off).take len) with
        | some l => some ([decide (off + len ≤ o.rows.length)], l)
        | none => none
      else none
    | some (.tl _ l _) => match castL (t' := ty) l, off with
      | some l, 0 => some ([decide (len = l.length)], l)
      | some l, _ => some ([decide (off + len ≤ l.length)], (l.drop off).take len)
      | none, _ => none
    | some (.opt _ l _) => match castL (t' := ty) l with
      | some l => some ([decide (0 < l.length), decide (off + len ≤ l.length)], subL l off len)
      | none => none
    | _ => none
  | .oL id n => match h[id]? with
    | some (.opt _ l _) => match castL (t' := ty) l with
      | some l => some ([decide (n = l.length)], l)
      | none => none
    | _ => none
  | _ => none

theorem subL_eq {α : Type} (l : List α) (off len : Nat) : subL l off len = (l.drop off).take len := by cases off <;> rfl
theorem castL_rows {t t' : Ty} {l : List t.den} {l' : List t'.den} (h : castL l = some l') : t.size = t'.size ∧ l.map t.row = l'.map t'.row ∧ l.length = l'.length := by
  obtain ⟨e, h2⟩ := castL_ty h
  subst e h2
  exact ⟨rfl, rfl, rfl⟩

theorem rdX_ok {h : List XO} {ty : Ty} {y : V} {cs : List Bool} {l : List ty.den} (e : rdX h ty y = some (cs, l)) (hc : allT cs) : rowsOf (dens h) ty.size y.nf = some (l.map ty.row) := by
  unfold rdX at e
  split at e
  · split at e
    · rename_i l1 hl
      injection e with e; injection e with e1 e2; subst e1 e2
      obtain ⟨q1, q2, _⟩ := castL_rows hl
      simp only [V.nf, rowsOf, q1, if_true, q2]
    · cases e
  · injection e with e; injection e with e1 e2; subst e1 e2; rfl
  · rename_i b
    split at e
    · rename_i l1 hl
      injection e with e; injection e with e1 e2; subst e1 e2
      obtain ⟨q1, q2, _⟩ := castL_rows hl
      simp only [V.nf, rowsOf]
      rw [if_pos (show ty.size = 1 from q1.symm), ← q2]
      congr 1
      unfold toInts
      rw [List.map_map]; rfl
    · cases e
  · rename_i id off len
    split at e
    · rename_i o ho
      split at e
      · rename_i hsz
        split at e
        · rename_i l1 hl
          injection e with e; injection e with e1 e2; subst e1 e2
          have hb := of_decide_eq_true (allT_cons hc).1
          have hd : (dens h)[id]? = some (.live o) := by rw [dens_get, ho]; rfl
          simp only [V.nf, rowsOf, hd]
          rw [if_pos ⟨hsz, hb⟩, unRows_eq hl]
        · cases e
      · cases e
    · rename_i t0 l0 el ho
      have hd : (dens h)[id]? = some (.live ⟨t0.size, l0.map t0.row, el⟩) := by rw [dens_get, ho]; rfl
      split at e
      · rename_i l1 hl
        injection e with e; injection e with e1 e2; subst e1 e2
        have hb := of_decide_eq_true (allT_cons hc).1
        obtain ⟨q1, q2, q3⟩ := castL_rows hl
        simp only [V.nf, rowsOf, hd]
        rw [if_pos ⟨q1, by simp [q3, hb]⟩, q2]
        simp only [List.drop_zero]
        rw [List.take_of_length_le (by simp [hb])]
      · rename_i l1 hl _
        injection e with e; injection e with e1 e2; subst e1 e2
        have hb := of_decide_eq_true (allT_cons hc).1
        obtain ⟨q1, q2, q3⟩ := castL_rows hl
        simp only [V.nf, rowsOf, hd]
        rw [if_pos ⟨q1, by simp [q3, hb]⟩, q2]
        simp [List.map_take, List.map_drop]
      · cases e
    · rename_i t0 l0 el ho
      split at e
      · rename_i l1 hl
        injection e with e; injection e with e1 e2; subst e1 e2
        have h0 := of_decide_eq_true (allT_cons hc).1
        have hb := of_decide_eq_true (allT_cons (allT_cons hc).2).1
        obtain ⟨q1, q2, q3⟩ := castL_rows hl
        have hn0 : ¬ l0.isEmpty = true := by intro q; rw [List.isEmpty_iff] at q; subst q; simp at q3; omega
        have hd : (dens h)[id]? = some (.live ⟨t0.size, l0.map t0.row, el⟩) := by rw [dens_get, ho]; simp [XO.den, hn0]
        simp only [V.nf, rowsOf, hd]
        rw [if_pos ⟨q1, by simp [q3, hb]⟩, q2, subL_eq]
        simp [List.map_take, List.map_drop]
      · cases e
    · cases e
  · rename_i id n
    split at e
    · rename_i t0 l0 el ho
      split at e
      · rename_i l1 hl
        injection e with e; injection e with e1 e2; subst e1 e2
        have hb := of_decide_eq_true (allT_cons hc).1
        obtain ⟨q1, q2, q3⟩ := castL_rows hl
        subst hb
        by_cases hn : l1 = []
        · subst hn; rfl
        · have hn' : ¬ l1.length = 0 := fun q => hn (List.length_eq_zero_iff.1 q)
          have hn0 : ¬ l0.isEmpty = true := by intro q; rw [List.isEmpty_iff] at q; subst q; simp at q3; exact hn' q3.symm
          have hd : (dens h)[id]? = some (.live ⟨t0.size, l0.map t0.row, el⟩) := by rw [dens_get, ho]; simp [XO.den, hn0]
          simp only [V.nf, if_neg hn', rowsOf, hd]
          rw [if_pos ⟨q1, by simp [q3]⟩, q2]
          simp only [List.drop_zero]
          rw [List.take_of_length_le (by simp)]
      · cases e
    · cases e
  · cases e

/-- What an append begins with: the content, and the object that holds it. -/
def bsX (h : List XO) (ty : Ty) (e : TypeId) (x : V) : Option (List Bool × List ty.den × Option Nat) :=
  match x with
  | .v (.slice none 0 0) => some ([], [], none)
  | .sO id 0 len => match h[id]? with
    | some (.raw (.live o)) => if o.sz = ty.size ∧ o.elem = e then match unRows unX ty o.rows with
        | some l => some ([decide (len = l.length)], l, some id)
        | none => none
      else none
    | some (.tl _ l e') => if e' = e then match castL (t' := ty) l with
      | some l => some ([decide (len = l.length)], l, some id)
      | none => none
      else none
    | _ => none
  | .oL id n => match h[id]? with
    | some (.opt _ l e') => if e' = e then match castL (t' := ty) l with
      | some l => some ([decide (n = l.length)], l, some id)
      | none => none
      else none
    | _ => none
  | _ => none

theorem bsX_ok {h : List XO} {ty : Ty} {el : TypeId} {x : V} {cs : List Bool} {l : List ty.den} {k : Option Nat} (e : bsX h ty el x = some (cs, l, k)) (hc : allT cs) :
    (l = [] ∧ x.nf = .v (.slice none 0 0) ∧ (∀ id, k = some id → ∃ o, h[id]? = some o ∧ o.den = .dead)) ∨ (∃ id, k = some id ∧ x.nf = .sO id 0 l.length ∧ (dens h)[id]? = some (.live ⟨ty.size, l.map ty.row, el⟩)) := by
  unfold bsX at e
  split at e
  · injection e with e; injection e with e1 e2; injection e2 with e2 e3; subst e1 e2 e3
    exact .inl ⟨rfl, rfl, fun _ q => by cases q⟩
  · rename_i id len
    split at e
    · rename_i o ho
      split at e
      · rename_i hsz
        split at e
        · rename_i l1 hl
          injection e with e; injection e with e1 e2; injection e2 with e2 e3; subst e1 e2 e3
          have hb := of_decide_eq_true (allT_cons hc).1
          subst hb
          refine .inr ⟨id, rfl, rfl, ?_⟩
          obtain ⟨z1, z2, z3⟩ := o
          simp only at hsz hl
          obtain ⟨rfl, rfl⟩ := hsz
          rw [dens_get, ho, ← unRows_eq hl]; rfl
        · cases e
      · cases e
    · rename_i t0 l0 e' ho
      split at e
      · rename_i he
        subst he
        split at e
        · rename_i l1 hl
          injection e with e; injection e with e1 e2; injection e2 with e2 e3; subst e1 e2 e3
          have hb := of_decide_eq_true (allT_cons hc).1
          subst hb
          obtain ⟨q1, q2, q3⟩ := castL_rows hl
          refine .inr ⟨id, rfl, rfl, ?_⟩
          rw [dens_get, ho, ← q1, ← q2]; rfl
        · cases e
      · cases e
    · cases e
  · rename_i id n
    split at e
    · rename_i t0 l0 e' ho
      split at e
      · rename_i he
        subst he
        split at e
        · rename_i l1 hl
          injection e with e; injection e with e1 e2; injection e2 with e2 e3; subst e1 e2 e3
          have hb := of_decide_eq_true (allT_cons hc).1
          subst hb
          obtain ⟨q1, q2, q3⟩ := castL_rows hl
          by_cases hn : l1 = []
          · subst hn
            have h0 : l0 = [] := List.length_eq_zero_iff.1 (by simpa using q3)
            subst h0
            refine .inl ⟨rfl, rfl, fun i q => ?_⟩
            injection q with q; subst q
            exact ⟨_, ho, rfl⟩
          · have hn' : ¬ l1.length = 0 := fun q => hn (List.length_eq_zero_iff.1 q)
            have hn0 : ¬ l0.isEmpty = true := by intro q; rw [List.isEmpty_iff] at q; subst q; simp at q3; exact hn' q3.symm
            refine .inr ⟨id, rfl, by simp only [V.nf, if_neg hn'], ?_⟩
            rw [dens_get, ho, ← q1, ← q2]
            simp [XO.den, hn0]
        · cases e
      · cases e
    · cases e
  · cases e

def killX (h : List XO) : Option Nat → List XO
  | some id => h.set id (.raw .dead)
  | none => h

/-- A size as a numeral. -/
def litTab : List Nat := [1, 2, 4, 8, 16, 24, 32, 40, 48, 56, 64, 72, 80, 88, 96, 104, 112, 120, 128, 136, 144, 152, 160, 168, 176, 184, 192, 200, 208, 216, 224, 232, 240, 248, 256, 264, 272, 280, 288, 296, 304, 312, 320, 3, 5, 6, 7, 9, 10, 11, 12, 20, 28, 36, 44, 52]
def litIn (b : Nat) : List Nat → Option Nat
  | [] => none
  | k :: r => if Nat.beq k b then some k else litIn b r
theorem litIn_ok {b k : Nat} : ∀ {l : List Nat}, litIn b l = some k → k = b
  | [], h => by cases h
  | x :: r, h => by
    simp only [litIn] at h
    split at h
    · rename_i q; injection h with h; subst h; exact Nat.eq_of_beq_eq_true q
    · exact litIn_ok h
def bytesL (P : Program) (t : TypeId) : Option Nat := match bytesT P t with
  | some b => litIn b litTab
  | none => none
theorem bytesL_ok {P : Program} {t : TypeId} {b : Nat} (h : bytesL P t = some b) : bytesT P t = some b := by
  unfold bytesL at h
  split at h
  · rename_i c hc; rw [hc, litIn_ok h]
  · cases h
def dappend (P : Program) (h : List XO) (new : Nat) (tys : Array TypeId) (x y : V) : DR :=
  match tys[0]?, tys[1]? with
  | some t0, some t1 => match P.underlying t0 with
    | some (.slice e) => if isStrOrSlice P t1 then match tyOf P 8 e, sizeT P e, bytesL P e, zeroCellsV P e with
      | some ty, some s, some b, some zs => if ty.size = s ∧ zs.length = s then match bsX h ty e x, rdX h ty y with
        | some (c1, l1, k), some (c2, l2) => some (decide (l1.length + l2.length ≤ 140737488355328) :: decide ((l1.length + l2.length) * b ≤ 140737488355328) :: (c1 ++ (c2 ++ (match x with | .sO _ _ _ => [decide (0 < (l1 ++ l2).length)] | _ => []))), .oL new (l1 ++ l2).length, (killX h k).set new (.opt ty (l1 ++ l2) e))
        | _, _ => none
        else none
      | _, _, _, _ => none
      else none
    | _ => none
  | _, _ => none

/-- The same onto a slice that is an object: it stays one, empty or not. -/
def dappendS (P : Program) (h : List XO) (new : Nat) (tys : Array TypeId) (x y : V) : DR :=
  match tys[0]?, tys[1]? with
  | some t0, some t1 => match P.underlying t0 with
    | some (.slice e) => if isStrOrSlice P t1 then match tyOf P 8 e, sizeT P e, bytesL P e, zeroCellsV P e with
      | some ty, some s, some b, some zs => if ty.size = s ∧ zs.length = s then match bsX h ty e x, rdX h ty y with
        | some (c1, l1, k), some (c2, l2) => some (decide (l1.length + l2.length ≤ 140737488355328) :: decide ((l1.length + l2.length) * b ≤ 140737488355328) :: (c1 ++ c2), .sO new 0 (l1 ++ l2).length, (killX h k).set new (.tl ty (l1 ++ l2) e))
        | _, _ => none
        else none
      | _, _, _, _ => none
      else none
    | _ => none
  | _, _ => none

def dapp (P : Program) (h : List XO) (new : Nat) (tys : Array TypeId) (x y : V) : DR := match x with
  | .sO a b c => dappendS P h new tys (.sO a b c) y
  | z => dappend P h new tys z y

theorem halloc_free {h : Heap} {new : Nat} {o : AObj} (hf : h[new]? = some .free) : halloc h new o = some (h.set new (.live o)) := by
  simp only [halloc, hf]

/-- A free place that is given away. -/
theorem HRel.fill {h : Heap} {ι : Iota} {w : World} (H : HRel h ι w) {id : Nat} (hf : h[id]? = some .free) : HRel (h.set id .dead) ι w ∧ Evolve h ι w (h.set id .dead) ι w := by
  have hidlt := get_lt hf
  have get : ∀ (k : Nat) (x : AObj), (h.set id HS.dead)[k]? = some (.live x) ↔ h[k]? = some (.live x) := by
    intro k x
    by_cases hk : k = id
    · subst hk; rw [List.getElem?_set_self hidlt, hf]; simp
    · rw [List.getElem?_set_ne (by omega)]
  have ob : ∀ b, Ob (h.set id .dead) ι b ↔ Ob h ι b := by
    intro b
    constructor
    · rintro ⟨k, x, y, h1, h2, h3⟩; exact ⟨k, x, y, (get k x).1 h1, h2, h3⟩
    · rintro ⟨k, x, y, h1, h2, h3⟩; exact ⟨k, x, y, (get k x).2 h1, h2, h3⟩
  have ev : Evolve h ι w (h.set id .dead) ι w := ⟨rfl, rfl, rfl, Nat.le_refl _, fun _ _ q => q, rfl, fun b _ hm => ⟨rfl, fun q => hm ((ob b).1 q)⟩, fun b c _ fr hb => ⟨c, fr, hb, rfl⟩⟩
  refine ⟨⟨fun k x hx => ?_, fun k hk => ?_, fun k hk => H.out k (by simpa using hk), fun k1 o1 l1 k2 o2 l2 a1 a2 b1 b2 => H.apart _ _ _ _ _ _ ((get _ _).1 a1) a2 ((get _ _).1 b1) b2, H.xlt, fun b hb q => H.xob b hb ((ob b).1 q)⟩, ev⟩
  · obtain ⟨l2, c2, fr2, h1, la2⟩ := H.live k x ((get k x).1 hx)
    exact ⟨l2, c2, fr2, h1, ⟨la2.blk, la2.unfrozen, la2.sz, la2.rows, la2.fits, fun i hi j hj => let ⟨y, q1, q2⟩ := la2.reads i hi j hj; ⟨y, q1, q2.mono ev⟩⟩⟩
  · have hne : k ≠ id := by intro e; subst e; rw [List.getElem?_set_self hidlt] at hk; cases hk
    rw [List.getElem?_set_ne (by omega)] at hk
    exact H.free k hk

/-- An object gets another number. -/
theorem HRel.move {h : Heap} {ι : Iota} {w : World} (H : HRel h ι w) {id new : Nat} {o : AObj} {l : Loc} (ho : h[id]? = some (.live o)) (hl : ι id = some l) (hf : h[new]? = some .free) (hz : l.base % o.sz = 0) :
    HRel ((h.set id .dead).set new (.live o)) (ι.put new ⟨l.blk, l.base, o.sz, hz⟩) w ∧ Evolve h ι w ((h.set id .dead).set new (.live o)) (ι.put new ⟨l.blk, l.base, o.sz, hz⟩) w := by
  obtain ⟨l', c, fr, h1, la⟩ := H.live id o ho
  rw [hl] at h1; injection h1 with h1; subst h1
  have hne : id ≠ new := by intro q; subst q; rw [ho] at hf; cases hf
  have hf' : (h.set id .dead)[new]? = some .free := by rw [List.getElem?_set_ne hne]; exact hf
  exact HRel.reloc H ho hl la (new := new) (o' := o) (halloc_free hf') (base' := l.base) hz (c' := c) (w' := w) ⟨rfl, rfl, rfl, rfl, fun _ _ => rfl⟩ la.blk rfl rfl rfl (.inr rfl) la.rows la.fits la.reads

theorem set_dead {h : List XO} {k : Option Nat} (hk : ∀ id, k = some id → ∃ o, h[id]? = some o ∧ o.den = .dead) : dens (killX h k) = dens h := by
  cases k with
  | none => rfl
  | some id =>
    obtain ⟨o, h1, h2⟩ := hk id rfl
    have hlt := get_lt h1
    rw [killX, dens_set]
    refine List.ext_getElem? fun i => ?_
    by_cases q : i = id
    · subst q
      rw [List.getElem?_set_self (by rw [dens_len]; exact hlt), dens_get, h1]; exact congrArg some h2.symm
    · rw [List.getElem?_set_ne (by omega)]

/-- An object known less. -/
theorem HRel.weakLe {ι : Iota} {w : World} {h : Heap} (H : HRel h ι w) {id : Nat} {o o' : AObj} (ho : h[id]? = some (.live o)) (hs : o'.sz = o.sz) (he : o'.elem = o.elem) (hl : o'.rows.length ≤ o.rows.length)
    (hr : ∀ (i : Nat) (r r' : List V), o.rows[i]? = some r → o'.rows[i]? = some r' → LEs r r') : HRel (h.set id (.live o')) ι w ∧ Evolve h ι w (h.set id (.live o')) ι w := by
  have hidlt := get_lt ho
  have get : ∀ (k : Nat), k ≠ id → (h.set id (.live o'))[k]? = h[k]? := fun k hk => List.getElem?_set_ne (by omega)
  have gid : (h.set id (HS.live o'))[id]? = some (.live o') := by simp [hidlt]
  have ob : ∀ b, Ob (h.set id (.live o')) ι b → Ob h ι b := by
    rintro b ⟨k, x, y, h1, h2, h3⟩
    by_cases hk : k = id
    · subst hk; exact ⟨k, _, y, ho, h2, h3⟩
    · rw [get k hk] at h1; exact ⟨k, x, y, h1, h2, h3⟩
  have ev : Evolve h ι w (h.set id (.live o')) ι w := ⟨rfl, rfl, rfl, Nat.le_refl _, fun _ _ q => q, rfl, fun b _ hm => ⟨rfl, fun q => hm (ob b q)⟩, fun b c _ fr hb => ⟨c, fr, hb, rfl⟩⟩
  have f : ∀ (k : Nat) (x : AObj), (h.set id (.live o'))[k]? = some (.live x) → ∃ y, h[k]? = some (.live y) := by
    intro k x hx
    by_cases hk : k = id
    · subst hk; exact ⟨_, ho⟩
    · rw [get k hk] at hx; exact ⟨x, hx⟩
  refine ⟨⟨fun k x hx => ?_, fun k hk => ?_, fun k hk => H.out k (by simpa using hk), fun k1 o1 l1 k2 o2 l2 a1 a2 b1 b2 hbk => ?_, H.xlt, fun b hb q => H.xob b hb (ob b q)⟩, ev⟩
  · by_cases hk : k = id
    · subst hk
      rw [gid] at hx; injection hx with hx; injection hx with hx; subst hx
      obtain ⟨l2, c2, fr2, h1, la2⟩ := H.live k _ ho
      have row : ∀ (i : Nat) (r' : List V), o'.rows[i]? = some r' → ∃ r, o.rows[i]? = some r ∧ LEs r r' := by
        intro i r' hr'
        have hi : i < o.rows.length := Nat.lt_of_lt_of_le (get_lt hr') hl
        exact ⟨_, List.getElem?_eq_getElem hi, hr i _ _ (List.getElem?_eq_getElem hi) hr'⟩
      refine ⟨l2, c2, fr2, h1, ⟨by rw [he]; exact la2.blk, by rw [he, hs]; exact la2.unfrozen, by rw [hs]; exact la2.sz, fun q hq => ?_, by rw [hs]; exact Nat.le_trans (Nat.add_le_add_left (Nat.mul_le_mul_right _ hl) _) la2.fits, ?_⟩⟩
      · obtain ⟨i, hi, e⟩ := List.getElem_of_mem hq
        obtain ⟨r, r1, r2⟩ := row i q (by rw [List.getElem?_eq_getElem hi, e])
        rw [← r2.1, hs]; exact la2.rows r (get_mem r1)
      · refine dep_of_opt (rows := o'.rows) (p := fun i j x => ∃ y, c2[l2.base + i * o'.sz + j]? = some y ∧ Rep w ι (Mt (h.set k (.live o')) ι) x y) (fun i j r' x' hi hj => ?_)
        obtain ⟨r, r1, r2⟩ := row i r' hi
        obtain ⟨x, x1, x2⟩ := r2.opt hj
        obtain ⟨_, _, u, u1, u2⟩ := la2.get r1 x1
        exact ⟨u, by rw [hs]; exact u1, (x2 u2).mono ev⟩
    · rw [get k hk] at hx
      obtain ⟨l2, c2, fr2, h1, la2⟩ := H.live k x hx
      exact ⟨l2, c2, fr2, h1, ⟨la2.blk, la2.unfrozen, la2.sz, la2.rows, la2.fits, fun i hi j hj => let ⟨y, q1, q2⟩ := la2.reads i hi j hj; ⟨y, q1, q2.mono ev⟩⟩⟩
  · have hne : k ≠ id := by intro e; subst e; rw [gid] at hk; cases hk
    rw [get k hne] at hk
    exact H.free k hk
  · obtain ⟨y1, q1⟩ := f _ _ a1
    obtain ⟨y2, q2⟩ := f _ _ b1
    exact H.apart _ _ _ _ _ _ q1 a2 q2 b2 hbk

theorem HRel.weakObj {ι : Iota} {w : World} {h : Heap} (H : HRel h ι w) {id : Nat} {o o' : AObj} (ho : h[id]? = some (.live o)) (hs : o'.sz = o.sz) (he : o'.elem = o.elem) (hl : o.rows.length = o'.rows.length)
    (hr : ∀ (i : Nat) (r r' : List V), o.rows[i]? = some r → o'.rows[i]? = some r' → LEs r r') : HRel (h.set id (.live o')) ι w ∧ Evolve h ι w (h.set id (.live o')) ι w :=
  H.weakLe ho hs he (Nat.le_of_eq hl.symm) hr

/-- An object that is not known to be clean. -/
theorem HRel.weakF {ι : Iota} {w : World} {h : Heap} (H : HRel h ι w) {id : Nat} {o : AObj} (ho : h[id]? = some (.live o)) (hz : o.elem.fz ≤ 1) :
    HRel (h.set id (.live ⟨o.sz, o.rows, o.elem.t⟩)) ι w ∧ Evolve h ι w (h.set id (.live ⟨o.sz, o.rows, o.elem.t⟩)) ι w := by
  obtain ⟨l, c, fr, h1, la⟩ := H.live id o ho
  exact H.updG ho h1 la (o' := ⟨o.sz, o.rows, o.elem.t⟩) (c' := c) (w' := w) ⟨rfl, rfl, rfl, rfl, fun _ _ => rfl⟩ la.blk rfl rfl rfl (la.unfrozen.drop hz) la.rows la.fits la.reads

theorem OS.post {P : Program} {h : Heap} {ι : Iota} {w : World} {m : Sem Next} {x1 x2 : V} {k1 k2 : Heap} (ho : OS P h ι w m (some (x1, k1)))
    (hp : ∀ {w : World} {ι : Iota}, HRel k1 ι w → ∃ ι', HRel k2 ι' w ∧ Evolve k1 ι w k2 ι' w ∧ ∀ {y : Value}, Rep w ι (Mt k1 ι) x1 y → Rep w ι' (Mt k2 ι') x2 y) : OS P h ι w m (some (x2, k2)) := by
  intro x h' e
  injection e with e; injection e with e1 e2; subst e1 e2
  obtain ⟨y, w', ι', g1, g2, g3, g4⟩ := ho x1 k1 rfl
  obtain ⟨ι2, q1, q2, q3⟩ := hp g3
  exact ⟨y, w', ι2, g1, q3 g2, q1, g4.trans q2⟩

theorem rep_sO_move {w : World} {ι : Iota} {h : Heap} {id new : Nat} {o : AObj} {l : Loc} (ho : h[id]? = some (.live o)) (hl : ι id = some l) (hs : l.sz = o.sz) (hz : l.base % o.sz = 0) {M M' : Nat → Prop} {n : Nat} {y : Value} (r : Rep w ι M (.sO id 0 n) y) :
    Rep w (ι.put new ⟨l.blk, l.base, o.sz, hz⟩) M' (.sO new 0 n) y := by
  cases r with
  | sO _ _ _ cap l2 c e fr hl2 hcap hb hsz =>
    rw [hl] at hl2; injection hl2 with hl2; subst hl2
    have h1 : (ι.put new ⟨l.blk, l.base, o.sz, hz⟩) new = some ⟨l.blk, l.base, o.sz, hz⟩ := by simp [Iota.put]
    have := Rep.sO (M := M') new 0 n cap _ c e fr h1 hcap hb (by show l.base + (0 + cap) * o.sz ≤ c.size; rw [← hs]; exact hsz)
    rw [hs]; exact this

theorem dappend_os {P : Program} {h h' : List XO} {new : Nat} {X Y : Operand} {tys : Array TypeId} {ev : Operand → V} {z : V} {cs : List Bool} (e : dappend P h new tys (ev X) (ev Y) = some (cs, z, h')) (hc : allT cs) (hn : h[new]? = some (.raw .free))
    {ι : Iota} {w : World} (H : HRel (dens h) ι w) {a : Act} (hev : ∀ x, Rep w ι (Mt (dens h) ι) (ev x) (a.eval x)) {o : Oper} (ho : o.op = .call ⟨.builtin .append, #[X, Y], tys⟩) (h2 : tys.size = 2) :
    OS P (dens h) ι w (execOp a.eval o) (some (z, dens h')) := by
  have hos := aop_soundE (P := P) H (fun x => (hev x).nf) o new
  have hop : aop P o.op (fun x => (ev x).nf) (dens h) new = aAppend P (dens h) new tys (ev X).nf (ev Y).nf := by
    rw [ho]; simp only [aop, List.map_cons, List.map_nil, aBuiltin]; rw [if_pos h2]
  rw [hop] at hos
  clear hop ho hev
  have hfree : (dens h)[new]? = some .free := by rw [dens_get, hn]; rfl
  unfold dappend at e
  split at e
  · rename_i t0 t1 ht0 ht1
    split at e
    · rename_i el hu
      split at e
      · rename_i hst
        split at e
        · rename_i ty s b zs hty hs hb hz
          have hb := bytesL_ok hb
          split at e
          · rename_i hsz
            obtain ⟨hsz, hzl⟩ := hsz
            subst hsz
            split at e
            · rename_i c1 l1 k c2 l2 hbs hrd
              injection e with e; injection e with e1 e2; injection e2 with e2 e3; subst e1 e2 e3
              obtain ⟨hr1, hc⟩ := allT_cons hc
              obtain ⟨hr2, hc⟩ := allT_cons hc
              have hroom : roomOk (l1.length + l2.length) b = true := by
                have hr1 := of_decide_eq_true hr1
                have hr2 := of_decide_eq_true hr2
                simp only [roomOk, Bool.and_eq_true, decide_eq_true_eq]
                exact ⟨hr1, hr2⟩
              have hc1 : allT c1 := fun c q => hc c (List.mem_append.2 (.inl q))
              have hc2 : allT c2 := fun c q => hc c (List.mem_append.2 (.inr (List.mem_append.2 (.inl q))))
              have hc3 : allT (match ev X with | .sO _ _ _ => [decide (0 < (l1 ++ l2).length)] | _ => []) := fun c q => hc c (List.mem_append.2 (.inr (List.mem_append.2 (.inr q))))
              have hrows := rdX_ok hrd hc2
              have hbase := bsX_ok hbs hc1
              have happ : aAppend P (dens h) new tys (ev X).nf (ev Y).nf = aAppendRows P (dens h) new el ty.size b zs (ev X).nf (l2.map ty.row) := by
                unfold aAppend
                simp only [ht0, ht1, hu, hst, if_true, aAppendE, hs, hb, hz, hrows]
              rw [happ] at hos
              have hall : (l2.map ty.row).all (·.all leafOk) = true := by
                rw [List.all_eq_true]
                intro r hr
                obtain ⟨q, _, rfl⟩ := List.mem_map.1 hr
                exact ty.row_ok q [] rfl
              by_cases hl2 : l2 = []
              · subst hl2
                rcases hbase with ⟨rfl, hx, hk⟩ | ⟨id, rfl, hx, ho⟩
                · rw [hx] at hos
                  have : aAppendRows P (dens h) new el ty.size b zs (.v (.slice none 0 0)) ([].map ty.row) = some (.v (.slice none 0 0), dens h) := rfl
                  rw [this] at hos
                  refine hos.post fun {w ι} H => ?_
                  have hd : dens ((killX h k).set new (.opt ty ([] ++ []) el)) = (dens h).set new .dead := by rw [dens_set, set_dead hk]; rfl
                  rw [hd]
                  obtain ⟨H1, ev1⟩ := H.fill hfree
                  refine ⟨ι, H1, ev1, fun r => ?_⟩
                  exact .oL new _ _ (r.mono ev1)
                · rw [hx] at hos
                  have : aAppendRows P (dens h) new el ty.size b zs (.sO id 0 l1.length) ([].map ty.row) = some (.sO id 0 l1.length, dens h) := rfl
                  rw [this] at hos
                  rw [List.append_nil]
                  by_cases hl1 : l1 = []
                  · subst hl1
                    exfalso
                    revert hx hc3
                    cases ev X with
                    | sO a b c => intro hc3 _; have := of_decide_eq_true (hc3 _ (List.mem_singleton.2 rfl)); simp at this
                    | oL a b => intro _ hx; simp only [V.nf] at hx; split at hx
                                · cases hx
                                · rename_i q2; injection hx with _ _ q; exact q2 q
                    | _ => intro _ hx; cases hx
                  · refine hos.post fun {w ι} H => ?_
                    have hd : dens ((killX h (some id)).set new (.opt ty l1 el)) = ((dens h).set id .dead).set new (.live ⟨ty.size, l1.map ty.row, el⟩) := by
                      simp [killX, dens_set, XO.den, hl1]
                    rw [hd]
                    obtain ⟨l, c, fr, g1, la⟩ := H.live id _ ho
                    obtain ⟨H1, ev1⟩ := H.move ho g1 hfree (la.sz ▸ l.al)
                    refine ⟨_, H1, ev1, fun r => ?_⟩
                    have hn1 : ¬ l1.length = 0 := fun q => hl1 (List.length_eq_zero_iff.1 q)
                    refine .oL new _ _ ?_
                    rw [if_neg hn1]
                    exact rep_sO_move ho g1 la.sz (la.sz ▸ l.al) r
              · have hl2' : (l2.map ty.row).isEmpty = false := by cases l2 with
                  | nil => exact absurd rfl hl2
                  | cons _ _ => rfl
                have hne : ¬ (l1 ++ l2).length = 0 := by
                  intro q; apply hl2; apply List.length_eq_zero_iff.1; simp at q; simp [q.2]
                rcases hbase with ⟨rfl, hx, hk⟩ | ⟨id, rfl, hx, ho⟩
                · have hfin : aAppendRows P (dens h) new el ty.size b zs (ev X).nf (l2.map ty.row) = some (.sO new 0 l2.length, (dens h).set new (.live ⟨ty.size, l2.map ty.row, ⟨el, 1⟩⟩)) := by
                    rw [hx]
                    unfold aAppendRows
                    rw [hl2', if_neg (by simp), if_pos ⟨hzl, hall⟩]
                    simp only [isNilSlice]
                    rw [if_pos ⟨trivial, by simpa using hroom⟩, halloc_free hfree]
                    simp
                  rw [hfin] at hos
                  refine hos.post fun {w ι} H => ?_
                  have hd : dens ((killX h k).set new (.opt ty ([] ++ l2) el)) = ((dens h).set new (.live ⟨ty.size, l2.map ty.row, ⟨el, 1⟩⟩)).set new (.live ⟨ty.size, l2.map ty.row, el⟩) := by
                    rw [dens_set, set_dead hk, List.set_set]
                    simp [XO.den, hl2]
                  rw [hd]
                  obtain ⟨H1, ev1⟩ := H.weakF (List.getElem?_set_self (get_lt hfree)) (Nat.le_refl _)
                  refine ⟨ι, H1, ev1, fun r => .oL new _ _ ?_⟩
                  rw [if_neg hne]; exact r.mono ev1
                · have hfin : (some (V.sO new 0 (l1 ++ l2).length, dens ((killX h (some id)).set new (.opt ty (l1 ++ l2) el))) : Option (V × Heap)) = aAppendRows P (dens h) new el ty.size b zs (ev X).nf (l2.map ty.row) := by
                    rw [hx]
                    unfold aAppendRows
                    rw [hl2', if_neg (by simp), if_pos ⟨hzl, hall⟩]
                    simp only [ho]
                    have hne2 : id ≠ new := by intro q; subst q; rw [ho] at hfree; cases hfree
                    rw [if_pos ⟨trivial, ⟨rfl, .inl (Nat.zero_le _)⟩, by simp, by simpa using hroom⟩, halloc_free (by rw [List.getElem?_set_ne hne2]; exact hfree)]
                    have hemp : (l1 ++ l2).isEmpty = false := by cases l1 <;> cases l2 <;> simp_all
                    have htk : ((l1.map ty.row).drop 0).take l1.length = l1.map ty.row := by rw [List.drop_zero, List.take_of_length_le (by simp)]
                    simp only [htk, killX, dens_set, XO.den, hemp, List.map_append, List.length_append, List.length_map]
                    rfl
                  rw [← hfin] at hos
                  refine hos.post fun {w ι} H => ⟨ι, H, Evolve.refl _ _ _, fun r => .oL new _ _ ?_⟩
                  rw [if_neg hne]; exact r
            · cases e
          · cases e
        · cases e
      · cases e
    · cases e
  · cases e

theorem dappendS_os {P : Program} {h h' : List XO} {new : Nat} {X Y : Operand} {tys : Array TypeId} {ev : Operand → V} {z : V} {cs : List Bool} (e : dappendS P h new tys (ev X) (ev Y) = some (cs, z, h')) (hc : allT cs) (hn : h[new]? = some (.raw .free))
    {ι : Iota} {w : World} (H : HRel (dens h) ι w) {a : Act} (hev : ∀ x, Rep w ι (Mt (dens h) ι) (ev x) (a.eval x)) {o : Oper} {xa xb xc : Nat} (hX : ev X = .sO xa xb xc) (ho : o.op = .call ⟨.builtin .append, #[X, Y], tys⟩) (h2 : tys.size = 2) :
    OS P (dens h) ι w (execOp a.eval o) (some (z, dens h')) := by
  have hos := aop_soundE (P := P) H (fun x => (hev x).nf) o new
  have hop : aop P o.op (fun x => (ev x).nf) (dens h) new = aAppend P (dens h) new tys (ev X).nf (ev Y).nf := by
    rw [ho]; simp only [aop, List.map_cons, List.map_nil, aBuiltin]; rw [if_pos h2]
  rw [hop] at hos
  clear hop ho hev
  have hfree : (dens h)[new]? = some .free := by rw [dens_get, hn]; rfl
  unfold dappendS at e
  split at e
  · rename_i t0 t1 ht0 ht1
    split at e
    · rename_i el hu
      split at e
      · rename_i hst
        split at e
        · rename_i ty s b zs hty hs hb hz
          have hb := bytesL_ok hb
          split at e
          · rename_i hsz
            obtain ⟨hsz, hzl⟩ := hsz
            subst hsz
            split at e
            · rename_i c1 l1 k c2 l2 hbs hrd
              injection e with e; injection e with e1 e2; injection e2 with e2 e3; subst e1 e2 e3
              obtain ⟨hr1, hc⟩ := allT_cons hc
              obtain ⟨hr2, hc⟩ := allT_cons hc
              have hroom : roomOk (l1.length + l2.length) b = true := by
                have hr1 := of_decide_eq_true hr1
                have hr2 := of_decide_eq_true hr2
                simp only [roomOk, Bool.and_eq_true, decide_eq_true_eq]
                exact ⟨hr1, hr2⟩
              have hc1 : allT c1 := fun c q => hc c (List.mem_append.2 (.inl q))
              have hc2 : allT c2 := fun c q => hc c (List.mem_append.2 (.inr q))
              have hrows := rdX_ok hrd hc2
              have hbase := bsX_ok hbs hc1
              have happ : aAppend P (dens h) new tys (ev X).nf (ev Y).nf = aAppendRows P (dens h) new el ty.size b zs (ev X).nf (l2.map ty.row) := by
                unfold aAppend
                simp only [ht0, ht1, hu, hst, if_true, aAppendE, hs, hb, hz, hrows]
              rw [happ] at hos
              have hall : (l2.map ty.row).all (·.all leafOk) = true := by
                rw [List.all_eq_true]
                intro r hr
                obtain ⟨q, _, rfl⟩ := List.mem_map.1 hr
                exact ty.row_ok q [] rfl
              by_cases hl2 : l2 = []
              · subst hl2
                rcases hbase with ⟨rfl, hx, hk⟩ | ⟨id, rfl, hx, ho⟩
                · rw [hX] at hx; cases hx
                · rw [hx] at hos
                  have : aAppendRows P (dens h) new el ty.size b zs (.sO id 0 l1.length) ([].map ty.row) = some (.sO id 0 l1.length, dens h) := rfl
                  rw [this] at hos
                  rw [List.append_nil]
                  refine hos.post fun {w ι} H => ?_
                  have hd : dens ((killX h (some id)).set new (.tl ty l1 el)) = ((dens h).set id .dead).set new (.live ⟨ty.size, l1.map ty.row, el⟩) := by
                    simp [killX, dens_set, XO.den]
                  rw [hd]
                  obtain ⟨l, c, fr, g1, la⟩ := H.live id _ ho
                  obtain ⟨H1, ev1⟩ := H.move ho g1 hfree (la.sz ▸ l.al)
                  exact ⟨_, H1, ev1, fun r => rep_sO_move ho g1 la.sz (la.sz ▸ l.al) r⟩
              · have hl2' : (l2.map ty.row).isEmpty = false := by cases l2 with
                  | nil => exact absurd rfl hl2
                  | cons _ _ => rfl
                have hne : ¬ (l1 ++ l2).length = 0 := by
                  intro q; apply hl2; apply List.length_eq_zero_iff.1; simp at q; simp [q.2]
                have hfin : (some (V.sO new 0 (l1 ++ l2).length, dens ((killX h k).set new (.tl ty (l1 ++ l2) el))) : Option (V × Heap)) = aAppendRows P (dens h) new el ty.size b zs (ev X).nf (l2.map ty.row) := by
                  rcases hbase with ⟨rfl, hx, hk⟩ | ⟨id, rfl, hx, ho⟩
                  · rw [hX] at hx; cases hx
                  · rw [hx]
                    unfold aAppendRows
                    rw [hl2', if_neg (by simp), if_pos ⟨hzl, hall⟩]
                    simp only [ho]
                    have hne2 : id ≠ new := by intro q; subst q; rw [ho] at hfree; cases hfree
                    rw [if_pos ⟨trivial, ⟨rfl, .inl (Nat.zero_le _)⟩, by simp, by simpa using hroom⟩, halloc_free (by rw [List.getElem?_set_ne hne2]; exact hfree)]
                    have htk : ((l1.map ty.row).drop 0).take l1.length = l1.map ty.row := by rw [List.drop_zero, List.take_of_length_le (by simp)]
                    simp only [htk, killX, dens_set, XO.den, List.map_append, List.length_append, List.length_map]
                rw [← hfin] at hos
                exact hos
            · cases e
          · cases e
        · cases e
      · cases e
    · cases e
  · cases e

/- making -/
def sameOp : Operand → Operand → Bool
  | .tmp i, .tmp j => i == j
  | _, _ => false
def dmake (P : Program) (h : List XO) (new : Nat) (t : TypeId) (same : Bool) (n m : Int) : DR :=
  match P.underlying t with
  | some (.slice e) => match tyOf P 8 e, sizeT P e, zeroCellsV P e, bytesL P e with
    | some ty, some s, some zs, some b => if ty.size = s ∧ zs.length = s then match un (unPure 8) ty zs with
      | some (d, []) => some (decide (0 ≤ n) :: decide (m ≤ 281474976710656) :: decide ((b : Int) * m ≤ 281474976710656) :: (if same then [] else [decide (n ≤ m)]), .sO new 0 n.toNat, h.set new (.tl ty (List.replicate n.toNat d) e))
      | _ => none
      else none
    | _, _, _, _ => none
  | _ => none

theorem dmake_os {P : Program} {h h' : List XO} {new : Nat} {t : TypeId} {L C : Operand} {k k' : IntKind} {n m : Int} {ev : Operand → V} {z : V} {cs : List Bool} (hL : ev L = .v (.int k n)) (hC : ev C = .v (.int k' m))
    (e : dmake P h new t (sameOp L C) n m = some (cs, z, h')) (hc : allT cs) (hn : h[new]? = some (.raw .free))
    {ι : Iota} {w : World} (H : HRel (dens h) ι w) {a : Act} (hev : ∀ x, Rep w ι (Mt (dens h) ι) (ev x) (a.eval x)) {o : Oper} (ho : o.op = .makeSlice t L C) :
    OS P (dens h) ι w (execOp a.eval o) (some (z, dens h')) := by
  have hos := aop_soundE (P := P) H hev o new
  have hop : aop P o.op ev (dens h) new = aMakeSlice P (dens h) new t (ev L) (ev C) := by rw [ho]; rfl
  rw [hop, hL, hC] at hos
  have hnm : sameOp L C = true → n = m := by
    intro q
    cases L <;> cases C <;> simp [sameOp] at q
    subst q
    rw [hL] at hC; injection hC with hC; injection hC with _ hC
  clear hop ho hev
  have hfree : (dens h)[new]? = some .free := by rw [dens_get, hn]; rfl
  unfold dmake at e
  split at e
  · rename_i el hu
    split at e
    · rename_i ty s zs b hty hs hz hb
      have hb := bytesL_ok hb
      split at e
      · rename_i hsz
        obtain ⟨hsz, hzl⟩ := hsz
        subst hsz
        split at e
        · rename_i d hd
          injection e with e; injection e with e1 e2; injection e2 with e2 e3; subst e1 e2 e3
          obtain ⟨h0, hc⟩ := allT_cons hc
          obtain ⟨h1, hc⟩ := allT_cons hc
          obtain ⟨h2, hc⟩ := allT_cons hc
          have h0 := of_decide_eq_true h0
          have h1 := of_decide_eq_true h1
          have h2 := of_decide_eq_true h2
          have hnm' : n ≤ m := by
            by_cases q : sameOp L C = true
            · exact hnm q ▸ Int.le_refl _
            · rw [if_neg q] at hc; exact of_decide_eq_true (allT_cons hc).1
          have : aMakeSlice P (dens h) new t (.v (.int k n)) (.v (.int k' m)) = some (.sO new 0 n.toNat, (dens h).set new (.live ⟨ty.size, List.replicate n.toNat zs, el⟩)) := by
            simp only [aMakeSlice, hu, asIdx, hs, hz, hb]
            rw [if_pos ⟨hzl, h0, hnm', h1, h2⟩, halloc_free hfree]
          rw [this] at hos
          refine hos.post fun {w ι} H => ?_
          have hlt := get_lt hfree
          have hrow := un_row (unPure_ok 8) (fun _ => LE.refl _) hd
          have hd2 : dens (h.set new (.tl ty (List.replicate n.toNat d) el)) = ((dens h).set new (.live ⟨ty.size, List.replicate n.toNat zs, el⟩)).set new (.live ⟨ty.size, (List.replicate n.toNat d).map ty.row, el⟩) := by
            rw [dens_set]; simp [XO.den]
          rw [hd2]
          obtain ⟨H1, ev1⟩ := H.weakObj (id := new) (o := ⟨ty.size, List.replicate n.toNat zs, el⟩) (o' := ⟨ty.size, (List.replicate n.toNat d).map ty.row, el⟩) (by rw [List.getElem?_set_self hlt]) rfl rfl (by simp) (fun i r r' hr hr' => by
            simp [List.getElem?_replicate] at hr hr'
            obtain ⟨_, rfl⟩ := hr
            obtain ⟨_, rfl⟩ := hr'
            exact hrow)
          exact ⟨ι, H1, ev1, fun r => r.mono ev1⟩
        · cases e
      · cases e
    · cases e
  · cases e

def dtoBytes (P : Program) (h : List XO) (new : Nat) (s d : TypeId) (x : V) : DR :=
  match x, P.underlying s, P.underlying d with
  | .v (.string b), some .string, some (.slice e) => match P.underlying e with
    | some (.int .u8) => some ([], .sO new 0 b.size, h.set new (.tl (.int .u8) (toInts b) e))
    | _ => none
  | _, _, _ => none
theorem dtoBytes_ok {P : Program} {h h' : List XO} {new : Nat} {s d : TypeId} {X : Operand} {ev : Operand → V} {z : V} {cs : List Bool} (e : dtoBytes P h new s d (ev X) = some (cs, z, h')) (hn : h[new]? = some (.raw .free)) :
    AO P (.convert s d X) ev (dens h) new z (dens h') := by
  have hfree : (dens h)[new]? = some .free := by rw [dens_get, hn]; rfl
  unfold dtoBytes at e
  split at e
  · rename_i b el hx hs hd
    split at e
    · rename_i hel
      injection e with e; injection e with e1 e2; injection e2 with e2 e3; subst e1 e2 e3
      refine AO.of ?_
      show aConvert P _ new s d (ev X) = _
      rw [hx]
      simp only [aConvert, hd, hs, hel, aToBytes, halloc_free hfree, dens_set, XO.den]
      have : b.data.toList.map byteRow = (toInts b).map (Ty.row (.int .u8)) := by unfold toInts; rw [List.map_map]; rfl
      rw [this]; rfl
    · cases e
  · cases e

end Go.Abs
