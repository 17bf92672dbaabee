/- A run of closed code in the kernel: slots and objects lie in trees. Part 1: trees, the operations. -/
import Derived.Test.YtmlojnecmdnbpaaGreatDoorAbsRt
namespace Go.Abs
set_option linter.unusedVariables false
set_option linter.unusedSimpArgs false
noncomputable section

inductive Tr (α : Type) where
  | nil
  | node (l : Tr α) (v : Option α) (r : Tr α)
namespace Tr
variable {α : Type}
def get (t : Tr α) : Nat → Option α :=
  Tr.rec (motive := fun _ => Nat → Option α) (fun _ => none)
    (fun _ v _ gl gr n => bif Nat.beq n 0 then v else bif Nat.beq (n % 2) 1 then gl (n / 2) else gr (n / 2 - 1)) t
def put (x : α) (ih : Tr α → Nat → Tr α) (l : Tr α) (v : Option α) (r : Tr α) (n : Nat) : Tr α :=
  bif Nat.beq n 0 then .node l (some x) r else bif Nat.beq (n % 2) 1 then .node (ih l (n / 2)) v r else .node l v (ih r (n / 2 - 1))
def setF (x : α) (f : Nat) : Tr α → Nat → Tr α :=
  Nat.rec (motive := fun _ => Tr α → Nat → Tr α) (fun t _ => t)
    (fun _ ih t => Tr.rec (motive := fun _ => Nat → Tr α) (put x ih .nil none .nil) (fun l v r _ _ => put x ih l v r) t) f
def set (t : Tr α) (n : Nat) (x : α) : Tr α := setF x (n + 1) t n
theorem get_node (l r : Tr α) (v : Option α) (n : Nat) : (node l v r).get n = bif Nat.beq n 0 then v else bif Nat.beq (n % 2) 1 then l.get (n / 2) else r.get (n / 2 - 1) := rfl
theorem get_nil (n : Nat) : (nil : Tr α).get n = none := rfl
theorem beq_no {a b : Nat} (h : a ≠ b) : Nat.beq a b = false := by
  cases q : Nat.beq a b with
  | false => rfl
  | true => exact absurd (Nat.eq_of_beq_eq_true q) h
theorem beq_yes (a : Nat) : Nat.beq a a = true := Nat.beq_refl a
theorem get_node0 (l r : Tr α) (v : Option α) : (node l v r).get 0 = v := rfl
theorem get_node1 (l r : Tr α) (v : Option α) {n : Nat} (h : n % 2 = 1) : (node l v r).get n = l.get (n / 2) := by
  rw [get_node, beq_no (by omega), h, beq_yes]; rfl
theorem get_node2 (l r : Tr α) (v : Option α) {n : Nat} (h0 : n ≠ 0) (h : n % 2 ≠ 1) : (node l v r).get n = r.get (n / 2 - 1) := by
  rw [get_node, beq_no h0, beq_no h]; rfl
theorem get_setF (x : α) : ∀ (f : Nat) (t : Tr α) (n m : Nat), n < f → (setF x f t n).get m = if m = n then some x else t.get m
  | 0, _, n, _, h => absurd h (Nat.not_lt_zero n)
  | f + 1, t, n, m, h => by
    have key : ∀ (l r : Tr α) (v : Option α), (put x (setF x f) l v r n).get m = if m = n then some x else (node l v r).get m := by
      intro l r v
      unfold put
      by_cases h0 : n = 0
      · subst h0
        show (node l (some x) r).get m = _
        by_cases m0 : m = 0
        · subst m0; rfl
        · rw [if_neg m0]
          by_cases m1 : m % 2 = 1
          · rw [get_node1 _ _ _ m1, get_node1 _ _ _ m1]
          · rw [get_node2 _ _ _ m0 m1, get_node2 _ _ _ m0 m1]
      rw [beq_no h0]
      by_cases h1 : n % 2 = 1
      · rw [h1, beq_yes]
        show (node (setF x f l (n / 2)) v r).get m = _
        by_cases m0 : m = 0
        · subst m0; rw [if_neg (fun q => h0 q.symm)]; rfl
        by_cases m1 : m % 2 = 1
        · rw [get_node1 _ _ _ m1, get_node1 _ _ _ m1, get_setF x f l (n / 2) (m / 2) (by omega)]
          by_cases e : m = n
          · rw [if_pos e, if_pos (by omega)]
          · rw [if_neg e, if_neg (by omega)]
        · rw [get_node2 _ _ _ m0 m1, get_node2 _ _ _ m0 m1, if_neg (by omega)]
      · rw [beq_no h1]
        show (node l v (setF x f r (n / 2 - 1))).get m = _
        by_cases m0 : m = 0
        · subst m0; rw [if_neg (fun q => h0 q.symm)]; rfl
        by_cases m1 : m % 2 = 1
        · rw [get_node1 _ _ _ m1, get_node1 _ _ _ m1, if_neg (by omega)]
        · rw [get_node2 _ _ _ m0 m1, get_node2 _ _ _ m0 m1, get_setF x f r (n / 2 - 1) (m / 2 - 1) (by omega)]
          by_cases e : m = n
          · rw [if_pos e, if_pos (by omega)]
          · rw [if_neg e, if_neg (by omega)]
    cases t with
    | node l v r => exact key l r v
    | nil =>
      have e := key nil nil none
      have q : (node nil none nil : Tr α).get m = none := by
        by_cases m0 : m = 0
        · subst m0; rfl
        by_cases m1 : m % 2 = 1
        · rw [get_node1 _ _ _ m1]; rfl
        · rw [get_node2 _ _ _ m0 m1]; rfl
      rw [q] at e
      exact e
theorem get_set (t : Tr α) (n m : Nat) (x : α) : (t.set n x).get m = if m = n then some x else t.get m := get_setF x (n + 1) t n m (Nat.lt_succ_self n)
end Tr

/-- Objects in a tree; 'lg': the numbers of the objects that have been written. -/
structure RH where
  m : Nat
  nx : Nat
  t : Tr HS
  lg : List Nat
def RH.get (H : RH) (i : Nat) : Option HS := bif Nat.blt i H.m then some ((H.t.get i).getD .free) else none
def RH.set (H : RH) (i : Nat) (x : HS) : RH := ⟨H.m, H.nx, H.t.set i x, H.lg⟩
def RH.den (H : RH) : Heap := (List.range H.m).map fun i => (H.t.get i).getD .free
theorem den_len (H : RH) : H.den.length = H.m := by simp [RH.den]
theorem blt_yes {a b : Nat} (h : a < b) : Nat.blt a b = true := Nat.ble_eq_true_of_le h
theorem blt_no {a b : Nat} (h : ¬ a < b) : Nat.blt a b = false := by
  cases q : Nat.blt a b with
  | false => rfl
  | true => exact absurd (Nat.le_of_ble_eq_true q) h
theorem den_get (H : RH) (i : Nat) : H.den[i]? = H.get i := by
  unfold RH.den RH.get
  by_cases h : i < H.m
  · rw [blt_yes h, List.getElem?_map, List.getElem?_range h]; rfl
  · rw [blt_no h, List.getElem?_eq_none (by simpa using Nat.le_of_not_lt h)]; rfl
theorem den_set (H : RH) (i : Nat) (x : HS) : (H.set i x).den = H.den.set i x := by
  apply List.ext_getElem?
  intro j
  rw [den_get, List.getElem?_set, den_get, den_len]
  show (bif Nat.blt j H.m then some (((H.t.set i x).get j).getD .free) else none) = _
  by_cases h : j < H.m
  · rw [blt_yes h, Tr.get_set]
    by_cases e : i = j
    · rw [if_pos e, if_pos e.symm, if_pos (by omega)]; rfl
    · rw [if_neg e, if_neg (fun q => e q.symm)]; simp only [RH.get, blt_yes h]
  · rw [blt_no h]
    split
    · rw [if_neg (by omega)]; rfl
    · simp only [RH.get, blt_no h]; rfl
def ralloc (H : RH) (new : Nat) (o : AObj) : Option RH := match H.get new with
  | some .free => some (H.set new (.live o))
  | _ => none
theorem ralloc_ok {H H' : RH} {new : Nat} {o : AObj} (h : ralloc H new o = some H') : halloc H.den new o = some H'.den ∧ H'.m = H.m := by
  unfold ralloc at h
  split at h
  · rename_i q
    injection h with h; subst h
    unfold halloc
    rw [den_get, q, den_set]
    exact ⟨rfl, rfl⟩
  · cases h

/- the operations -/
def rRow (H : RH) : V → Option (List V × Nat)
  | .pF row off => some (row, off)
  | .pO id r off => match H.get id with
    | some (.live o) => match o.rows[r]? with
      | some row => some (row, off)
      | none => none
    | _ => none
  | _ => none
theorem rRow_ok (H : RH) (p : V) : rowAt H.den p = rRow H p := by
  cases p <;> simp only [rowAt, rRow, den_get] <;> rfl
def rLoad (P : Program) (H : RH) (t : TypeId) (p : V) : Option V := match rRow H p with
  | some (row, off) => readAt P t row off
  | none => none
theorem rLoad_ok {P : Program} {H : RH} {t : TypeId} {p x : V} (h : rLoad P H t p = some x) : aLoad P H.den t p = some (x, H.den) := by
  unfold rLoad at h
  unfold aLoad
  rw [rRow_ok]
  split at h
  · rename_i row off q; simp only [q, h]
  · cases h
def rBox (H : RH) (new : Nat) (elem : TypeId) (x : V) : Option (V × RH) := match leaves x with
  | some ls => match ralloc H new ⟨ls.length, [ls], elem⟩ with
    | some h' => some (.pO new 0 0, h')
    | none => none
  | none => none
theorem rBox_ok {H H' : RH} {new : Nat} {elem : TypeId} {x y : V} (h : rBox H new elem x = some (y, H')) : aBox H.den new elem x = some (y, H'.den) ∧ H'.m = H.m := by
  unfold rBox at h
  unfold aBox
  split at h
  · rename_i ls hl
    split at h
    · rename_i H2 e2
      injection h with h; injection h with h1 h2; subst h1 h2
      obtain ⟨a, b⟩ := ralloc_ok e2
      simp only [hl, a, b, and_self]
    · cases h
  · cases h
def rStore (P : Program) (H : RH) (t : TypeId) (p x : V) : Option RH := match p, leaves x, sizeT P t with
  | .pO id r off, some ls, some n => bif Nat.beq ls.length n && ls.all leafOk then match H.get id with
      | some (.live o) => match o.rows[r]? with
        | some row => bif Nat.ble (off + n) row.length && Nat.ble o.elem.fz 1 then some (H.set id (.live { o with rows := o.rows.set r (row.take off ++ ls ++ row.drop (off + n)) })) else none
        | none => none
      | _ => none
    else none
  | _, _, _ => none
theorem rStore_ok {P : Program} {H H' : RH} {t : TypeId} {p x : V} (h : rStore P H t p x = some H') : aStore P H.den t p x = some (.any, H'.den) ∧ H'.m = H.m := by
  unfold rStore at h
  split at h
  · rename_i id r off ls n hl hn
    cases q : (Nat.beq ls.length n && ls.all leafOk) with
    | false => rw [q] at h; cases h
    | true =>
      rw [q] at h
      simp only [cond_true] at h
      obtain ⟨q1, q2⟩ := Bool.and_eq_true_iff.1 q
      split at h
      · rename_i o ho
        split at h
        · rename_i row hr
          cases q3 : (Nat.ble (off + n) row.length && Nat.ble o.elem.fz 1) with
          | false => rw [q3] at h; cases h
          | true =>
            rw [q3] at h
            simp only [cond_true] at h
            injection h with h; subst h
            obtain ⟨q4, q5⟩ := Bool.and_eq_true_iff.1 q3
            unfold aStore
            simp only [hl, hn, den_get, ho, hr, Nat.eq_of_beq_eq_true q1, q2, Nat.le_of_ble_eq_true q4, Nat.le_of_ble_eq_true q5, and_self, if_true, den_set]
            exact ⟨trivial, rfl⟩
        · cases h
      · cases h
  · cases h
def rBuildSlice (P : Program) (H : RH) (new : Nat) (t : TypeId) (len : Nat) (ps : List (Nat × V)) : Option (V × RH) :=
  match P.underlying t with
  | some (.slice elem) => match sizeT P elem, zeroCellsV P elem with
    | some size, some zs => bif Nat.beq zs.length size && Nat.ble (len * size) 16777216 then
        match afill (fun i => some (i * size, size)) (repl len zs) ps with
        | some ls => match ralloc H new ⟨size, chunk size len ls, elem⟩ with
          | some h' => some (.sO new 0 len, h')
          | none => none
        | none => none
      else none
    | _, _ => none
  | _ => none
theorem rBuildSlice_ok {P : Program} {H H' : RH} {new : Nat} {t : TypeId} {len : Nat} {ps : List (Nat × V)} {y : V} (h : rBuildSlice P H new t len ps = some (y, H')) : aBuildSlice P H.den new t len ps = some (y, H'.den) ∧ H'.m = H.m := by
  unfold rBuildSlice at h
  unfold aBuildSlice
  split at h
  · rename_i elem hu
    split at h
    · rename_i size zs h1 h2
      cases q : (Nat.beq zs.length size && Nat.ble (len * size) 16777216) with
      | false => rw [q] at h; cases h
      | true =>
        rw [q] at h
        simp only [cond_true] at h
        obtain ⟨q1, q2⟩ := Bool.and_eq_true_iff.1 q
        split at h
        · rename_i ls hl
          split at h
          · rename_i H2 h4
            injection h with h; injection h with h5 h6; subst h5 h6
            obtain ⟨a, b⟩ := ralloc_ok h4
            have q3 := Nat.le_of_ble_eq_true q2
            simp only [hu, h1, h2]
            rw [if_pos ⟨Nat.eq_of_beq_eq_true q1, q3⟩]
            simp only [hl, a, b, and_self]
          · cases h
        · cases h
    · cases h
  · cases h
def rMakeSlice (P : Program) (H : RH) (new : Nat) (t : TypeId) (l c : V) : Option (V × RH) :=
  match P.underlying t, asIdx l, asIdx c with
  | some (.slice elem), some n, some m => match sizeT P elem, zeroCellsV P elem, bytesT P elem with
    | some size, some zs, some b => if zs.length = size ∧ 0 ≤ n ∧ n ≤ m ∧ m ≤ 2 ^ 48 ∧ b * m ≤ 2 ^ 48 then
        match ralloc H new ⟨size, List.replicate n.toNat zs, elem⟩ with
        | some h' => some (.sO new 0 n.toNat, h')
        | none => none
      else none
    | _, _, _ => none
  | _, _, _ => none
theorem rMakeSlice_ok {P : Program} {H H' : RH} {new : Nat} {t : TypeId} {l c y : V} (h : rMakeSlice P H new t l c = some (y, H')) : aMakeSlice P H.den new t l c = some (y, H'.den) ∧ H'.m = H.m := by
  unfold rMakeSlice at h
  unfold aMakeSlice
  split at h
  · rename_i e n m h1 h2 h3
    split at h
    · rename_i s zs b h4 h5 h6
      split at h
      · rename_i hc
        split at h
        · rename_i H2 h7
          injection h with h; injection h with h8 h9; subst h8 h9
          obtain ⟨a, b⟩ := ralloc_ok h7
          simp only [h1, h2, h3, h4, h5, h6]
          rw [if_pos hc]
          simp only [a, b, and_self]
        · cases h
      · cases h
    · cases h
  · cases h
def rIndexAddr (P : Program) (H : RH) (t : TypeId) (x i : V) : Option V :=
  match x with
  | .sO id off len => match asIdx i with
    | none => none
    | some n => match P.underlying t with
      | some (.slice elem) => match sizeT P elem with
        | none => none
        | some s => match H.get id with
          | some (.live o) => if o.sz = s ∧ 0 ≤ n ∧ n < len then some (.pO id (off + n.toNat) 0) else none
          | _ => none
      | _ => none
  | x => match aIndexAddr P [] t x i with
    | some (y, _) => some y
    | none => none
theorem rIndexAddr_ok {P : Program} {H : RH} {t : TypeId} {x i y : V} (h : rIndexAddr P H t x i = some y) : aIndexAddr P H.den t x i = some (y, H.den) := by
  unfold rIndexAddr at h
  split at h
  · split at h
    · cases h
    · rename_i n hn
      split at h
      · rename_i e hu
        split at h
        · cases h
        · rename_i s hs
          split at h
          · rename_i o ho
            split at h
            · rename_i hc
              injection h with h; subst h
              unfold aIndexAddr
              simp only [hn, hu, hs, den_get, ho, hc, and_self, if_true]
            · cases h
          · cases h
      · cases h
  · rename_i hx
    split at h
    · rename_i z k hz
      injection h with h; subst h
      unfold aIndexAddr at hz ⊢
      (repeat' split at hz) <;> simp_all
    · cases h
def rSlice (P : Program) (H : RH) (t : TypeId) (x : V) (lo hi : Option V) : Option V :=
  match x with
  | .sO id off len => match P.underlying t, bound lo 0, bound hi len with
    | some (.slice elem), some l, some u => match sizeT P elem, H.get id with
      | some s, some (.live o) => bif Nat.beq o.sz s && Nat.ble l u && Nat.ble u len then
          bif Nat.beq l u && !Nat.beq l 0 then some (.sF s []) else some (.sO id (off + l) (u - l))
        else none
      | _, _ => none
    | _, _, _ => none
  | x => match aSlice P [] t x lo hi with
    | some (y, _) => some y
    | none => none
theorem rSlice_ok {P : Program} {H : RH} {t : TypeId} {x y : V} {lo hi : Option V} (h : rSlice P H t x lo hi = some y) : aSlice P H.den t x lo hi = some (y, H.den) := by
  unfold rSlice at h
  split at h
  · split at h
    · rename_i e l u h1 h2 h3
      split at h
      · rename_i s o h4 h5
        unfold aSlice
        simp only [h1, h2, h3, h4, h5, den_get]
        cases q : (Nat.beq o.sz s && Nat.ble l u && Nat.ble u _) with
        | false => rw [q] at h; cases h
        | true =>
          rw [q] at h
          simp only [cond_true] at h
          obtain ⟨q1, q2⟩ := Bool.and_eq_true_iff.1 q
          obtain ⟨q3, q4⟩ := Bool.and_eq_true_iff.1 q1
          rw [if_pos ⟨Nat.eq_of_beq_eq_true q3, Nat.le_of_ble_eq_true q4, Nat.le_of_ble_eq_true q2⟩]
          cases q5 : (Nat.beq l u && !Nat.beq l 0) with
          | true =>
            rw [q5] at h
            injection h with h; subst h
            obtain ⟨q6, q7⟩ := Bool.and_eq_true_iff.1 q5
            rw [if_pos ⟨Nat.eq_of_beq_eq_true q6, fun e => by rw [e] at q7; cases q7⟩]
          | false =>
            rw [q5] at h
            injection h with h; subst h
            rw [if_neg]
            rintro ⟨a, b⟩
            rw [a, Tr.beq_yes, Tr.beq_no (by rw [← a]; exact b)] at q5
            cases q5
      · cases h
    · cases h
  · rename_i hx
    split at h
    · rename_i z k hz
      injection h with h; subst h
      unfold aSlice at hz ⊢
      (repeat' split at hz) <;> simp_all
    · cases h
def rRows (H : RH) (s : Nat) (y : V) : Option (List (List V)) :=
  match y with
  | .sF sz rows => if sz = s then some rows else none
  | .sO id off len => match H.get id with
    | some (.live o) => if o.sz = s ∧ off + len ≤ o.rows.length then some ((o.rows.drop off).take len) else none
    | _ => none
  | .v (.slice none 0 0) => some []
  | .v (.string b) => if s = 1 then some (b.data.toList.map byteRow) else none
  | _ => none
theorem rRows_ok (H : RH) (s : Nat) (y : V) : rowsOf H.den s y = rRows H s y := by
  unfold rowsOf rRows
  simp only [den_get]
  rfl
def rAppRows (H : RH) (new : Nat) (elem : TypeId) (s b : Nat) (zs : List V) (x : V) (rows : List (List V)) : Option (V × RH) :=
  bif rows.isEmpty then
    match x with
    | .v q => if isNilSlice (.v q) then some (.v q, H) else none
    | .sF a c => some (.sF a c, H)
    | .sO a c d => some (.sO a c d, H)
    | _ => none
  else bif Nat.beq zs.length s && rows.all (·.all leafOk) then
    match x with
    | .v q => if isNilSlice (.v q) ∧ roomOk rows.length b = true then
        match ralloc H new ⟨s, rows, ⟨elem, 1⟩⟩ with
        | some h' => some (.sO new 0 rows.length, h')
        | none => none
      else none
    | .sO id off len => match H.get id with
      | some (.live o) => if o.sz = s ∧ apOk o.elem elem off (len * s) ∧ off + len ≤ o.rows.length ∧ roomOk (len + rows.length) b = true then
          match ralloc (H.set id .dead) new ⟨s, (o.rows.drop off).take len ++ rows, o.elem⟩ with
          | some h' => some (.sO new 0 (len + rows.length), h')
          | none => none
        else none
      | _ => none
    | _ => none
  else none
theorem rAppRows_ok {P : Program} {H H' : RH} {new : Nat} {elem : TypeId} {s b : Nat} {zs : List V} {x y : V} {rows : List (List V)} (h : rAppRows H new elem s b zs x rows = some (y, H')) : aAppendRows P H.den new elem s b zs x rows = some (y, H'.den) ∧ H'.m = H.m := by
  unfold rAppRows at h
  unfold aAppendRows
  cases q : rows.isEmpty with
  | true =>
    rw [q] at h
    simp only [cond_true] at h
    simp only [if_true]
    split at h
    · split at h
      · rename_i hc
        injection h with h; injection h with h1 h2; subst h1 h2
        exact ⟨if_pos hc, rfl⟩
      · cases h
    · injection h with h; injection h with h1 h2; subst h1 h2; exact ⟨rfl, rfl⟩
    · injection h with h; injection h with h1 h2; subst h1 h2; exact ⟨rfl, rfl⟩
    · cases h
  | false =>
    rw [q] at h
    simp only [cond_false] at h
    rw [if_neg (by simp)]
    cases q2 : (Nat.beq zs.length s && rows.all (·.all leafOk)) with
    | false => rw [q2] at h; cases h
    | true =>
      rw [q2] at h
      simp only [cond_true] at h
      obtain ⟨q3, q4⟩ := Bool.and_eq_true_iff.1 q2
      rw [if_pos ⟨Nat.eq_of_beq_eq_true q3, q4⟩]
      split at h
      · split at h
        · rename_i hc
          split at h
          · rename_i H2 e2
            injection h with h; injection h with h1 h2; subst h1 h2
            obtain ⟨a, b⟩ := ralloc_ok e2
            simp only
            rw [if_pos hc]
            simp only [a, b, and_self]
          · cases h
        · cases h
      · split at h
        · rename_i o ho
          split at h
          · rename_i hc
            split at h
            · rename_i H2 e2
              injection h with h; injection h with h1 h2; subst h1 h2
              obtain ⟨a, b⟩ := ralloc_ok e2
              rw [den_set] at a
              simp only [den_get, ho]
              rw [if_pos hc]
              simp only [a, b, true_and]
              rfl
            · cases h
          · cases h
        · cases h
      · cases h
def rAppend (P : Program) (H : RH) (new : Nat) (argTypes : Array TypeId) (x y : V) : Option (V × RH) :=
  match argTypes[0]?, argTypes[1]? with
  | some sT, some xT => match P.underlying sT with
    | some (.slice elem) => bif isStrOrSlice P xT then (match sizeT P elem, bytesT P elem, zeroCellsV P elem with
      | some s, some b, some zs => match rRows H s y with
        | some rows => rAppRows H new elem s b zs x rows
        | none => none
      | _, _, _ => none) else none
    | _ => none
  | _, _ => none
theorem rAppend_ok {P : Program} {H H' : RH} {new : Nat} {tys : Array TypeId} {x y z : V} (h : rAppend P H new tys x y = some (z, H')) : aAppend P H.den new tys x y = some (z, H'.den) ∧ H'.m = H.m := by
  unfold rAppend at h
  unfold aAppend
  split at h
  · rename_i sT xT h1 h2
    split at h
    · rename_i e hu
      cases q : isStrOrSlice P xT with
      | false => rw [q] at h; cases h
      | true =>
        rw [q] at h
        simp only [cond_true] at h
        split at h
        · rename_i s b zs h3 h4 h5
          split at h
          · rename_i rows hr
            have := rAppRows_ok (P := P) h
            simp only [h1, h2, hu, q, if_true, aAppendE, h3, h4, h5, rRows_ok, hr]
            exact this
          · cases h
        · cases h
    · cases h
  · cases h
def rClear (P : Program) (H : RH) (t : TypeId) (x : V) : Option RH :=
  match P.underlying t with
  | some (.slice elem) => match x with
    | .sF _ [] => some H
    | .v (.slice none 0 0) => some H
    | .sO id off len => match H.get id, zeroCellsV P elem with
      | some (.live o), some zs => if len = 0 then some H else if zs.length = o.sz ∧ off + len ≤ o.rows.length ∧ zs.all leafOk = true ∧ o.elem.fz ≤ 1 then
          some (H.set id (.live (putRows o off (List.replicate len zs))))
        else none
      | _, _ => none
    | _ => none
  | _ => none
theorem rClear_ok {P : Program} {H H' : RH} {t : TypeId} {x : V} (h : rClear P H t x = some H') : aClear P H.den t x = some (.tup [], H'.den) ∧ H'.m = H.m := by
  unfold rClear at h
  unfold aClear
  split at h
  · rename_i e hu
    split at h
    · injection h with h; subst h; simp only [hu]; exact ⟨trivial, trivial⟩
    · injection h with h; subst h; simp only [hu]; exact ⟨trivial, trivial⟩
    · split at h
      · rename_i o zs h1 h2
        split at h
        · rename_i h0
          injection h with h; subst h
          simp only [hu, den_get, h1, h2, h0, if_true, and_self]
        · rename_i h0
          split at h
          · rename_i hc
            injection h with h; subst h
            simp only [hu, den_get, h1, h2, h0, if_false, den_set]
            rw [if_pos hc]
            exact ⟨rfl, rfl⟩
          · cases h
      · cases h
    · cases h
  · cases h
def rCopy (P : Program) (H : RH) (t : TypeId) (x y : V) : Option (V × RH) :=
  match P.underlying t with
  | some (.slice elem) => match sizeT P elem with
    | some s => match rRows H s y with
      | some rows => match x with
        | .sF _ [] => some (.v (.int .i64 0), H)
        | .v (.slice none 0 0) => some (.v (.int .i64 0), H)
        | .sO id off len => match H.get id with
          | some (.live o) => if o.sz = s ∧ off + len ≤ o.rows.length ∧ (rows.take len).all (·.all leafOk) = true ∧ o.elem.fz ≤ 1 then
              some (.v (.int .i64 (rows.take len).length), H.set id (.live (putRows o off (rows.take len))))
            else none
          | _ => none
        | _ => none
      | none => none
    | none => none
  | _ => none
theorem rCopy_ok {P : Program} {H H' : RH} {t : TypeId} {x y z : V} (h : rCopy P H t x y = some (z, H')) : aCopy P H.den t x y = some (z, H'.den) ∧ H'.m = H.m := by
  unfold rCopy at h
  unfold aCopy
  split at h
  · rename_i e hu
    split at h
    · rename_i s hs
      split at h
      · rename_i rows hr
        simp only [hu, hs, rRows_ok, hr]
        split at h
        · injection h with h; injection h with h1 h2; subst h1 h2; exact ⟨rfl, rfl⟩
        · injection h with h; injection h with h1 h2; subst h1 h2; exact ⟨rfl, rfl⟩
        · split at h
          · rename_i o ho
            split at h
            · rename_i hc
              injection h with h; injection h with h1 h2; subst h1 h2
              simp only [den_get, ho, den_set]
              rw [if_pos hc]
              exact ⟨rfl, rfl⟩
            · cases h
          · cases h
        · cases h
      · cases h
    · cases h
  · cases h
def rToString (H : RH) (x : V) : Option V := match rRows H 1 x with
  | some rows => match bytesOf rows with
    | some bs => some (str bs)
    | none => none
  | none => none
theorem rToString_ok {H : RH} {x y : V} (h : rToString H x = some y) : aToString H.den x = some (y, H.den) := by
  unfold rToString at h
  unfold aToString
  rw [rRows_ok]
  split at h
  · rename_i rows h1
    split at h
    · rename_i bs h2
      injection h with h; subst h
      simp only [h1, h2]
    · cases h
  · cases h
def isBytesT (P : Program) (t : TypeId) : Bool := match P.underlying t with
  | some (.slice e) => match P.underlying e with
    | some (.int .u8) => true
    | _ => false
  | _ => false
def keepH (H : RH) : Option V → Option (V × RH)
  | some x => some (x, H)
  | none => none
def rConvert (P : Program) (H : RH) (new : Nat) (src dst : TypeId) (x : V) : Option (V × RH) :=
  match P.underlying dst, x with
  | some (.slice e), .v (.string b) => match P.underlying src, P.underlying e with
    | some .string, some (.int .u8) => match ralloc H new ⟨1, b.data.toList.map byteRow, e⟩ with
      | some h' => some (.sO new 0 b.size, h')
      | none => none
    | _, _ => none
  | some .string, .v (.slice none 0 0) => bif isBytesT P src then keepH H (rToString H x) else none
  | some .string, .sF _ _ => bif isBytesT P src then keepH H (rToString H x) else none
  | some .string, .sO _ _ _ => bif isBytesT P src then keepH H (rToString H x) else none
  | some .unsafePointer, .pO id r 0 => match P.underlying src, H.get id with
    | some (.pointer t), some (.live o) => bif toOk P t o r then some (.pO id r 0, H) else none
    | _, _ => none
  | some (.pointer u), .pO id r 0 => match P.underlying src, H.get id with
    | some .unsafePointer, some (.live o) => bif fromOk P u o r then some (.pO id r 0, H) else none
    | _, _ => none
  | _, .v y => match pureRun P (convert src dst y) with
    | some z => some (ofValue z, H)
    | none => none
  | _, _ => none
theorem rConvert_ok {P : Program} {H H' : RH} {new : Nat} {s d : TypeId} {x y : V} (h : rConvert P H new s d x = some (y, H')) : aConvert P H.den new s d x = some (y, H'.den) ∧ H'.m = H.m := by
  have bs : ∀ {z : V}, (bif isBytesT P s then keepH H (rToString H z) else none) = some (y, H') → ∃ e, P.underlying s = some (.slice e) ∧ P.underlying e = some (.int .u8) ∧ aToString H.den z = some (y, H.den) ∧ H' = H := by
    intro z q
    cases hb : isBytesT P s with
    | false => rw [hb] at q; cases q
    | true =>
      rw [hb] at q
      simp only [cond_true] at q
      unfold isBytesT at hb
      split at hb
      · rename_i e he
        split at hb
        · rename_i he2
          cases hr : rToString H z with
          | none => rw [hr] at q; cases q
          | some u =>
            rw [hr] at q
            injection q with q; injection q with q1 q2; subst q1 q2
            exact ⟨e, he, he2, rToString_ok hr, rfl⟩
        · cases hb
      · cases hb
  unfold rConvert at h
  unfold aConvert
  split at h
  · rename_i e b hd
    split at h
    · rename_i h1 h2
      split at h
      · rename_i H2 h3
        injection h with h; injection h with h4 h5; subst h4 h5
        obtain ⟨a, c⟩ := ralloc_ok h3
        simp only [hd, h1, h2, aToBytes, a, c, and_self]
      · cases h
    · cases h
  · rename_i hd
    obtain ⟨e, e1, e2, e3, rfl⟩ := bs h
    simp only [hd, e1, e2, e3, and_self]
  · rename_i hd
    obtain ⟨e, e1, e2, e3, rfl⟩ := bs h
    simp only [hd, e1, e2, e3, and_self]
  · rename_i hd
    obtain ⟨e, e1, e2, e3, rfl⟩ := bs h
    simp only [hd, e1, e2, e3, and_self]
  · rename_i hd
    split at h
    · rename_i t o h1 h2
      cases q : toOk P t o _ with
      | false => rw [q] at h; cases h
      | true =>
        rw [q] at h
        injection h with h; injection h with h4 h5; subst h4 h5
        simp only [hd, h1, den_get, h2, q, and_self]
    · cases h
  · rename_i hd
    split at h
    · rename_i o h1 h2
      cases q : fromOk P _ o _ with
      | false => rw [q] at h; cases h
      | true =>
        rw [q] at h
        injection h with h; injection h with h4 h5; subst h4 h5
        simp only [hd, h1, den_get, h2, q, and_self]
    · cases h
  · rename_i q n1 n2
    split at h
    · rename_i z hz
      injection h with h; injection h with h4 h5; subst h4 h5
      refine ⟨?_, rfl⟩
      split
      · rename_i el b hd q1; injection q1 with q1; exact (n1 el b hd q1).elim
      · rename_i hd q1; injection q1 with q1; exact (n2 hd q1).elim
      · rename_i q1; cases q1
      · rename_i q1; cases q1
      · rename_i q1; cases q1
      · rename_i q1; cases q1
      · rename_i q1 _ _; injection q1 with q1; subst q1; rw [hz]
      · rename_i n6 _ _ _; first | exact (n6 q rfl).elim | simp_all
    · cases h
  · cases h
/-- An operation that does not look at the objects. -/
def rKeep (H : RH) : Option (V × Heap) → Option (V × RH)
  | some (x, _) => some (x, H)
  | none => none
def rBuiltin (P : Program) (H : RH) (new : Nat) (b : Builtin) (argTypes : Array TypeId) (xs : List V) : Option (V × RH) :=
  match b, xs with
  | .append, [x, y] => bif Nat.beq argTypes.size 2 then rAppend P H new argTypes x y else none
  | .clear, [x] => match argTypes with
    | ⟨[t]⟩ => match rClear P H t x with
      | some h => some (.tup [], h)
      | none => none
    | _ => none
  | .copy, [x, y] => match argTypes with
    | ⟨[t, _]⟩ => rCopy P H t x y
    | _ => none
  | .append, _ => none
  | .clear, _ => none
  | .copy, _ => none
  | b, xs => rKeep H (aBuiltin P [] 0 b argTypes xs)
theorem rBuiltin_ok {P : Program} {H H' : RH} {new : Nat} {b : Builtin} {tys : Array TypeId} {xs : List V} {y : V} (h : rBuiltin P H new b tys xs = some (y, H')) : aBuiltin P H.den new b tys xs = some (y, H'.den) ∧ H'.m = H.m := by
  unfold rBuiltin at h
  split at h
  · rename_i x z
    cases q : Nat.beq tys.size 2 with
    | false => rw [q] at h; cases h
    | true =>
      rw [q] at h
      have := rAppend_ok h
      simp only [aBuiltin, Nat.eq_of_beq_eq_true q, if_true]
      exact this
  · rename_i x
    split at h
    · rename_i t
      split at h
      · rename_i H2 h2
        injection h with h; injection h with h4 h5; subst h4 h5
        exact rClear_ok h2
      · cases h
    · cases h
  · rename_i x z
    split at h
    · exact rCopy_ok h
    · cases h
  · cases h
  · cases h
  · cases h
  · rename_i n1 n2 n3 n4 n5 n6
    cases e : aBuiltin P [] 0 b tys xs with
    | none => rw [e] at h; cases h
    | some r =>
      obtain ⟨x, k⟩ := r
      rw [e] at h
      injection h with h; injection h with h4 h5; subst h4 h5
      refine ⟨?_, rfl⟩
      unfold aBuiltin at e ⊢
      split at e
      · split at e
        · simp only [aLen] at e ⊢
          (repeat' split at e) <;> simp_all
        · cases e
      · first | exact (n1 _ _ rfl rfl).elim | simp_all
      · first | exact (n2 _ rfl rfl).elim | simp_all
      · first | exact (n3 _ _ rfl rfl).elim | simp_all
      · simp only [aMinMax] at e ⊢
        (repeat' split at e) <;> simp_all
      · simp only [aMinMax] at e ⊢
        (repeat' split at e) <;> simp_all
      · cases e
def rop (P : Program) (op : Op) (ρ : Operand → V) (H : RH) (new : Nat) : Option (V × RH) :=
  match op with
  | .load t p => keepH H (rLoad P H t (ρ p))
  | .store t p x => match rStore P H t (ρ p) (ρ x) with
    | some h => some (.any, h)
    | none => none
  | .indexAddr t x i => keepH H (rIndexAddr P H t (ρ x) (ρ i))
  | .call ⟨callee, args, tys⟩ => match callee with
    | .builtin b => rBuiltin P H new b tys (args.toList.map ρ)
    | .value f => rKeep H (aExtern P [] (ρ f) (args.toList.map ρ))
    | _ => none
  | .convert s d x => rConvert P H new s d (ρ x)
  | .slice t x lo hi none => (match ρ x with
    | .v y => rKeep H (aop P (.slice t x lo hi none) ρ [] 0)
    | x => keepH H (rSlice P H t x (lo.map ρ) (hi.map ρ)))
  | .box e x => rBox H new e (ρ x)
  | .alloc e => match zeroV P e with
    | some z => rBox H new e z
    | none => none
  | .buildSlice t n ps => rBuildSlice P H new t n (ps.toList.map fun p => (p.1, ρ p.2))
  | .makeSlice t l c => rMakeSlice P H new t (ρ l) (ρ c)
  | op => rKeep H (aop P op ρ [] 0)
theorem keepH_some {H H' : RH} {r : Option V} {x : V} (h : keepH H r = some (x, H')) : r = some x ∧ H' = H := by
  cases r with
  | none => cases h
  | some y => injection h with h; injection h with h1 h2; subst h1 h2; exact ⟨rfl, rfl⟩
theorem rKeep_some {H H' : RH} {r : Option (V × Heap)} {x : V} (h : rKeep H r = some (x, H')) : (∃ k, r = some (x, k)) ∧ H' = H := by
  cases r with
  | none => cases h
  | some y => obtain ⟨y, k⟩ := y; injection h with h; injection h with h1 h2; subst h1 h2; exact ⟨⟨k, rfl⟩, rfl⟩
theorem rop_ok {P : Program} {op : Op} {ρ : Operand → V} {H H' : RH} {new : Nat} {x : V} (h : rop P op ρ H new = some (x, H')) : aop P op ρ H.den new = some (x, H'.den) ∧ H'.m = H.m := by
  have neut : (∀ {k : Heap}, aop P op ρ [] 0 = some (x, k) → aop P op ρ H.den new = some (x, H.den)) → rKeep H (aop P op ρ [] 0) = some (x, H') → aop P op ρ H.den new = some (x, H'.den) ∧ H'.m = H.m := by
    intro f q
    obtain ⟨⟨k, hk⟩, rfl⟩ := rKeep_some q
    exact ⟨f hk, rfl⟩
  cases op with
  | load t p =>
    obtain ⟨h1, rfl⟩ := keepH_some h
    exact ⟨rLoad_ok h1, rfl⟩
  | store t p y =>
    simp only [rop] at h
    split at h
    · rename_i H2 h2
      injection h with h; injection h with h4 h5; subst h4 h5
      exact rStore_ok h2
    · cases h
  | indexAddr t y i =>
    obtain ⟨h1, rfl⟩ := keepH_some h
    exact ⟨rIndexAddr_ok h1, rfl⟩
  | call c =>
    obtain ⟨callee, args, tys⟩ := c
    cases callee with
    | builtin b => exact rBuiltin_ok h
    | value f =>
      refine neut (fun e => ?_) h
      simp only [aop, aExtern] at e ⊢
      (repeat' split at e) <;> simp_all
    | _ => cases h
  | convert s d y => exact rConvert_ok h
  | slice t y lo hi mx =>
    cases mx with
    | some m => exact neut (fun e => by cases e) h
    | none =>
      simp only [rop] at h
      split at h
      · rename_i z hz
        refine neut (fun e => ?_) h
        simp only [aop, hz] at e ⊢
        (repeat' split at e) <;> simp_all
      · rename_i hz
        obtain ⟨h1, rfl⟩ := keepH_some h
        have := rSlice_ok h1
        refine ⟨?_, rfl⟩
        cases hy : ρ y with
        | v z => exact (hz z hy).elim
        | _ => simp only [aop, hy]; rw [hy] at this; exact this
  | box e y => exact rBox_ok h
  | alloc e =>
    simp only [rop] at h
    split at h
    · rename_i z hz
      have := rBox_ok h
      simp only [aop, aAlloc, hz]
      exact this
    · cases h
  | buildSlice t n ps => exact rBuildSlice_ok h
  | makeSlice t l c => exact rMakeSlice_ok h
  | build t ps =>
    refine neut (fun e => ?_) h
    have : aBuild P H.den t (ps.toList.map fun p => (p.1, ρ p.2)) = (aBuild P [] t (ps.toList.map fun p => (p.1, ρ p.2))).map fun p => (p.1, H.den) := by
      generalize (ps.toList.map fun p => (p.1, ρ p.2)) = l
      unfold aBuild
      (repeat' split) <;> simp_all
    simp only [aop] at e ⊢
    rw [this, e]; rfl
  | field s y f =>
    refine neut (fun e => ?_) h
    simp only [aop, aField] at e ⊢
    (repeat' split at e) <;> simp_all
  | fieldAddr s y f =>
    refine neut (fun e => ?_) h
    simp only [aop, aFieldAddr] at e ⊢
    (repeat' split at e) <;> simp_all
  | index t y i =>
    refine neut (fun e => ?_) h
    simp only [aop, aIndex] at e ⊢
    (repeat' split at e) <;> simp_all
  | extract y i =>
    refine neut (fun e => ?_) h
    simp only [aop, aExtract] at e ⊢
    (repeat' split at e) <;> simp_all
  | nilCheck y =>
    refine neut (fun e => ?_) h
    simp only [aop, aNilCheck] at e ⊢
    (repeat' split at e) <;> simp_all
  | binOp op t X Y u =>
    refine neut (fun e => ?_) h
    simp only [aop, aBin] at e ⊢
    (repeat' split at e) <;> first | (simp_all; done) | (simp_all; rw [if_neg (by rintro (⟨q1, q2⟩ | ⟨q1, q2⟩) <;> simp_all), if_neg (by rintro (⟨q1, q2⟩ | ⟨q1, q2⟩) <;> simp_all)])
  | unOp op t y =>
    refine neut (fun e => ?_) h
    simp only [aop, aUn] at e ⊢
    (repeat' split at e) <;> simp_all
  | makeInterface t y =>
    refine neut (fun e => ?_) h
    simp only [aop, aIface] at e ⊢
    (repeat' split at e) <;> simp_all
  | pick c a b =>
    refine neut (fun e => ?_) h
    simp only [aop, aPick] at e ⊢
    (repeat' split at e) <;> simp_all
  | move y => exact neut (fun e => by simp only [aop] at e ⊢; simp_all) h
  | assign y => exact neut (fun e => by simp only [aop] at e ⊢; simp_all) h
  | makeFunc fn a b => exact neut (fun e => by simp only [aop] at e ⊢; simp_all) h
  | _ => exact neut (fun e => by cases e) h
end
end Go.Abs
