/- Operations on typed data: one function, and that it is right. -/
import Derived.Test.YtmlojnecmdnbpaaGreatDoorAbsQ
namespace Go.Abs
set_option linter.unusedVariables false

/-- Semantic: whatever the first stands for the second stands for. -/
def LE (x y : V) : Prop := ∀ {w : World} {ι : Iota} {M : Nat → Prop} {z : Value}, Rep w ι M x z → Rep w ι M y z
def LEs (xs ys : List V) : Prop := xs.length = ys.length ∧ ∀ (i : Nat) (x y : V), xs[i]? = some x → ys[i]? = some y → LE x y
theorem LE.refl (x : V) : LE x x := fun r => r
theorem LEs.refl (xs : List V) : LEs xs xs := ⟨rfl, fun i x y h1 h2 => by rw [h1] at h2; injection h2 with h2; subst h2; exact LE.refl _⟩
theorem LEs.nil : LEs [] [] := LEs.refl _
theorem LEs.cons {x y : V} {xs ys : List V} (h : LE x y) (hs : LEs xs ys) : LEs (x :: xs) (y :: ys) := by
  refine ⟨by simp [hs.1], fun i a b h1 h2 => ?_⟩
  cases i with
  | zero => simp at h1 h2; subst h1 h2; exact h
  | succ i => exact hs.2 i a b (by simpa using h1) (by simpa using h2)
theorem LEs.opt {xs ys : List V} (h : LEs xs ys) {i : Nat} {y : V} (hy : ys[i]? = some y) : ∃ x, xs[i]? = some x ∧ LE x y := by
  have hi : i < xs.length := by rw [h.1]; exact get_lt hy
  exact ⟨_, List.getElem?_eq_getElem hi, h.2 i _ y (List.getElem?_eq_getElem hi) hy⟩
theorem LE.agg {xs ys : List V} (h : LEs xs ys) : LE (.agg xs) (.agg ys) := by
  intro w ι M z r
  cases r with
  | agg _ vs hl hr =>
    refine .agg _ vs (by rw [← h.1]; exact hl) (fun i h1 h2 => ?_)
    obtain ⟨x, x1, x2⟩ := h.opt (List.getElem?_eq_getElem h1)
    have hi := get_lt x1
    rw [List.getElem?_eq_getElem hi] at x1; injection x1 with x1
    exact x2 (x1 ▸ hr i hi h2)
theorem LE.nil (sz : Nat) : LE (.v (.slice none 0 0)) (.sF sz []) := fun r => by cases r; exact .sN sz
theorem LE.sF {sz : Nat} {rows rows' : List (List V)} (hl : rows.length = rows'.length) (h : ∀ (i : Nat) (r r' : List V), rows[i]? = some r → rows'[i]? = some r' → LEs r r') : LE (.sF sz rows) (.sF sz rows') := by
  intro w ι M z r
  rcases r.sF_opt with ⟨rfl, rfl⟩ | ⟨a, cap, rfl, hb, hcap, hr, hc⟩
  · have : rows' = [] := List.length_eq_zero_iff.1 hl.symm
    subst this; exact .sN sz
  · rw [hl]
    refine Rep.sF_mk a cap (fun hne => hb (fun q => hne (by subst q; exact List.length_eq_zero_iff.1 hl.symm))) (by omega) (fun r' hr' => ?_) (fun i j r' x' hi hj => ?_)
    · obtain ⟨i, hi, e⟩ := List.getElem_of_mem hr'
      have hi0 : i < rows.length := by omega
      have := (h i _ _ (List.getElem?_eq_getElem hi0) (List.getElem?_eq_getElem hi)).1
      rw [← e, ← this]
      exact hr _ (List.getElem_mem hi0)
    · have hi0 : i < rows.length := by rw [hl]; exact get_lt hi
      obtain ⟨x, x1, x2⟩ := (h i _ _ (List.getElem?_eq_getElem hi0) hi).opt hj
      obtain ⟨z, z1, z2⟩ := hc i j _ x (List.getElem?_eq_getElem hi0) x1
      exact ⟨z, z1, x2 z2⟩

theorem LE.nf (x : V) : LE x x.nf := fun r => r.nf
theorem LE.of_nf (x : V) : LE x.nf x := fun r => r.of_nf
theorem topIds_nf {x : V} {i : Nat} (h : i ∈ topIds x.nf) : i ∈ topIds x := by
  cases x with
  | oL id n =>
    by_cases hn : n = 0
    · simp [V.nf, hn, topIds] at h
    · simpa [V.nf, hn, topIds] using h
  | sL t l => simp [V.nf, topIds] at h
  | _ => exact h

/-- What an operation does, its operands known less. -/
def AO (P : Program) (o : Op) (ev : Operand → V) (k : Heap) (new : Nat) (x : V) (k' : Heap) : Prop :=
  ∃ (e : Operand → V) (x' : V), (∀ a, LE (ev a) (e a) ∧ ∀ i, i ∈ topIds (e a) → i ∈ topIds (ev a)) ∧ LE x' x ∧ aop P o e k new = some (x', k')

theorem AO.os {P : Program} {h h' : Heap} {ι : Iota} {w : World} (H : HRel h ι w) {ev : Operand → V} {a : Act} (hev : ∀ x, Rep w ι (Mt h ι) (ev x) (a.eval x)) {o : Oper} {new : Nat} {x : V}
    (hx : AO P o.op ev h new x h') : OS P h ι w (execOp a.eval o) (some (x, h')) := by
  obtain ⟨e, x', he, hx', hop⟩ := hx
  intro y k' hy
  injection hy with hy; injection hy with h1 h2
  subst h1 h2
  obtain ⟨z, w', ι', g1, g2, g3⟩ := aop_soundE H (fun y => (he y).1 (hev y)) o new x' h' hop
  exact ⟨z, w', ι', g1, hx' g2, g3⟩

theorem AO.of {P : Program} {o : Op} {ev : Operand → V} {k k' : Heap} {new : Nat} {x : V} (h : aop P o ev k new = some (x, k')) : AO P o ev k new x k' := ⟨ev, x, fun _ => ⟨LE.refl _, fun _ h => h⟩, LE.refl _, h⟩
theorem AO.nf {P : Program} {o : Op} {ev : Operand → V} {k k' : Heap} {new : Nat} {x x' : V} (h : aop P o (fun a => (ev a).nf) k new = some (x', k')) (hx : LE x' x) : AO P o ev k new x k' :=
  ⟨_, x', fun a => ⟨LE.nf _, fun _ q => topIds_nf q⟩, hx, h⟩

section
variable {ev e : Operand → V} (he : ∀ a, LE (ev a) (e a) ∧ ∀ i, i ∈ topIds (e a) → i ∈ topIds (ev a))
include he
theorem topIds_e (a : Operand) {i : Nat} (h : i ∈ topIds (e a)) : i ∈ topIds (ev a) := (he a).2 i h
theorem foot_e (op : Op) : ∀ i, i ∈ foot op e → i ∈ foot op ev := by
  intro i h
  cases op <;> simp only [foot] at h ⊢ <;> first | exact topIds_e he _ h | exact h | skip
  rw [List.mem_flatMap] at h ⊢
  obtain ⟨a, h1, h2⟩ := h
  exact ⟨a, h1, topIds_e he _ h2⟩
theorem wids_e (op : Op) (new : Nat) : ∀ i, i ∈ wids op e new → i ∈ wids op ev new := by
  have flat : ∀ (l : List Operand) (i : Nat), i ∈ (l.flatMap fun x => topIds (e x)) → i ∈ (l.flatMap fun x => topIds (ev x)) := by
    intro l i h
    rw [List.mem_flatMap] at h ⊢
    obtain ⟨a, h1, h2⟩ := h
    exact ⟨a, h1, topIds_e he _ h2⟩
  intro i h
  cases op with
  | store t p x => exact topIds_e he _ h
  | call c =>
    obtain ⟨callee, args, tys⟩ := c
    cases callee with
    | builtin b =>
      cases b <;> simp only [wids] at h ⊢ <;> first | exact flat _ _ h | exact h | skip
      rw [List.mem_append] at h ⊢
      exact h.elim (fun q => .inl (flat _ _ q)) .inr
    | _ => exact h
  | _ => exact h
end

/-- An operation looks at some objects alone and writes some alone. -/
theorem AO.loc {P : Program} {o : Op} {ev : Operand → V} {h h' : Heap} {new : Nat} {x : V} (a : AO P o ev h new x h') (hn : new < h.length) :
    ∃ post : List (Nat × HS), (∀ p, p ∈ post → p.1 ∈ wids o ev new) ∧ h' = setMany h post ∧
      ∀ k : Heap, (∀ id, id ∈ foot o ev ++ [new] → k[id]? = h[id]?) → AO P o ev k new x (setMany k post) := by
  obtain ⟨e, x', he, hx, hop⟩ := a
  obtain ⟨post, p1, p2⟩ := aop_loc h x' h' hop hn
  have hself := p2 h (fun _ _ => rfl)
  simp only [hop, Option.some.injEq, Prod.mk.injEq, true_and] at hself
  refine ⟨post, fun p hp => wids_e he o new _ (p1 p hp), hself, fun k hk => ⟨e, x', he, hx, p2 k (fun id hid => hk id ?_)⟩⟩
  rcases List.mem_append.1 hid with q | q
  · exact List.mem_append.2 (.inl (foot_e he o _ q))
  · exact List.mem_append.2 (.inr q)

/- typed objects -/
inductive XO where
  | raw (s : HS)
  | tl (t : Ty) (l : List t.den) (e : TypeId)
  | opt (t : Ty) (l : List t.den) (e : TypeId)
  | ob (t : Ty) (a : t.den) (e : TypeId)
  deriving Inhabited

def XO.den : XO → HS
  | .raw s => s
  | .tl t l e => .live ⟨t.size, l.map t.row, e⟩
  | .opt t l e => if l.isEmpty then .dead else .live ⟨t.size, l.map t.row, e⟩
  | .ob t a e => .live ⟨t.size, [t.row a], e⟩
def dens (h : List XO) : Heap := h.map XO.den
theorem dens_get (h : List XO) (i : Nat) : (dens h)[i]? = (h[i]?).map XO.den := by simp [dens]
theorem dens_len (h : List XO) : (dens h).length = h.length := by simp [dens]
theorem dens_set (h : List XO) (i : Nat) (o : XO) : dens (h.set i o) = (dens h).set i o.den := by simp [dens, List.map_set]
theorem dens_app (h k : List XO) : dens (h ++ k) = dens h ++ dens k := by simp [dens]

/-- Typed data of no content. -/
def Ty.dflt : (t : Ty) → t.den
  | .int _ => (0 : Int)
  | .bool => false
  | .str => ByteArray.empty
  | .list _ => []
  | .pair a b => (a.dflt, b.dflt)
instance instInhabitedDen (t : Ty) : Inhabited t.den := ⟨t.dflt⟩

/-- Typed data out of cells. -/
def un (f : V → (t : Ty) → Option (List t.den)) : (t : Ty) → List V → Option (t.den × List V)
  | .int k, x :: r => match x with
    | .v (.int k' n) => if k' = k then some (n, r) else none
    | _ => none
  | .bool, x :: r => match x with
    | .v (.bool b) => some (b, r)
    | _ => none
  | .str, x :: r => match x with
    | .v (.string s) => some (s, r)
    | _ => none
  | .list t, x :: r => match f x t with
    | some l => some (l, r)
    | none => none
  | .pair a b, r => match un f a r with
    | some (x, r1) => match un f b r1 with
      | some (y, r2) => some ((x, y), r2)
      | none => none
    | none => none
  | _, [] => none

def unRows (f : V → (t : Ty) → Option (List t.den)) (t : Ty) : List (List V) → Option (List t.den)
  | [] => some []
  | r :: rs => match un f t r with
    | some (x, []) => match unRows f t rs with
      | some xs => some (x :: xs)
      | none => none
    | _ => none

def castL {t t' : Ty} (l : List t.den) : Option (List t'.den) := if h : t = t' then h ▸ some l else none
theorem castL_eq {t t' : Ty} {l : List t.den} {l' : List t'.den} (h : castL l = some l') : V.sL t l = V.sL t' l' := by
  unfold castL at h
  split at h
  · rename_i e; subst e; injection h with h; subst h; rfl
  · cases h
theorem castL_ty {t t' : Ty} {l : List t.den} {l' : List t'.den} (h : castL l = some l') : ∃ e : t = t', l' = e ▸ l := by
  unfold castL at h
  split at h
  · rename_i e; subst e; injection h with h; exact ⟨rfl, h.symm⟩
  · cases h

/-- A list by value. -/
def unPure : Nat → V → (t : Ty) → Option (List t.den)
  | 0, _, _ => none
  | n + 1, x, t => match x with
    | .sL _ l => castL l
    | .v (.slice none 0 0) => some []
    | .sF sz rows => if sz = t.size then unRows (unPure n) t rows else none
    | _ => none

/-- The typed form of a type. -/
def fieldsTy (f : TypeId → Option Ty) : List Field → Option Ty
  | [] => none
  | [x] => f x.type
  | x :: r => match f x.type, fieldsTy f r with
    | some a, some b => some (.pair a b)
    | _, _ => none
def tyOf (P : Program) : Nat → TypeId → Option Ty
  | 0, _ => none
  | n + 1, t => match P.underlying t with
    | some (.int k) => some (.int k)
    | some .bool => some .bool
    | some .string => some .str
    | some (.slice e) => match tyOf P n e with
      | some x => some (.list x)
      | none => none
    | some (.struct fs) => fieldsTy (tyOf P n) fs.toList
    | _ => none

/-- A reader of lists is right. -/
def UnOk (R : V → V → Prop) (f : V → (t : Ty) → Option (List t.den)) : Prop := ∀ x t l, f x t = some l → R x (.sL t l)

theorem un_gen {R : V → V → Prop} {f : V → (t : Ty) → Option (List t.den)} (hf : UnOk R f) (h0 : ∀ x, R (.v x) (.v x)) : ∀ (t : Ty) (cs : List V) (a : t.den) (r : List V), un f t cs = some (a, r) →
    ∃ pre, cs = pre ++ r ∧ pre.length = t.size ∧ (∀ rest, t.cells a rest = t.row a ++ rest) ∧ ∀ (i : Nat) (x y : V), pre[i]? = some x → (t.row a)[i]? = some y → R x y := by
  intro t
  induction t with
  | int k =>
    intro cs a r h
    cases cs with
    | nil => simp [un] at h
    | cons x cs =>
      simp only [un] at h
      split at h
      · split at h
        · rename_i n hk
          subst hk
          injection h with h; injection h with h1 h2; subst h1 h2
          refine ⟨[_], rfl, rfl, fun _ => rfl, fun i x y h1 h2 => ?_⟩
          cases i with
          | zero => simp [Ty.row, Ty.cells] at h1 h2; subst h1 h2; exact h0 _
          | succ i => simp at h1
        · cases h
      · cases h
  | bool =>
    intro cs a r h
    cases cs with
    | nil => simp [un] at h
    | cons x cs =>
      simp only [un] at h
      split at h
      · injection h with h; injection h with h1 h2; subst h1 h2
        refine ⟨[_], rfl, rfl, fun _ => rfl, fun i x y h1 h2 => ?_⟩
        cases i with
        | zero => simp [Ty.row, Ty.cells] at h1 h2; subst h1 h2; exact h0 _
        | succ i => simp at h1
      · cases h
  | str =>
    intro cs a r h
    cases cs with
    | nil => simp [un] at h
    | cons x cs =>
      simp only [un] at h
      split at h
      · injection h with h; injection h with h1 h2; subst h1 h2
        refine ⟨[_], rfl, rfl, fun _ => rfl, fun i x y h1 h2 => ?_⟩
        cases i with
        | zero => simp [Ty.row, Ty.cells] at h1 h2; subst h1 h2; exact h0 _
        | succ i => simp at h1
      · cases h
  | list t _ =>
    intro cs a r h
    cases cs with
    | nil => simp [un] at h
    | cons x cs =>
      simp only [un] at h
      split at h
      · rename_i l hl
        injection h with h; injection h with h1 h2; subst h1 h2
        refine ⟨[_], rfl, rfl, fun _ => rfl, fun i x y h1 h2 => ?_⟩
        cases i with
        | zero => simp [Ty.row, Ty.cells] at h1 h2; subst h1 h2; exact hf _ _ _ hl
        | succ i => simp at h1
      · cases h
  | pair a b iha ihb =>
    intro cs x r h
    simp only [un] at h
    split at h
    · rename_i xa r1 h1
      split at h
      · rename_i xb r2 h2
        injection h with h; injection h with e1 e2; subst e1 e2
        obtain ⟨p1, rfl, q1, c1, g1⟩ := iha _ _ _ h1
        obtain ⟨p2, rfl, q2, c2, g2⟩ := ihb _ _ _ h2
        have hrow : Ty.row (.pair a b) (xa, xb) = a.row xa ++ b.row xb := by simp only [Ty.row, Ty.cells]; exact c1 _
        refine ⟨p1 ++ p2, by simp, by simp [Ty.size, q1, q2], fun rest => ?_, fun i x y hx hy => ?_⟩
        · rw [hrow]; simp only [Ty.cells]; rw [c1, c2]; simp
        · rw [hrow] at hy
          have hl : (a.row xa).length = p1.length := by rw [q1]; simpa using a.cells_len xa []
          by_cases hi : i < p1.length
          · rw [List.getElem?_append_left hi] at hx
            rw [List.getElem?_append_left (by omega)] at hy
            exact g1 i x y hx hy
          · rw [List.getElem?_append_right (by omega)] at hx
            rw [List.getElem?_append_right (by omega)] at hy
            rw [hl] at hy
            exact g2 _ x y hx hy
      · cases h
    · cases h

theorem Ty.cells_row : ∀ (t : Ty) (x : t.den) (r : List V), t.cells x r = t.row x ++ r
  | .int _, _, _ => rfl
  | .bool, _, _ => rfl
  | .str, _, _ => rfl
  | .list _, _, _ => rfl
  | .pair a b, x, r => by
    simp only [Ty.row, Ty.cells]
    rw [a.cells_row x.1 (b.cells x.2 r), a.cells_row x.1 (b.cells x.2 []), b.cells_row x.2 r, List.append_assoc]

/-- A whole row. -/
theorem un_row {R : V → V → Prop} {f : V → (t : Ty) → Option (List t.den)} (hf : UnOk R f) (h0 : ∀ x, R (.v x) (.v x)) {t : Ty} {cs : List V} {a : t.den} (h : un f t cs = some (a, [])) :
    cs.length = (t.row a).length ∧ ∀ (i : Nat) (x y : V), cs[i]? = some x → (t.row a)[i]? = some y → R x y := by
  obtain ⟨pre, rfl, h1, _, h2⟩ := un_gen hf h0 t cs a [] h
  have := t.cells_len a []
  exact ⟨by simp [h1, Ty.row] at this ⊢; omega, by simpa using h2⟩

theorem unRows_gen {R : V → V → Prop} {f : V → (t : Ty) → Option (List t.den)} (hf : UnOk R f) (h0 : ∀ x, R (.v x) (.v x)) {t : Ty} : ∀ {rows : List (List V)} {l : List t.den}, unRows f t rows = some l →
    rows.length = l.length ∧ ∀ (i : Nat) (r : List V) (a : t.den), rows[i]? = some r → l[i]? = some a → r.length = (t.row a).length ∧ ∀ (j : Nat) (x y : V), r[j]? = some x → (t.row a)[j]? = some y → R x y
  | [], l, h => by simp [unRows] at h; subst h; exact ⟨rfl, fun i r a h => by simp at h⟩
  | r :: rs, l, h => by
    simp only [unRows] at h
    split at h
    · rename_i x hx
      split at h
      · rename_i xs hxs
        injection h with h; subst h
        obtain ⟨h1, h2⟩ := unRows_gen hf h0 hxs
        refine ⟨by simp [h1], fun i r' a hr ha => ?_⟩
        cases i with
        | zero => simp at hr ha; subst hr ha; exact un_row hf h0 hx
        | succ i => exact h2 i r' a (by simpa using hr) (by simpa using ha)
      · cases h
    · cases h

theorem unPure_ok : ∀ n, UnOk LE (unPure n)
  | 0, x, t, l, h => by simp [unPure] at h
  | n + 1, x, t, l, h => by
    simp only [unPure] at h
    split at h
    · intro r; rw [← castL_eq h]; exact r
    · injection h with h; subst h
      intro r
      exact .sL _ _ _ (LE.nil _ r)
    · split at h
      · rename_i sz rows hs
        subst hs
        intro r
        refine .sL _ _ _ (LE.sF (by simpa using (unRows_gen (unPure_ok n) (fun _ => LE.refl _) h).1) (fun i r1 r2 h1 h2 => ?_) r)
        rw [List.getElem?_map] at h2
        cases ha : l[i]? with
        | none => rw [ha] at h2; simp at h2
        | some a =>
          rw [ha] at h2; simp at h2; subst h2
          exact (unRows_gen (unPure_ok n) (fun _ => LE.refl _) h).2 i r1 a h1 ha
      · cases h
    · cases h

end Go.Abs
