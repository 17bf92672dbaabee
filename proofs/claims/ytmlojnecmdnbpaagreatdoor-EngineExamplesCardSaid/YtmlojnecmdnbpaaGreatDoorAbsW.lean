/- Typed contracts of functions, and their use at a call. -/
import Derived.Test.YtmlojnecmdnbpaaGreatDoorAbsV
namespace Go.Abs
set_option linter.unusedVariables false

@[reducible] def Tup : List Ty → Type
  | [] => Unit
  | t :: ts => t.den × Tup ts

def Ty.val : (t : Ty) → t.den → V
  | .int k, n => .v (.int k n)
  | .bool, b => .v (.bool b)
  | .str, s => .v (.string s)
  | .list t, l => .sL t l
  | .pair a b, x => .agg (Ty.row (.pair a b) x)
def vals : (ts : List Ty) → Tup ts → List V
  | [], _ => []
  | t :: ts, (x, r) => t.val x :: vals ts r
/-- A function of many arguments, at a tuple. -/
@[reducible] def Cu : List Ty → Type → Type
  | [], α => α
  | t :: ts, α => t.den → Cu ts α
def cu {α : Type} : (ts : List Ty) → Cu ts α → Tup ts → α
  | [], f, _ => f
  | _ :: ts, f, (x, r) => cu ts (f x) r

/-- The same with a continuation. -/
def appK {α : Type} : (ts : List Ty) → Cu ts α → Tup ts → (α → Prop) → Prop
  | [], f, _, k => k f
  | _ :: ts, f, (x, r), k => appK ts (f x) r k
theorem appK_eq {α : Type} : ∀ (ts : List Ty) (f : Cu ts α) (x : Tup ts) (k : α → Prop), appK ts f x k = k (cu ts f x)
  | [], _, _, _ => rfl
  | _ :: ts, f, (x, r), k => appK_eq ts (f x) r k
/-- A result. -/
inductive RV where
  | d (t : Ty) (x : t.den)
  | tup (ts : List Ty) (x : Tup ts)
def RV.val : RV → V
  | .d t x => t.val x
  | .tup ts x => .tup (vals ts x)
def flatTy : Ty → Bool
  | .list _ => false
  | .pair a b => flatTy a && flatTy b
  | _ => true
def RV.flat : RV → Bool
  | .d t _ => flatTy t
  | .tup ts _ => ts.all flatTy

/-- A contract. -/
inductive Ct where
  | fn (ps : List Ty) (pre : Option (Cu ps Prop)) (res : Cu ps RV)
  | meth (t : Ty) (e : TypeId) (ps : List Ty) (pre : Option (t.den → Cu ps Prop)) (res : t.den → Cu ps RV) (post : t.den → Cu ps t.den)
  | new (t : Ty) (e : TypeId) (ps : List Ty) (pre : Option (Cu ps Prop)) (post : Cu ps t.den)
  | srt (t : Ty) (pre : Option (Cu [.list t] Prop)) (g : Cu [.list t] (List t.den)) (ret : Bool)
  | grw (t : Ty) (e : TypeId)
  | rd (t : Ty) (ps : List Ty) (pre : Option (t.den → Cu ps Prop)) (res : t.den → Cu ps RV)
  | bld (wr : Bool) (e eb : TypeId)

/-- Called with these arguments in a heap that has 'pre' a function returns x, and makes of 'pre' 'post'. -/
def PCX (P : Program) (f : FuncId) (args : List V) (pre post : List (Nat × HS)) (x : V) : Prop :=
  (∀ p, p ∈ post → p.1 ∈ pre.map (·.1)) ∧ ∀ k : Heap, (∀ p, p ∈ pre → k[p.1]? = some p.2) → PC P f args k (fun y k' => y = x ∧ k' = setMany k post)

def objT (t : Ty) (e : TypeId) (a : t.den) : HS := .live ⟨t.size, [t.row a], e⟩
/-- A function that turns a list in place. -/
structure SrtOk (P : Program) (f : FuncId) (t : Ty) (pre : List t.den → Prop) (g : List t.den → List t.den) (ret : Bool) : Prop where
  len : ret = false → ∀ l, (g l).length = l.length
  nil : g [] = []
  cons : ∀ l, l ≠ [] → g l ≠ []
  none : ∀ k, PC P f [.v (.slice none 0 0)] k (fun y k' => y = (if ret = true then .v (.slice none 0 0) else .tup []) ∧ k' = k)
  some : ∀ l, pre l → ∀ (k : Heap) (id : Nat) (e : TypeId), k[id]? = .some (.live ⟨t.size, l.map t.row, e⟩) → PC P f [.sO id 0 l.length] k (fun y k' => y = (if ret = true then .sO id 0 (g l).length else .tup []) ∧ k' = k.set id (.live ⟨t.size, (g l).map t.row, e⟩))
/-- slices.Grow of a nil slice. -/
def GrwOk (P : Program) (f : FuncId) (t : Ty) (e : TypeId) : Prop := ∀ n : Int, 0 ≤ n → n ≤ 8796093022208 → ∀ (k : Heap),
  (n = 0 → PC P f [.v (.slice none 0 0), .v (.int .i64 n)] k (fun y k' => y = .v (.slice none 0 0) ∧ k' = k)) ∧
  (0 < n → ∀ (new : Nat) (k' : Heap), halloc k new ⟨t.size, [], e⟩ = some k' → PC P f [.v (.slice none 0 0), .v (.int .i64 n)] k (fun y h => y = .sO new 0 0 ∧ h = k'))
/-- nil, or a pointer to the object that holds it. -/
def selfV (id : Nat) : Bool → V
  | true => .pO id 0 0
  | false => .v (.pointer none)
def rdSelf (id : Nat) (c : V) : Option Bool := match c with
  | .v (.pointer none) => some false
  | .pO j 0 0 => if Nat.beq j id then some true else none
  | _ => none
/-- A strings.Builder: two cells, the second one a list of bytes that is being made. -/
def bldRd (e eb : TypeId) (h : List XO) (i : Nat) : Option (Bool × List Bool × Option Nat × List Int) := match h[i]? with
  | some (.raw (.live o)) => (match o.rows with
    | [[c0, c1]] => (match rdSelf i c0, Nat.beq o.sz 2 && o.elem.is eb with
      | some b, true => (match c1 with
        | .oL j n => (match h[j]? with
          | some (.opt t l e') => (match castL (t' := .int .u8) l, Nat.beq e' e with
            | some l, true => some (b, [decide (n = l.length)], some j, l)
            | _, _ => none)
          | _ => none)
        | .v (.slice none 0 0) => some (b, [], none, [])
        | _ => none)
      | _, _ => none)
    | _ => none)
  | _ => none
def bldX (eb : TypeId) (i new n : Nat) : XO := .raw (.live ⟨2, [[.pO i 0 0, .oL new n]], eb⟩)
def wrR (n : Nat) : V := .tup [.v (.int .i64 n), .v .nilIface]
/-- Writing a string to a builder: the bytes get a new place. -/
def BldW (P : Program) (f : FuncId) (e eb : TypeId) : Prop := ∀ (h : List XO) (i new : Nat) (s : ByteArray) (b : Bool) (cs : List Bool) (j : Option Nat) (l : List Int), bldRd e eb h i = some (b, cs, j, l) → allT cs → l.length + s.size ≤ 1099511627776 → h[new]? = some (.raw .free) →
  PC P f [.pO i 0 0, .v (.string s)] (dens h) (fun y k => y = wrR s.size ∧ k = dens ((killX (h.set i (bldX eb i new (l ++ toInts s).length)) j).set new (.opt (.int .u8) (l ++ toInts s) e)))
/-- The string of a builder that is not used afterwards. -/
def BldS (P : Program) (f : FuncId) (e eb : TypeId) : Prop := ∀ (h : List XO) (i : Nat) (b : Bool) (cs : List Bool) (j : Option Nat) (l : List Int), bldRd e eb h i = some (b, cs, j, l) → allT cs → l.length ≤ 2199023255552 →
  PC P f [.pO i 0 0] (dens h) (fun y k => y = .v (.string (ofInts l)) ∧ k = dens (killX (h.set i (.raw .dead)) j))
def CtOk (P : Program) (f : FuncId) : Ct → Prop
  | .fn ps pre res => ∀ x, (∀ p, pre = some p → cu ps p x) → PCX P f (vals ps x) [] [] (cu ps res x).val
  | .meth t e ps pre res post => ∀ a x, (∀ p, pre = some p → cu ps (p a) x) → ∀ j, PCX P f (.pO j 0 0 :: vals ps x) [(j, objT t e a)] [(j, objT t e (cu ps (post a) x))] (cu ps (res a) x).val
  | .new t e ps pre post => ∀ x, (∀ p, pre = some p → cu ps p x) → ∀ (k : Heap) (new : Nat) (k' : Heap), halloc k new ⟨t.size, [t.row (cu ps post x)], e⟩ = some k' → PC P f (vals ps x) k (fun y h => y = .pO new 0 0 ∧ h = k')
  | .srt t pre g ret => SrtOk P f t (fun l => ∀ p, pre = some p → p l) g ret
  | .grw t e => GrwOk P f t e
  | .bld wr e eb => match wr with
    | true => BldW P f e eb
    | false => BldS P f e eb
  | .rd t ps pre res => ∀ a x, (∀ p, pre = some p → cu ps (p a) x) → PCX P f (.pF (t.row a) 0 :: vals ps x) [] [] (cu ps (res a) x).val

abbrev Tbl := List (FuncId × Ct)
def look : Tbl → FuncId → Option Ct
  | [], _ => none
  | (g, c) :: r, f => if Nat.beq g f then some c else look r f
def TblOk (P : Program) (T : Tbl) : Prop := ∀ f c, look T f = some c → CtOk P f c
theorem TblOk.nil {P : Program} : TblOk P [] := fun f c h => by cases h
theorem TblOk.cons {P : Program} {T : Tbl} {f : FuncId} {c : Ct} (h : CtOk P f c) (ht : TblOk P T) : TblOk P ((f, c) :: T) := by
  intro g d hg
  simp only [look] at hg
  split at hg
  · rename_i q
    injection hg with hg; subst hg
    rw [← Nat.eq_of_beq_eq_true q]; exact h
  · exact ht g d hg

/- arguments -/
def argCells (t : Ty) (x : V) : List V := match t with
  | .pair _ _ => match norm x with
    | .agg xs => xs
    | _ => []
  | _ => [x]
def rdA (f : V → (t : Ty) → Option (List t.den)) : (ps : List Ty) → List V → Option (Tup ps)
  | [], [] => some ()
  | t :: ts, x :: xs => match un f t (argCells t x) with
    | some (a, []) => match rdA f ts xs with
      | some r => some (a, r)
      | none => none
    | _ => none
  | _, _ => none

def Pairs (R : V → V → Prop) (xs ys : List V) : Prop := xs.length = ys.length ∧ ∀ (i : Nat) (x y : V), xs[i]? = some x → ys[i]? = some y → R x y

theorem arg_gen {R R' : V → V → Prop} {f : V → (t : Ty) → Option (List t.den)} (hf : UnOk R f) (h0 : ∀ x, R (.v x) (.v x)) (hone : ∀ x y, R x y → R' x y) (hagg : ∀ x xs ys, norm x = .agg xs → Pairs R xs ys → R' x (.agg ys)) {t : Ty} {x : V} {a : t.den} (h : un f t (argCells t x) = some (a, [])) : R' x (t.val a) := by
  have one : ∀ (c : V), argCells t x = [x] → t.row a = [c] → R' x c := by
    intro c h1 h2
    rw [h1] at h
    exact hone _ _ ((un_row hf h0 h).2 0 x c rfl (by rw [h2]; rfl))
  cases t with
  | int k => exact one _ rfl rfl
  | bool => exact one _ rfl rfl
  | str => exact one _ rfl rfl
  | list t => exact one _ rfl rfl
  | pair p q =>
    simp only [argCells] at h
    split at h
    · rename_i xs hx
      exact hagg x xs _ hx (un_row hf h0 h)
    · have := (un_row hf h0 h).1
      simp [Ty.cells_len] at this
      have hp : ∀ t : Ty, 0 < t.size := by
        intro t
        induction t <;> simp [Ty.size] <;> omega
      have := hp p
      simp [Ty.size] at *
      omega
theorem rdA_gen {R R' : V → V → Prop} {f : V → (t : Ty) → Option (List t.den)} (hf : UnOk R f) (h0 : ∀ x, R (.v x) (.v x)) (hone : ∀ x y, R x y → R' x y) (hagg : ∀ x xs ys, norm x = .agg xs → Pairs R xs ys → R' x (.agg ys)) :
    ∀ {ps : List Ty} {args : List V} {x : Tup ps}, rdA f ps args = some x → Pairs R' args (vals ps x)
  | [], [], x, _ => ⟨rfl, fun i x y h => by simp at h⟩
  | [], _ :: _, _, h => by simp [rdA] at h
  | _ :: _, [], _, h => by simp [rdA] at h
  | t :: ts, v :: vs, x, h => by
    simp only [rdA] at h
    split at h
    · rename_i a ha
      split at h
      · rename_i r hr
        injection h with h; subst h
        obtain ⟨h1, h2⟩ := rdA_gen hf h0 hone hagg hr
        refine ⟨by simp [vals, h1], fun i p q hp hq => ?_⟩
        cases i with
        | zero => simp [vals] at hp hq; subst hp hq; exact arg_gen hf h0 hone hagg ha
        | succ i => exact h2 i p q (by simpa using hp) (by simpa [vals] using hq)
      · cases h
    · cases h

theorem LE.norm_agg (x : V) (xs ys : List V) (hx : norm x = .agg xs) (h : Pairs (fun a b => LE a b) xs ys) : LE x (.agg ys) := by
  intro w ι M z r
  have r := r.norm
  rw [hx] at r
  exact LE.agg h r

theorem PC.res_LE {P : Program} {f : FuncId} {args : List V} {h : Heap} {R : V → Heap → Prop} (hc : PC P f args h (fun x k => ∃ y, LE x y ∧ R y k)) : PC P f args h R :=
  fun ι w vals h1 h2 => (hc ι w vals h1 h2).mono fun e w' ⟨z, x, h', ι', q1, ⟨y, q2, q3⟩, q4, q5⟩ => ⟨z, y, h', ι', q1, q3, q2 q4, q5⟩
theorem PC.args_LE {P : Program} {f : FuncId} {args args' : List V} {h : Heap} {R : V → Heap → Prop} (hl : LEs args args') (hc : PC P f args' h R) : PC P f args h R := by
  intro ι w vals hp H
  refine hc ι w vals ⟨hl.1.symm.trans hp.1, fun i y hy => ?_⟩ H
  obtain ⟨x, x1, x2⟩ := hl.opt hy
  obtain ⟨z, z1, z2⟩ := hp.2 i x x1
  exact ⟨z, z1, x2 z2⟩

/-- Typed data, cast. -/
def castD {t t' : Ty} (a : t.den) : Option t'.den := if h : t = t' then h ▸ some a else none
theorem castD_ty {t t' : Ty} {a : t.den} {a' : t'.den} (h : castD a = some a') : ∃ e : t = t', a' = e ▸ a := by
  unfold castD at h
  split at h
  · rename_i e; subst e; injection h with h; exact ⟨rfl, h.symm⟩
  · cases h
/-- The data of an object of one row. -/
def rdOb (t : Ty) (e : TypeId) : XO → Option t.den
  | .ob _ a e' => if e' = e then castD (t' := t) a else none
  | .raw s => match s with
    | .live o => if o.sz = t.size ∧ o.elem = e then (match o.rows with
      | [r] => (match un (unPure 8) t r with
        | some (a, []) => some a
        | _ => none)
      | _ => none)
      else none
    | _ => none
  | _ => none
theorem rdOb_ok {t : Ty} {e : TypeId} {x : XO} {a : t.den} (h : rdOb t e x = some a) : ∃ o, x.den = .live o ∧ o.sz = t.size ∧ o.elem = e ∧ o.rows.length = 1 ∧ ∀ (i : Nat) (r r' : List V), o.rows[i]? = some r → [t.row a][i]? = some r' → LEs r r' := by
  cases x with
  | ob t0 a0 e' =>
    simp only [rdOb] at h
    split at h
    · rename_i he
      subst he
      obtain ⟨et, el⟩ := castD_ty h
      subst et; subst el
      refine ⟨_, rfl, rfl, rfl, rfl, fun i r r' q1 q2 => ?_⟩
      rw [q1] at q2; injection q2 with q2; subst q2
      exact ⟨rfl, fun j x y hx hy => by rw [hx] at hy; injection hy with hy; subst hy; exact LE.refl _⟩
    · cases h
  | raw s =>
    cases s with
    | live o =>
      simp only [rdOb] at h
      split at h
      · rename_i hsz
        split at h
        · rename_i r hr
          split at h
          · rename_i b hb
            injection h with h; subst h
            refine ⟨o, rfl, hsz.1, hsz.2, by rw [hr]; rfl, fun i r1 r2 h1 h2 => ?_⟩
            rw [hr] at h1
            cases i with
            | zero => simp at h1 h2; subst h1 h2; exact un_row (unPure_ok 8) (fun _ => LE.refl _) hb
            | succ i => simp at h1
          · cases h
        · cases h
      · cases h
    | _ => simp [rdOb] at h
  | _ => simp [rdOb] at h
/- the caller's objects as trees -/
def Iota.none (ι : Iota) : Iota := { at' := fun _ => Option.none, X := ι.X }
theorem mt_none {ι : Iota} {b : Nat} : Mt [] ι.none b → ι.X b := by
  rintro (q | ⟨id, o, l, q, _⟩)
  · exact q
  · simp at q

/-- A slice of a whole object as the tree of its rows. -/
theorem rep_sO_tree {w : World} {ι ι₂ : Iota} {M M₂ : Nat → Prop} {id len : Nat} {o : AObj} {l : Loc} {c : Array Value} {fr : Nat × Nat} {rows' : List (List V)} {z : Value} (hl : ι id = some l) (la : LiveAt w ι M o l c fr) (hblk : l.blk < w.heap.size) (hm : ¬ M₂ l.blk)
    (hlen : len = rows'.length) (hrl : o.rows.length = rows'.length)
    (hrow : ∀ (i : Nat) (r r' : List V), o.rows[i]? = some r → rows'[i]? = some r' → r.length = r'.length ∧ ∀ (j : Nat) (x x' : V), r[j]? = some x → r'[j]? = some x' → ∀ {y : Value}, Rep w ι M x y → Rep w ι₂ M₂ x' y)
    (r : Rep w ι M (.sO id 0 len) z) : Rep w ι₂ M₂ (.sF o.sz rows') z := by
  cases r with
  | sO _ _ _ cap l2 c2 e2 fr2 hl2 hcap hb hsz =>
    rw [hl] at hl2; injection hl2 with hl2; subst hl2
    subst hlen
    have get : ∀ (i : Nat) (r' : List V), rows'[i]? = some r' → ∃ r, o.rows[i]? = some r ∧ r.length = r'.length ∧ ∀ (j : Nat) (x x' : V), r[j]? = some x → r'[j]? = some x' → ∀ {y : Value}, Rep w ι M x y → Rep w ι₂ M₂ x' y := by
      intro i r' hr'
      have hi : i < o.rows.length := by rw [hrl]; exact get_lt hr'
      obtain ⟨q1, q2⟩ := hrow i _ _ (List.getElem?_eq_getElem hi) hr'
      exact ⟨_, List.getElem?_eq_getElem hi, q1, q2⟩
    refine Rep.sF_mk ⟨l.blk, l.base + 0 * l.sz, Option.none⟩ cap (fun _ => ⟨rfl, hblk, hm⟩) hcap (fun r' hr' => ?_) (fun i j r' x' hi hj => ?_)
    · obtain ⟨i, hi, e⟩ := List.getElem_of_mem hr'
      obtain ⟨r, r1, r2, _⟩ := get i r' (by rw [List.getElem?_eq_getElem hi, e])
      rw [← r2]; exact la.rows r (get_mem r1)
    · obtain ⟨r, r1, r2, r3⟩ := get i r' hi
      have hj0 : j < r.length := by rw [r2]; exact get_lt hj
      obtain ⟨_, _, u, u1, u2⟩ := la.get r1 (List.getElem?_eq_getElem hj0)
      refine ⟨u, ?_, r3 j _ _ (List.getElem?_eq_getElem hj0) hj u2⟩
      rw [la.cell, ← u1, la.sz]
      congr 1
      simp

/-- A list, through the heap too: objects from 'lo' on. -/
def rdH (h : List XO) (lo : Nat) (x : V) (t : Ty) : Option (List t.den) := match x with
  | .sO id 0 len => if lo ≤ id then match h[id]? with
      | some (.raw (.live o)) => if o.sz = t.size ∧ len = o.rows.length then unRows (unPure 8) t o.rows else none
      | some (.tl _ l _) => castL l
      | _ => none
    else none
  | .oL id n => if lo ≤ id then match h[id]? with
      | some (.opt _ l _) => castL l
      | _ => none
    else none
  | x => unPure 8 x t
/-- The lengths agree. -/
def lensV (h : List XO) (x : V) : List Bool := match x with
  | .sO id _ len => match h[id]? with
    | some (.tl _ l _) => [decide (len = l.length)]
    | _ => []
  | .oL id n => match h[id]? with
    | some (.opt _ l _) => [decide (n = l.length)]
    | _ => []
  | _ => []
def lens1 (h : List XO) (x : V) : List Bool := match x with
  | .agg xs => xs.flatMap (lensV h)
  | x => lensV h x
def lens (h : List XO) (xs : List V) : List Bool := xs.flatMap (lens1 h)

theorem rdH_rep {h : List XO} {lo : Nat} {w : World} {ι ι₂ : Iota} {M M₂ : Nat → Prop} (hw : ∀ b, M₂ b → M b) (hlive : ∀ id o, lo ≤ id → (dens h)[id]? = some (.live o) → ∃ l c fr, ι id = some l ∧ LiveAt w ι M o l c fr ∧ l.blk < w.heap.size ∧ ¬ M₂ l.blk)
    {x : V} {t : Ty} {l : List t.den} (e : rdH h lo x t = some l) (hc : allT (lensV h x)) {z : Value} (r : Rep w ι M x z) : Rep w ι₂ M₂ (.sL t l) z := by
  have free : ∀ {a : V} {y : Value}, NI 0 a → Rep w ι M a y → Rep w ι₂ M₂ a y := fun hn rr => rr.free hw hn
  have tree : ∀ (l0 : List t.den) (len id : Nat) (el : TypeId), lo ≤ id → (dens h)[id]? = some (.live ⟨t.size, l0.map t.row, el⟩) → len = l0.length → Rep w ι M (.sO id 0 len) z → Rep w ι₂ M₂ (.sF t.size (l0.map t.row)) z := by
    intro l0 len id el hlo hd hl rr
    obtain ⟨lc, c, fr, g1, la, g2, g3⟩ := hlive id _ hlo hd
    refine rep_sO_tree g1 la g2 g3 (by simpa using hl) rfl (fun i r r' h1 h2 => ?_) rr
    rw [h1] at h2; injection h2 with h2; subst h2
    refine ⟨rfl, fun j a b ha hb => ?_⟩
    rw [ha] at hb; injection hb with hb; subst hb
    exact free ((t.nir 0 l0) _ (get_mem h1) _ (get_mem ha))
  unfold rdH at e
  split at e
  · rename_i id len
    split at e
    · rename_i hlo
      split at e
      · rename_i o ho
        split at e
        · rename_i hsz
          have hd : (dens h)[id]? = some (.live o) := by rw [dens_get, ho]; rfl
          obtain ⟨lc, c, fr, g1, la, g2, g3⟩ := hlive id o hlo hd
          obtain ⟨u1, u2⟩ := unRows_gen (unPure_ok 8) (fun _ => LE.refl _) e
          refine .sL _ _ _ ?_
          rw [← hsz.1]
          refine rep_sO_tree g1 la g2 g3 (by simp [hsz.2, u1]) (by simp [u1]) (fun i r r' h1 h2 => ?_) r
          rw [List.getElem?_map] at h2
          cases ha : l[i]? with
          | none => rw [ha] at h2; simp at h2
          | some a =>
            rw [ha] at h2; simp at h2; subst h2
            obtain ⟨v1, v2⟩ := u2 i r a h1 ha
            refine ⟨v1, fun j p q hp hq y rr => ?_⟩
            exact free (t.nis 0 a [] (by intro _ h; cases h) q (get_mem hq)) (v2 j p q hp hq rr)
        · cases e
      · rename_i t0 l0 el ho
        obtain ⟨q1, q2, q3⟩ := castL_rows e
        have hb : len = l0.length := by simp only [lensV, ho] at hc; exact of_decide_eq_true (hc _ (by simp))
        refine .sL _ _ _ (tree l len id el hlo ?_ (hb.trans q3) r)
        rw [dens_get, ho, ← q1, ← q2]; rfl
      · cases e
    · cases e
  · rename_i id n
    split at e
    · rename_i hlo
      split at e
      · rename_i t0 l0 el ho
        obtain ⟨q1, q2, q3⟩ := castL_rows e
        have hb : n = l0.length := by simp only [lensV, ho] at hc; exact of_decide_eq_true (hc _ (by simp))
        subst hb
        cases r with
        | oL _ _ _ r =>
          by_cases hn : l0 = []
          · subst hn
            have : l = [] := List.length_eq_zero_iff.1 (by simpa using q3.symm)
            subst this
            simp at r
            exact .sL _ _ _ (LE.nil _ (free (.v _) r))
          · have hn' : ¬ l0.length = 0 := fun q => hn (List.length_eq_zero_iff.1 q)
            rw [if_neg hn'] at r
            refine .sL _ _ _ (tree l l0.length id el hlo ?_ q3 r)
            rw [dens_get, ho, ← q1, ← q2]
            simp [XO.den, hn]
      · cases e
    · cases e
  · exact free (.sL t l) (unPure_ok 8 x t l e r)

/-- In the heap k, y can be read as the tree x. -/
def RA (k : Heap) (y x : V) : Prop := ∀ (w : World) (ι : Iota) (z : Value), HRel k ι w → Rep w ι (Mt k ι) y z → Rep w ι.none (Mt [] ι.none) x z
theorem RA.agg {k : Heap} {x : V} {xs ys : List V} (hx : norm x = .agg xs) (h : Pairs (fun a b => RA k a b) xs ys) : RA k x (.agg ys) := by
  intro w ι z H r
  have r := r.norm
  rw [hx] at r
  cases r with
  | agg _ vs hl hr =>
    refine .agg _ vs (h.1.symm.trans hl) (fun i h1 h2 => ?_)
    have hi : i < xs.length := by rw [h.1]; exact h1
    exact h.2 i _ _ (List.getElem?_eq_getElem hi) (List.getElem?_eq_getElem h1) _ _ _ H (hr i hi h2)

theorem flat_rep {w w' : World} {ι ι' : Iota} {M M' : Nat → Prop} : ∀ {t : Ty} {a : t.den} {r : List V}, flatTy t = true → (∀ x, x ∈ r → ∀ {y : Value}, Rep w ι M x y → Rep w' ι' M' x y) → ∀ x, x ∈ t.cells a r → ∀ {y : Value}, Rep w ι M x y → Rep w' ι' M' x y
  | .int _, _, _, _, hr, x, hx => fun rr => by rcases List.mem_cons.1 hx with q | q; subst q; cases rr; exact .v _; exact hr x q rr
  | .bool, _, _, _, hr, x, hx => fun rr => by rcases List.mem_cons.1 hx with q | q; subst q; cases rr; exact .v _; exact hr x q rr
  | .str, _, _, _, hr, x, hx => fun rr => by rcases List.mem_cons.1 hx with q | q; subst q; cases rr; exact .v _; exact hr x q rr
  | .pair a b, p, r, hf, hr, x, hx => by
    simp only [flatTy, Bool.and_eq_true] at hf
    exact flat_rep (t := a) hf.1 (flat_rep (t := b) hf.2 hr) x hx
theorem flat_val {w w' : World} {ι ι' : Iota} {M M' : Nat → Prop} {t : Ty} {a : t.den} (hf : flatTy t = true) {y : Value} (r : Rep w ι M (t.val a) y) : Rep w' ι' M' (t.val a) y := by
  cases t with
  | int k => cases r; exact .v _
  | bool => cases r; exact .v _
  | str => cases r; exact .v _
  | list t => cases hf
  | pair p q =>
    cases r with
    | agg _ vs hl hr => exact .agg _ vs hl (fun i h1 h2 => flat_rep (w := w) (ι := ι) (M := M) (t := .pair p q) (a := a) (r := []) hf (fun x h => by cases h) _ (List.getElem_mem h1) (hr i h1 h2))
theorem flat_vals {w w' : World} {ι ι' : Iota} {M M' : Nat → Prop} : ∀ {ts : List Ty} {x : Tup ts}, ts.all flatTy = true → ∀ v, v ∈ vals ts x → ∀ {y : Value}, Rep w ι M v y → Rep w' ι' M' v y
  | [], _, _, v, hv => by cases hv
  | t :: ts, x, hf, v, hv => by
    simp only [List.all_cons, Bool.and_eq_true] at hf
    intro r
    rcases List.mem_cons.1 hv with q | q
    · subst q; exact flat_val hf.1 r
    · exact flat_vals (ts := ts) hf.2 v q r
theorem RV.flat_rep {w w' : World} {ι ι' : Iota} {M M' : Nat → Prop} {x : RV} (hf : x.flat = true) {y : Value} (r : Rep w ι M x.val y) : Rep w' ι' M' x.val y := by
  cases x with
  | d t a => exact flat_val hf r
  | tup ts a =>
    cases r with
    | tup _ vs hl hr => exact .tup _ vs hl (fun i h1 h2 => flat_vals (w := w) (ι := ι) (M := M) hf _ (List.getElem_mem h1) (hr i h1 h2))

/-- A contract over trees serves a call whose arguments are objects of the caller: the callee reads them and writes none of them. -/
theorem PC.read {P : Program} {f : FuncId} {args args0 : List V} {k : Heap} {x : RV} (hx : x.flat = true) (hc : PCX P f args0 [] [] x.val) (ha : Pairs (fun a b => RA k a b) args args0) : PC P f args k (fun y k' => y = x.val ∧ k' = k) := by
  intro ι w vals hp H
  have hob0 : ∀ b, ¬ Ob [] ι.none b := by rintro b ⟨id, o, l, q, _⟩; simp at q
  have H0 : HRel [] ι.none w := ⟨fun id o h => by simp at h, fun id h => by simp at h, fun id _ => rfl, fun id o l id' o' l' h => by simp at h, H.xlt, fun b _ => hob0 b⟩
  have hp0 : PW2 w ι.none (Mt [] ι.none) args0 vals := by
    refine ⟨ha.1.symm.trans hp.1, fun i x hx => ?_⟩
    have hi : i < args.length := by rw [ha.1]; exact get_lt hx
    obtain ⟨y, y1, y2⟩ := hp.2 i _ (List.getElem?_eq_getElem hi)
    exact ⟨y, y1, ha.2 i _ _ (List.getElem?_eq_getElem hi) hx _ _ _ H y2⟩
  refine (hc.2 [] (fun p hp => by cases hp) ι.none w vals hp0 H0).mono ?_
  rintro e w' ⟨y, _, _, ι', rfl, ⟨rfl, rfl⟩, ry, H', ev⟩
  have ev' : Evolve k ι w k ι w' := ⟨ev.os, ev.tape, ev.output, ev.size, fun _ _ q => q, rfl, fun b hb q => ⟨(ev.frame b hb (hob0 b)).1, q⟩, ev.sizes⟩
  refine ⟨y, _, k, ι, rfl, ⟨rfl, rfl⟩, x.flat_rep hx ry, ?_, ev'⟩
  refine ⟨fun id o ho => ?_, H.free, H.out, H.apart, fun b hb => Nat.lt_of_lt_of_le (H.xlt b hb) ev.size, H.xob⟩
  obtain ⟨l, c, fr, h1, la⟩ := H.live id o ho
  have hb := H.blk_lt ⟨id, o, l, ho, h1, rfl⟩
  exact ⟨l, c, fr, h1, ⟨((ev.frame _ hb (hob0 _)).1).trans la.blk, la.unfrozen, la.sz, la.rows, la.fits, fun i hi j hj => let ⟨u, u1, u2⟩ := la.reads i hi j hj; ⟨u, u1, u2.mono ev'⟩⟩⟩

/- arguments by value, and arguments that are objects -/
theorem rdP_ok {ps : List Ty} {args : List V} {x : Tup ps} (e : rdA (unPure 8) ps args = some x) : LEs args (vals ps x) :=
  rdA_gen (R := fun a b => LE a b) (R' := fun a b => LE a b) (unPure_ok 8) (fun _ => LE.refl _) (fun _ _ h => h) LE.norm_agg e

/-- Readings under the condition that the lengths agree, for a relation that aggregates keep. -/
theorem rdH_gen {h : List XO} {lo : Nat} {R : V → V → Prop} (hR : ∀ x t l, rdH h lo x t = some l → allT (lensV h x) → R x (.sL t l)) (h0 : ∀ x, R (.v x) (.v x)) (hagg : ∀ x xs ys, norm x = .agg xs → Pairs R xs ys → R x (.agg ys))
    {t : Ty} {x : V} {a : t.den} (e : un (rdH h lo) t (argCells t x) = some (a, [])) (hc : allT (lens1 h x)) : R x (t.val a) := by
  refine arg_gen (R := fun a b => allT (lensV h a) → R a b) (R' := fun a b => allT (lens1 h a) → R a b) (f := rdH h lo) (fun x t l q c => hR x t l q c) (fun x _ => h0 x) (fun x y hxy hc => hxy ?_) (fun x xs ys hx hp hc => hagg x xs ys hx ⟨hp.1, fun i p q h1 h2 => hp.2 i p q h1 h2 ?_⟩) e hc
  · cases x with
    | agg _ => intro c hc'; cases hc'
    | _ => exact hc
  · cases x with
    | agg zs => injection hx with hx; subst hx; exact fun c hc' => hc c (List.mem_flatMap.2 ⟨p, get_mem h1, hc'⟩)
    | v q =>
      have : ∃ r, p = .v r := by
        cases q <;> simp [norm, ofValue] at hx
        subst hx
        obtain ⟨a, _, ha⟩ := List.mem_map.1 (get_mem h1)
        exact ⟨a, ha.symm⟩
      obtain ⟨r, rfl⟩ := this
      intro c hc'; cases hc'
    | _ => cases hx
theorem rdHs_gen {h : List XO} {lo : Nat} {R : V → V → Prop} (hR : ∀ x t l, rdH h lo x t = some l → allT (lensV h x) → R x (.sL t l)) (h0 : ∀ x, R (.v x) (.v x)) (hagg : ∀ x xs ys, norm x = .agg xs → Pairs R xs ys → R x (.agg ys)) :
    ∀ {ps : List Ty} {args : List V} {x : Tup ps}, rdA (rdH h lo) ps args = some x → allT (lens h args) → Pairs R args (vals ps x)
  | [], [], x, _, _ => ⟨rfl, fun i x y h => by simp at h⟩
  | [], _ :: _, _, h, _ => by simp [rdA] at h
  | _ :: _, [], _, h, _ => by simp [rdA] at h
  | t :: ts, v :: vs, x, e, hc => by
    simp only [rdA] at e
    split at e
    · rename_i a ha
      split at e
      · rename_i r hr
        injection e with e; subst e
        obtain ⟨h1, h2⟩ := rdHs_gen hR h0 hagg hr (fun c q => hc c (by simp only [lens, List.flatMap_cons, List.mem_append]; exact .inr q))
        refine ⟨by simp [vals, h1], fun i p q hp hq => ?_⟩
        cases i with
        | zero => simp [vals] at hp hq; subst hp hq; exact rdH_gen hR h0 hagg ha (fun c q => hc c (by simp only [lens, List.flatMap_cons, List.mem_append]; exact .inl q))
        | succ i => exact h2 i p q (by simpa using hp) (by simpa [vals] using hq)
      · cases e
    · cases e

theorem rdH_ra {h : List XO} {x : V} {t : Ty} {l : List t.den} (e : rdH h 0 x t = some l) (hc : allT (lensV h x)) : RA (dens h) x (.sL t l) := by
  intro w ι z H r
  refine rdH_rep (lo := 0) (fun b q => .inl (mt_none q)) (fun id o _ ho => ?_) e hc r
  obtain ⟨l, c, fr, h1, la⟩ := H.live id o ho
  exact ⟨l, c, fr, h1, la, H.blk_lt ⟨id, o, l, ho, h1, rfl⟩, fun q => H.xob _ (mt_none q) ⟨id, o, l, ho, h1, rfl⟩⟩
/-- The row of an object, as typed data; lists of its own through the heap. -/
def rdRow (h : List XO) (t : Ty) (o : XO) : Option (t.den × List V) := match o.den with
  | .live ob => if ob.sz = t.size then (match ob.rows with
    | [row] => (match un (rdH h 0) t row with
      | some (a, []) => some (a, row)
      | _ => none)
    | _ => none) else none
  | _ => none
theorem rdRow_of {h : List XO} {t : Ty} {o : XO} {a : t.den} {row : List V} (e : rdRow h t o = some (a, row)) : ∃ ob, o.den = .live ob ∧ ob.sz = t.size ∧ ob.rows = [row] ∧ un (rdH h 0) t row = some (a, []) := by
  unfold rdRow at e
  split at e
  · rename_i ob hob
    split at e
    · rename_i hsz
      split at e
      · rename_i row' hrow
        split at e
        · rename_i a' hu
          injection e with e; injection e with e1 e2; subst e1 e2
          exact ⟨ob, hob, hsz, hrow, hu⟩
        · cases e
      · cases e
    · cases e
  · cases e
theorem rdRow_mk {h : List XO} {t : Ty} {o : XO} {a : t.den} {row : List V} {ob : AObj} (h1 : o.den = .live ob) (h2 : ob.sz = t.size) (h3 : ob.rows = [row]) (h4 : un (rdH h 0) t row = some (a, [])) : rdRow h t o = some (a, row) := by
  simp only [rdRow, h1, h2, if_true, h3, h4]
theorem rdRow_ra {h : List XO} {t : Ty} {j : Nat} {o : XO} {a : t.den} {row : List V} (ho : h[j]? = some o) (e : rdRow h t o = some (a, row)) (hc : allT (row.flatMap (lensV h))) : RA (dens h) (.pO j 0 0) (.pF (t.row a) 0) := by
  unfold rdRow at e
  split at e
  · rename_i ob hob
    split at e
    · rename_i hsz
      split at e
      · rename_i row' hrow
        split at e
        · rename_i a' hu
          injection e with e; injection e with e1 e2; subst e1 e2
          have hd : (dens h)[j]? = some (.live ob) := by rw [dens_get, ho, ← hob]; rfl
          obtain ⟨u1, u2⟩ := un_row (R := fun x y => allT (lensV h x) → RA (dens h) x y) (fun x t l e hc => rdH_ra e hc) (fun x _ _ _ _ _ r => by cases r; exact .v _) hu
          intro w ι z H r
          cases r with
          | pO _ _ _ l hl =>
            obtain ⟨l2, c, fr, g1, la⟩ := H.live j ob hd
            rw [hl] at g1; injection g1 with g1; subst g1
            have hb : Ob (dens h) ι l.blk := ⟨j, ob, l, hd, hl, rfl⟩
            have hr0 : 0 < ob.rows.length := by rw [hrow]; simp
            have hget : ∀ i, i < (t.row a').length → ∃ x, c[l.base + i]? = some x ∧ ∀ y, (t.row a')[i]? = some y → Rep w ι.none (Mt [] ι.none) y x := by
              intro i hi
              have hi2 : i < row'.length := by rw [u1]; exact hi
              have he : ob.rows[0] = row' := by simp [hrow]
              obtain ⟨x, x1, x2⟩ := la.reads 0 hr0 i (by rw [he]; exact hi2)
              refine ⟨x, by simpa using x1, fun y hy => ?_⟩
              have hx : ob.rows[0][i]'(by rw [he]; exact hi2) = row'[i] := by simp [he]
              rw [hx] at x2
              exact u2 i _ y (List.getElem?_eq_getElem hi2) hy (fun b hb => hc b (List.mem_flatMap.2 ⟨_, List.getElem_mem hi2, hb⟩)) w ι x H x2
            have := Rep.pF (w := w) (ι := ι.none) (M := Mt [] ι.none) (t.row a') 0 l.blk l.base (fun i => (c[l.base + i]?).getD default) (H.blk_lt hb) (fun q => H.xob _ (mt_none q) hb) (fun i hi => ?_) (fun i hi => ?_)
            · simpa using this
            · obtain ⟨x, x1, _⟩ := hget i hi
              simp only [World.cell?, la.blk, x1]; rfl
            · obtain ⟨x, x1, x2⟩ := hget i hi
              simp only [x1, Option.getD_some]
              exact x2 _ (List.getElem?_eq_getElem hi)
        · cases e
      · cases e
    · cases e
  · cases e
theorem LE.pF {r r' : List V} (h : LEs r r') : LE (.pF r 0) (.pF r' 0) := by
  intro w ι M z q
  cases q with
  | pF _ _ b o cells h1 h2 h3 h4 =>
    refine .pF r' 0 b o cells h1 h2 (fun j hj => h3 j (by rw [h.1]; exact hj)) (fun j hj => ?_)
    have hj1 : j < r.length := by rw [h.1]; exact hj
    exact h.2 j _ _ (List.getElem?_eq_getElem hj1) (List.getElem?_eq_getElem hj) (h4 j hj1)
theorem rdHs_ra {h : List XO} {ps : List Ty} {args : List V} {x : Tup ps} (e : rdA (rdH h 0) ps args = some x) (hc : allT (lens h args)) : Pairs (fun a b => RA (dens h) a b) args (vals ps x) :=
  rdHs_gen (R := RA (dens h)) (fun _ _ _ e hc => rdH_ra e hc) (fun x _ _ _ _ r => by cases r; exact .v _) (fun _ _ _ hx hp => RA.agg hx hp) e hc

theorem rdH_frz {h : List XO} {τ : Nat → Option Nat} {lo : Nat} (hτ : ∀ id, lo ≤ id → τ id = none) {x : V} {t : Ty} {l : List t.den} (e : rdH h lo x t = some l) (hc : allT (lensV h x)) : Frz τ (dens h) x (.sL t l) :=
  fun cv _ r => rdH_rep (lo := lo) (fun b hb => Classical.byContradiction fun q => cv.wide b q hb) (fun id o hlo ho => cv.live id o (hτ id hlo) ho) e hc r
theorem Frz.agg {h : Heap} {τ : Nat → Option Nat} (x : V) (xs ys : List V) (hx : norm x = .agg xs) (hp : Pairs (fun a b => Frz τ h a b) xs ys) : Frz τ h x (.agg ys) := by
  intro w ι M ι₂ M₂ cv z r
  have r := r.norm
  rw [hx] at r
  cases r with
  | agg _ vs hl hr =>
    refine .agg _ vs (hp.1.symm.trans hl) (fun i h1 h2 => ?_)
    have hi : i < xs.length := by rw [hp.1]; exact h1
    exact hp.2 i _ _ (List.getElem?_eq_getElem hi) (List.getElem?_eq_getElem h1) cv (hr i hi h2)

/- results -/
/-- What the result has to be. -/
structure Leaf (p : Prop) : Prop where
  out : p
def cmpTup (h : List XO) (lo : Nat) : (ts : List Ty) → List V → Tup ts → Prop → Prop
  | [], [], _, A => A
  | t :: ts, y :: ys, (x, r), A => match un (rdH h lo) t (argCells t y) with
    | some (a, []) => needs (lens1 h y) (Leaf (a = x) ∧ cmpTup h lo ts ys r A)
    | _ => False
  | _, _, _, _ => False
/-- The value y is the result x. -/
def cmpR (h : List XO) (lo : Nat) (y : V) (A : Prop) : RV → Prop
  | .d t x => match un (rdH h lo) t (argCells t y) with
    | some (a, []) => needs (lens1 h y) (Leaf (a = x) ∧ A)
    | _ => False
  | .tup ts x => match y with
    | .tup ys => cmpTup h lo ts ys x A
    | _ => False

theorem cmp1 {h : List XO} {τ : Nat → Option Nat} {lo : Nat} (hτ : ∀ id, lo ≤ id → τ id = none) {t : Ty} {y : V} {a : t.den} (e : un (rdH h lo) t (argCells t y) = some (a, [])) (hc : allT (lens1 h y)) : Frz τ (dens h) y (t.val a) :=
  rdH_gen (R := fun a b => Frz τ (dens h) a b) (fun _ _ _ e hc => rdH_frz hτ e hc) (fun x => Frz.tree (.v x)) (fun x xs ys hx hp => Frz.agg x xs ys hx hp) e hc
theorem cmpTup_ok {h : List XO} {τ : Nat → Option Nat} {lo : Nat} (hτ : ∀ id, lo ≤ id → τ id = none) {A : Prop} : ∀ {ts : List Ty} {ys : List V} {x : Tup ts}, cmpTup h lo ts ys x A → Pairs (fun a b => Frz τ (dens h) a b) ys (vals ts x) ∧ A
  | [], [], _, e => ⟨⟨rfl, fun i x y h => by simp at h⟩, e⟩
  | [], _ :: _, _, e => e.elim
  | _ :: _, [], _, e => e.elim
  | t :: ts, y :: ys, (x, r), e => by
    simp only [cmpTup] at e
    split at e
    · rename_i a ha
      obtain ⟨hc, ⟨e1⟩, e2⟩ := needs_spec e
      obtain ⟨⟨h1, h2⟩, hA⟩ := cmpTup_ok hτ e2
      refine ⟨⟨by simp [vals, h1], fun i p q hp hq => ?_⟩, hA⟩
      cases i with
      | zero => simp [vals] at hp hq; subst hp hq; rw [← e1]; exact cmp1 hτ ha hc
      | succ i => exact h2 i p q (by simpa using hp) (by simpa [vals] using hq)
    · cases e
theorem cmpR_ok {h : List XO} {τ : Nat → Option Nat} {lo : Nat} (hτ : ∀ id, lo ≤ id → τ id = none) {y : V} {x : RV} {A : Prop} (e : cmpR h lo y A x) : Frz τ (dens h) y x.val ∧ A := by
  cases x with
  | d t x =>
    simp only [cmpR] at e
    split at e
    · rename_i a ha
      obtain ⟨hc, ⟨e1⟩, hA⟩ := needs_spec e
      rw [← e1]; exact ⟨cmp1 hτ ha hc, hA⟩
    · exact e.elim
  | tup ts x =>
    simp only [cmpR] at e
    split at e
    · rename_i ys
      obtain ⟨hp, hA⟩ := cmpTup_ok hτ e
      refine ⟨?_, hA⟩
      intro w ι M ι₂ M₂ cv z r
      cases r with
      | tup _ vs hl hr =>
        refine .tup _ vs (hp.1.symm.trans hl) (fun i h1 h2 => ?_)
        have hi : i < ys.length := by rw [hp.1]; exact h1
        exact hp.2 i _ _ (List.getElem?_eq_getElem hi) (List.getElem?_eq_getElem h1) cv (hr i hi h2)
    · exact e.elim

/-- A function that makes one object: what holds in the empty heap holds in every heap. -/
theorem PC.newObj {P : Program} {f : FuncId} {args : List V} {o : AObj} (hargs : NIs 0 args) (ho : NIr 0 o.rows)
    (hc : PC P f args [] (fun x h' => ∃ i c, x = .pO i 0 0 ∧ h'[i]? = some (.live c) ∧ c.sz = o.sz ∧ c.elem = o.elem ∧ c.rows.length = o.rows.length ∧ ∀ (j : Nat) (r r' : List V), c.rows[j]? = some r → o.rows[j]? = some r' → LEs r r'))
    {k : Heap} {new : Nat} {k' : Heap} (hh : halloc k new o = some k') : PC P f args k (fun y h => y = .pO new 0 0 ∧ h = k') := by
  intro ι w vals hp H
  have hlt : ∀ b, Mt k ι b → b < w.heap.size := by
    rintro b (q | q)
    · exact H.xlt b q
    · exact H.blk_lt q
  let ι0 : Iota := { at' := fun _ => none, X := Mt k ι }
  have H0 : HRel [] ι0 w := ⟨fun id o h => by simp at h, fun id h => by simp at h, fun id _ => rfl, fun id o l id' o' l' h => by simp at h, hlt, fun b _ ⟨id, o, l, q, _⟩ => by simp at q⟩
  have hp0 : PW2 w ι0 (Mt [] ι0) args vals := by
    refine ⟨hp.1, fun i x hx => ?_⟩
    obtain ⟨y, y1, y2⟩ := hp.2 i x hx
    exact ⟨y, y1, y2.free (fun b q => q.elim id fun ⟨id, o, l, q, _⟩ => by simp at q) (hargs x (get_mem hx))⟩
  refine (hc ι0 w vals hp0 H0).mono ?_
  rintro e w' ⟨y, x, h', ι', rfl, ⟨i, c, rfl, hi, c1, c2, c3, c4⟩, ry, H', ev⟩
  have hob0 : ∀ b, ¬ Ob [] ι0 b := by rintro b ⟨id, o, l, q, _⟩; simp at q
  have evk : ∀ b, b < w.heap.size → w'.heap[b]? = w.heap[b]? ∧ ¬ Ob h' ι' b := fun b hb => ev.frame b hb (hob0 b)
  obtain ⟨l, cc, fr, hl, la⟩ := H'.live i c hi
  have hblk : ¬ l.blk < w.heap.size := fun q => (evk _ q).2 ⟨i, c, l, hi, hl, rfl⟩
  obtain ⟨g1, g2, g3, g4⟩ := halloc_get hh
  have hnew : ι new = none := by
    rcases g4 with g4 | g4
    · exact H.free _ g4
    · exact H.out _ g4
  let ι2 := ι.put new l
  have io : ∀ id l', ι id = some l' → ι2 id = some l' := by
    intro id l' hl'
    have : id ≠ new := by intro e; subst e; rw [hnew] at hl'; cases hl'
    simp [ι2, Iota.put, this, hl']
  have obk : ∀ b, Ob k' ι2 b → b = l.blk ∨ Ob k ι b := by
    rintro b ⟨id, o', l', h1, h2, h3⟩
    by_cases hid : id = new
    · subst hid
      simp [ι2, Iota.put] at h2
      subst h2; exact .inl h3.symm
    · rw [g2 id hid] at h1
      simp [ι2, Iota.put, hid] at h2
      exact .inr ⟨id, o', l', h1, h2, h3⟩
  have mt2 : ∀ b, Mt k' ι2 b → Mt h' ι' b := by
    rintro b (q | q)
    · exact .inl (by rw [ev.away]; exact .inl q)
    · rcases obk b q with rfl | q
      · exact .inr ⟨i, c, l, hi, hl, rfl⟩
      · exact .inl (by rw [ev.away]; exact .inr q)
  have ev' : Evolve k ι w k' ι2 w' := by
    refine ⟨ev.os, ev.tape, ev.output, ev.size, io, rfl, fun b hb q => ⟨(evk b hb).1, fun m => ?_⟩, ev.sizes⟩
    rcases obk b m with rfl | m
    · exact hblk hb
    · exact q m
  refine ⟨y, _, k', ι2, rfl, ⟨rfl, rfl⟩, ?_, ?_, ev'⟩
  · cases ry with
    | pO _ _ _ l2 hl2 =>
      rw [hl] at hl2; injection hl2 with hl2; subst hl2
      have := Rep.pO (w := w') (ι := ι2) (M := Mt k' ι2) new 0 0 l (by simp [ι2, Iota.put])
      exact this
  · refine ⟨fun id o' ho' => ?_, fun id hid => ?_, fun id hid => ?_, fun id o1 l1 id' o2 l2 a1 a2 b1 b2 hb => ?_, fun b hb => Nat.lt_of_lt_of_le (H.xlt b hb) ev.size, fun b hb q => ?_⟩
    · by_cases hid : id = new
      · subst hid
        rw [g1] at ho'; injection ho' with ho'; injection ho' with ho'; subst ho'
        refine ⟨l, cc, fr, by simp [ι2, Iota.put], ⟨by rw [← c2]; exact la.blk, by rw [← c2, ← c1]; exact la.unfrozen, by rw [← c1]; exact la.sz, fun r' hr' => ?_, by rw [← c1, ← c3]; exact la.fits, fun m hm n hn => ?_⟩⟩
        · obtain ⟨m, hm, e⟩ := List.getElem_of_mem hr'
          have hm1 : m < c.rows.length := by rw [c3]; exact hm
          have u := c4 m _ _ (List.getElem?_eq_getElem hm1) (List.getElem?_eq_getElem hm)
          rw [← e, ← u.1, ← c1]
          exact la.rows _ (List.getElem_mem hm1)
        · have hm1 : m < c.rows.length := by rw [c3]; exact hm
          have u := c4 m _ _ (List.getElem?_eq_getElem hm1) (List.getElem?_eq_getElem hm)
          have hn1 : n < c.rows[m].length := by rw [u.1]; exact hn
          obtain ⟨z, z1, z2⟩ := la.reads m hm1 n hn1
          refine ⟨z, by rw [← c1]; exact z1, (u.2 n _ _ (List.getElem?_eq_getElem hn1) (List.getElem?_eq_getElem hn) z2).free mt2 ?_⟩
          exact ho _ (List.getElem_mem hm) _ (List.getElem_mem hn)
      · rw [g2 id hid] at ho'
        obtain ⟨l', c', fr', h1, la'⟩ := H.live id o' ho'
        have hb := H.blk_lt ⟨id, o', l', ho', h1, rfl⟩
        exact ⟨l', c', fr', io id l' h1, ⟨((evk _ hb).1).trans la'.blk, la'.unfrozen, la'.sz, la'.rows, la'.fits, fun m hm n hn => let ⟨u, u1, u2⟩ := la'.reads m hm n hn; ⟨u, u1, u2.mono ev'⟩⟩⟩
    · have hid' : id ≠ new := by intro q; subst q; rw [g1] at hid; cases hid
      rw [g2 id hid'] at hid
      simp [ι2, Iota.put, hid', H.free id hid]
    · have hid' : id ≠ new := by
        intro q; subst q
        have := get_lt g1
        omega
      simp only [ι2, Iota.put, hid', if_false]
      refine H.out id ?_
      rcases Nat.lt_or_ge id k.length with q | q
      · have := g2 id hid'
        rw [List.getElem?_eq_none hid, List.getElem?_eq_getElem q] at this
        cases this
      · exact q
    · by_cases h1 : id = new
      · by_cases h2 : id' = new
        · rw [h1, h2]
        · subst h1
          simp [ι2, Iota.put] at a2
          rw [g2 id' h2] at b1
          simp [ι2, Iota.put, h2] at b2
          exact absurd (by rw [a2, hb]; exact H.blk_lt ⟨id', o2, l2, b1, b2, rfl⟩) hblk
      · rw [g2 id h1] at a1
        simp [ι2, Iota.put, h1] at a2
        by_cases h2 : id' = new
        · subst h2
          simp [ι2, Iota.put] at b2
          exact absurd (by rw [b2, ← hb]; exact H.blk_lt ⟨id, o1, l1, a1, a2, rfl⟩) hblk
        · rw [g2 id' h2] at b1
          simp [ι2, Iota.put, h2] at b2
          exact H.apart _ _ _ _ _ _ a1 a2 b1 b2 hb
    · rcases obk b q with rfl | q
      · exact hblk (H.xlt _ hb)
      · exact H.xob b hb q

end Go.Abs
