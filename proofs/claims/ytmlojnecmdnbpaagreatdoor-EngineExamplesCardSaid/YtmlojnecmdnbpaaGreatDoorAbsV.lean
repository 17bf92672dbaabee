/- One operation of a plain region: the step. -/
import Derived.Test.YtmlojnecmdnbpaaGreatDoorAbsAr
namespace Go.Abs
set_option linter.unusedVariables false

/-- Operations by list: 'l' is the rest of 'ops' from some place on. -/
def POL (P : Program) (ops : Array Oper) (l : List Oper) (s : St) (Q : St → Prop) : Prop :=
  ∀ k, (∀ (j : Nat) (o : Oper), l[j]? = some o → ops[k + j]? = some o) → PO P ops (List.range' k l.length) s Q

section
variable {P : Program} {ops : Array Oper} {Q : St → Prop} {s : St}

theorem tail_al {k : Nat} {o : Oper} {l : List Oper} (h : ∀ (j : Nat) (o' : Oper), (o :: l)[j]? = some o' → ops[k + j]? = some o') :
    ops[k]? = some o ∧ ∀ (j : Nat) (o' : Oper), l[j]? = some o' → ops[k + 1 + j]? = some o' :=
  ⟨by simpa using h 0 o (by simp), fun j o' hj => by have := h (j + 1) o' (by simpa using hj); rwa [show k + 1 + j = k + (j + 1) by omega]⟩

theorem POL.nil (h : Q s) : POL P ops [] s Q := fun _ _ => PO.nil h

theorem POL.op {o : Oper} {l : List Oper} {x : V} {h' : Heap} (hw : awanted ops s.sl o = some true) (hx : aop P o.op (aev s.sl) s.h s.h.length = some (x, h')) (hr : POL P ops l ⟨sput s.sl o.dst x, h'⟩ Q) : POL P ops (o :: l) s Q := by
  intro k hk
  obtain ⟨h1, h2⟩ := tail_al hk
  simp only [List.length_cons, List.range'_succ]
  exact PO.op s.h.length h1 hw hx (hr (k + 1) h2)

theorem POL.no {o : Oper} {l : List Oper} (hw : awanted ops s.sl o = some false) (hr : POL P ops l ⟨sput s.sl o.dst (.v undef), s.h⟩ Q) : POL P ops (o :: l) s Q := by
  intro k hk
  obtain ⟨h1, h2⟩ := tail_al hk
  simp only [List.length_cons, List.range'_succ]
  exact PO.no h1 hw (hr (k + 1) h2)

theorem POL.call {o : Oper} {l : List Oper} {f : FuncId} {args : List V} {R : V → Heap → Prop} (hw : awanted ops s.sl o = some true) (hop : callOf P s.sl o.op = some (f, args)) (hcall : callable P f = true)
    (hc : PC P f args s.h R) (hr : ∀ x h', R x h' → POL P ops l ⟨sput s.sl o.dst x, h'⟩ Q) : POL P ops (o :: l) s Q := by
  intro k hk
  obtain ⟨h1, h2⟩ := tail_al hk
  simp only [List.length_cons, List.range'_succ]
  obtain ⟨fop, ars, tys, first, caps, hop2, hf, rfl⟩ := callOf_spec hop
  exact PO.call h1 hw hop2 hf hcall hc (fun x h' hR => hr x h' hR (k + 1) h2)

theorem PW.regionL {id : Nat} {Q : Exit → St → Prop} (h : POL P ops ops.toList s (Q .normal)) : PW P (.region id ops false) s Q := by
  refine PW.region ?_
  have hr : List.range ops.size = List.range' 0 ops.toList.length := by rw [List.range_eq_range']; simp
  rw [hr]
  exact h 0 (fun j o hj => by simpa using hj)


/-- Another knowledge of the state. -/
theorem PO.post {l : List Nat} {s2 : St} (hp : ∀ {ι : Iota} {a : Act} {w : World}, SR s ι a w → ∃ ι', SR s2 ι' a w ∧ Evolve s.h ι w s2.h ι' w) (hr : PO P ops l s2 Q) : PO P ops l s Q := by
  intro ι a w r
  obtain ⟨ι', r2, ev⟩ := hp r
  refine wpOps_mono ?_ _ _ _ (hr ι' a w r2)
  rintro e a' w' ⟨s3, ι3, q, r3, ev3⟩
  exact ⟨s3, ι3, q, r3, ev.trans ev3⟩
theorem POL.post {l : List Oper} {s2 : St} (hp : ∀ {ι : Iota} {a : Act} {w : World}, SR s ι a w → ∃ ι', SR s2 ι' a w ∧ Evolve s.h ι w s2.h ι' w) (hr : POL P ops l s2 Q) : POL P ops l s Q := fun k hk => PO.post hp (hr k hk)

theorem POL.os {o : Oper} {l : List Oper} {x : V} {h' : Heap} (hw : awanted ops s.sl o = some true) (hos : ∀ {ι : Iota} {a : Act} {w : World}, SR s ι a w → OS P s.h ι w (execOp a.eval o) (some (x, h')))
    (hr : POL P ops l ⟨sput s.sl o.dst x, h'⟩ Q) : POL P ops (o :: l) s Q := by
  intro k hk
  obtain ⟨ho, h2⟩ := tail_al hk
  simp only [List.length_cons, List.range'_succ]
  have hr := hr (k + 1) h2
  intro ι a w r
  simp only [wpOps, ho]
  rw [if_pos (awanted_spec r hw)]
  left
  unfold Oper.wp
  obtain ⟨y, w', ι', h1, h2, h3, ev⟩ := hos r x h' rfl
  have r' : SR ⟨sput s.sl o.dst x, h'⟩ ι' (a.put o.dst y) w' := ⟨by rw [put_defers']; exact r.defers, (r.slots.mono ev).put o.dst h2, h3⟩
  rcases h1 with h1 | ⟨h1, rfl⟩
  · rw [h1]; exact PO.after hr r' ev
  · rw [h1]; exact PO.after hr r' ev
theorem POL.osx {o : Oper} {l : List Oper} (hw : awanted ops s.sl o = some true) (hos : ∀ {ι : Iota} {a : Act} {w : World}, SR s ι a w → ∃ x h', OS P s.h ι w (execOp a.eval o) (some (x, h')) ∧ POL P ops l ⟨sput s.sl o.dst x, h'⟩ Q) : POL P ops (o :: l) s Q := by
  intro k hk
  obtain ⟨ho, h2⟩ := tail_al hk
  simp only [List.length_cons, List.range'_succ]
  intro ι a w r
  obtain ⟨x, h', hos, hr⟩ := hos r
  have hr := hr (k + 1) h2
  simp only [wpOps, ho]
  rw [if_pos (awanted_spec r hw)]
  left
  unfold Oper.wp
  obtain ⟨y, w', ι', h1, h2, h3, ev⟩ := hos x h' rfl
  have r' : SR ⟨sput s.sl o.dst x, h'⟩ ι' (a.put o.dst y) w' := ⟨by rw [put_defers']; exact r.defers, (r.slots.mono ev).put o.dst h2, h3⟩
  rcases h1 with h1 | ⟨h1, rfl⟩
  · rw [h1]; exact PO.after hr r' ev
  · rw [h1]; exact PO.after hr r' ev
end

theorem SR.unreserve {sl : List V} {h : Heap} {ι : Iota} {a : Act} {w : World} (r : SR ⟨sl, h ++ [.free]⟩ ι a w) : SR ⟨sl, h⟩ ι a w ∧ Evolve (h ++ [.free]) ι w h ι w := by
  have get : ∀ (k : Nat) (x : AObj), h[k]? = some (.live x) ↔ (h ++ [HS.free])[k]? = some (.live x) := by
    intro k x
    rw [List.getElem?_append]
    split
    · rfl
    · rename_i hk
      rw [List.getElem?_eq_none (by omega)]
      cases hq : k - h.length with
      | zero => simp
      | succ n => simp
  have ob : ∀ b, Ob h ι b ↔ Ob (h ++ [.free]) ι b := by
    intro b
    constructor
    · rintro ⟨k, x, y, h1, h2, h3⟩; exact ⟨k, x, y, (get k x).1 h1, h2, h3⟩
    · rintro ⟨k, x, y, h1, h2, h3⟩; exact ⟨k, x, y, (get k x).2 h1, h2, h3⟩
  have H := r.heap
  have ev : Evolve (h ++ [.free]) ι w h ι w := ⟨rfl, rfl, rfl, Nat.le_refl _, fun _ _ q => q, rfl, fun b _ hm => ⟨rfl, fun q => hm ((ob b).1 q)⟩, fun b c _ fr hb => ⟨c, fr, hb, rfl⟩⟩
  refine ⟨⟨r.defers, r.slots.mono ev, ⟨fun k x hx => ?_, fun k hk => ?_, fun k hk => ?_, fun k1 o1 l1 k2 o2 l2 a1 a2 b1 b2 => H.apart _ _ _ _ _ _ ((get _ _).1 a1) a2 ((get _ _).1 b1) b2, H.xlt, fun b hb q => H.xob b hb ((ob b).1 q)⟩⟩, ev⟩
  · obtain ⟨l2, c2, fr2, h1, la2⟩ := H.live k x ((get k x).1 hx)
    exact ⟨l2, c2, fr2, h1, ⟨la2.blk, la2.unfrozen, la2.sz, la2.rows, la2.fits, fun i hi j hj => let ⟨y, q1, q2⟩ := la2.reads i hi j hj; ⟨y, q1, q2.mono ev⟩⟩⟩
  · exact H.free k (by
      show (h ++ [HS.free])[k]? = _
      rw [List.getElem?_append_left (get_lt hk)]; exact hk)
  · rcases Nat.lt_or_ge h.length k with q | q
    · exact H.out k (by simp; omega)
    · have : k = h.length := Nat.le_antisymm q hk
      subst this
      exact H.free _ (by show (h ++ [HS.free])[h.length]? = _; simp)

/- what an operation has made of the heap, with what is known of the rest -/
def reb (h : List XO) (ws : List Nat) : Heap → Nat → List XO
  | [], _ => []
  | s :: r, i => (if ws.contains i then .raw s else match h[i]? with
    | some o => o
    | none => .raw s) :: reb h ws r (i + 1)
theorem reb_den {h : List XO} {ws : List Nat} : ∀ {k : Heap} {i : Nat}, (∀ j s, k[j]? = some s → ¬ (i + j) ∈ ws → (dens h)[i + j]? = some s) → dens (reb h ws k i) = k
  | [], i, _ => rfl
  | s :: r, i, hk => by
    have ih := reb_den (h := h) (ws := ws) (k := r) (i := i + 1) (fun j s' hj hw => by
      have := hk (j + 1) s' (by simpa using hj) (by rwa [show i + (j + 1) = i + 1 + j by omega])
      rwa [show i + 1 + j = i + (j + 1) by omega])
    have hd : dens (reb h ws (s :: r) i) = (XO.den (if ws.contains i then .raw s else match h[i]? with | some o => o | none => .raw s)) :: dens (reb h ws r (i + 1)) := rfl
    rw [hd, ih]
    congr 1
    by_cases hw : i ∈ ws
    · rw [if_pos (by simpa using hw)]; rfl
    · rw [if_neg (by simpa using hw)]
      have := hk 0 s (by simp) (by simpa using hw)
      rw [Nat.add_zero, dens_get] at this
      cases hq : h[i]? with
      | none => rfl
      | some o => rw [hq] at this; simpa using this
def strip : List XO → List XO
  | [] => []
  | [.raw .free] => []
  | x :: r => x :: strip r
theorem strip_den : ∀ h : List XO, dens (strip h) = dens h ∨ dens h = dens (strip h) ++ [.free]
  | [] => .inl rfl
  | [.raw .free] => .inr rfl
  | [.raw .dead] => .inl rfl
  | [.raw (.live _)] => .inl rfl
  | [.tl _ _ _] => .inl rfl
  | [.opt _ _ _] => .inl rfl
  | [.ob _ _ _] => .inl rfl
  | x :: y :: r => by
    have hd : strip (x :: y :: r) = x :: strip (y :: r) := by
      cases x with
      | raw s => cases s <;> rfl
      | _ => rfl
    rw [hd]
    rcases strip_den (y :: r) with h | h
    · left; show _ :: dens (strip (y :: r)) = _ :: dens (y :: r); rw [h]
    · right; show _ :: dens (y :: r) = _ :: (dens (strip (y :: r)) ++ _); rw [h]

/- values and lists brought into form (the same value: for the kernel's sake) -/
def fL {α : Type} (l : List α) : (List α → Prop) → Prop := List.rec (motive := fun _ => (List α → Prop) → Prop) (fun k => k []) (fun a _ ih k => ih fun r => k (a :: r)) l
theorem fL_eq {α : Type} (l : List α) : ∀ k : List α → Prop, fL l k = k l := by
  induction l with
  | nil => intro k; rfl
  | cons a l ih => intro k; exact ih fun r => k (a :: r)
def fVal (x : Value) (k : Value → Prop) : Prop := match x with
  | .int q n => k (.int q n)
  | .bool b => k (.bool b)
  | .string s => k (.string s)
  | x => k x
theorem fVal_eq (x : Value) (k : Value → Prop) : fVal x k = k x := by cases x <;> rfl
/-- A small number as a numeral. -/
def tabN : List Nat := [0, 1, 2, 3, 4, 5, 6, 7, 8, 9, 10, 11, 12, 13, 14, 15, 16, 17, 18, 19, 20, 21, 22, 23, 24, 25, 26, 27, 28, 29, 30, 31, 32, 33, 34, 35, 36, 37, 38, 39, 40, 41, 42, 43, 44, 45, 46, 47, 48, 49, 50, 51, 52, 53, 54, 55, 56, 57, 58, 59, 60, 61, 62, 63, 64, 65, 66, 67, 68, 69, 70, 71, 72, 73, 74, 75, 76, 77, 78, 79, 80, 81, 82, 83, 84, 85, 86, 87, 88, 89, 90, 91, 92, 93, 94, 95, 96, 97, 98, 99, 100, 101, 102, 103, 104, 105, 106, 107, 108, 109, 110, 111, 112, 113, 114, 115, 116, 117, 118, 119, 120, 121, 122, 123, 124, 125, 126, 127, 128, 129, 130, 131, 132, 133, 134, 135, 136, 137, 138, 139, 140, 141, 142, 143, 144, 145, 146, 147, 148, 149, 150, 151, 152, 153, 154, 155, 156, 157, 158, 159]
theorem tabN_eq : tabN = List.range' 0 160 := by rfl
def fNl (l : List Nat) : Nat → Nat → (Nat → Prop) → Prop := List.rec (motive := fun _ => Nat → Nat → (Nat → Prop) → Prop) (fun _ d k => k d) (fun x _ ih n d k => Nat.rec (motive := fun _ => Prop) (k x) (fun m _ => ih m d k) n) l
theorem fNl_eq : ∀ (m a n d : Nat) (k : Nat → Prop), d = a + n → fNl (List.range' a m) n d k = k d
  | 0, _, _, _, _, _ => rfl
  | m + 1, a, 0, d, k, h => by rw [List.range'_succ]; show k a = _; rw [h, Nat.add_zero]
  | m + 1, a, n + 1, d, k, h => by rw [List.range'_succ]; exact fNl_eq m (a + 1) n d k (by omega)
def fN (n : Nat) (k : Nat → Prop) : Prop := fNl tabN n n k
theorem fN_eq (n : Nat) (k : Nat → Prop) : fN n k = k n := by rw [fN, tabN_eq]; exact fNl_eq _ _ _ _ _ (by omega)
def fV1 (x : V) (k : V → Prop) : Prop := match x with
  | .v y => fVal y fun y => k (.v y)
  | .agg xs => fL xs fun xs => k (.agg xs)
  | .tup xs => fL xs fun xs => k (.tup xs)
  | .pF row off => fL row fun row => fN off fun off => k (.pF row off)
  | .pO a b c => fN a fun a => fN c fun c => k (.pO a b c)
  | .sF a b => k (.sF a b)
  | .sO a b c => fN a fun a => k (.sO a b c)
  | .sL a b => k (.sL a b)
  | .oL a b => fN a fun a => k (.oL a b)
  | x => k x
theorem fV1_eq (x : V) (k : V → Prop) : fV1 x k = k x := by
  cases x <;> simp only [fV1, fVal_eq, fL_eq, fN_eq]
def fVs (l : List V) : (List V → Prop) → Prop := List.rec (motive := fun _ => (List V → Prop) → Prop) (fun k => k []) (fun a _ ih k => fV1 a fun a => ih fun r => k (a :: r)) l
theorem fVs_eq (l : List V) : ∀ k : List V → Prop, fVs l k = k l := by
  induction l with
  | nil => intro k; rfl
  | cons a l ih => intro k; have h : fVs (a :: l) k = fV1 a (fun a => fVs l fun r => k (a :: r)) := rfl; rw [h, fV1_eq]; exact ih fun r => k (a :: r)
def fV (x : V) (k : V → Prop) : Prop := match x with
  | .v y => fVal y fun y => k (.v y)
  | .agg xs => fVs xs fun xs => k (.agg xs)
  | .tup xs => fVs xs fun xs => k (.tup xs)
  | .pF row off => fVs row fun row => fN off fun off => k (.pF row off)
  | x => fV1 x k
theorem fV_eq (x : V) (k : V → Prop) : fV x k = k x := by
  cases x <;> simp only [fV, fVal_eq, fVs_eq, fV1_eq, fN_eq]
def fRows (l : List (List V)) : (List (List V) → Prop) → Prop := List.rec (motive := fun _ => (List (List V) → Prop) → Prop) (fun k => k []) (fun a _ ih k => fVs a fun a => ih fun r => k (a :: r)) l
theorem fRows_eq (l : List (List V)) : ∀ k : List (List V) → Prop, fRows l k = k l := by
  induction l with
  | nil => intro k; rfl
  | cons a l ih => intro k; show fVs a _ = _; rw [fVs_eq]; exact ih fun r => k (a :: r)
def fX (o : XO) (k : XO → Prop) : Prop := match o with
  | .raw s => match s with
    | .live ⟨sz, rows, ⟨el, z⟩⟩ => fN sz fun sz => fN el fun el => fN z fun z => fRows rows fun rows => k (.raw (.live ⟨sz, rows, ⟨el, z⟩⟩))
    | .dead => k (.raw .dead)
    | .free => k (.raw .free)
  | .tl t l e => fN e fun e => k (.tl t l e)
  | .opt t l e => fN e fun e => k (.opt t l e)
  | .ob t a e => fN e fun e => k (.ob t a e)
theorem fX_eq (o : XO) (k : XO → Prop) : fX o k = k o := by
  cases o with
  | raw s => cases s <;> simp only [fX, fRows_eq, fN_eq]
  | _ => simp only [fX, fN_eq]
def fH (l : List XO) : (List XO → Prop) → Prop := List.rec (motive := fun _ => (List XO → Prop) → Prop) (fun k => k []) (fun a _ ih k => fX a fun a => ih fun r => k (a :: r)) l
theorem fH_eq (l : List XO) : ∀ k : List XO → Prop, fH l k = k l := by
  induction l with
  | nil => intro k; rfl
  | cons a l ih => intro k; have h : fH (a :: l) k = fX a (fun a => fH l fun r => k (a :: r)) := rfl; rw [h, fX_eq]; exact ih fun r => k (a :: r)
/-- A slot is set. -/
def setK : List V → Nat → V → (List V → Prop) → Prop := fun l => List.rec (motive := fun _ => Nat → V → (List V → Prop) → Prop) (fun _ _ k => k [])
  (fun a r ih d x k => Nat.rec (motive := fun _ => Prop) (k (x :: r)) (fun d _ => ih d x fun r => k (a :: r)) d) l
theorem setK_eq : ∀ (l : List V) (d : Nat) (x : V) (k : List V → Prop), setK l d x k = k (l.set d x)
  | [], _, _, _ => rfl
  | _ :: _, 0, _, _ => rfl
  | a :: r, d + 1, x, k => setK_eq r d x fun r => k (a :: r)
def putK (l : List V) (d : Option Tmp) (x : V) (k : List V → Prop) : Prop := match d with
  | some d => setK l d x k
  | none => k l
theorem putK_eq (l : List V) (d : Option Tmp) (x : V) (k : List V → Prop) : putK l d x k = k (sput l d x) := by
  cases d with
  | none => rfl
  | some d => exact setK_eq l d x k

/- conditions -/
/-- The condition holds, and A. -/
def need (c : Bool) (A : Prop) : Prop := c = true ∧ A
theorem need_iff (c : Bool) (A : Prop) : need c A ↔ c = true ∧ A := Iff.rfl
def needs (cs : List Bool) (A : Prop) : Prop := List.rec (motive := fun _ => Prop) A (fun c _ ih => need c ih) cs
theorem needs_spec {A : Prop} : ∀ {cs : List Bool}, needs cs A → allT cs ∧ A
  | [], h => ⟨fun c q => (by cases q), h⟩
  | c :: cs, h => by
    obtain ⟨h1, h2⟩ := (need_iff c _).1 h
    obtain ⟨h3, h4⟩ := needs_spec h2
    exact ⟨fun d hd => by rcases List.mem_cons.1 hd with q | q; exact q ▸ h1; exact h3 d q, h4⟩
/-- The condition decides. -/
def br (c : Bool) (A B : Prop) : Prop := @Bool.rec (fun _ => Prop) B A c
theorem br_iff (c : Bool) (A B : Prop) : br c A B ↔ (c = true → A) ∧ (c = false → B) := by cases c <;> simp [br]

structure XSt where
  sl : List V
  h : List XO
def XSt.den (s : XSt) : St := ⟨s.sl, dens s.h⟩

/-- Operations that take a new place. -/
def dalloc (P : Program) (o : Op) (ev : Operand → V) (h : List XO) (new : Nat) : DR :=
  match o with
  | .makeSlice t l c => match ev l, ev c with
    | .v (.int _ n), .v (.int _ m) => dmake P h new t (sameOp l c) n m
    | _, _ => none
  | .convert s d x => dtoBytes P h new s d (ev x)
  | .call c => match c.callee, c.args.toList with
    | .builtin .append, [x, y] => if c.argTypes.size = 2 then dapp P h new c.argTypes (ev x) (ev y) else none
    | _, _ => none
  | _ => none
def dst (P : Program) (o : Op) (ev : Operand → V) (h : List XO) : DR :=
  match o with
  | .store t p x => dstore P h t (ev p) (ev x)
  | _ => none

/-- A choice whose condition is unknown or known: both ways, or one. -/
def pickK (o : Op) (ev : Operand → V) (h : List XO) : Option (Bool × V × V) :=
  match o with
  | .pick c x y => match ev c with
    | .v (.bool b) => match ev x, ev y with
      | .v p, .v q => some (b, .v p, .v q)
      | _, _ => none
    | _ => none
  | _ => none
theorem pickK_ok {P : Program} {o : Op} {ev : Operand → V} {h : List XO} {new : Nat} {b : Bool} {x y : V} (e : pickK o ev h = some (b, x, y)) : AO P o ev (dens h) new (bif b then x else y) (dens h) := by
  cases o with
  | pick c X Y =>
    simp only [pickK] at e
    repeat' split at e
    all_goals first | (cases e; done) | skip
    rename_i b' hc _ _ p q hx hy
    injection e with e; injection e with e1 e2; injection e2 with e2 e3; subst e1 e2 e3
    refine AO.of ?_
    simp only [aop, hc, hx, hy]
    cases b' <;> rfl
  | _ => cases e
/-- An element of an array by value, at an unknown place: every place in turn. -/
def aggIdx (P : Program) (o : Op) (ev : Operand → V) : Option (List V × Int × Nat × TypeId × Nat) := match o with
  | .index t x i => match ev x with
    | .agg xs => match ev i with
      | .v (.int _ n) => match P.underlying t with
        | some (.array len elem) => match sizeT P elem with
          | some s => some (xs, n, len, elem, s)
          | none => none
        | _ => none
      | _ => none
    | _ => none
  | _ => none
def arrK (P : Program) (elem : TypeId) (s : Nat) (xs : List V) (n : Int) (K : V → Prop) : Nat → Nat → Prop
  | 0, _ => False
  | m + 1, j => br (decide (n = (j : Int))) (match readAt P elem xs (j * s) with
    | some y => fV y K
    | none => False) (fN (j + 1) fun j => arrK P elem s xs n K m j)
theorem arrK_spec {P : Program} {elem : TypeId} {s : Nat} {xs : List V} {n : Int} {K : V → Prop} : ∀ {m j : Nat}, arrK P elem s xs n K m j → ∃ (i : Nat) (y : V), i < j + m ∧ n = (i : Int) ∧ readAt P elem xs (i * s) = some y ∧ K y
  | 0, _, h => h.elim
  | m + 1, j, h => by
    simp only [arrK] at h
    obtain ⟨h1, h2⟩ := (br_iff _ _ _).1 h
    by_cases q : n = (j : Int)
    · have h3 := h1 (decide_eq_true q)
      split at h3
      · rename_i y hy
        rw [fV_eq] at h3
        exact ⟨j, y, by omega, q, hy, h3⟩
      · exact h3.elim
    · have h3 := h2 (decide_eq_false q)
      rw [fN_eq] at h3
      obtain ⟨i, y, g1, g2⟩ := arrK_spec h3
      exact ⟨i, y, by omega, g2⟩
theorem aggIdx_ok {P : Program} {o : Op} {ev : Operand → V} {h : Heap} {new : Nat} {xs : List V} {n : Int} {len : Nat} {elem : TypeId} {s : Nat} (e : aggIdx P o ev = some (xs, n, len, elem, s)) {i : Nat} {y : V} (hi : i < len) (hn : n = (i : Int)) (hy : readAt P elem xs (i * s) = some y) : AO P o ev h new y h := by
  cases o with
  | index t x a =>
    simp only [aggIdx] at e
    repeat' split at e
    all_goals first | (cases e; done) | skip
    rename_i _ hx _ k m ha _ l2 e2 hu _ s2 hs
    injection e with e; injection e with e1 e2; injection e2 with e2 e3; injection e3 with e3 e4; injection e4 with e4 e5; subst e1 e2 e3 e4 e5
    refine AO.of ?_
    simp only [aop, aIndex, hx, ha, hu, asIdx, hs]
    subst hn
    rw [if_pos (by omega)]
    simp only [Int.toNat_natCast, hy]
  | _ => cases e
/-- A new slice as a typed one. -/
def typX (P : Program) : XO → XO
  | .raw s => match s with
    | .live o => match Nat.ble o.elem.fz 1, tyOf P 8 o.elem.t with
      | true, some ty => if ty.size = o.sz then (match unRows (unPure 8) ty o.rows with
        | some l => .tl ty l o.elem.t
        | none => .raw (.live o))
        else .raw (.live o)
      | _, _ => .raw (.live o)
    | s => .raw s
  | x => x
def typH (P : Program) (o : Op) (n : Nat) (h : List XO) : List XO := match o with
  | .buildSlice _ _ _ => (match h[n]? with
    | some x => h.set n (typX P x)
    | none => h)
  | _ => h
theorem typH_len (P : Program) (o : Op) (n : Nat) (h : List XO) : (typH P o n h).length = h.length := by
  unfold typH
  split
  · split
    · simp
    · rfl
  · rfl
theorem typH_get {P : Program} {o : Op} {n : Nat} {h : List XO} {j : Nat} (hj : j ≠ n) : (typH P o n h)[j]? = h[j]? := by
  unfold typH
  split
  · split
    · exact List.getElem?_set_ne (Ne.symm hj)
    · rfl
  · rfl
theorem typH_sr {P : Program} {o : Op} {n : Nat} {h : List XO} {sl : List V} {ι : Iota} {a : Act} {w : World} (r : SR ⟨sl, dens h⟩ ι a w) : SR ⟨sl, dens (typH P o n h)⟩ ι a w ∧ Evolve (dens h) ι w (dens (typH P o n h)) ι w := by
  unfold typH
  split
  · split
    · rename_i x hx
      have same : SR ⟨sl, dens (h.set n x)⟩ ι a w ∧ Evolve (dens h) ι w (dens (h.set n x)) ι w := by
        have hlt := get_lt hx
        rw [List.getElem?_eq_getElem hlt] at hx; injection hx with hx
        rw [← hx, List.set_getElem_self]
        exact ⟨r, Evolve.refl _ _ _⟩
      unfold typX
      split
      · rename_i s
        split
        · rename_i ob
          split
          · rename_i ty hfz hty
            split
            · rename_i hsz
              split
              · rename_i l hl
                have hd : (dens h)[n]? = some (.live ob) := by rw [dens_get, hx]; rfl
                obtain ⟨u1, u2⟩ := unRows_gen (unPure_ok 8) (fun _ => LE.refl _) hl
                obtain ⟨H0, ev0⟩ := r.heap.weakF hd (Nat.le_of_ble_eq_true hfz)
                obtain ⟨H2, ev2⟩ := H0.weakObj (o' := ⟨ty.size, l.map ty.row, ob.elem.t⟩) (List.getElem?_set_self (get_lt hd)) hsz rfl (by simpa using u1) (fun i r1 r2 h1 h2 => by
                  rw [List.getElem?_map] at h2
                  cases ha : l[i]? with
                  | none => rw [ha] at h2; simp at h2
                  | some b => rw [ha] at h2; simp at h2; subst h2; exact u2 i r1 b h1 ha)
                have ev2 := ev0.trans ev2
                rw [List.set_set] at H2 ev2
                have e : (dens h).set n (.live ⟨ty.size, l.map ty.row, ob.elem.t⟩) = dens (h.set n (.tl ty l ob.elem.t)) := by rw [dens_set]; rfl
                simp only [e] at H2 ev2
                exact ⟨⟨r.defers, r.slots.mono ev2, H2⟩, ev2⟩
              · exact same
            · exact same
          · exact same
        · exact same
      · exact same
    · exact ⟨r, Evolve.refl _ _ _⟩
  · exact ⟨r, Evolve.refl _ _ _⟩
/-- Two ways, one of them under a condition. -/
structure NilBr (p A B : Prop) : Prop where
  a : p → A
  b : B
/-- A list by value against nil: which it is if it is empty is not known. -/
def nilCmp (P : Program) (o : Op) (ev : Operand → V) : Option (Prop × Bool) := match o with
  | .binOp .eql t X Y _ => (match ev X, ev Y, P.underlying t with
    | .sL _ l, .v (.slice none 0 0), some (.slice _) => some (l = [], true)
    | _, _, _ => none)
  | .binOp .neq t X Y _ => (match ev X, ev Y, P.underlying t with
    | .sL _ l, .v (.slice none 0 0), some (.slice _) => some (l = [], false)
    | _, _, _ => none)
  | _ => none
theorem nil_run {P : Program} {h : Heap} {ι : Iota} {w : World} (H : HRel h ι w) {t e : TypeId} {X Y : Operand} (hu : P.underlying t = some (.slice e)) {x : Value} {M : Nat → Prop} {ty : Ty} {l : List ty.den} (r : Rep w ι M (.sL ty l) x) :
    (l = [] ∧ VS P h ι w (do eqGuard .eql t X Y x (.slice none 0 0); binOp .eql t x (.slice none 0 0)) (some (.v (.bool true), h)) ∧ VS P h ι w (do eqGuard .neq t X Y x (.slice none 0 0); binOp .neq t x (.slice none 0 0)) (some (.v (.bool false), h))) ∨
    (VS P h ι w (do eqGuard .eql t X Y x (.slice none 0 0); binOp .eql t x (.slice none 0 0)) (some (.v (.bool false), h)) ∧ VS P h ι w (do eqGuard .neq t X Y x (.slice none 0 0); binOp .neq t x (.slice none 0 0)) (some (.v (.bool true), h))) := by
  cases r with
  | sL _ _ _ r =>
    generalize hrows : l.map ty.row = rows at r
    cases r with
    | sF _ _ a cap cells g1 g2 g3 g4 g5 =>
      right
      have q := run_bin_slice_nil (P := P) (w := w) (X := X) (Y := Y) hu a rows.length cap _ _ (.inl ⟨rfl, rfl⟩)
      exact ⟨VS.of_pure H ⟨_, q.1, .v _⟩, VS.of_pure H ⟨_, q.2, .v _⟩⟩
    | sN =>
      left
      have q0 : ∀ d, (Op.equalIn (d + 1) t (.slice none 0 0) (.slice none 0 0)).run P w = .ok true w := fun d => by simp [Op.equalIn, run_underlying hu]
      have q := q0 9999
      refine ⟨List.map_eq_nil_iff.1 hrows, VS.of_pure H ⟨.bool true, ?_, .v _⟩, VS.of_pure H ⟨.bool false, ?_, .v _⟩⟩
      · simp only [eqGuard, binOp, Op.equal, Op.maxDepth]; simp [q]
      · simp only [eqGuard, binOp, Op.equal, Op.maxDepth]; simp [q]
theorem nilCmp_ok {P : Program} {o : Oper} {ev : Operand → V} {p : Prop} {b : Bool} (e : nilCmp P o.op ev = some (p, b)) {h : Heap} {ι : Iota} {w : World} (H : HRel h ι w) {a : Act} {M : Nat → Prop} (hev : ∀ x, Rep w ι M (ev x) (a.eval x)) :
    (p ∧ OS P h ι w (execOp a.eval o) (some (.v (.bool b), h))) ∨ OS P h ι w (execOp a.eval o) (some (.v (.bool (!b)), h)) := by
  obtain ⟨dst, op, type, pos, after, guard⟩ := o
  unfold nilCmp at e
  simp only at e
  split at e
  · rename_i t X Y u
    split at e
    · rename_i ty l el hX hY hu
      injection e with e; injection e with e1 e2; subst e1 e2
      have rX := hev X
      have rY := hev Y
      rw [hX] at rX
      rw [hY] at rY
      generalize hx : a.eval X = x at rX
      generalize hy : a.eval Y = y at rY
      cases rY
      rcases nil_run H (X := X) (Y := Y) hu rX with ⟨q0, q1, _⟩ | ⟨q1, _⟩
      · exact .inl ⟨q0, OS.of_vs (by rw [hx, hy]; exact q1)⟩
      · exact .inr (OS.of_vs (by rw [hx, hy]; exact q1))
    · cases e
  · rename_i t X Y u
    split at e
    · rename_i ty l el hX hY hu
      injection e with e; injection e with e1 e2; subst e1 e2
      have rX := hev X
      have rY := hev Y
      rw [hX] at rX
      rw [hY] at rY
      generalize hx : a.eval X = x at rX
      generalize hy : a.eval Y = y at rY
      cases rY
      rcases nil_run H (X := X) (Y := Y) hu rX with ⟨q0, _, q1⟩ | ⟨_, q1⟩
      · exact .inl ⟨q0, OS.of_vs (by rw [hx, hy]; exact q1)⟩
      · exact .inr (OS.of_vs (by rw [hx, hy]; exact q1))
    · cases e
  · cases e

/-- A part of a list that is being made: where it lies. -/
def loI (ev : Operand → V) (d : Int) : Option Operand → Option Int
  | none => some d
  | some x => match ev x with
    | .v (.int _ n) => some n
    | _ => none
def sliceO (P : Program) (o : Op) (ev : Operand → V) (h : List XO) : Option (List Bool × Nat × Nat × Ty × Int × Int × Nat × Nat) := match o with
  | .slice t x lo hi none => (match ev x with
    | .oL id n => (match P.underlying t, h[id]?, loI ev 0 lo, loI ev n hi with
      | some (.slice e), some (.opt ty l _), some a, some u => if sizeT P e = some ty.size then
          (match lo with
            | none => some ([decide (n = l.length), decide (0 ≤ a), decide (a ≤ u), decide (u ≤ n)], n, id, ty, a, u, 0, u.toNat)
            | some _ => some ([decide (n = l.length), decide (0 ≤ a), decide (a ≤ u), decide (u ≤ n)], n, id, ty, a, u, a.toNat, (u - a).toNat))
          else none
      | _, _, _, _ => none)
    | _ => none)
  | _ => none
theorem pureRun_sizeOf {P : Program} {t : TypeId} {n : Nat} (h : sizeT P t = some n) {α : Type} (f : Nat → Sem α) : pureRun P ((sizeOf t).bind f) = pureRun P (f n) := by
  unfold sizeT at h
  split at h
  · rename_i i hi
    injection h with h
    simp [sizeOf, typeInfo, hi, h, bind, pure, program, Sem.bind, pureRun]
  · cases h
theorem LE.sO_nil {id off sz : Nat} : LE (.sO id off 0) (.sF sz []) := by
  intro w ι M z r
  cases r with
  | sO _ _ _ cap l c e fr h1 h2 h3 h4 => exact Rep.sF_mk (rows := []) _ _ (fun q => absurd rfl q) (by simp) (by simp) (by intro i j r x hi; simp at hi)
theorem loI_bound {ev : Operand → V} {d : Nat} {lo : Option Operand} {a : Int} (e : loI ev (d : Int) lo = some a) (h0 : 0 ≤ a) : bound (lo.map fun x => (ev x).nf) d = some a.toNat := by
  cases lo with
  | none => simp only [loI] at e; injection e with e; subst e; simp [bound]
  | some x =>
    simp only [loI] at e
    split at e
    · rename_i k n hx
      injection e with e; subst e
      simp [hx, V.nf, bound, h0]
    · cases e
theorem sliceO_ok {P : Program} {o : Op} {ev : Operand → V} {h : List XO} {new : Nat} {cs : List Bool} {n id off len : Nat} {ty : Ty} {a u : Int} (e : sliceO P o ev h = some (cs, n, id, ty, a, u, off, len)) (hc : allT cs) :
    (n = 0 → AO P o ev (dens h) new (.v (.slice none 0 0)) (dens h)) ∧ (¬ n = 0 → a = u → AO P o ev (dens h) new (.sL ty []) (dens h)) ∧ (¬ n = 0 → ¬ a = u → AO P o ev (dens h) new (.sO id off len) (dens h)) := by
  cases o with
  | slice t x lo hi mx =>
    cases mx with
    | some _ => cases e
    | none =>
      simp only [sliceO] at e
      split at e
      · rename_i id' n' hx
        split at e
        · rename_i el ty' l el2 a' u' hu ho hlo hhi
          split at e
          · rename_i hs
            have key : n' = n ∧ id' = id ∧ ty' = ty ∧ a' = a ∧ u' = u ∧ (off = a.toNat ∧ len = (u - a).toNat) ∧ cs = [decide (n' = l.length), decide (0 ≤ a'), decide (a' ≤ u'), decide (u' ≤ n')] := by
              cases lo with
              | none =>
                simp only [loI] at hlo; injection hlo with hlo; subst hlo
                injection e with e; simp only [Prod.mk.injEq] at e
                obtain ⟨e1, e2, e3, e4, e5, e6, e7, e8⟩ := e
                subst e2 e3 e4 e5 e6
                exact ⟨rfl, rfl, rfl, rfl, rfl, ⟨by rw [← e7]; rfl, by rw [← e8]; simp⟩, e1.symm⟩
              | some x2 =>
                injection e with e; simp only [Prod.mk.injEq] at e
                obtain ⟨e1, e2, e3, e4, e5, e6, e7, e8⟩ := e
                subst e2 e3 e4 e5 e6
                exact ⟨rfl, rfl, rfl, rfl, rfl, ⟨e7.symm, e8.symm⟩, e1.symm⟩
            obtain ⟨rfl, rfl, rfl, rfl, rfl, ⟨rfl, rfl⟩, rfl⟩ := key
            have c1 := of_decide_eq_true (allT_cons hc).1
            have c2 := of_decide_eq_true (allT_cons (allT_cons hc).2).1
            have c3 := of_decide_eq_true (allT_cons (allT_cons (allT_cons hc).2).2).1
            have c4 := of_decide_eq_true (allT_cons (allT_cons (allT_cons (allT_cons hc).2).2).2).1
            have hx' : (ev x).nf = if n' = 0 then .v (.slice none 0 0) else .sO id' 0 n' := by rw [hx]; rfl
            have run : ¬ n' = 0 → aop P (.slice t x lo hi none) (fun b => (ev b).nf) (dens h) new = some (if a' = u' ∧ a' ≠ 0 then .sF ty'.size [] else .sO id' a'.toNat (u' - a').toNat, dens h) := by
              intro hn
              have hne : ¬ l.isEmpty = true := by intro q; rw [List.isEmpty_iff] at q; subst q; simp at c1; omega
              have hd : (dens h)[id']? = some (.live ⟨ty'.size, l.map ty'.row, el2⟩) := by rw [dens_get, ho]; simp [XO.den, hne]
              simp only [aop, hx', if_neg hn, aSlice, hu, loI_bound (d := 0) hlo c2, loI_bound hhi (by omega), hs, hd]
              rw [if_pos ⟨trivial, by omega, by omega⟩]
              by_cases q : a' = u'
              · by_cases q0 : a' = 0
                · rw [if_neg (by omega), if_neg (fun h => h.2 q0)]
                  simp only [Nat.zero_add]; congr 3; omega
                · rw [if_pos (by omega), if_pos ⟨q, q0⟩]
              · rw [if_neg (by omega), if_neg (fun h => q h.1)]
                simp only [Nat.zero_add]; congr 3; omega
            refine ⟨fun hn => ?_, fun hn hau => ?_, fun hn hau => AO.nf (by rw [run hn, if_neg (fun h => hau h.1)]) (LE.refl _)⟩
            · have hu0 : u' = 0 := by omega
              have ha0 : a' = 0 := by omega
              subst hu0 ha0
              refine AO.nf (x' := .v (.slice none 0 0)) ?_ (LE.refl _)
              simp only [aop, hx', if_pos hn]
              have z : ∀ (k : IntKind) (c : BoundsCode), Instr.sliceBound (.int k 0) 0 c = pure 0 := fun k c => by simp [Instr.sliceBound, asIntOf, bind, Sem.bind, pure]
              have vint : ∀ {q : Option Operand} {d : Int} {y : Operand}, loI ev d q = some 0 → q = some y → ∃ k, ev y = .v (.int k 0) := by
                intro q d y h1 h2
                subst h2
                simp only [loI] at h1
                split at h1
                · rename_i k m hq; injection h1 with h1; subst h1; exact ⟨k, hq⟩
                · cases h1
              cases lo with
              | none =>
                cases hi with
                | none => simp [Instr.sliceAt, Instr.slice, Instr.sliceBounds, Go.underlying, hu, pureRun, bind, pure, program, Sem.bind, pureRun_sizeOf hs, ofValue]
                | some y =>
                  obtain ⟨k, hk⟩ := vint hhi rfl
                  simp [hk, V.nf, Instr.sliceAt, Instr.slice, Instr.sliceBounds, Go.underlying, hu, pureRun, bind, pure, program, Sem.bind, z, pureRun_sizeOf hs, ofValue]
              | some x2 =>
                obtain ⟨k2, hk2⟩ := vint hlo rfl
                cases hi with
                | none => simp [hk2, V.nf, Instr.sliceAt, Instr.slice, Instr.sliceBounds, Go.underlying, hu, pureRun, bind, pure, program, Sem.bind, z, pureRun_sizeOf hs, ofValue]
                | some y =>
                  obtain ⟨k, hk⟩ := vint hhi rfl
                  simp [hk, hk2, V.nf, Instr.sliceAt, Instr.slice, Instr.sliceBounds, Go.underlying, hu, pureRun, bind, pure, program, Sem.bind, z, pureRun_sizeOf hs, ofValue]
            · by_cases q0 : a' = 0
              · refine AO.nf (run hn) ?_
                rw [if_neg (fun h => h.2 q0), show (u' - a').toNat = 0 by omega]
                exact fun r => .sL _ _ _ (LE.sO_nil r)
              · refine AO.nf (run hn) ?_
                rw [if_pos ⟨hau, q0⟩]
                exact fun r => .sL _ _ _ r
          · cases e
        · cases e
      · cases e
  | _ => cases e
/-- One operation. -/
def stepN (P : Program) (wr : Bool) (o : Op) (s : XSt) (K : V → List XO → Prop) : Prop :=
  match s with
  | ⟨sl, h⟩ =>
    match pickK o (aev sl) h with
    | some (b, x, y) => br b (fV x fun x => K x h) (fV y fun y => K y h)
    | none => match darrP P o (aev sl) h with
    | some (cs, x) => needs cs (fV x fun x => K x h)
    | none => match aggIdx P o (aev sl) with
    | some (xs, n, len, elem, s) => arrK P elem s xs n (fun y => K y h) len 0
    | none => match dpure P wr o (aev sl) h with
    | some (cs, x) => needs cs (fV x fun x => K x h)
    | none => match dst P o (aev sl) h with
      | some (cs, x, h') => needs cs (fH h' fun h' => K x h')
      | none => match darrA P o (h ++ [.raw .free]) h.length with
        | some (cs, x, h') => needs cs (fV x fun x => fH h' fun h' => K x h')
        | none => match dalloc P o (aev sl) (h ++ [.raw .free]) h.length with
        | some (cs, x, h') => needs cs (fV x fun x => fH h' fun h' => K x h')
        | none => match aop P o (aev sl) (dens (h ++ [.raw .free])) h.length with
          | some (x, h') => match wids o (aev sl) h.length with
            | [] => fV x fun x => K x h
            | ws => fV x fun x => fH (typH P o h.length (strip (reb (h ++ [.raw .free]) ws h' 0))) fun h' => K x h'
          | none => match nilCmp P o (aev sl) with
            | some (p, true) => NilBr p (K (.v (.bool true)) h) (K (.v (.bool false)) h)
            | some (p, false) => NilBr p (K (.v (.bool false)) h) (K (.v (.bool true)) h)
            | none => match sliceO P o (aev sl) h with
              | some (cs, n, id, ty, a, u, off, len) => needs cs (br (decide (n = 0)) (K (.v (.slice none 0 0)) h) (br (decide (a = u)) (K (.sL ty []) h) (fV (.sO id off len) fun x => K x h)))
              | none => False

theorem dst_ok {P : Program} {o : Op} {ev : Operand → V} {h h' : List XO} {new : Nat} {cs : List Bool} {x : V} (e : dst P o ev h = some (cs, x, h')) (hc : allT cs) : AO P o ev (dens h) new x (dens h') := by
  unfold dst at e
  split at e
  · exact dstore_ok e hc
  · cases e

theorem dalloc_os {P : Program} {o : Oper} {ev : Operand → V} {h h' : List XO} {new : Nat} {cs : List Bool} {x : V} (e : dalloc P o.op ev h new = some (cs, x, h')) (hc : allT cs) (hn : h[new]? = some (.raw .free))
    {ι : Iota} {w : World} (H : HRel (dens h) ι w) {a : Act} (hev : ∀ x, Rep w ι (Mt (dens h) ι) (ev x) (a.eval x)) : OS P (dens h) ι w (execOp a.eval o) (some (x, dens h')) := by
  unfold dalloc at e
  split at e
  · rename_i t l c ho
    split at e
    · rename_i k n k' m hl hm
      exact dmake_os hl hm e hc hn H hev ho
    · cases e
  · rename_i s d X ho
    have := dtoBytes_ok e hn
    rw [← ho] at this
    exact this.os H hev
  · rename_i c ho
    obtain ⟨callee, args, tys⟩ := c
    simp only at e
    split at e
    · rename_i X Y ha
      split at e
      · rename_i h2
        have hoo : o.op = .call ⟨.builtin .append, #[X, Y], tys⟩ := by
          rw [ho]
          congr
          exact Array.toList_inj.1 (by simpa using ha)
        unfold dapp at e
        split at e
        · rename_i a b c' hX
          rw [← hX] at e
          exact dappendS_os e hc hn H hev (o := o) hX hoo h2
        · exact dappend_os e hc hn H hev (o := o) hoo h2
      · cases e
    · cases e
  · cases e

theorem dens_free (h : List XO) : dens (h ++ [.raw .free]) = dens h ++ [.free] := by simp [dens, XO.den]

theorem stepN_ok {P : Program} {ops : Array Oper} {wr : Bool} {o : Oper} {l : List Oper} {s : XSt} {K : V → List XO → Prop} {Q : St → Prop} (hs : stepN P wr o.op s K) (hw : awanted ops s.sl o = some true)
    (hk : ∀ x h', K x h' → POL P ops l ⟨sput s.sl o.dst x, dens h'⟩ Q) : POL P ops (o :: l) s.den Q := by
  obtain ⟨sl, h⟩ := s
  simp only [XSt.den] at *
  have res : ∀ {ι : Iota} {a : Act} {w : World}, SR ⟨sl, dens h⟩ ι a w → ∃ ι', SR ⟨sl, dens (h ++ [.raw .free])⟩ ι' a w ∧ Evolve (dens h) ι w (dens (h ++ [.raw .free])) ι' w := by
    intro ι a w r
    obtain ⟨r1, ev1⟩ := r.reserve 1
    rw [dens_free]
    exact ⟨ι, r1, ev1⟩
  have hnew : (h ++ [XO.raw .free])[h.length]? = some (.raw .free) := by simp
  simp only [stepN] at hs
  split at hs
  · rename_i b x y e
    simp only [fV_eq] at hs
    obtain ⟨h1, h2⟩ := (br_iff _ _ _).1 hs
    refine POL.os hw (fun r => (pickK_ok (new := 0) e).os r.heap (fun y => aev_rep r.slots y)) ?_
    cases b with
    | true => exact hk _ _ (h1 rfl)
    | false => exact hk _ _ (h2 rfl)
  split at hs
  · rename_i cs x e
    obtain ⟨hc, hK⟩ := needs_spec hs
    rw [fV_eq] at hK
    exact POL.os hw (fun r => darrP_os e hc r.heap (fun y => aev_rep r.slots y)) (hk _ _ hK)
  split at hs
  · rename_i xs n len elem sz e
    obtain ⟨i, y, g1, g2, g3, g4⟩ := arrK_spec hs
    exact POL.os hw (fun r => (aggIdx_ok (new := 0) e (by omega) g2 g3).os r.heap (fun y => aev_rep r.slots y)) (hk _ _ g4)
  split at hs
  · rename_i cs x e
    obtain ⟨hc, hK⟩ := needs_spec hs
    rw [fV_eq] at hK
    exact POL.os hw (fun r => (dpure_ok (new := 0) e hc).os r.heap (fun y => aev_rep r.slots y)) (hk _ _ hK)
  · split at hs
    · rename_i cs x h' e
      obtain ⟨hc, hK⟩ := needs_spec hs
      rw [fH_eq] at hK
      exact POL.os hw (fun r => (dst_ok (new := 0) e hc).os r.heap (fun y => aev_rep r.slots y)) (hk _ _ hK)
    · refine POL.post (s2 := ⟨sl, dens (h ++ [.raw .free])⟩) res ?_
      split at hs
      · rename_i cs x h' e
        obtain ⟨hc, hK⟩ := needs_spec hs
        rw [fV_eq, fH_eq] at hK
        exact POL.os hw (fun r => darrA_os e hc hnew r.heap) (hk _ _ hK)
      split at hs
      · rename_i cs x h' e
        obtain ⟨hc, hK⟩ := needs_spec hs
        rw [fV_eq, fH_eq] at hK
        exact POL.os hw (fun r => dalloc_os e hc hnew r.heap (fun y => aev_rep r.slots y)) (hk _ _ hK)
      · split at hs
        · rename_i x h' e
          have hlt : h.length < (dens (h ++ [.raw .free])).length := by simp [dens]
          obtain ⟨post, p1, p2, _⟩ := (AO.of e).loc hlt
          refine POL.os hw (fun r => (AO.of e).os r.heap (fun y => aev_rep r.slots y)) ?_
          have fin : ∀ h2 : List XO, dens h2 = h' → K x (typH P o.op h.length (strip h2)) → POL P ops l ⟨sput sl o.dst x, h'⟩ Q := by
            intro h2 hd hK
            have hp := POL.post (s := ⟨sput sl o.dst x, dens (strip h2)⟩) (fun {ι a w} r => ⟨ι, typH_sr r⟩) (hk _ _ hK)
            rcases strip_den h2 with q | q
            · rw [q, hd] at hp; exact hp
            · refine POL.post (s2 := ⟨sput sl o.dst x, dens (strip h2)⟩) (fun {ι a w} r => ⟨ι, ?_⟩) hp
              rw [← hd, q] at r
              have := r.unreserve
              rw [← q, hd] at this
              exact this
          split at hs
          · rename_i hwd
            rw [fV_eq] at hs
            rw [hwd] at p1
            have hpost : post = [] := by
              cases post with
              | nil => rfl
              | cons p r => exact absurd (p1 p (by simp)) (by simp)
            subst hpost
            refine POL.post (s2 := ⟨sput sl o.dst x, dens h⟩) (fun {ι a w} r => ⟨ι, ?_⟩) (hk _ _ hs)
            rw [p2] at r
            have r0 : SR ⟨sput sl o.dst x, dens h ++ [.free]⟩ ι a w := by rw [← dens_free]; exact r
            have := r0.unreserve
            rw [← dens_free] at this
            rw [p2]; exact this
          · rw [fV_eq, fH_eq] at hs
            refine fin _ (reb_den fun j t hj hnw => ?_) hs
            rw [Nat.zero_add] at hnw ⊢
            rw [p2, setMany_other post _ (fun p hp q => hnw (by rw [← q]; exact p1 p hp))] at hj
            exact hj
        · split at hs
          · rename_i p e
            refine POL.osx hw (fun {ι a w} r => ?_)
            have drop : ∀ x, POL P ops l ⟨sput sl o.dst x, dens h⟩ Q → POL P ops l ⟨sput sl o.dst x, dens (h ++ [.raw .free])⟩ Q := fun x hp => POL.post (s2 := ⟨sput sl o.dst x, dens h⟩) (fun {ι a w} r => ⟨ι, by
              have r0 : SR ⟨sput sl o.dst x, dens h ++ [.free]⟩ ι a w := by rw [← dens_free]; exact r
              have := r0.unreserve
              rw [← dens_free] at this
              exact this⟩) hp
            rcases nilCmp_ok e r.heap (fun y => aev_rep r.slots y) with ⟨q, q1⟩ | q1
            · exact ⟨_, _, q1, drop _ (hk _ _ (hs.a q))⟩
            · exact ⟨_, _, q1, drop _ (hk _ _ hs.b)⟩
          · rename_i p e
            refine POL.osx hw (fun {ι a w} r => ?_)
            have drop : ∀ x, POL P ops l ⟨sput sl o.dst x, dens h⟩ Q → POL P ops l ⟨sput sl o.dst x, dens (h ++ [.raw .free])⟩ Q := fun x hp => POL.post (s2 := ⟨sput sl o.dst x, dens h⟩) (fun {ι a w} r => ⟨ι, by
              have r0 : SR ⟨sput sl o.dst x, dens h ++ [.free]⟩ ι a w := by rw [← dens_free]; exact r
              have := r0.unreserve
              rw [← dens_free] at this
              exact this⟩) hp
            rcases nilCmp_ok e r.heap (fun y => aev_rep r.slots y) with ⟨q, q1⟩ | q1
            · exact ⟨_, _, q1, drop _ (hk _ _ (hs.a q))⟩
            · exact ⟨_, _, q1, drop _ (hk _ _ hs.b)⟩
          · split at hs
            · rename_i cs n id ty a u off len e
              obtain ⟨hc, hK⟩ := needs_spec hs
              obtain ⟨g1, g2, g3⟩ := sliceO_ok (new := 0) e hc
              obtain ⟨k1, k2⟩ := (br_iff _ _ _).1 hK
              have go : ∀ x, AO P o.op (aev sl) (dens h) 0 x (dens h) → K x h → POL P ops (o :: l) ⟨sl, dens (h ++ [.raw .free])⟩ Q := fun x ha hkx =>
                POL.post (s2 := ⟨sl, dens h⟩) (fun {ι a w} r => ⟨ι, by
                  have r0 : SR ⟨sl, dens h ++ [.free]⟩ ι a w := by rw [← dens_free]; exact r
                  have := r0.unreserve
                  rw [← dens_free] at this
                  exact this⟩) (POL.os hw (fun r => ha.os r.heap (fun y => aev_rep r.slots y)) (hk _ _ hkx))
              by_cases hn : n = 0
              · exact go _ (g1 hn) (k1 (decide_eq_true hn))
              · obtain ⟨k3, k4⟩ := (br_iff _ _ _).1 (k2 (decide_eq_false hn))
                by_cases hau : a = u
                · exact go _ (g2 hn hau) (k3 (decide_eq_true hau))
                · have hK := k4 (decide_eq_false hau)
                  rw [fV_eq] at hK
                  exact go _ (g3 hn hau) hK
            · exact hs.elim

end Go.Abs
