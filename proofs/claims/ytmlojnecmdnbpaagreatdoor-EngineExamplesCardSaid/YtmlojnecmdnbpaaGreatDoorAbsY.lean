/- The walk as a function: what it asks for, and that it is right. -/
import Derived.Test.YtmlojnecmdnbpaaGreatDoorAbsFz
namespace Go.Abs
set_option linter.unusedVariables false

/-- A closed fact, for the kernel. -/
structure Kern (c : Bool) : Prop where
  out : c = true

/-- What a proof has to show beside the walk. -/
structure Side (p : Prop) : Prop where
  out : p

/-- A cell of an object: as it was, a value, a list that is being made. -/
inductive CK where
  | same
  | val (t : Ty)
  | own (t : Ty) (e : TypeId)
  | ows (t : Ty) (e : TypeId)
  | osf (id : Nat)
@[reducible] def ckTys : List CK → List Ty
  | [] => []
  | .same :: ks => ckTys ks
  | .val t :: ks => t :: ckTys ks
  | .own t _ :: ks => .list t :: ckTys ks
  | .ows t _ :: ks => .list t :: ckTys ks
  | .osf _ :: ks => .bool :: ckTys ks
/-- What a loop carries: a slot, a list that is being made, an object, an array, an object cell by cell. -/
inductive GK where
  | sl (d : Nat) (t : Ty)
  | lst (d : Nat) (t : Ty) (e : TypeId)
  | nls (d : Nat) (t : Ty) (e : TypeId)
  | ob (id : Nat) (t : Ty) (e : TypeId)
  | ar (id : Nat) (t : Ty) (e : TypeId)
  | op (id : Nat) (t : Ty) (e : TypeId)
  | row (id : Nat) (ks : List CK)
@[reducible] def appT : List Ty → List Ty → List Ty
  | [], b => b
  | t :: a, b => t :: appT a b
@[reducible] def gts : List GK → List Ty
  | [] => []
  | .sl _ t :: g => t :: gts g
  | .lst _ t _ :: g => .list t :: gts g
  | .nls _ t _ :: g => .list t :: gts g
  | .ob _ t _ :: g => t :: gts g
  | .ar _ t _ :: g => .list t :: gts g
  | .op _ t _ :: g => .list t :: gts g
  | .row _ ks :: g => appT (ckTys ks) (gts g)
def splitT : (a b : List Ty) → Tup (appT a b) → Tup a × Tup b
  | [], _, y => ((), y)
  | _ :: a, b, (x, y) => match splitT a b y with
    | (p, q) => ((x, p), q)
def joinT : (a b : List Ty) → Tup a → Tup b → Tup (appT a b)
  | [], _, _, y => y
  | _ :: a, b, (x, p), y => (x, joinT a b p y)
theorem split_join : ∀ (a b : List Ty) (x : Tup a) (y : Tup b), splitT a b (joinT a b x y) = (x, y)
  | [], _, _, _ => rfl
  | _ :: a, b, (x, p), y => by simp only [joinT, splitT, split_join a b p y]
/-- What is said of a loop, or of a join. -/
inductive LA where
  | mk (g : List GK) (inv : Tup (gts g) → Prop) (mu : Tup (gts g) → Nat) (next : Tup (gts g) → List (Nat × Nat × LA))

structure Y where
  sl : List V
  h : List XO
  tch : List Nat
  an : List (Nat × Nat × LA)
def Y.den (s : Y) : St := ⟨s.sl, dens s.h⟩

structure Env where
  P : Program
  T : Tbl
  n0 : Nat
  fid : Nat
  flip : List (Nat × Nat × Nat)
  inl : FuncId → List V → Y → (V → Y → Prop) → Prop

def find (l : List (Nat × Nat × LA)) (f k : Nat) : Option LA := match l with
  | [] => none
  | (a, b, x) :: r => if Nat.beq a f && Nat.beq b k then some x else find r f k
def flips (l : List (Nat × Nat × Nat)) (f r i : Nat) : Bool := match l with
  | [] => false
  | (a, b, c) :: q => (Nat.beq a f && Nat.beq b r && Nat.beq c i) || flips q f r i

/-- What a part has left alone. -/
structure Fr (s s' : Y) : Prop where
  len : s.h.length ≤ s'.h.length
  tch : ∀ j, j ∈ s.tch → j ∈ s'.tch
  h : ∀ j, j < s.h.length → ¬ j ∈ s'.tch → s'.h[j]? = s.h[j]?
theorem Fr.refl (s : Y) : Fr s s := ⟨Nat.le_refl _, fun _ h => h, fun _ _ _ => rfl⟩
theorem Fr.trans {a b c : Y} (h1 : Fr a b) (h2 : Fr b c) : Fr a c :=
  ⟨Nat.le_trans h1.len h2.len, fun j h => h2.tch j (h1.tch j h), fun j hj hn => (h2.h j (Nat.lt_of_lt_of_le hj h1.len) hn).trans (h1.h j hj (fun q => hn (h2.tch j q)))⟩

/-- An object is set. -/
def setX : List XO → Nat → XO → (List XO → Prop) → Prop := fun l => List.rec (motive := fun _ => Nat → XO → (List XO → Prop) → Prop) (fun _ _ k => k [])
  (fun a r ih d x k => Nat.rec (motive := fun _ => Prop) (k (x :: r)) (fun d _ => ih d x fun r => k (a :: r)) d) l
theorem setX_eq : ∀ (l : List XO) (d : Nat) (x : XO) (k : List XO → Prop), setX l d x k = k (l.set d x)
  | [], _, _, _ => rfl
  | _ :: _, 0, _, _ => rfl
  | a :: r, d + 1, x, k => setX_eq r d x fun r => k (a :: r)

def kilK (j : Option Nat) (h : List XO) (k : List XO → Prop) : Prop := match j with
  | some j => setX h j (.raw .dead) k
  | none => k h
theorem kilK_eq (j : Option Nat) (h : List XO) (k : List XO → Prop) : kilK j h k = k (killX h j) := by
  cases j with
  | none => rfl
  | some j => exact setX_eq _ _ _ _
def tchJ (j : Option Nat) (l : List Nat) : List Nat := match j with
  | some j => j :: l
  | none => l
theorem killX_get {h : List XO} {j : Option Nat} {k : Nat} (hk : ∀ i, j = some i → i ≠ k) : (killX h j)[k]? = h[k]? := by
  cases j with
  | none => rfl
  | some i => exact List.getElem?_set_ne (hk i rfl)
theorem killX_length (h : List XO) (j : Option Nat) : (killX h j).length = h.length := by cases j <;> simp [killX]
/- calls -/
def preK {ps : List Ty} (pre : Option (Cu ps Prop)) (x : Tup ps) (A : Prop) : Prop := match pre with
  | none => A
  | some p => appK ps p x fun p => p ∧ A
theorem preK_spec {ps : List Ty} {pre : Option (Cu ps Prop)} {x : Tup ps} {A : Prop} (h : preK pre x A) : (∀ p, pre = some p → cu ps p x) ∧ A := by
  cases pre with
  | none => exact ⟨fun p q => (by cases q), h⟩
  | some p =>
    simp only [preK, appK_eq] at h
    exact ⟨fun q e => (by injection e with e; subst e; exact h.1), h.2⟩
def preM {t : Ty} {ps : List Ty} (pre : Option (t.den → Cu ps Prop)) (a : t.den) (x : Tup ps) (A : Prop) : Prop := match pre with
  | none => A
  | some p => appK (t :: ps) p (a, x) fun p => p ∧ A
theorem preM_spec {t : Ty} {ps : List Ty} {pre : Option (t.den → Cu ps Prop)} {a : t.den} {x : Tup ps} {A : Prop} (h : preM pre a x A) : (∀ p, pre = some p → cu ps (p a) x) ∧ A := by
  cases pre with
  | none => exact ⟨fun p q => (by cases q), h⟩
  | some p =>
    simp only [preM, appK_eq] at h
    exact ⟨fun q e => (by injection e with e; subst e; exact h.1), h.2⟩
def xcall (E : Env) (f : FuncId) (args : List V) (s : Y) (K : V → Y → Prop) : Prop :=
  match s with
  | ⟨sl, h, tch, an⟩ => match look E.T f with
  | some (.fn ps pre res) => (match rdA (unPure 8) ps args with
    | some x => preK pre x (appK ps res x fun r => fV r.val fun v => K v ⟨sl, h, tch, an⟩)
    | none => match rdA (rdH h 0) ps args with
      | some x => appK ps res x fun r => (match r.flat with
        | true => preK pre x (needs (lens h args) (fV r.val fun v => K v ⟨sl, h, tch, an⟩))
        | false => False)
      | none => False)
  | some (.meth t e ps pre res post) => (match args with
    | .pO j 0 0 :: rest => match h[j]? with
      | some o => (match rdOb t e o, rdA (unPure 8) ps rest with
        | some a, some x => preM pre a x (appK (t :: ps) res (a, x) fun r => fV r.val fun v => appK (t :: ps) post (a, x) fun b => setX h j (.ob t b e) fun h => K v ⟨sl, h, j :: tch, an⟩)
        | _, _ => False)
      | _ => False
    | _ => False)
  | some (.new t e ps pre post) => (match rdA (unPure 8) ps args with
    | some x => preK pre x (appK ps post x fun b => fN h.length fun n => fH (h ++ [XO.ob t b e]) fun h => K (.pO n 0 0) ⟨sl, h, tch, an⟩)
    | none => False)
  | some (.srt t pre g ret) => (match args with
    | .oL j n :: rest => (match rest with
      | [] => (match h[j]? with
        | some (.opt _ l0 e) => (match castL (t' := t) l0 with
          | some l => preK (ps := [.list t]) pre (l, ()) (need (decide (n = l.length)) (appK [.list t] g (l, ()) fun b => setX h j (.opt t b e) fun h => match ret with
            | true => K (.oL j b.length) ⟨sl, h, j :: tch, an⟩
            | false => K (.tup []) ⟨sl, h, j :: tch, an⟩))
          | none => False)
        | _ => False)
      | _ => False)
    | .sO j 0 n :: rest => (match rest with
      | [] => (match h[j]? with
        | some (.tl _ l0 e) => (match castL (t' := t) l0 with
          | some l => preK (ps := [.list t]) pre (l, ()) (need (decide (n = l.length)) (appK [.list t] g (l, ()) fun b => setX h j (.tl t b e) fun h => match ret with
            | true => K (.sO j 0 b.length) ⟨sl, h, j :: tch, an⟩
            | false => K (.tup []) ⟨sl, h, j :: tch, an⟩))
          | none => False)
        | _ => False)
      | _ => False)
    | .v (.slice none 0 0) :: rest => (match rest with
      | [] => (match ret with
        | true => K (.v (.slice none 0 0)) ⟨sl, h, tch, an⟩
        | false => K (.tup []) ⟨sl, h, tch, an⟩)
      | _ => False)
    | _ => False)
  | some (.grw t e) => (match args with
    | .v (.slice none 0 0) :: rest => (match rest with
      | .v (.int .i64 n) :: rest2 => (match rest2 with
        | [] => Side (0 ≤ n ∧ n ≤ 8796093022208) ∧ br (decide (0 < n)) (fN h.length fun m => fH (h ++ [XO.tl t [] e]) fun h => K (.sO m 0 0) ⟨sl, h, tch, an⟩) (K (.v (.slice none 0 0)) ⟨sl, h, tch, an⟩)
        | _ => False)
      | _ => False)
    | _ => False)
  | some (.rd t ps pre res) => (match args with
    | .pO j 0 0 :: rest => (match h[j]? with
      | some o => (match rdRow h t o, rdA (unPure 8) ps rest with
        | some (a, row), some x => appK (t :: ps) res (a, x) fun r => (match r.flat with
          | true => preM pre a x (needs (row.flatMap (lensV h)) (fV r.val fun v => K v ⟨sl, h, tch, an⟩))
          | false => False)
        | _, _ => False)
      | none => False)
    | .pF row 0 :: rest => (match un (unPure 8) t row, rdA (unPure 8) ps rest with
      | some (a, []), some x => preM pre a x (appK (t :: ps) res (a, x) fun r => fV r.val fun v => K v ⟨sl, h, tch, an⟩)
      | _, _ => False)
    | _ => False)
  | some (.bld wr e eb) => (match wr, args with
    | true, .pO i 0 0 :: rest => (match rest with
      | .v (.string s) :: rest2 => (match rest2 with
        | [] => fN h.length fun new => fH (h ++ [.raw .free]) fun h => (match bldRd e eb h i with
          | some (_, cs, j, l) => needs cs (need (decide (l.length + s.size ≤ 1099511627776)) (setX h i (bldX eb i new (l ++ toInts s).length) fun h => kilK j h fun h => setX h new (.opt (.int .u8) (l ++ toInts s) e) fun h => fL (i :: tchJ j tch) fun tch => K (wrR s.size) ⟨sl, h, tch, an⟩))
          | none => False)
        | _ => False)
      | _ => False)
    | false, .pO i 0 0 :: rest => (match rest with
      | [] => (match bldRd e eb h i with
        | some (_, cs, j, l) => needs cs (need (decide (l.length ≤ 2199023255552)) (setX h i (.raw .dead) fun h => kilK j h fun h => fL (i :: tchJ j tch) fun tch => K (.v (.string (ofInts l))) ⟨sl, h, tch, an⟩))
        | none => False)
      | _ => False)
    | _, _ => False)
  | none => E.inl f args ⟨sl, h, tch, an⟩ K

def InlOk (E : Env) : Prop := ∀ f args s K, E.inl f args s K → PC E.P f args (dens s.h) (fun y k => ∃ s' : Y, s'.sl = s.sl ∧ k = dens s'.h ∧ Fr s s' ∧ K y s')

theorem PC.pre {P : Program} {f : FuncId} {args : List V} {h h' : Heap} {R : V → Heap → Prop} (hp : ∀ {ι : Iota} {w : World}, HRel h ι w → HRel h' ι w ∧ Evolve h ι w h' ι w) (hc : PC P f args h' R) : PC P f args h R := by
  intro ι w vals hp2 H
  obtain ⟨H', ev⟩ := hp H
  refine (hc ι w vals ⟨hp2.1, fun i x hx => let ⟨y, y1, y2⟩ := hp2.2 i x hx; ⟨y, y1, y2.mono ev⟩⟩ H').mono ?_
  rintro e w' ⟨y, x, k, ι', h1, h2, h3, h4, ev'⟩
  exact ⟨y, x, k, ι', h1, h2, h3, h4, ev.trans ev'⟩

theorem Ty.ni_val (n : Nat) (t : Ty) (a : t.den) : NI n (t.val a) := by
  cases t with
  | int k => exact .v _
  | bool => exact .v _
  | str => exact .v _
  | list t => exact .sL _ _
  | pair p q => exact .agg (Ty.nis n (.pair p q) a [] (by intro _ h; cases h))
theorem Tup_ni (n : Nat) : ∀ (ps : List Ty) (x : Tup ps), NIs n (vals ps x)
  | [], _ => fun _ h => by cases h
  | t :: ts, x => fun v h => by
    rcases List.mem_cons.1 h with q | q
    · subst q; exact t.ni_val n x.1
    · exact Tup_ni n ts x.2 v q
theorem HRel.reserve1 {h : Heap} {ι : Iota} {w : World} (H : HRel h ι w) : HRel (h ++ [.free]) ι w ∧ Evolve h ι w (h ++ [.free]) ι w := by
  have r : SR ⟨[], h⟩ ι ⟨#[], []⟩ w := ⟨rfl, ⟨rfl, fun i x hx => by simp at hx⟩, H⟩
  obtain ⟨r1, ev⟩ := r.reserve 1
  exact ⟨r1.heap, ev⟩
theorem xcall_ok {E : Env} (hT : TblOk E.P E.T) (hI : InlOk E) {f : FuncId} {args : List V} {s : Y} {K : V → Y → Prop} (h : xcall E f args s K) :
    PC E.P f args (dens s.h) (fun y k => ∃ s' : Y, s'.sl = s.sl ∧ k = dens s'.h ∧ Fr s s' ∧ K y s') := by
  obtain ⟨sl, hp0, tch, an⟩ := s
  simp only [xcall] at h
  split at h
  · rename_i ps pre res hl
    have hc := hT _ _ hl
    split at h
    · rename_i x hx
      obtain ⟨hp, h⟩ := preK_spec h
      rw [appK_eq, fV_eq] at h
      refine PC.args_LE (rdP_ok hx) (PC.mono ((hc x hp).2 (dens hp0) (fun _ q => by cases q)) ?_)
      rintro y k ⟨rfl, rfl⟩
      exact ⟨⟨sl, hp0, tch, an⟩, rfl, rfl, Fr.refl _, h⟩
    · split at h
      · rename_i x hx
        rw [appK_eq] at h
        split at h
        · rename_i hfl
          obtain ⟨hp, h⟩ := preK_spec h
          obtain ⟨hcs, h⟩ := needs_spec h
          rw [fV_eq] at h
          refine PC.mono (PC.read hfl (hc x hp) (rdHs_ra hx hcs)) ?_
          rintro y k ⟨rfl, rfl⟩
          exact ⟨⟨sl, hp0, tch, an⟩, rfl, rfl, Fr.refl _, h⟩
        · exact h.elim
      · exact h.elim
  · rename_i t e ps pre res post hl
    have hc := hT _ _ hl
    split at h
    · rename_i j rest
      split at h
      · rename_i xo ho
        split at h
        · rename_i a x ha hx
          obtain ⟨hp, h⟩ := preM_spec h
          rw [appK_eq, fV_eq, appK_eq, setX_eq] at h
          obtain ⟨o, o1, o2, o3, o4, o5⟩ := rdOb_ok ha
          have hd : (dens hp0)[j]? = some (.live o) := by rw [dens_get, ho]; simp [o1]
          have hlt := get_lt hd
          refine PC.pre (h' := (dens hp0).set j (objT t e a)) (fun {ι w} H => H.weakObj hd o2.symm o3.symm o4 o5) ?_
          refine PC.args_LE (LEs.cons (LE.refl _) (rdP_ok hx)) (PC.mono ((hc a x hp j).2 _ (fun p hp => ?_)) ?_)
          · simp at hp; subst hp; rw [List.getElem?_set_self hlt]
          · rintro y k ⟨rfl, rfl⟩
            refine ⟨⟨sl, hp0.set j (.ob t (cu ps (post a) x) e), j :: tch, an⟩, rfl, ?_, ⟨?_, ?_, ?_⟩, h⟩
            · rw [dens_set]; simp [setMany, objT, XO.den]
            · simp
            · intro i hi; exact List.mem_cons_of_mem _ hi
            · intro i hi hn
              exact List.getElem?_set_ne (fun q => hn (by rw [← q]; exact List.mem_cons_self ..))
        · exact h.elim
      · exact h.elim
    · exact h.elim
  · rename_i t e ps pre post hl
    have hc := hT _ _ hl
    split at h
    · rename_i x hx
      obtain ⟨hp, h⟩ := preK_spec h
      rw [appK_eq, fN_eq, fH_eq] at h
      refine PC.args_LE (rdP_ok hx) (PC.mono (hc x hp (dens hp0) hp0.length (dens hp0 ++ [.live ⟨t.size, [t.row (cu ps post x)], e⟩]) ?_) ?_)
      · simp [halloc, dens]
      · rintro y k ⟨rfl, rfl⟩
        refine ⟨⟨sl, hp0 ++ [.ob t (cu ps post x) e], tch, an⟩, rfl, by rw [dens_app]; rfl, ⟨by simp, fun _ q => q, fun j hj _ => List.getElem?_append_left hj⟩, h⟩
    · exact h.elim
  · rename_i t pre g ret hl
    have hc : SrtOk E.P f t (fun l => ∀ p, pre = some p → p l) g ret := hT _ _ hl
    split at h
    · rename_i j n rest
      split at h
      · split at h
        · rename_i t0 l0 e ho
          split at h
          · rename_i l hcast
            obtain ⟨et, el⟩ := castL_ty hcast
            subst et; subst el
            obtain ⟨hp, h⟩ := preK_spec (ps := [.list t0]) h
            obtain ⟨hn, h⟩ := (need_iff _ _).1 h
            rw [appK_eq, setX_eq] at h
            have hn := of_decide_eq_true hn
            have hlt := get_lt ho
            have hg : cu [.list t0] g (l, ()) = g l := rfl
            rw [hg] at h
            have hfr : Fr ⟨sl, hp0, tch, an⟩ ⟨sl, hp0.set j (.opt t0 (g l) e), j :: tch, an⟩ :=
              ⟨by simp, fun i hi => List.mem_cons_of_mem _ hi, fun i hi hni => List.getElem?_set_ne (fun q => hni (by rw [← q]; exact List.mem_cons_self ..))⟩
            have hend : ∀ y, y = (if ret = true then V.oL j (g l).length else .tup []) → ∃ s' : Y, s'.sl = sl ∧ dens (hp0.set j (.opt t0 (g l) e)) = dens s'.h ∧ Fr ⟨sl, hp0, tch, an⟩ s' ∧ K y s' := by
              intro y hy
              refine ⟨⟨sl, hp0.set j (.opt t0 (g l) e), j :: tch, an⟩, rfl, rfl, hfr, ?_⟩
              subst hy
              cases ret with
              | true => simpa [fN_eq] using h
              | false => simpa using h
            have hoL : ∀ (j m : Nat), m = 0 → ∀ (M : Nat → Prop) (w : World) (ι : Iota) (z : Value), Rep w ι M (.v (.slice none 0 0)) z → Rep w ι M (.oL j m) z := fun j m hm M w ι z q => .oL _ _ _ (by rw [if_pos hm]; exact q)
            have hoS : ∀ (j m : Nat), m ≠ 0 → ∀ (M : Nat → Prop) (w : World) (ι : Iota) (z : Value), Rep w ι M (.sO j 0 m) z → Rep w ι M (.oL j m) z := fun j m hm M w ι z q => .oL _ _ _ (by rw [if_neg hm]; exact q)
            subst hn
            by_cases h0 : l = []
            · subst h0
              have hd : dens (hp0.set j (.opt t0 (g []) e)) = dens hp0 := by
                rw [dens_set, hc.nil]
                have : (dens hp0)[j]? = some (XO.opt t0 [] e).den := by rw [dens_get, ho]; rfl
                rw [← List.getElem?_eq_some_iff.1 this |>.2, List.set_getElem_self]
              refine PC.args_LE (args' := [.v (.slice none 0 0)]) (LEs.cons (fun q => by cases q with | oL _ _ _ q => simpa using q) LEs.nil) ?_
              refine PC.res_LE (PC.mono (hc.none _) ?_)
              rintro y k ⟨rfl, rfl⟩
              obtain ⟨s', a1, a2, a3, a4⟩ := hend _ rfl
              refine ⟨(if ret = true then V.oL j (g []).length else .tup []), ?_, s', a1, by rw [← a2, hd], a3, a4⟩
              cases ret with
              | true =>
                simp only [if_true]
                exact fun q => hoL _ _ (by rw [hc.nil]; rfl) _ _ _ _ q
              | false => exact LE.refl _
            · have hl0 : l.length ≠ 0 := fun q => h0 (List.length_eq_zero_iff.1 q)
              have hgl : (g l).length ≠ 0 := fun q => hc.cons l h0 (List.length_eq_zero_iff.1 q)
              have hden : ∀ (q : List t0.den), q ≠ [] → (XO.opt t0 q e).den = .live ⟨t0.size, q.map t0.row, e⟩ := fun q hl => by simp [XO.den, hl]
              refine PC.args_LE (args' := [.sO j 0 l.length]) (LEs.cons (fun q => by cases q with | oL _ _ _ q => simpa [hl0] using q) LEs.nil) ?_
              refine PC.res_LE (PC.mono (hc.some l (fun p q => hp p q) (dens hp0) j e (by rw [dens_get, ho, ← hden l h0]; rfl)) ?_)
              rintro y k ⟨rfl, rfl⟩
              obtain ⟨s', a1, a2, a3, a4⟩ := hend _ rfl
              refine ⟨(if ret = true then V.oL j (g l).length else .tup []), ?_, s', a1, by rw [← a2, dens_set, hden _ (hc.cons l h0)], a3, a4⟩
              cases ret with
              | true =>
                simp only [if_true]
                exact fun q => hoS _ _ hgl _ _ _ _ q
              | false => exact LE.refl _
          · exact h.elim
        · exact h.elim
      · exact h.elim
    · rename_i j n rest
      split at h
      · split at h
        · rename_i t0 l0 e ho
          split at h
          · rename_i l hcast
            obtain ⟨et, el⟩ := castL_ty hcast
            subst et; subst el
            obtain ⟨hp, h⟩ := preK_spec (ps := [.list t0]) h
            obtain ⟨hn, hK⟩ := (need_iff _ _).1 h
            clear h
            rw [appK_eq, setX_eq] at hK
            have hn := of_decide_eq_true hn
            have hg : cu [.list t0] g (l, ()) = g l := rfl
            rw [hg] at hK
            have hfr : Fr ⟨sl, hp0, tch, an⟩ ⟨sl, hp0.set j (.tl t0 (g l) e), j :: tch, an⟩ :=
              ⟨by simp, fun i hi => List.mem_cons_of_mem _ hi, fun i hi hni => List.getElem?_set_ne (fun q => hni (by rw [← q]; exact List.mem_cons_self ..))⟩
            subst hn
            refine PC.mono (hc.some l (fun p q => hp p q) (dens hp0) j e (by rw [dens_get, ho]; rfl)) ?_
            rintro y k ⟨rfl, rfl⟩
            refine ⟨⟨sl, hp0.set j (.tl t0 (g l) e), j :: tch, an⟩, rfl, by rw [dens_set]; rfl, hfr, ?_⟩
            cases ret with
            | true => simpa [fN_eq] using hK
            | false => simpa using hK
          · exact h.elim
        · exact h.elim
      · exact h.elim
    · split at h
      · refine PC.mono (hc.none _) ?_
        rintro y k ⟨rfl, rfl⟩
        refine ⟨⟨sl, hp0, tch, an⟩, rfl, rfl, Fr.refl _, ?_⟩
        cases ret with
        | true => simpa using h
        | false => simpa using h
      · exact h.elim
    · exact h.elim
  · rename_i t e hl
    have hc : GrwOk E.P f t e := hT _ _ hl
    split at h
    · split at h
      · rename_i n rest2
        split at h
        · obtain ⟨⟨hn⟩, h⟩ := h
          obtain ⟨h1, h2⟩ := (br_iff _ _ _).1 h
          obtain ⟨c1, c2⟩ := hc n hn.1 hn.2 (dens hp0)
          by_cases hpos : 0 < n
          · have h1 := h1 (decide_eq_true hpos)
            rw [fN_eq, fH_eq] at h1
            refine PC.mono (c2 hpos hp0.length (dens hp0 ++ [.live ⟨t.size, [], e⟩]) (by simp [halloc, dens])) ?_
            rintro y k ⟨rfl, rfl⟩
            exact ⟨⟨sl, hp0 ++ [.tl t [] e], tch, an⟩, rfl, by rw [dens_app]; rfl, ⟨by simp, fun _ q => q, fun j hj _ => List.getElem?_append_left hj⟩, h1⟩
          · have h2 := h2 (decide_eq_false hpos)
            refine PC.mono (c1 (by omega)) ?_
            rintro y k ⟨rfl, rfl⟩
            exact ⟨⟨sl, hp0, tch, an⟩, rfl, rfl, Fr.refl _, h2⟩
        · exact h.elim
      · exact h.elim
    · exact h.elim
  · rename_i t ps pre res hl
    have hc := hT _ _ hl
    split at h
    · rename_i j rest
      split at h
      · rename_i o ho
        split at h
        · rename_i a row x ha hx
          rw [appK_eq] at h
          split at h
          · rename_i hfl
            obtain ⟨hp, h⟩ := preM_spec h
            obtain ⟨hcs, h⟩ := needs_spec h
            rw [fV_eq] at h
            have hra : Pairs (fun a b => RA (dens hp0) a b) (.pO j 0 0 :: rest) (.pF (t.row a) 0 :: vals ps x) := by
              have h1 := rdP_ok hx
              refine ⟨by simp [h1.1], fun i y z hy hz => ?_⟩
              cases i with
              | zero => simp at hy hz; subst hy hz; exact rdRow_ra ho ha hcs
              | succ i =>
                simp at hy hz
                exact fun w ι v H r => (h1.2 i y z hy hz r).free (fun b q => .inl (mt_none q)) (Tup_ni 0 ps x z (get_mem hz))
            refine PC.mono (PC.read hfl (hc a x hp) hra) ?_
            rintro y k ⟨rfl, rfl⟩
            exact ⟨⟨sl, hp0, tch, an⟩, rfl, rfl, Fr.refl _, h⟩
          · exact h.elim
        · exact h.elim
      · exact h.elim
    · rename_i row rest
      split at h
      · rename_i a x ha hx
        obtain ⟨hp, h⟩ := preM_spec h
        rw [appK_eq, fV_eq] at h
        refine PC.args_LE (LEs.cons (LE.pF (un_row (R := fun a b => LE a b) (unPure_ok 8) (fun _ => LE.refl _) ha)) (rdP_ok hx)) (PC.mono ((hc a x hp).2 (dens hp0) (fun _ q => by cases q)) ?_)
        rintro y k ⟨rfl, rfl⟩
        exact ⟨⟨sl, hp0, tch, an⟩, rfl, rfl, Fr.refl _, h⟩
      · exact h.elim
    · exact h.elim
  · rename_i wr e eb hl
    have hc := hT _ _ hl
    split at h
    · rename_i i rest
      split at h
      · rename_i s0 rest2
        split at h
        · rw [fN_eq, fH_eq] at h
          split at h
          · rename_i b cs j l hr
            obtain ⟨hcs, h⟩ := needs_spec h
            obtain ⟨hn, h⟩ := (need_iff _ _).1 h
            rw [setX_eq, kilK_eq, setX_eq, fL_eq] at h
            have hn := of_decide_eq_true hn
            have hfree : (hp0 ++ [XO.raw .free])[hp0.length]? = some (.raw .free) := by simp
            refine PC.pre (h' := dens (hp0 ++ [.raw .free])) (fun {ι w} H => ?_) (PC.mono (hc (hp0 ++ [.raw .free]) i hp0.length s0 b cs j l hr hcs hn hfree) ?_)
            · rw [dens_free]; exact H.reserve1
            rintro y k ⟨rfl, rfl⟩
            refine ⟨⟨sl, (killX ((hp0 ++ [XO.raw .free]).set i (bldX eb i hp0.length (l ++ toInts s0).length)) j).set hp0.length (.opt (.int .u8) (l ++ toInts s0) e), i :: tchJ j tch, an⟩, rfl, rfl, ⟨by simp [killX_length], fun x hx => ?_, fun x hx hn => ?_⟩, h⟩
            · cases j with
              | none => exact List.mem_cons_of_mem _ hx
              | some j => exact List.mem_cons_of_mem _ (List.mem_cons_of_mem _ hx)
            · have hxi : i ≠ x := fun q => hn (by rw [← q]; exact List.mem_cons_self ..)
              simp only at hx ⊢
              rw [List.getElem?_set_ne (by omega), killX_get (fun y hy => ?_), List.getElem?_set_ne hxi, List.getElem?_append_left hx]
              intro q; apply hn; subst hy q; exact List.mem_cons_of_mem _ (List.mem_cons_self ..)
          · exact h.elim
        · exact h.elim
      · exact h.elim
    · rename_i i rest
      split at h
      · split at h
        · rename_i b cs j l hr
          obtain ⟨hcs, h⟩ := needs_spec h
          obtain ⟨hn, h⟩ := (need_iff _ _).1 h
          rw [setX_eq, kilK_eq, fL_eq] at h
          refine PC.mono (hc hp0 i b cs j l hr hcs (of_decide_eq_true hn)) ?_
          rintro y k ⟨rfl, rfl⟩
          refine ⟨⟨sl, killX (hp0.set i (.raw .dead)) j, i :: tchJ j tch, an⟩, rfl, rfl, ⟨by simp [killX_length], fun x hx => ?_, fun x hx hn => ?_⟩, h⟩
          · cases j with
            | none => exact List.mem_cons_of_mem _ hx
            | some j => exact List.mem_cons_of_mem _ (List.mem_cons_of_mem _ hx)
          · have hxi : i ≠ x := fun q => hn (by rw [← q]; exact List.mem_cons_self ..)
            simp only at hx ⊢
            rw [killX_get (fun y hy => ?_), List.getElem?_set_ne hxi]
            intro q; apply hn; subst hy q; exact List.mem_cons_of_mem _ (List.mem_cons_self ..)
        · exact h.elim
      · exact h.elim
    · exact h.elim
  · exact hI _ _ _ _ h

/- a plain region -/
def tchK (o : Op) (sl : List V) (n : Nat) (tch : List Nat) (k : List Nat → Prop) : Prop := match wids o (aev sl) n with
  | [] => k tch
  | a :: r => k (a :: (r ++ tch))
theorem tchK_eq (o : Op) (sl : List V) (n : Nat) (tch : List Nat) (k : List Nat → Prop) : tchK o sl n tch k = k (wids o (aev sl) n ++ tch) := by
  unfold tchK
  split
  · rename_i h; rw [h]; rfl
  · rename_i h; rw [h]; rfl
def xstep (E : Env) (fl : Bool) (o : Oper) (s : Y) (K : Y → Prop) : Prop :=
  match s with
  | ⟨sl, h, tch, an⟩ => match callOf E.P sl o.op with
    | some (f, args) => xcall E f args ⟨sl, h, tch, an⟩ fun x s' => (match s' with
      | ⟨sl, h, tch, an⟩ => putK sl o.dst x fun sl => K ⟨sl, h, tch, an⟩)
    | none => stepN E.P fl o.op ⟨sl, h⟩ fun x h' => putK sl o.dst x fun sl' => tchK o.op sl h.length tch fun tch => K ⟨sl', h', tch, an⟩

def gd (ops : Array Oper) (o : Oper) (s : Y) (run skip : Y → Prop) : Prop :=
  match s with
  | ⟨sl, h, tch, an⟩ => match o.guard with
  | none => run ⟨sl, h, tch, an⟩
  | some (j, want) => match (ops[j]?).bind (·.dst) with
    | some d => match sl[d]? with
      | some (.v (.bool b)) => br b
        (setK sl d (.v (.bool true)) fun sl => match want with | true => run ⟨sl, h, tch, an⟩ | false => skip ⟨sl, h, tch, an⟩)
        (setK sl d (.v (.bool false)) fun sl => match want with | true => skip ⟨sl, h, tch, an⟩ | false => run ⟨sl, h, tch, an⟩)
      | some (.v (.tuple _)) => skip ⟨sl, h, tch, an⟩
      | _ => False
    | none => False

def frO (W : List Nat) (o : Op) (s : Y) (K : Y → Prop) : Prop := match s with
  | ⟨sl, h, tch, an⟩ => match frOd W o sl h with
    | some (d, x, id, c) => need c (fV x fun x => setK sl d x fun sl => fH (h.set id (.raw .dead)) fun h => K ⟨sl, h, id :: tch, an⟩)
    | none => K ⟨sl, h, tch, an⟩

def xops (E : Env) (ops : Array Oper) (rid : Nat) (l : List Oper) : Nat → Y → (Y → Prop) → Prop := List.rec (motive := fun _ => Nat → Y → (Y → Prop) → Prop) (fun _ s K => K s)
  (fun o _ ih i s K => gd ops o s (fun s => frO (wrOps ops.toList) o.op s fun s => xstep E (flips E.flip E.fid rid i) o s fun s' => ih (i + 1) s' K)
      (fun s => match s with | ⟨sl, h, tch, an⟩ => putK sl o.dst (.v undef) fun sl => ih (i + 1) ⟨sl, h, tch, an⟩ K)) l

theorem xops_cons (E : Env) (ops : Array Oper) (rid : Nat) (o : Oper) (l : List Oper) (i : Nat) (s : Y) (K : Y → Prop) : xops E ops rid (o :: l) i s K = gd ops o s (fun s => frO (wrOps ops.toList) o.op s fun s => xstep E (flips E.flip E.fid rid i) o s fun s' => xops E ops rid l (i + 1) s' K)
      (fun s => match s with | ⟨sl, h, tch, an⟩ => putK sl o.dst (.v undef) fun sl => xops E ops rid l (i + 1) ⟨sl, h, tch, an⟩ K) := rfl
theorem dst_fr {P : Program} {o : Op} {ev : Operand → V} {h h' : List XO} {cs : List Bool} {x : V} {new : Nat} (e : dst P o ev h = some (cs, x, h')) : h.length = h'.length ∧ ∀ j, ¬ j ∈ wids o ev new → h'[j]? = h[j]? := by
  have fin : ∀ (id : Nat) (o' : XO) (t : TypeId) (p y : Operand), o = .store t p y → ev p = .pO id 0 0 ∨ (∃ r q, ev p = .pO id r q) → h' = h.set id o' → h.length = h'.length ∧ ∀ j, ¬ j ∈ wids o ev new → h'[j]? = h[j]? := by
    rintro id o' t p y rfl hp rfl
    refine ⟨by simp, fun j hj => List.getElem?_set_ne (fun q => hj ?_)⟩
    subst q
    rcases hp with hp | ⟨r, q, hp⟩ <;> simp [wids, hp, topIds]
  unfold dst at e
  split at e
  · rename_i t p y
    unfold dstore at e
    split at e
    · rename_i id r off ls n hp hls hn
      repeat' split at e
      all_goals first | (cases e; done) | skip
      all_goals (injection e with e; injection e with e1 e2; injection e2 with e2 e3)
      all_goals exact fin _ _ t p y rfl (.inr ⟨_, _, by assumption⟩) e3.symm
    · cases e
  · cases e

theorem bsX_id {h : List XO} {ty : Ty} {el : TypeId} {x : V} {cs : List Bool} {l : List ty.den} {k : Option Nat} (e : bsX h ty el x = some (cs, l, k)) : ∀ id, k = some id → id ∈ topIds x := by
  intro id hid
  unfold bsX at e
  repeat' split at e
  all_goals first | (cases e; done) | skip
  all_goals (injection e with e; injection e with e1 e2; injection e2 with e2 e3; subst e3; first | (cases hid; done) | (injection hid with hid; subst hid; simp [topIds]))

theorem dalloc_fr {P : Program} {o : Op} {ev : Operand → V} {h h' : List XO} {cs : List Bool} {x : V} {new : Nat} (e : dalloc P o ev h new = some (cs, x, h')) : h.length = h'.length ∧ ∀ j, ¬ j ∈ wids o ev new → h'[j]? = h[j]? := by
  have fin : ∀ (o' : XO), new ∈ wids o ev new → h' = h.set new o' → h.length = h'.length ∧ ∀ j, ¬ j ∈ wids o ev new → h'[j]? = h[j]? := by
    rintro o' hn rfl
    exact ⟨by simp, fun j hj => List.getElem?_set_ne (fun q => hj (by rw [← q]; exact hn))⟩
  unfold dalloc at e
  split at e
  · split at e
    · unfold dmake at e
      repeat' split at e
      all_goals first | (cases e; done) | skip
      all_goals (injection e with e; injection e with e1 e2; injection e2 with e2 e3; exact fin _ (by simp [wids]) e3.symm)
    · cases e
  · unfold dtoBytes at e
    repeat' split at e
    all_goals first | (cases e; done) | skip
    all_goals (injection e with e; injection e with e1 e2; injection e2 with e2 e3; exact fin _ (by simp [wids]) e3.symm)
  · rename_i c
    obtain ⟨callee, args, tys⟩ := c
    simp only at e
    split at e
    · rename_i X Y ha
      split at e
      · have fin2 : ∀ (k : Option Nat) (o' : XO) (h2 : List XO), h2 = (killX h k).set new o' → (∀ id, k = some id → id ∈ wids (.call ⟨.builtin .append, args, tys⟩) ev new) → h.length = h2.length ∧ ∀ j, ¬ j ∈ wids (.call ⟨.builtin .append, args, tys⟩) ev new → h2[j]? = h[j]? := by
          rintro k o' h2 rfl hk
          refine ⟨by cases k <;> simp [killX], fun j hj => ?_⟩
          rw [List.getElem?_set_ne (fun q => hj (by rw [← q]; simp [wids]))]
          cases k with
          | none => rfl
          | some id => exact List.getElem?_set_ne (fun q => hj (by rw [← q]; exact hk id rfl))
        unfold dapp at e
        split at e
        · rename_i a b c' hX
          unfold dappendS at e
          repeat' split at e
          all_goals first | (cases e; done) | skip
          all_goals
            injection e with e; injection e with e1 e2; injection e2 with e2 e3; subst e3
            have hbs := ‹bsX h _ _ (.sO _ _ _) = some _›
            rw [← hX] at hbs
            refine fin2 _ _ _ rfl fun id hid => ?_
            simp only [wids, ha, List.take_succ_cons, List.take_zero, List.flatMap_cons, List.flatMap_nil, List.append_nil, List.mem_append]
            exact .inl (bsX_id hbs id hid)
        · rename_i hX
          unfold dappend at e
          repeat' split at e
          all_goals first | (cases e; done) | skip
          all_goals
            injection e with e; injection e with e1 e2; injection e2 with e2 e3; subst e3
            have hbs := ‹bsX h _ _ (ev X) = some _›
            refine fin2 _ _ _ rfl fun id hid => ?_
            simp only [wids, ha, List.take_succ_cons, List.take_zero, List.flatMap_cons, List.flatMap_nil, List.append_nil, List.mem_append]
            exact .inl (bsX_id hbs id hid)
      · cases e
    · cases e
  · cases e

theorem strip_fr : ∀ (h : List XO), h.length ≤ (strip h).length + 1 ∧ ∀ j, j < (strip h).length → (strip h)[j]? = h[j]?
  | [] => ⟨by simp [strip], fun j hj => by simp [strip] at hj⟩
  | [x] => by
    cases x with
    | raw s => cases s <;> exact ⟨by simp [strip], fun j hj => by simp [strip] at hj ⊢⟩
    | _ => exact ⟨by simp [strip], fun j hj => by simp [strip] at hj ⊢⟩
  | x :: y :: r => by
    have hd : strip (x :: y :: r) = x :: strip (y :: r) := by
      cases x with
      | raw s => cases s <;> rfl
      | _ => rfl
    obtain ⟨h1, h2⟩ := strip_fr (y :: r)
    rw [hd]
    refine ⟨by simp at h1 ⊢; omega, fun j hj => ?_⟩
    cases j with
    | zero => rfl
    | succ j => simpa using h2 j (by simpa using hj)
theorem reb_get {h : List XO} {ws : List Nat} : ∀ {k : Heap} {i j : Nat}, j < k.length → ¬ (i + j) ∈ ws → i + j < h.length → (reb h ws k i)[j]? = h[i + j]?
  | [], i, j, hj, _, _ => by simp at hj
  | s :: r, i, 0, _, hw, hl => by
    rw [Nat.add_zero] at hw hl ⊢
    simp only [reb, List.getElem?_cons_zero]
    rw [if_neg (by simpa using hw), List.getElem?_eq_getElem hl]
  | s :: r, i, j + 1, hj, hw, hl => by
    simp only [reb, List.getElem?_cons_succ]
    rw [reb_get (by simpa using hj) (by rwa [show i + 1 + j = i + (j + 1) by omega]) (by omega), show i + 1 + j = i + (j + 1) by omega]
theorem reb_len {h : List XO} {ws : List Nat} : ∀ {k : Heap} {i : Nat}, (reb h ws k i).length = k.length
  | [], _ => rfl
  | _ :: _, _ => by simp [reb, reb_len]

theorem darrA_fr {P : Program} {o : Op} {h h' : List XO} {new : Nat} {cs : List Bool} {x : V} (e : darrA P o h new = some (cs, x, h')) : h'.length = h.length ∧ ∀ j, j ≠ new → h'[j]? = h[j]? := by
  unfold darrA at e
  repeat' split at e
  all_goals first | (cases e; done) | skip
  injection e with e; injection e with e1 e2; injection e2 with e2 e3; subst e3
  exact ⟨by simp, fun j hj => List.getElem?_set_ne (fun q => hj q.symm)⟩
theorem stepN_fr {P : Program} {fl : Bool} {o : Op} {s : XSt} {K : V → List XO → Prop} (h : stepN P fl o s K) :
    stepN P fl o s fun x h' => K x h' ∧ s.h.length ≤ h'.length ∧ ∀ j, j < s.h.length → ¬ j ∈ wids o (aev s.sl) s.h.length → h'[j]? = s.h[j]? := by
  have nd : ∀ {cs : List Bool} {A B : Prop}, (A → B) → needs cs A → needs cs B := by
    intro cs A B hab
    induction cs with
    | nil => exact hab
    | cons c cs ih => intro q; exact (need_iff c _).2 ⟨((need_iff c _).1 q).1, ih ((need_iff c _).1 q).2⟩
  obtain ⟨sl, hp⟩ := s
  simp only [stepN] at h ⊢
  split
  · rename_i b x y e
    simp only [e, fV_eq] at h ⊢
    obtain ⟨h1, h2⟩ := (br_iff _ _ _).1 h
    exact (br_iff _ _ _).2 ⟨fun q => ⟨h1 q, Nat.le_refl _, fun _ _ _ => trivial⟩, fun q => ⟨h2 q, Nat.le_refl _, fun _ _ _ => trivial⟩⟩
  rename_i e0
  simp only [e0] at h
  split
  · rename_i cs x e
    simp only [e, fV_eq] at h ⊢
    exact nd (fun q => ⟨q, Nat.le_refl _, fun _ _ _ => trivial⟩) h
  rename_i e01
  simp only [e01] at h
  split
  · rename_i xs n len elem sz e
    simp only [e] at h ⊢
    have : ∀ (K2 : V → Prop), (∀ y, K y hp → K2 y) → ∀ (m j : Nat), arrK P elem sz xs n (fun y => K y hp) m j → arrK P elem sz xs n K2 m j := by
      intro K2 hK m
      induction m with
      | zero => intro j q; exact q
      | succ m ih =>
        intro j q
        simp only [arrK] at q ⊢
        obtain ⟨h1, h2⟩ := (br_iff _ _ _).1 q
        refine (br_iff _ _ _).2 ⟨fun c => ?_, fun c => ?_⟩
        · have h3 := h1 c
          split
          · rename_i y hy
            rw [hy] at h3
            simp only [fV_eq] at h3 ⊢
            exact hK _ h3
          · rename_i hy
            rw [hy] at h3; exact h3
        · have h3 := h2 c
          rw [fN_eq] at h3 ⊢
          exact ih _ h3
    exact this _ (fun y hy => ⟨hy, Nat.le_refl _, fun _ _ _ => trivial⟩) _ _ h
  rename_i e00
  simp only [e00] at h
  split
  · rename_i cs x e
    simp only [e, fV_eq] at h ⊢
    exact nd (fun q => ⟨q, Nat.le_refl _, fun _ _ _ => trivial⟩) h
  · rename_i e
    simp only [e] at h
    split
    · rename_i cs x h' e2
      rw [e2] at h
      refine nd (fun q => ?_) h
      rw [fH_eq] at q ⊢
      obtain ⟨g1, g2⟩ := dst_fr (new := hp.length) e2
      exact ⟨q, Nat.le_of_eq g1, fun j _ hj => g2 j hj⟩
    · rename_i e2
      simp only [e2] at h
      split
      · rename_i cs x h' e3
        rw [e3] at h
        refine nd (fun q => ?_) h
        rw [fV_eq, fH_eq] at q ⊢
        obtain ⟨g1, g2⟩ := darrA_fr e3
        refine ⟨q, by simp at g1; omega, fun j hlt hj => ?_⟩
        rw [g2 j (by omega), List.getElem?_append_left hlt]
      rename_i e31
      simp only [e31] at h
      split
      · rename_i cs x h' e3
        rw [e3] at h
        refine nd (fun q => ?_) h
        rw [fV_eq, fH_eq] at q ⊢
        obtain ⟨g1, g2⟩ := dalloc_fr e3
        refine ⟨q, by simp at g1; omega, fun j hlt hj => ?_⟩
        rw [g2 j hj, List.getElem?_append_left hlt]
      · rename_i e3
        simp only [e3] at h
        split
        · rename_i x h' e4
          rw [e4] at h
          simp only at h
          split
          · rename_i e5
            rw [e5] at h
            rw [fV_eq] at h ⊢
            exact ⟨h, Nat.le_refl _, fun _ _ _ => trivial⟩
          · rename_i e5
            have h2 : fV x fun x => fH (typH P o hp.length (strip (reb (hp ++ [.raw .free]) (wids o (aev sl) hp.length) h' 0))) fun h' => K x h' := by
              revert h
              split
              · rename_i e6; exact absurd e6 e5
              · exact fun h => h
            rw [fV_eq, fH_eq] at h2
            rw [fV_eq, fH_eq]
            have hlt : hp.length < (dens (hp ++ [.raw .free])).length := by simp [dens]
            obtain ⟨post, p1, p2, _⟩ := (AO.of e4).loc hlt
            have hl : h'.length = hp.length + 1 := by rw [p2, setMany_length]; simp [dens]
            obtain ⟨g1, g2⟩ := strip_fr (reb (hp ++ [.raw .free]) (wids o (aev sl) hp.length) h' 0)
            rw [reb_len, hl] at g1
            refine ⟨h2, by rw [typH_len]; omega, fun j hj hn => ?_⟩
            rw [typH_get (by omega), g2 j (by omega), reb_get (by omega) (by rwa [Nat.zero_add]) (by simp; omega), Nat.zero_add, List.getElem?_append_left hj]
        · rename_i e4
          simp only [e4] at h
          split
          · rename_i p e5
            simp only [e5] at h
            exact ⟨fun q => ⟨h.a q, Nat.le_refl _, fun _ _ _ => trivial⟩, ⟨h.b, Nat.le_refl _, fun _ _ _ => trivial⟩⟩
          · rename_i p e5
            simp only [e5] at h
            exact ⟨fun q => ⟨h.a q, Nat.le_refl _, fun _ _ _ => trivial⟩, ⟨h.b, Nat.le_refl _, fun _ _ _ => trivial⟩⟩
          · rename_i e5
            simp only [e5] at h
            split
            · rename_i cs n id ty a u off len e6
              simp only [e6] at h
              refine nd (fun q => ?_) h
              obtain ⟨q1, q2⟩ := (br_iff _ _ _).1 q
              refine (br_iff _ _ _).2 ⟨fun c => ⟨q1 c, Nat.le_refl _, fun _ _ _ => trivial⟩, fun c => ?_⟩
              obtain ⟨q3, q4⟩ := (br_iff _ _ _).1 (q2 c)
              refine (br_iff _ _ _).2 ⟨fun c => ⟨q3 c, Nat.le_refl _, fun _ _ _ => trivial⟩, fun c => ?_⟩
              have q5 := q4 c
              rw [fV_eq] at q5 ⊢
              exact ⟨q5, Nat.le_refl _, fun _ _ _ => trivial⟩
            · rename_i e6
              simp only [e6] at h

end Go.Abs
