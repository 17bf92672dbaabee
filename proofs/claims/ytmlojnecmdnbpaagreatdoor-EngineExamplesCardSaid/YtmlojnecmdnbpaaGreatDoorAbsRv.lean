/- A run of closed code in the kernel. Part 2: the run, and that the program does what it says. -/
import Derived.Test.YtmlojnecmdnbpaaGreatDoorAbsRu
namespace Go.Abs
set_option linter.unusedVariables false
set_option linter.unusedSimpArgs false
noncomputable section

structure RS where
  n : Nat
  sl : Tr V
  h : RH
def rat (n : Nat) (sl : Tr V) (i : Nat) : Option V := bif Nat.blt i n then some ((sl.get i).getD (.v undef)) else none
def RS.slots (s : RS) : List V := (List.range s.n).map fun i => (s.sl.get i).getD (.v undef)
def RS.den (s : RS) : St := ⟨s.slots, s.h.den⟩
theorem slots_get (s : RS) (i : Nat) : s.slots[i]? = rat s.n s.sl i := by
  unfold RS.slots rat
  by_cases h : i < s.n
  · rw [blt_yes h, List.getElem?_map, List.getElem?_range h]; rfl
  · rw [blt_no h, List.getElem?_eq_none (by simpa using Nat.le_of_not_lt h)]; rfl
def rev (n : Nat) (sl : Tr V) : Operand → V
  | .tmp t => (rat n sl t).getD .any
  | .const c => ofValue c
  | .global g => .v (.pointer (some ⟨g, 0, none⟩))
  | .func f => .fn (.func f) [] []
theorem rev_eq (s : RS) : aev s.slots = rev s.n s.sl := by
  funext x
  cases x with
  | tmp t => simp only [aev, rev, List.getD, slots_get]
  | _ => rfl
def rputT (sl : Tr V) (dst : Option Tmp) (x : V) : Tr V := match dst with
  | some d => sl.set d x
  | none => sl
theorem rput_slots (s : RS) (dst : Option Tmp) (x : V) (h : RH) : (RS.mk s.n (rputT s.sl dst x) h).slots = sput s.slots dst x := by
  cases dst with
  | none => rfl
  | some d =>
    apply List.ext_getElem?
    intro i
    rw [slots_get]
    show rat s.n (s.sl.set d x) i = (s.slots.set d x)[i]?
    rw [List.getElem?_set, slots_get]
    have hl : s.slots.length = s.n := by simp [RS.slots]
    unfold rat
    by_cases h : i < s.n
    · rw [blt_yes h, Tr.get_set]
      by_cases e : d = i
      · rw [if_pos e, if_pos e.symm, if_pos (by rw [hl, e]; exact h)]; rfl
      · rw [if_neg e, if_neg (fun q => e q.symm)]
    · rw [blt_no h]
      split
      · rename_i e; rw [if_neg (by rw [hl, e]; exact h)]; rfl
      · rfl
def rwanted (ops : Array Oper) (n : Nat) (sl : Tr V) (o : Oper) : Option Bool :=
  match o.guard with
  | none => some true
  | some (j, want) => match ((ops[j]?).bind (·.dst)).bind (rat n sl ·) with
    | some (.v (.bool b)) => some (b == want)
    | some (.v (.tuple _)) => some false
    | _ => none
theorem rwanted_ok (ops : Array Oper) (s : RS) (o : Oper) : awanted ops s.slots o = rwanted ops s.n s.sl o := by
  unfold awanted rwanted
  simp only [slots_get]
  rfl
def rcallOf (P : Program) (ρ : Operand → V) (op : Op) : Option (FuncId × List V) :=
  match op with
  | .call ⟨.value fop, args, _⟩ => match ρ fop with
    | .fn (.func f) first caps => if callable P f = true then some (f, first ++ args.toList.map ρ ++ caps) else none
    | _ => none
  | _ => none
theorem rcallOf_ok (P : Program) (s : RS) (op : Op) : callOf P s.slots op = rcallOf P (rev s.n s.sl) op := by
  unfold callOf rcallOf
  rw [rev_eq]
  rfl

/- what the run has written -/
def Fr' (H H' : RH) : Prop := H'.m = H.m ∧ ∃ seg, H'.lg = seg ++ H.lg ∧ ∀ i, i ∉ seg → H'.get i = H.get i
theorem Fr'.refl (H : RH) : Fr' H H := ⟨rfl, [], rfl, fun _ _ => rfl⟩
theorem Fr'.trans {A B C : RH} (h : Fr' A B) (g : Fr' B C) : Fr' A C := by
  obtain ⟨h1, s, h2, h3⟩ := h
  obtain ⟨g1, t, g2, g3⟩ := g
  refine ⟨g1.trans h1, t ++ s, by rw [g2, h2, List.append_assoc], fun i hi => ?_⟩
  rw [List.mem_append] at hi
  rw [g3 i (fun q => hi (.inl q)), h3 i (fun q => hi (.inr q))]
theorem setMany_map {g : Nat → HS} : ∀ (l : List Nat) (k : Heap) (j : Nat), (setMany k (l.map fun i => (i, g i)))[j]? = if j ∈ l ∧ j < k.length then some (g j) else k[j]?
  | [], k, j => by simp [setMany]
  | i :: l, k, j => by
    rw [List.map_cons, setMany, setMany_map l, List.length_set, List.getElem?_set]
    by_cases h1 : j ∈ l ∧ j < k.length
    · rw [if_pos h1, if_pos ⟨List.mem_cons_of_mem _ h1.1, h1.2⟩]
    · rw [if_neg h1]
      by_cases e : i = j
      · subst e
        rw [if_pos rfl]
        split
        · rename_i q; rw [if_pos ⟨List.mem_cons_self .., q⟩]
        · rename_i q; rw [if_neg (fun z => q z.2), List.getElem?_eq_none (Nat.le_of_not_lt q)]
      · rw [if_neg e, if_neg]
        rintro ⟨a, b⟩
        rcases List.mem_cons.1 a with q | q
        · exact e q.symm
        · exact h1 ⟨q, b⟩
theorem setMany_fr {H H' : RH} {seg : List Nat} (hm : H'.m = H.m) (h : ∀ i, i ∉ seg → H'.get i = H.get i) : setMany H.den (seg.map fun i => (i, (H'.get i).getD .free)) = H'.den := by
  apply List.ext_getElem?
  intro j
  rw [setMany_map (g := fun i => (H'.get i).getD .free), den_get, den_get, den_len]
  split
  · rename_i q
    have : ∃ x, H'.get j = some x := ⟨_, by unfold RH.get; rw [hm, blt_yes q.2]; rfl⟩
    obtain ⟨x, hx⟩ := this
    rw [hx]; rfl
  · rename_i q
    by_cases e : j ∈ seg
    · have e2 : ¬ j < H.m := fun z => q ⟨e, z⟩
      unfold RH.get
      rw [hm, blt_no e2]; rfl
    · exact (h j e).symm

/- the footprints -/
def rwids (P : Program) (op : Op) (ρ : Operand → V) (new : Nat) : List Nat :=
  match op with
  | .convert s d x => match P.underlying d with
    | some (.slice _) => [new]
    | _ => []
  | op => wids op ρ new
theorem rop_loc {P : Program} {op : Op} {ρ : Operand → V} {new : Nat} : Loc' (fun h => aop P op ρ h new) (foot op ρ) (rwids P op ρ new) new := by
  have gen := aop_loc (P := P) (op := op) (ρ := ρ) (new := new)
  cases op with
  | convert s d x =>
    simp only [rwids]
    split
    · exact gen
    · rename_i hd
      have same : ∀ (k : Heap) (y : V) (k' : Heap), aop P (.convert s d x) ρ k new = some (y, k') → k' = k := by
        intro k y k' e
        simp only [aop, aConvert, aToString] at e
        (repeat' split at e) <;> simp_all
      intro h y h' e hl
      obtain ⟨post, p1, p2⟩ := gen h y h' e hl
      refine ⟨[], ⟨(fun p hp => by simp at hp), fun k hk => ?_⟩⟩
      have := p2 k hk
      have h2 := same k y _ this
      rw [h2] at this
      exact this
  | _ => exact gen

abbrev Fp := List Nat × List Nat
def rd1 (ws : List Nat) (b : Fp) : Bool := ws.all fun p => (b.1.all fun q => !Nat.beq p q) && b.2.all fun q => !Nat.beq p q
def rdis (a b : Fp) : Bool := rd1 a.2 b && rd1 b.2 a
def rpairs (ops : Array Oper) : List (Nat × Nat) :=
  (List.range ops.size).flatMap fun i => ((List.range i).filter fun j => !dep ops ops.size i j).map fun j => (i, j)
def rapart (ops : Array Oper) : Bool := (rpairs ops).all fun p => match ops[p.1]?, ops[p.2]? with
  | some oi, some oj => oj.apart ops oi
  | _, _ => true
def rdraws (fs : List Fp) (l : List (Nat × Nat)) : Bool := l.all fun p => match fs[p.1]?, fs[p.2]? with
  | some a, some b => rdis a b
  | _, _ => false

/- the run -/
inductive RT where
  | code (c : Code) (s : RS)
  | ops (ops : Array Oper) (l : List Oper) (s : RS)
  | call (f : FuncId) (args : List V) (h : RH)
inductive RR where
  | code (e : Exit) (s : RS)
  | val (x : V) (h : RH)

/- a call in a region that draws its order: it sees what it can reach -/
def vrefs : Nat → V → List Nat
  | 0, _ => []
  | n + 1, x => match x with
    | .pO id _ _ => [id]
    | .sO id _ _ => [id]
    | .pF row _ => row.flatMap (vrefs n)
    | .sF _ rows => rows.flatMap fun r => r.flatMap (vrefs n)
    | .agg xs => xs.flatMap (vrefs n)
    | .tup xs => xs.flatMap (vrefs n)
    | .fn _ a b => a.flatMap (vrefs n) ++ b.flatMap (vrefs n)
    | .ifc _ x => vrefs n x
    | _ => []
def orefs (H : RH) (i : Nat) : List Nat := match H.get i with
  | some (.live o) => o.rows.flatMap fun r => r.flatMap (vrefs 16)
  | _ => []
def rreach (H : RH) (n : Nat) : List Nat → Tr Unit → List Nat → List Nat :=
  Nat.rec (motive := fun _ => List Nat → Tr Unit → List Nat → List Nat) (fun _ _ out => out)
    (fun _ ih todo seen out => match todo with
      | [] => out
      | i :: todo => match seen.get i with
        | some _ => ih todo seen out
        | none => ih (orefs H i ++ todo) (seen.set i ()) (i :: out)) n
def rset (l : List Nat) (t : Tr Unit) : Tr Unit := List.rec (motive := fun _ => Tr Unit → Tr Unit) (fun t => t) (fun i _ ih t => ih (t.set i ())) l t
theorem rset_get : ∀ (l : List Nat) (t : Tr Unit) (i : Nat), ((rset l t).get i).isSome = true ↔ i ∈ l ∨ (t.get i).isSome = true
  | [], t, i => by show (t.get i).isSome = true ↔ _; simp
  | j :: l, t, i => by
    show ((rset l (t.set j ())).get i).isSome = true ↔ _
    rw [rset_get l, Tr.get_set]
    by_cases e : i = j
    · subst e; simp
    · rw [if_neg e]; simp [e]
def rcopy (H : RH) (l : List Nat) (t : Tr HS) : Tr HS := List.rec (motive := fun _ => Tr HS → Tr HS) (fun t => t) (fun i _ ih t => ih (match H.get i with
  | some x => t.set i x
  | none => t)) l t
theorem rcopy_get (H : RH) : ∀ (l : List Nat) (t : Tr HS) (i : Nat), (rcopy H l t).get i = if i ∈ l ∧ H.get i ≠ none then H.get i else t.get i
  | [], t, i => by show t.get i = _; simp
  | j :: l, t, i => by
    show (rcopy H l (match H.get j with
      | some x => t.set j x
      | none => t)).get i = _
    rw [rcopy_get H l]
    by_cases h1 : i ∈ l ∧ H.get i ≠ none
    · rw [if_pos h1, if_pos ⟨List.mem_cons_of_mem _ h1.1, h1.2⟩]
    · rw [if_neg h1]
      by_cases e : i = j
      · subst e
        cases q : H.get i with
        | none => simp
        | some x => simp only; rw [Tr.get_set, if_pos rfl, if_pos ⟨List.mem_cons_self .., by simp⟩]
      · have h2 : ¬ (i ∈ j :: l ∧ H.get i ≠ none) := by
          rintro ⟨a, b⟩
          rcases List.mem_cons.1 a with z | z
          · exact e z
          · exact h1 ⟨z, b⟩
        rw [if_neg h2]
        split
        · rw [Tr.get_set, if_neg e]
        · rfl
def rmerge (H : RH) (l : List Nat) (t : Tr HS) : Tr HS := List.rec (motive := fun _ => Tr HS → Tr HS) (fun t => t) (fun i _ ih t => ih (t.set i ((H.get i).getD .free))) l t
theorem rmerge_get (H : RH) : ∀ (l : List Nat) (t : Tr HS) (i : Nat), (rmerge H l t).get i = if i ∈ l then some ((H.get i).getD .free) else t.get i
  | [], t, i => by show t.get i = _; simp
  | j :: l, t, i => by
    show (rmerge H l (t.set j ((H.get j).getD .free))).get i = _
    rw [rmerge_get H l, Tr.get_set]
    by_cases h1 : i ∈ l
    · rw [if_pos h1, if_pos (List.mem_cons_of_mem _ h1)]
    · rw [if_neg h1]
      by_cases e : i = j
      · subst e; rw [if_pos rfl, if_pos (List.mem_cons_self ..)]
      · rw [if_neg e, if_neg (by simp [e, h1])]
def rfree (H : RH) (i : Nat) : Bool := match H.get i with
  | some .free => true
  | _ => false
def robjOk (p : Nat → Bool) (H : RH) (i : Nat) : Bool := match H.get i with
  | some (.live o) => o.rows.all fun r => r.all (ri p 16)
  | _ => true
structure SubR where
  x : V
  h : RH
  rd : List Nat
  wr : List Nat
def rsub2 (ih : RT → Option RR) (f : FuncId) (args : List V) (H : RH) (S : List Nat) (p : Nat → Bool) : Option SubR :=
  bif args.all (ri p 16) && S.all (robjOk p H) then
    match ih (.call f args ⟨H.m, H.nx, rcopy H S .nil, []⟩) with
    | some (.val x H1) => bif H1.lg.all (fun i => p i || rfree H i) then some ⟨x, ⟨H.m, H1.nx, rmerge H1 H1.lg H.t, H1.lg ++ H.lg⟩, S ++ H1.lg, H1.lg⟩ else none
    | _ => none
  else none
def rsub1 (ih : RT → Option RR) (f : FuncId) (args : List V) (H : RH) (S : List Nat) : Option SubR := rsub2 ih f args H S fun i => ((rset S .nil).get i).isSome
def rsub (ih : RT → Option RR) (f : FuncId) (args : List V) (H : RH) : Option SubR := rsub1 ih f args H (rreach H 100000 (args.flatMap (vrefs 16)) .nil [])
def rdraw (P : Program) (ih : RT → Option RR) (ops : Array Oper) (base : Nat) : List Oper → Nat → RS → Option (RS × List Fp)
  | [], _, s => some (s, [])
  | o :: rest, i, s => match rwanted ops s.n s.sl o with
    | some true => match rcallOf P (rev s.n s.sl) o.op with
      | some (f, args) => match rsub ih f args s.h with
        | some r => match rdraw P ih ops base rest (i + 1) ⟨s.n, rputT s.sl o.dst r.x, r.h⟩ with
          | some (s', fs) => some (s', (r.rd, r.wr) :: fs)
          | none => none
        | none => none
      | none => match rop P o.op (rev s.n s.sl) s.h (base + i) with
        | some (x, h') => match rdraw P ih ops base rest (i + 1) ⟨s.n, rputT s.sl o.dst x, ⟨h'.m, s.h.nx, h'.t, rwids P o.op (rev s.n s.sl) (base + i) ++ s.h.lg⟩⟩ with
          | some (s', fs) => some (s', (foot o.op (rev s.n s.sl) ++ [base + i], rwids P o.op (rev s.n s.sl) (base + i)) :: fs)
          | none => none
        | none => none
    | some false => match rdraw P ih ops base rest (i + 1) ⟨s.n, rputT s.sl o.dst (.v undef), s.h⟩ with
      | some (s', fs) => some (s', ([], []) :: fs)
      | none => none
    | none => none
def rreg (P : Program) (ih : RT → Option RR) (ops : Array Oper) (s : RS) : Option RR :=
  bif edgesOk ops && (rapart ops && Nat.ble (s.h.nx + ops.size) s.h.m) then
    match rdraw P ih ops s.h.nx ops.toList 0 ⟨s.n, s.sl, ⟨s.h.m, s.h.nx + ops.size, s.h.t, s.h.lg⟩⟩ with
    | some (s', fs) => bif rdraws fs (rpairs ops) then some (.code .normal s') else none
    | none => none
  else none
def rares1 (P : Program) (s : RS) : ResultVar → Option V
  | .tmp t => rat s.n s.sl t
  | .cell a t => match rat s.n s.sl a with
    | some p => rLoad P s.h t p
    | none => none
def raresL (P : Program) (s : RS) : List ResultVar → Option (List V)
  | [] => some []
  | r :: rs => match rares1 P s r, raresL P s rs with
    | some x, some xs => some (x :: xs)
    | _, _ => none
def rares (P : Program) (rs : List ResultVar) (s : RS) : Option V :=
  match raresL P s rs with
  | some [x] => some x
  | some xs => some (.tup xs)
  | none => none
theorem rares1_ok {P : Program} {s : RS} {r : ResultVar} {x : V} (h : rares1 P s r = some x) : ares1 P s.slots s.h.den r = some x := by
  cases r with
  | tmp t => simp only [ares1, slots_get]; exact h
  | cell a t =>
    simp only [rares1] at h
    simp only [ares1, slots_get]
    split at h
    · rename_i p hp
      simp only [hp, rLoad_ok h]
    · cases h
theorem raresL_ok {P : Program} {s : RS} : ∀ {rs : List ResultVar} {xs : List V}, raresL P s rs = some xs → aresL P s.slots s.h.den rs = some xs
  | [], xs, h => h
  | r :: rs, xs, h => by
    simp only [raresL] at h
    split at h
    · rename_i x ys h1 h2
      simp only [aresL, rares1_ok h1, raresL_ok h2]
      exact h
    · cases h
theorem rares_ok {P : Program} {s : RS} {rs : List ResultVar} {x : V} (h : rares P rs s = some x) : ares P rs s.slots s.h.den = some x := by
  unfold rares at h
  unfold ares
  split at h
  · rename_i y hy; rw [raresL_ok hy]; exact h
  · rename_i ys n hy
    rw [raresL_ok hy]
    split
    · rename_i q; injection q with q; subst q; exact (n _ rfl).elim
    · rename_i q; injection q with q; subst q; exact h
    · rename_i q; cases q
  · cases h
def rinit (args : List V) : Nat → Tr V → Tr V := List.rec (motive := fun _ => Nat → Tr V → Tr V) (fun _ t => t) (fun x _ ih i t => ih (i + 1) (t.set i x)) args
theorem rinit_get : ∀ (args : List V) (i : Nat) (t : Tr V) (j : Nat), (rinit args i t).get j = if i ≤ j ∧ j < i + args.length then args[j - i]? else t.get j
  | [], i, t, j => by rw [if_neg (by rw [List.length_nil]; omega)]; rfl
  | x :: l, i, t, j => by
    show (rinit l (i + 1) (t.set i x)).get j = _
    rw [rinit_get l, Tr.get_set, List.length_cons]
    by_cases h : i + 1 ≤ j ∧ j < i + 1 + l.length
    · rw [if_pos h, if_pos (by omega), show j - i = (j - (i + 1)) + 1 by omega, List.getElem?_cons_succ]
    · rw [if_neg h]
      by_cases e : j = i
      · subst e
        rw [if_pos rfl, if_pos (by omega), Nat.sub_self]; rfl
      · rw [if_neg e, if_neg (by omega)]
def rstart (n : Nat) (args : List V) (h : RH) : RS := ⟨args.length + (n - args.length), rinit args 0 .nil, h⟩
theorem rstart_slots (n : Nat) (args : List V) (h : RH) : (rstart n args h).slots = args ++ List.replicate (n - args.length) (.v undef) := by
  apply List.ext_getElem?
  intro i
  rw [slots_get]
  show rat (args.length + (n - args.length)) (rinit args 0 .nil) i = _
  unfold rat
  rw [rinit_get, List.getElem?_append, List.getElem?_replicate, Nat.zero_add, Nat.sub_zero]
  by_cases q : i < args.length
  · rw [blt_yes (by omega), if_pos ⟨Nat.zero_le _, q⟩, if_pos q, List.getElem?_eq_getElem q]; rfl
  · rw [if_neg (fun z => q z.2), if_neg q]
    by_cases q2 : i < args.length + (n - args.length)
    · rw [blt_yes q2, if_pos (by omega)]; rfl
    · rw [blt_no q2, if_neg (by omega)]; rfl
def RTS (P : Program) : RT → RR → Prop
  | .code c s, .code e s' => PW P c s.den (fun e2 s2 => e2 = e ∧ s2 = s'.den) ∧ Fr' s.h s'.h
  | .ops ops l s, .code e s' => e = .normal ∧ Fr' s.h s'.h ∧ ∀ k, (∀ (j : Nat) (o : Oper), l[j]? = some o → ops[k + j]? = some o) → PO P ops (List.range' k l.length) s.den (fun s2 => s2 = s'.den)
  | .call f args h, .val x h' => PC P f args h.den (fun y k => y = x ∧ k = h'.den) ∧ Fr' h h'
  | _, _ => False
def RIH (P : Program) (ih : RT → Option RR) : Prop := ∀ t r, ih t = some r → RTS P t r

theorem den_lg (m n k : Nat) (t : Tr HS) (l l' : List Nat) : (RH.mk m n t l).den = (RH.mk m k t l').den := rfl
theorem get_lg (m n k : Nat) (t : Tr HS) (l l' : List Nat) (i : Nat) : (RH.mk m n t l).get i = (RH.mk m k t l').get i := rfl
/-- One operation. -/
theorem rop_fr {P : Program} {op : Op} {ρ : Operand → V} {H H' : RH} {new n2 : Nat} {x : V} (h : rop P op ρ H new = some (x, H')) (hn : new < H.m) :
    aop P op ρ H.den new = some (x, (RH.mk H'.m n2 H'.t (rwids P op ρ new ++ H.lg)).den) ∧ Fr' H ⟨H'.m, n2, H'.t, rwids P op ρ new ++ H.lg⟩ := by
  obtain ⟨h1, h2⟩ := rop_ok h
  refine ⟨h1, h2, rwids P op ρ new, rfl, fun i hi => ?_⟩
  obtain ⟨post, p1, p2⟩ := rop_loc (P := P) (op := op) (ρ := ρ) (new := new) H.den x H'.den h1 (by rw [den_len]; exact hn)
  have h3 := p2 H.den (fun _ _ => rfl)
  simp only [h1, Option.some.injEq, Prod.mk.injEq, true_and] at h3
  show H'.get i = H.get i
  rw [← den_get, ← den_get, h3]
  exact setMany_other post _ fun p hp e => hi (by rw [← e]; exact p1 p hp)

theorem rsub_ok {P : Program} {ih : RT → Option RR} (hih : RIH P ih) {f : FuncId} {args : List V} {H : RH} {r : SubR} (h : rsub ih f args H = some r) :
    setMany H.den (r.wr.map fun i => (i, (r.h.get i).getD .free)) = r.h.den ∧ Fr' H r.h ∧
    ∀ k : Heap, (∀ i, i ∈ r.rd → k[i]? = H.den[i]?) → PC P f args k (fun y k' => y = r.x ∧ k' = setMany k (r.wr.map fun i => (i, (r.h.get i).getD .free))) := by
  unfold rsub at h
  generalize rreach H 100000 (args.flatMap (vrefs 16)) .nil [] = S at h
  unfold rsub1 at h
  generalize hp : (fun i => ((rset S .nil).get i).isSome) = p at h
  have pS : ∀ i, p i = true ↔ i ∈ S := by
    intro i
    rw [← hp]
    have := rset_get S .nil i
    simpa [Tr.get_nil] using this
  unfold rsub2 at h
  cases q : (args.all (ri p 16) && S.all (robjOk p H)) with
  | false => rw [q] at h; cases h
  | true =>
    rw [q] at h
    simp only [cond_true] at h
    obtain ⟨qa, qs⟩ := Bool.and_eq_true_iff.1 q
    split at h
    · rename_i x H1 hc
      cases ql : (H1.lg.all fun i => p i || rfree H i) with
      | false => rw [ql] at h; cases h
      | true =>
        rw [ql] at h
        injection h with h; subst h
        obtain ⟨c1, c2, seg, c3, c4⟩ := hih _ _ hc
        simp only [List.append_nil] at c3
        subst c3
        have c2 : H1.m = H.m := c2
        have gK : ∀ i, (RH.mk H.m H1.nx (rmerge H1 H1.lg H.t) (H1.lg ++ H.lg)).get i = if i ∈ H1.lg then H1.get i else H.get i := by
          intro i
          show (bif Nat.blt i H.m then some (((rmerge H1 H1.lg H.t).get i).getD .free) else none) = _
          rw [rmerge_get]
          unfold RH.get
          rw [c2]
          by_cases hi : i < H.m
          · rw [blt_yes hi]
            by_cases e : i ∈ H1.lg
            · rw [if_pos e, if_pos e]; rfl
            · rw [if_neg e, if_neg e]
          · rw [blt_no hi]
            split <;> rfl
        have g0 : ∀ i, (RH.mk H.m H.nx (rcopy H S .nil) []).get i = if i ∈ S then H.get i else (if i < H.m then some .free else none) := by
          intro i
          show (bif Nat.blt i H.m then some (((rcopy H S .nil).get i).getD .free) else none) = _
          rw [rcopy_get]
          by_cases hi : i < H.m
          · rw [blt_yes hi, if_pos hi]
            by_cases e : i ∈ S
            · have hne : H.get i ≠ none := by unfold RH.get; rw [blt_yes hi]; simp
              rw [if_pos e, if_pos ⟨e, hne⟩]
              unfold RH.get
              rw [blt_yes hi]; rfl
            · rw [if_neg e, if_neg (fun z => e z.1)]; rfl
          · have hn : H.get i = none := by unfold RH.get; rw [blt_no hi]; rfl
            rw [blt_no hi, if_neg hi, hn]
            show none = _
            split <;> rfl
        have lgm : ∀ i, i ∈ H1.lg → p i = true ∨ H.get i = some .free := by
          intro i hi
          have := List.all_eq_true.1 ql i hi
          rcases Bool.or_eq_true_iff.1 this with z | z
          · exact .inl z
          · right
            unfold rfree at z
            split at z
            · assumption
            · cases z
        have merged : ∀ k : Heap, (∀ i, i ∈ S ++ H1.lg → k[i]? = H.den[i]?) → ∀ i, (setMany k (H1.lg.map fun i => (i, ((RH.mk H.m H1.nx (rmerge H1 H1.lg H.t) (H1.lg ++ H.lg)).get i).getD .free)))[i]? = if i ∈ H1.lg then H1.get i else k[i]? := by
          intro k hk i
          rw [setMany_map (g := fun i => ((RH.mk H.m H1.nx (rmerge H1 H1.lg H.t) (H1.lg ++ H.lg)).get i).getD .free)]
          by_cases e : i ∈ H1.lg
          · rw [if_pos e]
            have hki := hk i (List.mem_append_right _ e)
            rw [den_get] at hki
            by_cases hi : i < k.length
            · rw [if_pos ⟨e, hi⟩, gK, if_pos e]
              have : H1.get i ≠ none := by
                intro z
                rw [List.getElem?_eq_getElem hi] at hki
                unfold RH.get at z hki
                rw [c2] at z
                by_cases hm : i < H.m
                · rw [blt_yes hm] at z; cases z
                · rw [blt_no hm] at hki; cases hki
              cases hz : H1.get i with
              | none => exact (this hz).elim
              | some z => rfl
            · rw [if_neg (fun z => hi z.2), List.getElem?_eq_none (Nat.le_of_not_lt hi)]
              rw [List.getElem?_eq_none (Nat.le_of_not_lt hi)] at hki
              unfold RH.get at hki ⊢
              rw [c2]
              by_cases hm : i < H.m
              · rw [blt_yes hm] at hki; cases hki
              · rw [blt_no hm]; rfl
          · rw [if_neg e, if_neg (fun z => e z.1)]
        refine ⟨?_, ⟨rfl, H1.lg, rfl, fun i hi => by rw [gK, if_neg hi]⟩, ?_⟩
        · apply List.ext_getElem?
          intro i
          rw [merged H.den (fun _ _ => rfl) i, den_get, den_get, gK]
        · intro k hk
          have hkS : ∀ i, p i = true → k[i]? = (RH.mk H.m H.nx (rcopy H S .nil) []).den[i]? := by
            intro i hi
            have hi := (pS i).1 hi
            rw [hk i (List.mem_append_left _ hi), den_get, den_get, g0, if_pos hi]
          have nS : ∀ i, p i = false → ¬ i ∈ S := fun i hi z => by rw [(pS i).2 z] at hi; cases hi
          refine PC.ext (S := p) (T := fun i => p i || H1.lg.contains i) (by rw [setMany_length]) (fun x hx => ri_ok (List.all_eq_true.1 qa x hx)) (fun id o ho r hr x hx => ?_) (fun id o hi ho => ?_) hkS (fun id hi => by rw [hi]; rfl) (fun id hi => ?_) (fun id hi hp => ?_) (fun id => ?_) c1
          · rw [den_get, g0] at ho
            by_cases e : id ∈ S
            · rw [if_pos e] at ho
              have := List.all_eq_true.1 qs id e
              unfold robjOk at this
              rw [ho] at this
              exact ri_ok (List.all_eq_true.1 (List.all_eq_true.1 this r hr) x hx)
            · rw [if_neg e] at ho
              split at ho <;> cases ho
          · rw [den_get, g0, if_neg (nS id hi)] at ho
            split at ho <;> cases ho
          · obtain ⟨z1, z2⟩ := Bool.or_eq_false_iff.1 hi
            have z3 : ¬ id ∈ H1.lg := fun z => by rw [List.contains_iff_mem.2 z] at z2; cases z2
            rw [den_get, c4 id z3, g0, if_neg (nS id z1)]
            by_cases hm : id < H.m
            · exact .inl (if_pos hm)
            · exact .inr (if_neg hm)
          · rw [hp] at hi
            have hl : id ∈ H1.lg := List.contains_iff_mem.1 (by simpa using hi)
            rw [hk id (List.mem_append_right _ hl), den_get]
            rcases lgm id hl with z | z
            · rw [hp] at z; cases z
            · exact .inl z
          · rw [merged k hk id, den_get]
            by_cases e : id ∈ H1.lg
            · rw [if_pos e, if_pos (by rw [List.contains_iff_mem.2 e]; simp)]
            · rw [if_neg e]
              cases hpi : p id with
              | true =>
                rw [if_pos (by rw [Bool.true_or])]
                rw [hkS id hpi, den_get, c4 id e]
              | false =>
                rw [if_neg]
                intro z
                rw [Bool.false_or] at z
                exact e (List.contains_iff_mem.1 z)
    · cases h
theorem rdraw_run {P : Program} {ih : RT → Option RR} (hih : RIH P ih) {ops : Array Oper} {base : Nat} : ∀ (rest : List Oper) (k : Nat) (s s' : RS) (fs : List Fp), (∀ (j : Nat) (o : Oper), rest[j]? = some o → ops[k + j]? = some o) → base + k + rest.length ≤ s.h.m →
    rdraw P ih ops base rest k s = some (s', fs) → Fr' s.h s'.h ∧ ∃ Ds : List Dat, Ds.length = rest.length ∧ fs.length = rest.length ∧
      (∀ (j : Nat) (d : Dat) (f : Fp), Ds[j]? = some d → fs[j]? = some f → (∀ q, q ∈ d.pre.map (·.1) → q ∈ f.1) ∧ (∀ q, q ∈ d.post.map (·.1) → q ∈ f.2)) ∧
      ∀ D : Nat → Dat, (∀ (j : Nat) (d : Dat), Ds[j]? = some d → D (k + j) = d) → Run P ops D (List.range' k rest.length) s.den s'.den
  | [], k, s, s', fs, _, _, h => by
    simp [rdraw] at h
    obtain ⟨rfl, rfl⟩ := h
    exact ⟨Fr'.refl _, [], rfl, rfl, fun j d f hd => by simp at hd, fun D _ => rfl⟩
  | o :: rest, k, s, s', fs, hops, hlen, h => by
    have ho : ops[k]? = some o := by simpa using hops 0 o (by simp)
    simp only [List.length_cons] at hlen
    have fin : ∀ (d : Dat) (f : Fp) (fs' : List Fp) (s1 : RS), d.sl = s.slots → agreeH d.pre s.h.den → LS P ops k o d → (∀ q, q ∈ d.pre.map (·.1) → q ∈ f.1) → (∀ q, q ∈ d.post.map (·.1) → q ∈ f.2) →
        Fr' s.h s1.h → s1.den = ⟨sput s.slots o.dst d.x, setMany s.h.den d.post⟩ → rdraw P ih ops base rest (k + 1) s1 = some (s', fs') → fs = f :: fs' →
        Fr' s.h s'.h ∧ ∃ Ds : List Dat, Ds.length = (o :: rest).length ∧ fs.length = (o :: rest).length ∧
      (∀ (j : Nat) (d : Dat) (f : Fp), Ds[j]? = some d → fs[j]? = some f → (∀ q, q ∈ d.pre.map (·.1) → q ∈ f.1) ∧ (∀ q, q ∈ d.post.map (·.1) → q ∈ f.2)) ∧
      ∀ D : Nat → Dat, (∀ (j : Nat) (d : Dat), Ds[j]? = some d → D (k + j) = d) → Run P ops D (List.range' k (o :: rest).length) s.den s'.den := by
      intro d f fs' s1 hsl hpre hls hf1 hf2 hfr hs1 hrun hfs
      obtain ⟨g, Ds, l1, l2, l3, l4⟩ := rdraw_run hih rest (k + 1) s1 s' fs' (fun j o' hj => by have := hops (j + 1) o' (by simpa using hj); rwa [show k + 1 + j = k + (j + 1) by omega]) (by rw [hfr.1]; omega) hrun
      refine ⟨hfr.trans g, d :: Ds, by simp [l1], by rw [hfs]; simp [l2], fun j d' f' hd hf => ?_, fun D hD => ?_⟩
      · rw [hfs] at hf
        cases j with
        | zero =>
          simp at hd hf
          subst hd hf
          exact ⟨hf1, hf2⟩
        | succ j => exact l3 j d' f' (by simpa using hd) (by simpa using hf)
      · have hD0 : D k = d := by simpa using hD 0 d (by simp)
        simp only [List.length_cons, List.range'_succ]
        refine ⟨s1.den, ⟨o, ho, ?_, ?_, ?_, ?_⟩, ?_⟩
        · rw [hD0, hsl]; exact fun _ _ => rfl
        · rw [hD0]; exact hpre
        · rw [hD0]; exact hs1
        · rw [hD0]; exact hls
        · exact l4 D (fun j d' hd => by have := hD (j + 1) d' (by simpa using hd); rwa [show k + 1 + j = k + (j + 1) by omega])
    simp only [rdraw] at h
    split at h
    · rename_i hw
      rw [← rwanted_ok] at hw
      split at h
      · rename_i f args hcall
        rw [← rcallOf_ok] at hcall
        split at h
        · rename_i r hc
          split at h
          · rename_i s2 fs2 hrun
            injection h with h
            injection h with h1 h2
            subst h1
            obtain ⟨c1, c2, c3⟩ := rsub_ok hih hc
            refine fin ⟨s.slots, r.rd.map fun i => (i, s.h.den[i]?), r.x, r.wr.map fun i => (i, (r.h.get i).getD .free)⟩ (r.rd, r.wr) fs2 _ rfl (fun p hp => ?_) ?_ (fun q hq => by simpa using hq) (fun q hq => by simpa using hq) c2 ?_ hrun h2.symm
            · obtain ⟨i, _, rfl⟩ := List.mem_map.1 hp; rfl
            · intro t ag ah
              have hcong := agreeS_eval ag
              have hcb : callable P f = true := by
                unfold callOf at hcall
                split at hcall
                · split at hcall
                  · split at hcall
                    · rename_i q; injection hcall with hcall; injection hcall with e1 e2; subst e1; exact q
                    · cases hcall
                  · cases hcall
                · cases hcall
              exact wo_call ho (by rw [agreeS_wanted ag]; exact hw) (by rw [callOf_congr hcong]; exact hcall) hcb
                (c3 t.h fun i hi => ah (i, s.h.den[i]?) (List.mem_map_of_mem (f := fun i => (i, s.h.den[i]?)) hi))
            · have e1 := rput_slots s o.dst r.x r.h
              unfold RS.den
              rw [e1]
              exact congrArg (St.mk _) c1.symm
          · cases h
        · cases h
      · rename_i hcall
        split at h
        · rename_i x h2 hx
          split at h
          · rename_i s2 fs2 hrun
            injection h with h
            injection h with h1 h3
            subst h1
            obtain ⟨q1, q2⟩ := rop_fr (n2 := s.h.nx) hx (by omega)
            obtain ⟨post, p1, p2⟩ := rop_loc (P := P) (op := o.op) (ρ := rev s.n s.sl) (new := base + k) s.h.den x _ q1 (by rw [den_len]; omega)
            have hself := p2 s.h.den (fun _ _ => rfl)
            simp only [q1, Option.some.injEq, Prod.mk.injEq, true_and] at hself
            refine fin ⟨s.slots, (foot o.op (rev s.n s.sl) ++ [base + k]).map fun id => (id, s.h.den[id]?), x, post⟩ _ fs2 _ rfl (fun p hp => ?_) ?_ (fun q hq => ?_) (fun q hq => ?_) q2 ?_ hrun h3.symm
            · obtain ⟨id, _, rfl⟩ := List.mem_map.1 hp; rfl
            · intro t ag ah
              have hcong := agreeS_eval ag
              refine wo_op (base + k) ho (by rw [agreeS_wanted ag]; exact hw) ?_
              rw [aop_congr hcong, rev_eq]
              exact p2 t.h (fun id hid => ah (id, s.h.den[id]?) (List.mem_map_of_mem (f := fun id => (id, s.h.den[id]?)) hid))
            · simpa using hq
            · obtain ⟨p, hp, rfl⟩ := List.mem_map.1 hq
              exact p1 p hp
            · have e1 := rput_slots s o.dst x ⟨h2.m, s.h.nx, h2.t, rwids P o.op (rev s.n s.sl) (base + k) ++ s.h.lg⟩
              unfold RS.den
              rw [e1]
              exact congrArg (St.mk _) hself
          · cases h
        · cases h
    · rename_i hw
      rw [← rwanted_ok] at hw
      split at h
      · rename_i s2 fs2 hrun
        injection h with h
        injection h with h1 h3
        subst h1
        refine fin ⟨s.slots, [], .v undef, []⟩ ([], []) fs2 ⟨s.n, rputT s.sl o.dst (.v undef), s.h⟩ rfl (fun p hp => by cases hp) ?_ (fun q hq => hq) (fun q hq => hq) (Fr'.refl _) ?_ hrun h3.symm
        · intro t ag ah
          exact wo_no ho (by rw [agreeS_wanted ag]; exact hw)
        · unfold RS.den
          rw [rput_slots]
          rfl
      · cases h
    · cases h

theorem rd1_spec {ws : List Nat} {b : Fp} (h : rd1 ws b = true) {p : Nat} (hp : p ∈ ws) : (∀ q, q ∈ b.1 → p ≠ q) ∧ ∀ q, q ∈ b.2 → p ≠ q := by
  have := List.all_eq_true.1 h p hp
  obtain ⟨h1, h2⟩ := Bool.and_eq_true_iff.1 this
  have ne : ∀ {q : Nat}, (!Nat.beq p q) = true → p ≠ q := by
    intro q h e
    subst e
    rw [Tr.beq_yes] at h; cases h
  exact ⟨fun q hq => ne (List.all_eq_true.1 h1 q hq), fun q hq => ne (List.all_eq_true.1 h2 q hq)⟩
theorem rpairs_mem {ops : Array Oper} {i j : Nat} (hi : i < ops.size) (hj : j < i) (hd : dep ops ops.size i j = false) : (i, j) ∈ rpairs ops :=
  List.mem_flatMap.2 ⟨i, List.mem_range.2 hi, List.mem_map.2 ⟨j, List.mem_filter.2 ⟨List.mem_range.2 hj, by rw [hd]; rfl⟩, rfl⟩⟩
theorem rreg_ops {P : Program} (hm : P.follows .mixedOrders = true) {ih : RT → Option RR} (hih : RIH P ih) {ops : Array Oper} {s : RS} {e : Exit} {s' : RS} (h : rreg P ih ops s = some (.code e s')) :
    Fr' s.h s'.h ∧ e = .normal ∧ ∀ ι a w, SR s.den ι a w → ∀ t, wpOps P ops (Post s.den ι w (fun e st => e = .normal ∧ st = s'.den)) (Region.schedule (P.follows .mixedOrders) ops t) a { w with drawn := w.drawn + 1 } := by
  unfold rreg at h
  cases q : (edgesOk ops && (rapart ops && Nat.ble (s.h.nx + ops.size) s.h.m)) with
  | false => rw [q] at h; cases h
  | true =>
    rw [q] at h
    simp only [cond_true] at h
    obtain ⟨he, q2⟩ := Bool.and_eq_true_iff.1 q
    obtain ⟨ha, hb⟩ := Bool.and_eq_true_iff.1 q2
    split at h
    · rename_i s2 fs hrun
      cases hd : rdraws fs (rpairs ops) with
      | false => rw [hd] at h; cases h
      | true =>
        rw [hd] at h
        injection h with h; injection h with h h'; subst h h'
        obtain ⟨fr, Ds, l1, l2, l3, l4⟩ := rdraw_run hih ops.toList 0 _ s2 fs (fun j o hj => by simpa using hj) (by simpa using Nat.le_of_ble_eq_true hb) hrun
        have hl := l4 (fun i => (Ds[i]?).getD default) (fun j d hd => by simp [hd])
        have hr : List.range' 0 ops.toList.length = List.range ops.size := by rw [List.range_eq_range']; simp
        rw [hr] at hl
        refine ⟨fr, rfl, draw_ops (s := s.den) hm (fun i o ho e hee hb => ?_) (fun i j hji hi => ?_) hl ⟨rfl, rfl⟩⟩
        · have hi : i < ops.size := by
            rcases Nat.lt_or_ge i ops.size with q | q
            · exact q
            · rw [Array.getElem?_eq_none q] at ho; cases ho
          have := List.all_eq_true.1 he i (by simp [hi])
          simp only [ho] at this
          have := List.all_eq_true.1 this e (by simpa using hee)
          simpa [hb] using this
        · cases hdp : dep ops ops.size i j with
          | true => exact .inl ⟨_, hdp⟩
          | false =>
            right
            have hp := rpairs_mem hi hji hdp
            intro oi oj hoi hoj
            have g1 := List.all_eq_true.1 ha _ hp
            simp only [hoi, hoj] at g1
            refine ⟨g1, ?_⟩
            have g2 := List.all_eq_true.1 (show (rpairs ops).all _ = true from hd) _ hp
            have hil : i < Ds.length := by rw [l1]; simpa using hi
            have hjl : j < Ds.length := by omega
            have hif : i < fs.length := by omega
            have hjf : j < fs.length := by omega
            simp only [List.getElem?_eq_getElem hif, List.getElem?_eq_getElem hjf] at g2
            obtain ⟨a1, a2⟩ := l3 i _ _ (List.getElem?_eq_getElem hil) (List.getElem?_eq_getElem hif)
            obtain ⟨b1, b2⟩ := l3 j _ _ (List.getElem?_eq_getElem hjl) (List.getElem?_eq_getElem hjf)
            obtain ⟨f1, f2⟩ := Bool.and_eq_true_iff.1 g2
            simp only [List.getElem?_eq_getElem hil, List.getElem?_eq_getElem hjl, Option.getD_some]
            refine ⟨fun p hp q hq => ?_, fun p hp q hq => ?_⟩
            · obtain ⟨e2, e3⟩ := rd1_spec f1 (a2 _ (List.mem_map_of_mem hp))
              rcases List.mem_append.1 hq with z | z
              · exact e2 q (b1 q z)
              · exact e3 q (b2 q z)
            · obtain ⟨e2, e3⟩ := rd1_spec f2 (b2 _ (List.mem_map_of_mem hp))
              rcases List.mem_append.1 hq with z | z
              · exact e2 q (a1 q z)
              · exact e3 q (a2 q z)
    · cases h
theorem rreg_ok {P : Program} (hm : P.follows .mixedOrders = true) {ih : RT → Option RR} (hih : RIH P ih) {id : Nat} {ops : Array Oper} {s : RS} {r : RR} (h : rreg P ih ops s = some r) : RTS P (.code (.region id ops true) s) r := by
  cases r with
  | code e s' =>
    obtain ⟨fr, he, hw⟩ := rreg_ops hm hih h
    subst he
    exact ⟨fun ι a w r => wp_region_draw (hw ι a w r), fr⟩
  | val x k =>
    exfalso
    unfold rreg at h
    cases q : (edgesOk ops && (rapart ops && Nat.ble (s.h.nx + ops.size) s.h.m)) with
    | false => rw [q] at h; cases h
    | true =>
      rw [q] at h
      simp only [cond_true] at h
      split at h
      · rename_i fs _
        cases hd : rdraws fs (rpairs ops) with
        | false => rw [hd] at h; cases h
        | true => rw [hd] at h; cases h
      · cases h
end
end Go.Abs
