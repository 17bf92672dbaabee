/- Code on abstract states: the rules. -/
import Derived.Test.YtmlojnecmdnbpaaGreatDoorAbsI
namespace Go.Abs
set_option linter.unusedVariables false

structure St where
  sl : List V
  h : Heap

structure SR (s : St) (ι : Iota) (a : Act) (w : World) : Prop where
  defers : a.defers = []
  slots : SRel s.sl s.h ι w a.tmps
  heap : HRel s.h ι w

def Post (s : St) (ι : Iota) (w : World) (Q : Exit → St → Prop) : Exit → Act → World → Prop :=
  fun e a' w' => ∃ s' ι', Q e s' ∧ SR s' ι' a' w' ∧ Evolve s.h ι w s'.h ι' w'

def PW (P : Program) (c : Code) (s : St) (Q : Exit → St → Prop) : Prop :=
  ∀ ι a w, SR s ι a w → c.wp P (Post s ι w Q) a w

def thenA (next : St → Prop) (Q : Exit → St → Prop) : Exit → St → Prop
  | .normal, s => next s
  | e, s => Q e s

def inBlockA (id : Nat) (Q : Exit → St → Prop) : Exit → St → Prop
  | .exit id', s => if id' = id then Q .normal s else Q (.exit id') s
  | e, s => Q e s

section
variable {P : Program} {Q : Exit → St → Prop} {s : St}

theorem PW.mono {c : Code} {Q' : Exit → St → Prop} (h : PW P c s Q) (hq : ∀ e s, Q e s → Q' e s) : PW P c s Q' :=
  fun ι a w r => wp_mono (h ι a w r) fun e a' w' ⟨s', ι', q, rest⟩ => ⟨s', ι', hq _ _ q, rest⟩

theorem post_here {ι a w e} (r : SR s ι a w) (h : Q e s) : Post s ι w Q e a w := ⟨s, ι, h, r, Evolve.refl _ _ _⟩

theorem PW.skip (h : Q .normal s) : PW P .skip s Q := fun _ _ _ r => wp_skip (post_here r h)
theorem PW.exit {id : Nat} (h : Q (.exit id) s) : PW P (.exit id) s Q := fun _ _ _ r => wp_exit (post_here r h)
theorem PW.ret (h : Q .ret s) : PW P .ret s Q := fun _ _ _ r => wp_ret (post_here r h)

theorem PW.seq {x y : Code} (h : PW P x s (thenA (fun s' => PW P y s' Q) Q)) : PW P (.seq x y) s Q := by
  intro ι a w r
  refine wp_seq (wp_mono (h ι a w r) ?_)
  rintro e a' w' ⟨s', ι', q, r', ev⟩
  cases e with
  | normal => exact wp_mono (q ι' a' w' r') fun e2 a2 w2 ⟨s2, ι2, q2, r2, ev2⟩ => ⟨s2, ι2, q2, r2, ev.trans ev2⟩
  | _ => exact ⟨s', ι', q, r', ev⟩

theorem PW.block {id : Nat} {c : Code} (h : PW P c s (inBlockA id Q)) : PW P (.block id c) s Q := by
  intro ι a w r
  refine wp_block (wp_mono (h ι a w r) ?_)
  rintro e a' w' ⟨s', ι', q, r', ev⟩
  cases e with
  | exit id' =>
    simp only [inBlockA] at q
    simp only [Exit.inBlock]
    split
    · rename_i hid
      rw [if_pos hid] at q
      exact ⟨s', ι', q, r', ev⟩
    · rename_i hid
      rw [if_neg hid] at q
      exact ⟨s', ι', q, r', ev⟩
  | _ => exact ⟨s', ι', q, r', ev⟩

theorem SR.eval {ι a w} (r : SR s ι a w) {x : Operand} {v : Value} (h : aev s.sl x = .v v) : a.eval x = v := by
  have := aev_rep r.slots x
  rw [h] at this
  cases this; rfl

theorem PW.cond {c : Operand} {x y : Code} {t : Bool} (hc : aev s.sl c = .v (.bool t)) (h : PW P (if t then x else y) s Q) : PW P (.cond c x y) s Q :=
  fun ι a w r => wp_cond (r.eval hc) (h ι a w r)

theorem PW.cond_true {c : Operand} {x y : Code} (hc : aev s.sl c = .v (.bool true)) (h : PW P x s Q) : PW P (.cond c x y) s Q := PW.cond hc h
theorem PW.cond_false {c : Operand} {x y : Code} (hc : aev s.sl c = .v (.bool false)) (h : PW P y s Q) : PW P (.cond c x y) s Q := PW.cond hc h

theorem PW.loop {c : Code} (I : St → Prop) (μ : St → Nat) (h₀ : I s) (round : ∀ s, I s → PW P c s (thenA (fun s' => I s' ∧ μ s' < μ s) Q)) : PW P (.loop c) s Q := by
  intro ι a w r
  let J : Nat → Act → World → Prop := fun n a' w' => ∃ s' ι', μ s' = n ∧ I s' ∧ SR s' ι' a' w' ∧ Evolve s.h ι w s'.h ι' w'
  have dec : ∀ a' w', ∃ m, ((∃ n, J n a' w') → J m a' w' ∧ ∀ n, J n a' w' → m ≤ n) := by
    intro a' w'
    by_cases hx : ∃ n, J n a' w'
    · obtain ⟨n, hn⟩ := hx
      induction n using Nat.strongRecOn with
      | _ n ih =>
        by_cases hlt : ∃ k, k < n ∧ J k a' w'
        · obtain ⟨k, hk, hj⟩ := hlt
          exact ih k hk hj
        · refine ⟨n, fun _ => ⟨hn, fun k hk => ?_⟩⟩
          rcases Nat.lt_or_ge k n with q | q
          · exact absurd ⟨k, q, hk⟩ hlt
          · exact q
    · exact ⟨0, fun q => absurd q hx⟩
  have hch : ∃ f : Act → World → Nat, ∀ a' w', (∃ n, J n a' w') → J (f a' w') a' w' ∧ ∀ n, J n a' w' → f a' w' ≤ n := by
    refine ⟨fun a' w' => Classical.choose (dec a' w'), fun a' w' => Classical.choose_spec (dec a' w')⟩
  obtain ⟨f, hf⟩ := hch
  refine wp_loop (fun a' w' => ∃ n, J n a' w') f ⟨μ s, s, ι, rfl, h₀, r, Evolve.refl _ _ _⟩ ?_
  intro a' w' hI
  obtain ⟨⟨s', ι', hm, hi, r', ev⟩, _⟩ := hf a' w' hI
  refine wp_mono (round s' hi ι' a' w' r') ?_
  rintro e a2 w2 ⟨s2, ι2, q, r2, ev2⟩
  cases e with
  | normal =>
    obtain ⟨q1, q2⟩ := q
    have hj : J (μ s2) a2 w2 := ⟨s2, ι2, rfl, q1, r2, ev.trans ev2⟩
    refine ⟨⟨_, hj⟩, ?_⟩
    have := (hf a2 w2 ⟨_, hj⟩).2 _ hj
    omega
  | _ => exact ⟨s2, ι2, q, r2, ev.trans ev2⟩

/-- Fewer slots known. -/
def leS : List V → List V → Prop
  | [], [] => True
  | x :: xs, y :: ys => (y = .any ∨ x = y) ∧ leS xs ys
  | _, _ => False

theorem leS_spec : ∀ {xs ys : List V}, leS xs ys → xs.length = ys.length ∧ ∀ (i : Nat) (y : V), ys[i]? = some y → y = .any ∨ xs[i]? = some y
  | [], [], _ => ⟨rfl, fun i y h => by simp at h⟩
  | x :: xs, y :: ys, h => by
    obtain ⟨h1, h2⟩ := leS_spec h.2
    refine ⟨by simp [h1], fun i z hz => ?_⟩
    cases i with
    | zero =>
      simp at hz
      subst hz
      rcases h.1 with q | q
      · exact .inl q
      · exact .inr (by simp [q])
    | succ i => simpa using h2 i z (by simpa using hz)
  | [], _ :: _, h => h.elim
  | _ :: _, [], h => h.elim

theorem SR.forget {ι a w} {sl : List V} (r : SR s ι a w) (h : leS s.sl sl) : SR ⟨sl, s.h⟩ ι a w := by
  obtain ⟨h1, h2⟩ := leS_spec h
  refine ⟨r.defers, ⟨r.slots.1.trans h1, fun i x hx => ?_⟩, r.heap⟩
  rcases h2 i x hx with q | q
  · subst q
    have hlt := get_lt hx
    have : i < a.tmps.size := by rw [r.slots.1, h1]; exact hlt
    exact ⟨a.tmps[i], Array.getElem?_eq_getElem this, .any _⟩
  · exact r.slots.2 i x q

theorem PW.forget {c : Code} {sl : List V} (h : leS s.sl sl) (hp : PW P c ⟨sl, s.h⟩ Q) : PW P c s Q :=
  fun ι a w r => hp ι a w (r.forget h)

end

/-- A sequence of operations. -/
def PO (P : Program) (ops : Array Oper) (l : List Nat) (s : St) (Q : St → Prop) : Prop :=
  ∀ ι a w, SR s ι a w → wpOps P ops (Post s ι w (fun e s' => e = .normal ∧ Q s')) l a w

def sput (sl : List V) (dst : Option Tmp) (x : V) : List V :=
  match dst with
  | some d => sl.set d x
  | none => sl

def awanted (ops : Array Oper) (sl : List V) (o : Oper) : Option Bool :=
  match o.guard with
  | none => some true
  | some (j, want) => match ((ops[j]?).bind (·.dst)).bind (sl[·]?) with
    | some (.v (.bool b)) => some (b == want)
    | some (.v (.tuple _)) => some false
    | _ => none

section
variable {P : Program} {ops : Array Oper} {Q : St → Prop} {s : St}

theorem awanted_spec {ι a w} (r : SR s ι a w) {o : Oper} {b : Bool} (h : awanted ops s.sl o = some b) : Region.wanted o (yielded ops a.tmps) = b := by
  unfold awanted at h
  unfold Region.wanted
  split at h
  · rename_i hg
    injection h with h
    simp [hg, h]
  · rename_i j want hg
    simp only [hg]
    split at h
    · rename_i b' hb
      injection h with h
      cases hq : (ops[j]?).bind (·.dst) with
      | none => rw [hq] at hb; simp at hb
      | some d =>
        rw [hq] at hb
        simp only [Option.bind_some] at hb
        obtain ⟨y, y1, y2⟩ := r.slots.2 d _ hb
        cases y2
        simp only [yielded, hq, Option.bind_some, y1]
        rw [← h]
        cases b' <;> cases want <;> rfl
    · rename_i vs hb
      injection h with h
      cases hq : (ops[j]?).bind (·.dst) with
      | none => rw [hq] at hb; simp at hb
      | some d =>
        rw [hq] at hb
        simp only [Option.bind_some] at hb
        obtain ⟨y, y1, y2⟩ := r.slots.2 d _ hb
        cases y2
        simp only [yielded, hq, Option.bind_some, y1]
        rw [← h]
        rfl
    · cases h

theorem SRel.mono {sl : List V} {h ι w h' ι' w'} {tmps : Array Value} (r : SRel sl h ι w tmps) (ev : Evolve h ι w h' ι' w') : SRel sl h' ι' w' tmps :=
  ⟨r.1, fun i x hx => let ⟨y, y1, y2⟩ := r.2 i x hx; ⟨y, y1, y2.mono ev⟩⟩

theorem SRel.put {sl : List V} {h ι w} {a : Act} (r : SRel sl h ι w a.tmps) (dst : Option Tmp) {x : V} {y : Value} (ry : Rep w ι (Mt h ι) x y) : SRel (sput sl dst x) h ι w (a.put dst y).tmps := by
  cases dst with
  | none => exact r
  | some d =>
    refine ⟨by simp [sput, Act.put, r.1], fun i z hz => ?_⟩
    simp only [sput] at hz
    simp only [Act.put]
    by_cases hid : i = d
    · subst hid
      have hlt := get_lt hz
      simp only [List.length_set] at hlt
      rw [List.getElem?_set_self hlt] at hz
      injection hz with hz
      subst hz
      refine ⟨y, ?_, ry⟩
      have hr := r.1
      rw [Array.getElem?_setIfInBounds_self_of_lt (by omega)]
    · rw [List.getElem?_set_ne (Ne.symm hid)] at hz
      obtain ⟨u, u1, u2⟩ := r.2 i z hz
      exact ⟨u, by rw [Array.getElem?_setIfInBounds_ne (Ne.symm hid)]; exact u1, u2⟩

theorem put_defers' (a : Act) (dst : Option Tmp) (v : Value) : (a.put dst v).defers = a.defers := by cases dst <;> rfl

theorem upon_mono {o : Oper} {a : Act} {K K' : Act → World → Prop} {Q Q' : Exit → Act → World → Prop} (hk : ∀ a w, K a w → K' a w) (hq : ∀ e a w, Q e a w → Q' e a w) (r : Result Next)
    (h : o.upon P a K Q r) : o.upon P a K' Q' r := by
  cases r with
  | ok n w =>
    cases n <;> simp only [Oper.upon] at h ⊢ <;> first
      | exact hk _ _ h
      | exact h.elim
      | skip
    · refine Calls.mono h ?_
      intro e w'' he
      cases e with
      | returned v => exact hk _ _ he
      | panicked chain => exact hq _ _ _ he
      | outgrown =>
        obtain ⟨a0, w0, q⟩ := he
        exact ⟨a0, w0, hq _ _ _ q⟩
    · exact Rows.mono h fun v w' => hk _ _
  | halt x w =>
    cases x <;> simp only [Oper.upon] at h ⊢ <;> first
      | exact hq _ _ _ h
      | exact h.elim

theorem wpOps_mono {Q Q' : Exit → Act → World → Prop} (h : ∀ e a w, Q e a w → Q' e a w) : ∀ (l : List Nat) (a : Act) (w : World), wpOps P ops Q l a w → wpOps P ops Q' l a w
  | [], a, w, hq => h _ _ _ hq
  | i :: rest, a, w, hq => by
    simp only [wpOps] at hq ⊢
    split
    · rename_i ho
      simp only [ho] at hq
      exact wpOps_mono h rest a w hq
    · rename_i o ho
      simp only [ho] at hq
      split
      · rename_i hw
        rw [if_pos hw] at hq
        rcases hq with hq | ⟨q1, a0, w0, q2⟩
        · exact .inl (upon_mono (fun a w => wpOps_mono h rest a w) h _ hq)
        · exact .inr ⟨q1, a0, w0, h _ _ _ q2⟩
      · rename_i hw
        rw [if_neg hw] at hq
        exact wpOps_mono h rest _ w hq

theorem PO.nil (h : Q s) : PO P ops [] s Q := fun ι a w r => ⟨s, ι, ⟨rfl, h⟩, r, Evolve.refl _ _ _⟩

theorem PO.after {rest : List Nat} {s' : St} {ι ι' : Iota} {w : World} {a' : Act} {w' : World} (hr : PO P ops rest s' Q) (r' : SR s' ι' a' w') (ev : Evolve s.h ι w s'.h ι' w') :
    wpOps P ops (Post s ι w (fun e s' => e = .normal ∧ Q s')) rest a' w' :=
  wpOps_mono (fun e a2 w2 ⟨s2, ι2, q2, r2, ev2⟩ => ⟨s2, ι2, q2, r2, ev.trans ev2⟩) rest a' w' (hr ι' a' w' r')

theorem PO.op {i : Nat} {rest : List Nat} {o : Oper} {x : V} {h' : Heap} (new : Nat) (ho : ops[i]? = some o) (hw : awanted ops s.sl o = some true)
    (hx : aop P o.op (aev s.sl) s.h new = some (x, h')) (hr : PO P ops rest ⟨sput s.sl o.dst x, h'⟩ Q) : PO P ops (i :: rest) s Q := by
  intro ι a w r
  simp only [wpOps, ho]
  rw [if_pos (awanted_spec r hw)]
  left
  unfold Oper.wp
  obtain ⟨y, w', ι', h1, h2, h3, ev⟩ := aop_sound (P := P) r.heap r.slots o new x h' hx
  have r' : SR ⟨sput s.sl o.dst x, h'⟩ ι' (a.put o.dst y) w' := ⟨by rw [put_defers']; exact r.defers, (r.slots.mono ev).put o.dst h2, h3⟩
  rcases h1 with h1 | ⟨h1, rfl⟩
  · rw [h1]; exact PO.after hr r' ev
  · rw [h1]; exact PO.after hr r' ev

theorem PO.no {i : Nat} {rest : List Nat} {o : Oper} (ho : ops[i]? = some o) (hw : awanted ops s.sl o = some false)
    (hr : PO P ops rest ⟨sput s.sl o.dst (.v undef), s.h⟩ Q) : PO P ops (i :: rest) s Q := by
  intro ι a w r
  simp only [wpOps, ho]
  rw [if_neg (by rw [awanted_spec r hw]; simp)]
  have r' : SR ⟨sput s.sl o.dst (.v undef), s.h⟩ ι (a.put o.dst undef) w := ⟨by rw [put_defers']; exact r.defers, r.slots.put o.dst (.v _), r.heap⟩
  exact PO.after hr r' (Evolve.refl _ _ _)

end

/-- The contract of a function: called with these abstract values in this abstract heap it returns, and what it returns meets R. -/
def PC (P : Program) (f : FuncId) (args : List V) (h : Heap) (R : V → Heap → Prop) : Prop :=
  ∀ (ι : Iota) (w : World) (vals : Array Value), PW2 w ι (Mt h ι) args vals → HRel h ι w →
    Calls P f vals w fun e w' => ∃ y x h' ι', e = .returned y ∧ R x h' ∧ Rep w' ι' (Mt h' ι') x y ∧ HRel h' ι' w' ∧ Evolve h ι w h' ι' w'

theorem PC.mono {P f args h} {R R' : V → Heap → Prop} (c : PC P f args h R) (hr : ∀ x h', R x h' → R' x h') : PC P f args h R' :=
  fun ι w vals h1 h2 => (c ι w vals h1 h2).mono fun e w' ⟨y, x, h', ι', q1, q2, q3⟩ => ⟨y, x, h', ι', q1, hr _ _ q2, q3⟩

def callable (P : Program) (f : FuncId) : Bool :=
  match P.funcs[f]? with
  | some fn => fn.name != "runtime.NumGoroutine" && fn.body.isSome
  | none => false

theorem run_callFunc {P : Program} {f : FuncId} (h : callable P f = true) (args : Array Value) (w : World) : (callFunc f args).run P w = .ok (.enter f args) w := by
  unfold callable at h
  split at h
  · rename_i fn hf
    obtain ⟨h1, h2⟩ := Bool.and_eq_true_iff.1 h
    have h1' : ¬ fn.name = "runtime.NumGoroutine" := by simpa using h1
    have h2' : ¬ fn.body = none := by intro q; rw [q] at h2; simp at h2
    simp [callFunc, hf, h1', h2']
  · cases h

theorem PO.call {P : Program} {ops : Array Oper} {Q : St → Prop} {s : St} {i : Nat} {rest : List Nat} {o : Oper} {fop : Operand} {args : Array Operand} {tys : Array TypeId} {f : FuncId} {first caps : List V} {R : V → Heap → Prop}
    (ho : ops[i]? = some o) (hw : awanted ops s.sl o = some true) (hop : o.op = .call ⟨.value fop, args, tys⟩) (hf : aev s.sl fop = .fn (.func f) first caps) (hcall : callable P f = true)
    (hc : PC P f (first ++ args.toList.map (aev s.sl) ++ caps) s.h R) (hr : ∀ x h', R x h' → PO P ops rest ⟨sput s.sl o.dst x, h'⟩ Q) : PO P ops (i :: rest) s Q := by
  intro ι a w r
  simp only [wpOps, ho]
  rw [if_pos (awanted_spec r hw)]
  left
  have rf := aev_rep r.slots fop
  rw [hf] at rf
  generalize hfv : a.eval fop = fv at rf
  cases rf with
  | fn _ _ _ vs us l1 l2 r1 r2 =>
    have m := map_rep (fun x => aev_rep r.slots x) args
    have hrep := ((PW2.of_dep l1 r1).append (PW2.of_dep m.1 m.2)).append (PW2.of_dep l2 r2)
    unfold Oper.wp
    have hrun : (execOp a.eval o).run P w = .ok (.enter f (vs ++ args.map a.eval ++ us)) w := by
      simp only [execOp, hop, resolve, hfv, Deferred.ofValue, Sem.run_bind, Sem.run_pure, Result.andThen_ok, invoke]
      rw [run_callFunc hcall]
    rw [hrun]
    refine (hc ι w _ hrep r.heap).mono ?_
    rintro e w' ⟨y, x, h', ι', rfl, hR, ry, hh, ev⟩
    have r' : SR ⟨sput s.sl o.dst x, h'⟩ ι' (a.put o.dst y) w' := ⟨by rw [put_defers']; exact r.defers, (r.slots.mono ev).put o.dst ry, hh⟩
    exact PO.after (hr x h' hR) r' ev

theorem PW.region {P : Program} {id : Nat} {ops : Array Oper} {Q : Exit → St → Prop} {s : St} (h : PO P ops (List.range ops.size) s (Q .normal)) : PW P (.region id ops false) s Q := by
  intro ι a w r
  refine wp_region (wpOps_mono ?_ _ _ _ (h ι a w r))
  rintro e a' w' ⟨s', ι', ⟨rfl, q⟩, rest⟩
  exact ⟨s', ι', q, rest⟩

/-- The results of a body. -/
def ares1 (P : Program) (sl : List V) (h : Heap) : ResultVar → Option V
  | .tmp t => sl[t]?
  | .cell a t => match sl[a]? with
    | some p => match aLoad P h t p with
      | some (x, _) => some x
      | none => none
    | none => none

def aresL (P : Program) (sl : List V) (h : Heap) : List ResultVar → Option (List V)
  | [] => some []
  | r :: rs => match ares1 P sl h r, aresL P sl h rs with
    | some x, some xs => some (x :: xs)
    | _, _ => none

def ares (P : Program) (rs : List ResultVar) (sl : List V) (h : Heap) : Option V :=
  match aresL P sl h rs with
  | some [x] => some x
  | some xs => some (.tup xs)
  | none => none

theorem ares1_run {P : Program} {s : St} {ι a w} (r : SR s ι a w) {rv : ResultVar} {x : V} (h : ares1 P s.sl s.h rv = some x) :
    ∃ y, (match rv with | .tmp t => pure (a.tmps.getD t undef) | .cell c t => do loadVar t (← asAddr (a.tmps.getD c undef)) : Sem Value).run P w = .ok y w ∧ Rep w ι (Mt s.h ι) x y := by
  have gd : ∀ (t : Nat) (y : Value), a.tmps[t]? = some y → a.tmps.getD t undef = y := by
    intro t y e
    have hlt : t < a.tmps.size := by
      rcases Nat.lt_or_ge t a.tmps.size with q | q
      · exact q
      · rw [Array.getElem?_eq_none q] at e; cases e
    rw [Array.getElem?_eq_getElem hlt] at e
    injection e with e
    simp [Array.getD, hlt, e]
  cases rv with
  | tmp t =>
    obtain ⟨y, y1, y2⟩ := r.slots.2 t x h
    exact ⟨y, by simp [gd t y y1], y2⟩
  | cell c t =>
    simp only [ares1] at h
    split at h
    · rename_i p hp
      split at h
      · rename_i x' h' hl
        injection h with h
        subst h
        obtain ⟨y, y1, y2⟩ := r.slots.2 c p hp
        have hrow : rowAt s.h p ≠ none := by
          intro q
          simp [aLoad, q] at hl
        obtain ⟨z, w', ι', z1, z2, z3, z4⟩ := aLoad_sound (P := P) r.heap (t := t) y2 x' h' hl
        unfold aLoad at hl
        split at hl
        · rename_i row off hrow
          split at hl
          · rename_i u hu
            injection hl with hl
            injection hl with e1 e2
            obtain ⟨b, o, rfl, hc⟩ := rowAt_rep r.heap y2 hrow
            obtain ⟨q, q1, q2⟩ := run_loadVar_rep (P := P) hc hu
            refine ⟨q, ?_, by rw [← e1]; exact q2⟩
            simp [gd c _ y1, asAddr, q1]
          · cases hl
        · cases hl
      · cases h
    · cases h

theorem aresL_run {P : Program} {s : St} {ι a w} (r : SR s ι a w) : ∀ (rs : List ResultVar) (xs : List V), aresL P s.sl s.h rs = some xs →
    ∃ ys : List Value, (rs.mapM fun (rv : ResultVar) => (match rv with | .tmp t => pure (a.tmps.getD t undef) | .cell c t => do loadVar t (← asAddr (a.tmps.getD c undef)) : Sem Value)).run P w = .ok ys w ∧ xs.length = ys.length ∧
      ∀ i, (h1 : i < xs.length) → (h2 : i < ys.length) → Rep w ι (Mt s.h ι) xs[i] ys[i]
  | [], xs, h => by simp [aresL] at h; subst h; exact ⟨[], by simp, rfl, fun i h => by simp at h⟩
  | rv :: rs, xs, h => by
    simp only [aresL] at h
    split at h
    · rename_i x xs' hx hxs
      injection h with h
      subst h
      obtain ⟨y, y1, y2⟩ := ares1_run r hx
      obtain ⟨ys, z1, z2, z3⟩ := aresL_run r rs xs' hxs
      refine ⟨y :: ys, ?_, by simp [z2], fun i h1 h2 => ?_⟩
      · simp only [List.mapM_cons, Sem.run_bind, Sem.run_pure]
        rw [y1]
        simp only [Result.andThen_ok]
        rw [z1]
        rfl
      · cases i with
        | zero => exact y2
        | succ i => exact z3 i (by simpa using h1) (by simpa using h2)
    · cases h

theorem ares_run {P : Program} {s : St} {ι a w} (r : SR s ι a w) {fn : Func} {x : V} (h : ares P fn.results.toList s.sl s.h = some x) :
    ∃ y, (results fn a.tmps).run P w = .ok y w ∧ Rep w ι (Mt s.h ι) x y := by
  unfold ares at h
  have main : ∀ xs, aresL P s.sl s.h fn.results.toList = some xs → ∃ ys : List Value, (results fn a.tmps).run P w = .ok (if h : ys.toArray.size = 1 then ys.toArray[0] else .tuple ys.toArray) w ∧ xs.length = ys.length ∧
      ∀ i, (h1 : i < xs.length) → (h2 : i < ys.length) → Rep w ι (Mt s.h ι) xs[i] ys[i] := by
    intro xs hxs
    obtain ⟨ys, z1, z2, z3⟩ := aresL_run r fn.results.toList xs hxs
    refine ⟨ys, ?_, z2, z3⟩
    unfold results
    rw [← Array.toArray_toList (xs := fn.results), List.mapM_toArray]
    simp only [Sem.run_bind, Sem.run_map]
    exact (congrArg (fun q : Result (List Value) => (q.andThen fun a w' => Result.ok a.toArray w').andThen fun a w' => (Pure.pure (if h : a.size = 1 then a[0] else Value.tuple a) : Sem Value).run P w') z1).trans rfl
  split at h
  · rename_i u hu
    injection h with h
    subst h
    obtain ⟨ys, y1, y2, y3⟩ := main _ hu
    match ys, y2 with
    | [y], _ => exact ⟨y, by simpa using y1, y3 0 (by simp) (by simp)⟩
  · rename_i xs hne hxs
    injection h with h
    subst h
    obtain ⟨ys, y1, y2, y3⟩ := main _ hxs
    have hl : ys.length ≠ 1 := by
      intro q
      match xs, (y2.trans q) with
      | [u], _ => exact hne u rfl
    rw [dif_neg (by simpa using hl)] at y1
    exact ⟨_, y1, .tup _ _ (by simpa using y2) (fun i h1 h2 => by simpa using y3 i h1 (by simpa using h2))⟩
  · cases h

theorem PC.of_body {P : Program} {f : FuncId} {fn : Func} {c : Code} {args : List V} {h : Heap} {R : V → Heap → Prop} (hf : P.funcs[f]? = some fn) (hb : fn.body = some c)
    (hp : PW P c ⟨args ++ List.replicate (fn.ntmps - args.length) (.v undef), h⟩ (fun e s' => (e = .normal ∨ e = .ret) ∧ ∃ x, ares P fn.results.toList s'.sl s'.h = some x ∧ R x s'.h)) : PC P f args h R := by
  intro ι w vals hp2 hh
  have hl := hp2.1
  refine calls_of_wp hf hb (wp_mono (hp ι _ w ?_) ?_)
  · refine ⟨rfl, ⟨by simp [hl], fun i x hx => ?_⟩, hh⟩
    by_cases h1 : i < args.length
    · rw [List.getElem?_append_left h1] at hx
      obtain ⟨u, u1, u2⟩ := hp2.2 i x hx
      exact ⟨u, by rw [Array.getElem?_append_left (by omega)]; exact u1, u2⟩
    · rw [List.getElem?_append_right (by omega), List.getElem?_replicate] at hx
      split at hx
      · rename_i h2
        injection hx with hx
        subst hx
        refine ⟨undef, ?_, .v _⟩
        rw [Array.getElem?_append_right (by omega), Array.getElem?_replicate, if_pos (by omega)]
      · cases hx
  · rintro e a' w' ⟨s', ι', ⟨he, x, hx, hR⟩, r', ev⟩
    obtain ⟨y, y1, y2⟩ := ares_run r' hx
    have : bodyPost P fn (fun e w' => ∃ y x h' ι', e = .returned y ∧ R x h' ∧ Rep w' ι' (Mt h' ι') x y ∧ HRel h' ι' w' ∧ Evolve h ι w h' ι' w') .normal a' w' :=
      ⟨r'.defers, y, y1, y, x, s'.h, ι', rfl, hR, y2, r'.heap, ev⟩
    rcases he with rfl | rfl
    · exact this
    · exact this

end Go.Abs
