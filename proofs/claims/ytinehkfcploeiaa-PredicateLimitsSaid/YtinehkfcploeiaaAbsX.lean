/- Walks that may give other numbers to the objects that a function has made. -/
import Derived.Test.YtinehkfcploeiaaAbsW
namespace Go.Abs
set_option linter.unusedVariables false

/-- As 'Evolve', but only the first n objects keep their places. -/
structure EvN (n : Nat) (h : Heap) (ι : Iota) (w : World) (h' : Heap) (ι' : Iota) (w' : World) : Prop where
  os : w'.os = w.os
  tape : w'.tape = w.tape
  output : w'.output = w.output
  size : w.heap.size ≤ w'.heap.size
  iota : ∀ id l, id < n → ι id = some l → ι' id = some l
  away : ι'.X = ι.X
  frame : ∀ b, b < w.heap.size → ¬ Ob h ι b → w'.heap[b]? = w.heap[b]? ∧ ¬ Ob h' ι' b
  sizes : ∀ (b : Nat) (c : Array Value) (e : TypeId) (fr : Nat × Nat), w.heap[b]? = some (.cells c e fr) → ∃ (c' : Array Value) (fr' : Nat × Nat), w'.heap[b]? = some (.cells c' e fr') ∧ c'.size = c.size

theorem EvN.of {n : Nat} {h ι w h' ι' w'} (e : Evolve h ι w h' ι' w') : EvN n h ι w h' ι' w' := ⟨e.os, e.tape, e.output, e.size, fun id l _ q => e.iota id l q, e.away, e.frame, e.sizes⟩
theorem EvN.to {h ι w h' ι' w'} (e : EvN h.length h ι w h' ι' w') (H : HRel h ι w) : Evolve h ι w h' ι' w' := ⟨e.os, e.tape, e.output, e.size, (fun id l q => by
  rcases Nat.lt_or_ge id h.length with hlt | hge
  · exact e.iota id l hlt q
  · rw [H.out id hge] at q; cases q), e.away, e.frame, e.sizes⟩
theorem EvN.trans {n : Nat} {h ι w h₁ ι₁ w₁ h₂ ι₂ w₂} (a : EvN n h ι w h₁ ι₁ w₁) (b : EvN n h₁ ι₁ w₁ h₂ ι₂ w₂) : EvN n h ι w h₂ ι₂ w₂ where
  os := b.os.trans a.os
  tape := b.tape.trans a.tape
  output := b.output.trans a.output
  size := Nat.le_trans a.size b.size
  iota := fun id l hn e => b.iota id l hn (a.iota id l hn e)
  away := b.away.trans a.away
  frame := fun k hk hm => by
    obtain ⟨e1, m1⟩ := a.frame k hk hm
    obtain ⟨e2, m2⟩ := b.frame k (Nat.lt_of_lt_of_le hk a.size) m1
    exact ⟨e2.trans e1, m2⟩
  sizes := fun k c e fr hc => by
    obtain ⟨c1, fr1, h1, s1⟩ := a.sizes k c e fr hc
    obtain ⟨c2, fr2, h2, s2⟩ := b.sizes k c1 e fr1 h1
    exact ⟨c2, fr2, h2, s2.trans s1⟩

def PostN (n : Nat) (s : St) (ι : Iota) (w : World) (Q : Exit → St → Prop) : Exit → Act → World → Prop :=
  fun e a' w' => ∃ s' ι', Q e s' ∧ SR s' ι' a' w' ∧ EvN n s.h ι w s'.h ι' w'

/-- The walk of a function that began with n objects. -/
def PV (n : Nat) (P : Program) (c : Code) (s : St) (Q : Exit → St → Prop) : Prop :=
  ∀ ι a w, SR s ι a w → c.wp P (PostN n s ι w Q) a w

section
variable {n : Nat} {P : Program} {Q : Exit → St → Prop} {s : St}

theorem PV.of {c : Code} (h : PW P c s Q) : PV n P c s Q := fun ι a w r => wp_mono (h ι a w r) fun e a' w' ⟨s', ι', q, r', ev⟩ => ⟨s', ι', q, r', EvN.of ev⟩
theorem PV.mono {c : Code} {Q' : Exit → St → Prop} (h : PV n P c s Q) (hq : ∀ e s, Q e s → Q' e s) : PV n P c s Q' :=
  fun ι a w r => wp_mono (h ι a w r) fun e a' w' ⟨s', ι', q, rest⟩ => ⟨s', ι', hq _ _ q, rest⟩
theorem PV.norm {c : Code} (s' : St) (e : s = s') (h : PV n P c s' Q) : PV n P c s Q := by rw [e]; exact h
theorem PV.skip (h : Q .normal s) : PV n P .skip s Q := PV.of (PW.skip h)
theorem PV.exit {id : Nat} (h : Q (.exit id) s) : PV n P (.exit id) s Q := PV.of (PW.exit h)
theorem PV.ret (h : Q .ret s) : PV n P .ret s Q := PV.of (PW.ret h)
theorem PV.regionN {id : Nat} {ops : Array Oper} (h : PON P ops 0 s (Q .normal)) : PV n P (.region id ops false) s Q := PV.of (PW.regionN h)
theorem PV.drawnG {id : Nat} {ops : Array Oper} (hm : P.follows .mixedOrders = true) (he : edgesOk ops = true)
    (hrun : DRG P ops s.h.length 0 ⟨s.sl, s.h ++ List.replicate ops.size .free⟩ (fun s' fs => drawOk ops fs = true ∧ Q .normal s')) : PV n P (.region id ops true) s Q := PV.of (PW.drawnG hm he hrun)
theorem PV.seq {x y : Code} (h : PV n P x s (thenA (fun s' => PV n P y s' Q) Q)) : PV n P (.seq x y) s Q := by
  intro ι a w r
  refine wp_seq (wp_mono (h ι a w r) ?_)
  rintro e a' w' ⟨s', ι', q, r', ev⟩
  cases e with
  | normal => exact wp_mono (q ι' a' w' r') fun e2 a2 w2 ⟨s2, ι2, q2, r2, ev2⟩ => ⟨s2, ι2, q2, r2, ev.trans ev2⟩
  | _ => exact ⟨s', ι', q, r', ev⟩
theorem PV.seq_k {x y : Code} (h : ∀ K : St → Prop, (∀ s', PV n P y s' Q → K s') → PV n P x s (thenA K Q)) : PV n P (.seq x y) s Q :=
  PV.seq (h _ fun _ q => q)
theorem PV.block {id : Nat} {c : Code} (h : PV n P c s (inBlockA id Q)) : PV n P (.block id c) s Q := by
  intro ι a w r
  refine wp_block (wp_mono (h ι a w r) ?_)
  rintro e a' w' ⟨s', ι', q, r', ev⟩
  cases e with
  | exit id' =>
    simp only [inBlockA] at q
    simp only [Exit.inBlock]
    split
    · rename_i hid
      rw [if_pos hid] at q
      exact ⟨s', ι', q, r', ev⟩
    · rename_i hid
      rw [if_neg hid] at q
      exact ⟨s', ι', q, r', ev⟩
  | _ => exact ⟨s', ι', q, r', ev⟩
theorem PV.cond {c : Operand} {x y : Code} {t : Bool} (hc : aev s.sl c = .v (.bool t)) (h : PV n P (if t then x else y) s Q) : PV n P (.cond c x y) s Q :=
  fun ι a w r => wp_cond (r.eval hc) (h ι a w r)
theorem PV.cond_true {c : Operand} {x y : Code} (hc : aev s.sl c = .v (.bool true)) (h : PV n P x s Q) : PV n P (.cond c x y) s Q := PV.cond hc h
theorem PV.cond_false {c : Operand} {x y : Code} (hc : aev s.sl c = .v (.bool false)) (h : PV n P y s Q) : PV n P (.cond c x y) s Q := PV.cond hc h
theorem PV.condP {c : Operand} {x y : Code} (p : Prop) [Decidable p] (e : Bool) (hc : aev s.sl c = .v (.bool e)) (ht : p → e = true) (hf : ¬p → e = false)
    (h1 : p → PV n P x s Q) (h2 : ¬p → PV n P y s Q) : PV n P (.cond c x y) s Q := by
  by_cases q : p
  · exact PV.cond (t := true) (by rw [hc, ht q]) (h1 q)
  · exact PV.cond (t := false) (by rw [hc, hf q]) (h2 q)
theorem PV.condN {c : Operand} {x y : Code} (p : Prop) [Decidable p] (e : Bool) (hc : aev s.sl c = .v (.bool e)) (ht : p → e = false) (hf : ¬p → e = true)
    (h1 : ¬p → PV n P x s Q) (h2 : p → PV n P y s Q) : PV n P (.cond c x y) s Q := by
  by_cases q : p
  · exact PV.cond (t := false) (by rw [hc, ht q]) (h2 q)
  · exact PV.cond (t := true) (by rw [hc, hf q]) (h1 q)
end

/- renaming -/
mutual
/-- The old value under the map σ (new number ↦ old number) is the new one, or the new one says less. -/
inductive leR (σ : List Nat) : V → V → Prop
  | any (x : V) : leR σ x .any
  | v (x : Value) : leR σ (.v x) (.v x)
  | tree {x : V} : NI 0 x → leR σ x x
  | nil (sz : Nat) : leR σ (.v (.slice none 0 0)) (.sF sz [])
  | pO {i j : Nat} (r o : Nat) : σ[j]? = some i → leR σ (.pO i r o) (.pO j r o)
  | sO {i j : Nat} (o l : Nat) : σ[j]? = some i → leR σ (.sO i o l) (.sO j o l)
  | agg {xs ys : List V} : leRs σ xs ys → leR σ (.agg xs) (.agg ys)
  | tup {xs ys : List V} : leRs σ xs ys → leR σ (.tup xs) (.tup ys)
  | fn {f : Fn} {a b a' b' : List V} : leRs σ a a' → leRs σ b b' → leR σ (.fn f a b) (.fn f a' b')
  | eq {x y z : V} : leR σ x y → y = z → leR σ x z
inductive leRs (σ : List Nat) : List V → List V → Prop
  | nil : leRs σ [] []
  | any {x : V} {xs ys : List V} : leRs σ xs ys → leRs σ (x :: xs) (.any :: ys)
  | v {x : Value} {xs ys : List V} : leRs σ xs ys → leRs σ (.v x :: xs) (.v x :: ys)
  | cons {x y : V} {xs ys : List V} : leR σ x y → leRs σ xs ys → leRs σ (x :: xs) (y :: ys)
end

theorem leRs.len {σ : List Nat} : ∀ {xs ys : List V}, leRs σ xs ys → xs.length = ys.length
  | _, _, .nil => rfl
  | _, _, .any h => congrArg (· + 1) h.len
  | _, _, .v h => congrArg (· + 1) h.len
  | _, _, .cons _ h => congrArg (· + 1) h.len

theorem leRs.a4 {σ : List Nat} {a b c d : V} {xs ys : List V} (h : leRs σ xs ys) : leRs σ (a :: b :: c :: d :: xs) (.any :: .any :: .any :: .any :: ys) := .any (.any (.any (.any h)))
theorem leRs.a9 {σ : List Nat} {a b c d e f g i j : V} {xs ys : List V} (h : leRs σ xs ys) : leRs σ (a :: b :: c :: d :: e :: f :: g :: i :: j :: xs) (.any :: .any :: .any :: .any :: .any :: .any :: .any :: .any :: .any :: ys) := .any (.any (.any (.any (.any (.any (.any (.any (.any h))))))))

def Iota.ren (ι : Iota) (σ : List Nat) : Iota := { at' := fun j => match σ[j]? with | some i => ι i | none => none, X := ι.X }

theorem Rep.free {w : World} {M M' : Nat → Prop} {ι1 ι2 : Iota} (hM : ∀ b, M' b → M b) : ∀ {x : V} {y : Value}, Rep w ι1 M x y → NI 0 x → Rep w ι2 M' x y := by
  intro x y r
  induction r with
  | v x => intro _; exact .v x
  | any x => intro _; exact .any x
  | pF row off b o cells hb hm hc _ ih => intro h; cases h with | pF _ h => exact .pF row off b o cells hb (fun q => hm (hM _ q)) hc (fun j hj => ih j hj (h _ (List.getElem_mem hj)))
  | pO id row off l hl => intro h; cases h with | pO _ _ h => omega
  | sF sz rows a cap cells hb hcap hr hc _ ih => intro h; cases h with | sF _ h => exact .sF sz rows a cap cells (fun hne => ⟨(hb hne).1, (hb hne).2.1, fun q => (hb hne).2.2 (hM _ q)⟩) hcap hr hc (fun i hi j hj => ih i hi j hj (h _ (List.getElem_mem hi) _ (List.getElem_mem hj)))
  | sN sz => intro _; exact .sN sz
  | sO id off len cap l c e fr hl hcap hb hs => intro h; cases h with | sO _ _ h => omega
  | agg xs vs hl _ ih => intro h; cases h with | agg h => exact .agg xs vs hl (fun i h1 h2 => ih i h1 h2 (h _ (List.getElem_mem h1)))
  | tup xs vs hl _ ih => intro h; cases h with | tup h => exact .tup xs vs hl (fun i h1 h2 => ih i h1 h2 (h _ (List.getElem_mem h1)))
  | fn f a b vs us h1 h2 _ _ ih1 ih2 => intro h; cases h with | fn ha hb => exact .fn f a b vs us h1 h2 (fun i q1 q2 => ih1 i q1 q2 (ha _ (List.getElem_mem q1))) (fun i q1 q2 => ih2 i q1 q2 (hb _ (List.getElem_mem q1)))
  | ifc t x y _ ih => intro h; cases h with | ifc h => exact .ifc t x y (ih h)

mutual
theorem leR.rep {w : World} {ι : Iota} {M M' : Nat → Prop} {σ : List Nat} (hM : ∀ b, M' b → M b) : ∀ {x y : V}, leR σ x y → ∀ {z : Value}, Rep w ι M x z → Rep w (ι.ren σ) M' y z
  | _, _, .any x, z, _ => .any z
  | _, _, .v x, z, r => by cases r; exact .v _
  | _, _, .tree h, z, r => r.free hM h
  | _, _, .nil sz, z, r => by cases r; exact .sN sz
  | _, _, .pO r0 o hj, z, r => by cases r with | pO _ _ _ l hl => exact .pO _ _ _ l (by simp [Iota.ren, hj, hl])
  | _, _, .sO o0 l0 hj, z, r => by cases r with | sO _ _ _ cap l c e fr hl hcap hb hs => exact .sO _ _ _ cap l c e fr (by simp [Iota.ren, hj, hl]) hcap hb hs
  | _, _, .agg h, z, r => by
    cases r with
    | agg _ vs hl hr =>
      refine .agg _ vs (by rw [← h.len]; exact hl) (fun i h1 h2 => ?_)
      exact (h.rep hM i (by rw [h.len]; exact h1) h1).2 (hr i (by rw [h.len]; exact h1) h2)
  | _, _, .tup h, z, r => by
    cases r with
    | tup _ vs hl hr =>
      refine .tup _ vs (by rw [← h.len]; exact hl) (fun i h1 h2 => ?_)
      exact (h.rep hM i (by rw [h.len]; exact h1) h1).2 (hr i (by rw [h.len]; exact h1) h2)
  | _, _, .fn ha hb, z, r => by
    cases r with
    | fn _ _ _ vs us l1 l2 r1 r2 =>
      refine .fn _ _ _ vs us (by rw [← ha.len]; exact l1) (by rw [← hb.len]; exact l2) (fun i h1 h2 => ?_) (fun i h1 h2 => ?_)
      · exact (ha.rep hM i (by rw [ha.len]; exact h1) h1).2 (r1 i (by rw [ha.len]; exact h1) h2)
      · exact (hb.rep hM i (by rw [hb.len]; exact h1) h1).2 (r2 i (by rw [hb.len]; exact h1) h2)
  | _, _, .eq h e, z, r => e ▸ h.rep hM r
theorem leRs.rep {w : World} {ι : Iota} {M M' : Nat → Prop} {σ : List Nat} (hM : ∀ b, M' b → M b) : ∀ {xs ys : List V}, leRs σ xs ys → ∀ (i : Nat) (h1 : i < xs.length) (h2 : i < ys.length), True ∧ (∀ {z : Value}, Rep w ι M xs[i] z → Rep w (ι.ren σ) M' ys[i] z)
  | _, _, .nil, i, h1, h2 => by simp at h1
  | _, _, .any h, 0, h1, h2 => ⟨trivial, fun {z} _ => .any z⟩
  | _, _, .v h, 0, h1, h2 => ⟨trivial, fun {z} r => by
    have r' : Rep w ι M (.v _) z := r
    cases r'; exact .v _⟩
  | _, _, .cons q h, 0, h1, h2 => ⟨trivial, fun {z} r => q.rep hM r⟩
  | _, _, .any h, i + 1, h1, h2 => by simpa using h.rep hM i (by simpa using h1) (by simpa using h2)
  | _, _, .v h, i + 1, h1, h2 => by simpa using h.rep hM i (by simpa using h1) (by simpa using h2)
  | _, _, .cons q h, i + 1, h1, h2 => by simpa using h.rep hM i (by simpa using h1) (by simpa using h2)
end

/-- An object and its new form. -/
inductive leRo (σ : List Nat) : HS → HS → Prop
  | dead (x : HS) : leRo σ x .dead
  | tree {o : AObj} : NIr 0 o.rows → leRo σ (.live o) (.live o)
  | row {sz : Nat} {r r' : List V} {e : TypeId} : leRs σ r r' → leRo σ (.live ⟨sz, [r], e⟩) (.live ⟨sz, [r'], e⟩)
  | eq {x y z : HS} : leRo σ x y → y = z → leRo σ x z

theorem leRo.live {σ : List Nat} {x y : HS} (h : leRo σ x y) : ∀ {o' : AObj}, y = .live o' → ∃ o, x = .live o ∧ o.sz = o'.sz ∧ o.elem = o'.elem ∧ o.rows.length = o'.rows.length ∧
    ∀ (i : Nat) (r r' : List V), o.rows[i]? = some r → o'.rows[i]? = some r' → r.length = r'.length ∧ ∀ {w : World} {ι : Iota} {M M' : Nat → Prop}, (∀ b, M' b → M b) → ∀ (j : Nat) (y : V), r'[j]? = some y → ∃ x, r[j]? = some x ∧ ∀ {z : Value}, Rep w ι M x z → Rep w (ι.ren σ) M' y z := by
  induction h with
  | dead x => intro o' e; cases e
  | tree hr =>
    intro o' e
    injection e with e; subst e
    refine ⟨_, rfl, rfl, rfl, rfl, fun i r r' h1 h2 => ?_⟩
    rw [h1] at h2; injection h2 with h2; subst h2
    exact ⟨rfl, fun hM j y hy => ⟨y, hy, fun rep => rep.free hM (hr _ (get_mem h1) _ (get_mem hy))⟩⟩
  | row hr =>
    intro o' e
    injection e with e; subst e
    refine ⟨_, rfl, rfl, rfl, rfl, fun i r r' h1 h2 => ?_⟩
    cases i with
    | succ i => simp at h1
    | zero =>
      simp at h1 h2
      subst h1 h2
      refine ⟨hr.len, fun hM j y hy => ?_⟩
      have h2 := get_lt hy
      have h1 := h2
      rw [← hr.len] at h1
      rw [List.getElem?_eq_getElem h2] at hy; injection hy with hy; subst hy
      exact ⟨_, List.getElem?_eq_getElem h1, (hr.rep hM j h1 h2).2⟩
  | eq _ e0 ih => intro o' e; exact ih (e0.trans e)

/-- What is known behind a step, with new numbers: the object j was σ[j]. The first n0 keep theirs. -/
structure CutR0 (n0 : Nat) (σ : List Nat) (s s' : St) : Prop where
  len : s'.h.length = σ.length
  ident : ∀ j, j < n0 → σ[j]? = some j
  inj : σ.Nodup
  sl : leRs σ s.sl s'.sl
  h : ∀ (j i : Nat), σ[j]? = some i → ∃ x y, s.h[i]? = some x ∧ s'.h[j]? = some y ∧ leRo σ x y

theorem CutR0.apply {n0 : Nat} {σ : List Nat} {s s' : St} (c : CutR0 n0 σ s s') {ι : Iota} {a : Act} {w : World} (r : SR s ι a w) : SR s' (ι.ren σ) a w ∧ EvN n0 s.h ι w s'.h (ι.ren σ) w := by
  have H := r.heap
  have old : ∀ (j : Nat) (o' : AObj), s'.h[j]? = some (.live o') → ∃ i o, σ[j]? = some i ∧ s.h[i]? = some (.live o) ∧ leRo σ (.live o) (.live o') := by
    intro j o' h
    have hj : j < σ.length := by rw [← c.len]; exact get_lt h
    obtain ⟨x, y, h1, h2, h3⟩ := c.h j σ[j] (List.getElem?_eq_getElem hj)
    rw [h] at h2; injection h2 with h2; subst h2
    obtain ⟨o, rfl, _⟩ := h3.live rfl
    exact ⟨σ[j], o, List.getElem?_eq_getElem hj, h1, h3⟩
  have at' : ∀ (j i : Nat), σ[j]? = some i → (ι.ren σ) j = ι i := by intro j i h; simp [Iota.ren, h]
  have ob : ∀ b, Ob s'.h (ι.ren σ) b → Ob s.h ι b := by
    rintro b ⟨j, o', l, h1, h2, h3⟩
    obtain ⟨i, o, e1, e2, e3⟩ := old j o' h1
    rw [at' j i e1] at h2
    exact ⟨i, o, l, e2, h2, h3⟩
  have mt : ∀ b, Mt s'.h (ι.ren σ) b → Mt s.h ι b := fun b q => q.elim .inl fun q => .inr (ob b q)
  refine ⟨⟨r.defers, ⟨r.slots.1.trans c.sl.len, fun i y hy => ?_⟩, ⟨fun j o' ho => ?_, fun j hj => ?_, fun j hj => ?_, fun j1 o1 l1 j2 o2 l2 a1 a2 b1 b2 hb => ?_, H.xlt, fun b hb q => H.xob b hb (ob b q)⟩⟩,
    ⟨rfl, rfl, rfl, Nat.le_refl _, fun id l hn hl => by rw [at' id id (c.ident id hn)]; exact hl, rfl, fun b _ q => ⟨rfl, fun z => q (ob b z)⟩, fun b cc e fr hb => ⟨cc, fr, hb, rfl⟩⟩⟩
  · have h2 := get_lt hy
    have h1 : i < s.sl.length := by rw [c.sl.len]; exact h2
    rw [List.getElem?_eq_getElem h2] at hy; injection hy with hy; subst hy
    obtain ⟨z, z1, z2⟩ := r.slots.2 i _ (List.getElem?_eq_getElem h1)
    exact ⟨z, z1, (c.sl.rep mt i h1 h2).2 z2⟩
  · obtain ⟨i, o, e1, e2, e3⟩ := old j o' ho
    obtain ⟨l, cc, fr, h1, la⟩ := H.live i o e2
    obtain ⟨o2, q0, q1, q2, q3, q4⟩ := e3.live rfl
    injection q0 with q0; subst q0
    refine ⟨l, cc, fr, by rw [at' j i e1]; exact h1, ⟨by rw [← q2]; exact la.blk, la.unfrozen, by rw [← q1]; exact la.sz, fun r' hr' => ?_, by rw [← q1, ← q3]; exact la.fits, fun k hk m hm => ?_⟩⟩
    · obtain ⟨k, hk, e⟩ := List.getElem_of_mem hr'
      have hk1 : k < o.rows.length := by rw [q3]; exact hk
      obtain ⟨u1, u2⟩ := q4 k _ _ (List.getElem?_eq_getElem hk1) (List.getElem?_eq_getElem hk)
      rw [← e, ← u1, ← q1]
      exact la.rows _ (List.getElem_mem hk1)
    · have hk1 : k < o.rows.length := by rw [q3]; exact hk
      obtain ⟨u1, u2⟩ := q4 k _ _ (List.getElem?_eq_getElem hk1) (List.getElem?_eq_getElem hk)
      obtain ⟨x, x1, x2⟩ := u2 mt m _ (List.getElem?_eq_getElem hm)
      have hm1 := get_lt x1
      rw [List.getElem?_eq_getElem hm1] at x1; injection x1 with x1
      obtain ⟨z, z1, z2⟩ := la.reads k hk1 m hm1
      rw [x1] at z2
      exact ⟨z, by rw [← q1]; exact z1, x2 z2⟩
  · exfalso
    have hj' : j < σ.length := by rw [← c.len]; exact get_lt hj
    obtain ⟨x, y, h1, h2, h3⟩ := c.h j σ[j] (List.getElem?_eq_getElem hj')
    rw [hj] at h2; injection h2 with h2; subst h2
    have : ∀ {x y : HS}, leRo σ x y → y ≠ .free := by
      intro x y h
      induction h with
      | dead x => intro e; cases e
      | tree _ => intro e; cases e
      | row _ => intro e; cases e
      | eq _ e0 ih => rw [← e0]; exact ih
    exact this h3 rfl
  · have : σ[j]? = none := List.getElem?_eq_none (by rw [← c.len]; exact hj)
    simp [Iota.ren, this]
  · obtain ⟨i1, p1, e1, e2, _⟩ := old j1 o1 a1
    obtain ⟨i2, p2, f1, f2, _⟩ := old j2 o2 b1
    rw [at' j1 i1 e1] at a2
    rw [at' j2 i2 f1] at b2
    have := H.apart _ _ _ _ _ _ e2 a2 f2 b2 hb
    subst this
    have h1 := get_lt e1
    have h2 := get_lt f1
    rw [List.getElem?_eq_getElem h1] at e1; injection e1 with e1
    rw [List.getElem?_eq_getElem h2] at f1; injection f1 with f1
    have hpw := List.pairwise_iff_getElem.1 c.inj
    rcases Nat.lt_trichotomy j1 j2 with q | q | q
    · exact absurd (e1.trans f1.symm) (hpw j1 j2 h1 h2 q)
    · exact q
    · exact absurd (f1.trans e1.symm) (hpw j2 j1 h2 h1 q)

/-- Old objects, then free places: the object j was σ[j]. -/
inductive leRh (σ : List Nat) (old : Heap) : List Nat → Heap → Prop
  | nil : leRh σ old [] []
  | cons {i : Nat} {x y : HS} {is : List Nat} {ys : Heap} : old[i]? = some x → leRo σ x y → leRh σ old is ys → leRh σ old (i :: is) (y :: ys)
theorem leRh.spec {σ : List Nat} {old : Heap} {is : List Nat} {ys : Heap} (h : leRh σ old is ys) : ys.length = is.length ∧ ∀ (j i : Nat), is[j]? = some i → ∃ x y, old[i]? = some x ∧ ys[j]? = some y ∧ leRo σ x y := by
  induction h with
  | nil => exact ⟨rfl, fun j i h => by simp at h⟩
  | cons h1 h2 _ ih =>
    refine ⟨by simp [ih.1], fun j i h => ?_⟩
    cases j with
    | zero => simp at h; subst h; exact ⟨_, _, h1, rfl, h2⟩
    | succ j => simpa using ih.2 j i (by simpa using h)

def identB (n0 : Nat) (σ : List Nat) : Bool := (List.range n0).all fun j => match σ[j]? with | some i => i == j | none => false

structure CutR (n0 : Nat) (σ : List Nat) (s s' : St) : Prop where
  ident : identB n0 σ = true
  inj : nodupB σ = true
  sl : leRs σ s.sl s'.sl
  h : leRh σ (s.h ++ List.replicate s'.h.length .free) σ s'.h

theorem CutR.apply {n0 : Nat} {σ : List Nat} {s s' : St} (c : CutR n0 σ s s') {ι : Iota} {a : Act} {w : World} (r : SR s ι a w) : SR s' (ι.ren σ) a w ∧ EvN n0 s.h ι w s'.h (ι.ren σ) w := by
  obtain ⟨r1, ev1⟩ := r.reserve s'.h.length
  obtain ⟨hl, hh⟩ := c.h.spec
  have c0 : CutR0 n0 σ ⟨s.sl, s.h ++ List.replicate s'.h.length .free⟩ s' := ⟨hl, (fun j hj => by
    have := List.all_eq_true.1 c.ident j (by simp [hj])
    split at this
    · rename_i i hi; rw [hi]; simp at this; rw [this]
    · cases this), nodupB_spec c.inj, c.sl, hh⟩
  obtain ⟨r2, ev2⟩ := c0.apply r1
  exact ⟨r2, (EvN.of ev1).trans ev2⟩

section
variable {n : Nat} {P : Program} {Q : Exit → St → Prop} {s : St}

/-- A step of a sequence, with what is known behind it given. -/
theorem PV.seqR {x y : Code} (σ : List Nat) (s2 : St) (h1 : PV n P x s (thenA (fun s1 => CutR n σ s1 s2) Q)) (h2 : PV n P y s2 Q) : PV n P (.seq x y) s Q := by
  refine PV.seq ?_
  have : PV n P x s (thenA (fun s' => s' = s2) Q) := by
    intro ι a w r
    refine wp_mono (h1 ι a w r) ?_
    rintro e a' w' ⟨s1, ι1, q, r1, ev1⟩
    cases e with
    | normal =>
      obtain ⟨r2, ev2⟩ := CutR.apply (show CutR n σ s1 s2 from q) r1
      exact ⟨s2, _, rfl, r2, ev1.trans ev2⟩
    | _ => exact ⟨s1, ι1, q, r1, ev1⟩
  refine PV.mono this ?_
  intro e s' h
  cases e with
  | normal => rw [show s' = s2 from h]; exact h2
  | _ => exact h

/-- A loop: the states at its head by a pattern, up to the numbers of objects. -/
theorem PV.loopR {c : Code} {α : Type} (S : α → St) (J : α → Prop) (μ : α → Nat) (σ : List Nat) (x0 : α)
    (h0 : CutR n σ s (S x0)) (h3 : J x0)
    (round : ∀ x, J x → PV n P c (S x) (thenA (fun s' => ∃ σ y, CutR n σ s' (S y) ∧ J y ∧ μ y < μ x) Q)) : PV n P (.loop c) s Q := by
  have main : PV n P (.loop c) (S x0) Q := by
    intro ι a w r
    let I : Nat → Act → World → Prop := fun m a' w' => ∃ x ι', μ x = m ∧ J x ∧ SR (S x) ι' a' w' ∧ EvN n (S x0).h ι w (S x).h ι' w'
    have dec : ∀ a' w', ∃ m, ((∃ n, I n a' w') → I m a' w' ∧ ∀ n, I n a' w' → m ≤ n) := by
      intro a' w'
      by_cases hx : ∃ n, I n a' w'
      · obtain ⟨n, hn⟩ := hx
        induction n using Nat.strongRecOn with
        | _ n ih =>
          by_cases hlt : ∃ k, k < n ∧ I k a' w'
          · obtain ⟨k, hk, hj⟩ := hlt
            exact ih k hk hj
          · refine ⟨n, fun _ => ⟨hn, fun k hk => ?_⟩⟩
            rcases Nat.lt_or_ge k n with q | q
            · exact absurd ⟨k, q, hk⟩ hlt
            · exact q
      · exact ⟨0, fun q => absurd q hx⟩
    have hch : ∃ f : Act → World → Nat, ∀ a' w', (∃ n, I n a' w') → I (f a' w') a' w' ∧ ∀ n, I n a' w' → f a' w' ≤ n :=
      ⟨fun a' w' => Classical.choose (dec a' w'), fun a' w' => Classical.choose_spec (dec a' w')⟩
    obtain ⟨f, hf⟩ := hch
    refine wp_loop (fun a' w' => ∃ n, I n a' w') f ⟨μ x0, x0, ι, rfl, h3, r, EvN.of (Evolve.refl _ _ _)⟩ ?_
    intro a' w' hI
    obtain ⟨⟨x, ι', hm, hj, r', ev⟩, _⟩ := hf a' w' hI
    refine wp_mono (round x hj ι' a' w' r') ?_
    rintro e a2 w2 ⟨s2, ι2, q, r2, ev2⟩
    cases e with
    | normal =>
      obtain ⟨σ', y, hc, hj', hlt⟩ := q
      obtain ⟨r3, ev3⟩ := hc.apply r2
      have hi : I (μ y) a2 w2 := ⟨y, _, rfl, hj', r3, (ev.trans ev2).trans ev3⟩
      refine ⟨⟨_, hi⟩, ?_⟩
      have := (hf a2 w2 ⟨_, hi⟩).2 _ hi
      omega
    | _ => exact ⟨s2, ι2, q, r2, ev.trans ev2⟩
  intro ι a w r
  obtain ⟨r2, ev2⟩ := h0.apply r
  refine wp_mono (main _ a w r2) ?_
  rintro e a' w' ⟨s', ι', q, r', ev'⟩
  exact ⟨s', ι', q, r', ev2.trans ev'⟩

end

theorem PC.of_bodyV {P : Program} {f : FuncId} {fn : Func} {c : Code} {args : List V} {h : Heap} {R : V → Heap → Prop} (hf : P.funcs[f]? = some fn) (hb : fn.body = some c) (sl : List V)
    (e0 : args ++ List.replicate (fn.ntmps - args.length) (.v undef) = sl)
    (hp : ∀ K : Exit → St → Prop, (∀ (e : Exit) (s' : St) (x : V), (e = .normal ∨ e = .ret) → ares P fn.results.toList s'.sl s'.h = some x → R x s'.h → K e s') → PV h.length P c ⟨sl, h⟩ K) : PC P f args h R := by
  refine PC.of_bodyK hf hb sl e0 (fun K hK => ?_)
  intro ι a w r
  refine wp_mono (hp K hK ι a w r) ?_
  rintro e a' w' ⟨s', ι', q, r', ev⟩
  exact ⟨s', ι', q, r', ev.to r.heap⟩

/- lists that a function makes: nil as long as they are empty -/
def optS {α : Type} (id : Nat) (l : List α) : V := if l.isEmpty then .v (.slice none 0 0) else .sO id 0 l.length
def optH {α : Type} (sz : Nat) (f : α → List V) (e : TypeId) (l : List α) : HS := if l.isEmpty then .dead else .live ⟨sz, l.map f, e⟩

theorem optS_snoc {α : Type} (id : Nat) (l : List α) (x : α) : V.sO id 0 (l.length + 1) = optS id (l ++ [x]) := by simp [optS]
theorem optH_snoc {α : Type} (sz : Nat) (f : α → List V) (e : TypeId) (l : List α) (x : α) : HS.live ⟨sz, (l ++ [x]).map f, e⟩ = optH sz f e (l ++ [x]) := by simp [optH]
theorem NI_optS {α : Type} (n id : Nat) (l : List α) (h : id < n) : NI n (optS id l) := by unfold optS; split; exact .v _; exact .sO _ _ h

theorem leR_optS {α : Type} {σ : List Nat} {i j : Nat} (l : List α) (h : σ[j]? = some i) : leR σ (optS i l) (optS j l) := by unfold optS; split; exact .v _; exact .sO _ _ h
theorem leR_sOopt {α : Type} {σ : List Nat} {i j n : Nat} {l : List α} (h : σ[j]? = some i) (hn : n = l.length) (hl : l ≠ []) : leR σ (.sO i 0 n) (optS j l) := by
  subst hn
  have : optS j l = .sO j 0 l.length := by unfold optS; rw [if_neg (by simpa using hl)]
  rw [this]
  exact .sO _ _ h
theorem leRo_optH {α : Type} {σ : List Nat} {sz : Nat} {f : α → List V} {e : TypeId} (l : List α) (h : NIr 0 (l.map f)) : leRo σ (optH sz f e l) (optH sz f e l) := by unfold optH; split; exact .dead _; exact .tree h
theorem Tof.optS {τ : Nat → Option Nat} {k : Heap} {α : Type} {f : α → List V} {l l' : List α} {id sz : Nat} {e : TypeId} (hτ : τ id = none) (ho : k[id]? = some (optH sz f e l)) (hr : ∀ x, NIs 0 (f x)) (h : l = l') : Tof τ k (optS id l) (.sF sz (l'.map f)) := by
  subst h
  unfold Go.Abs.optS
  split
  · rename_i hl; exact Tof.nilMap (List.isEmpty_iff.1 hl)
  · rename_i hl
    rw [optH, if_neg hl] at ho
    exact Tof.sOmap hτ ho rfl hr rfl
theorem aLen_opt {α : Type} (P : Program) (h : Heap) (t e : TypeId) (ht : P.underlying t = some (.slice e)) (id : Nat) (l : List α) : aLen P h t (optS id l) = some (.v (.int .i64 (l.length : Int)), h) := by
  unfold optS
  split
  · rename_i hl
    rw [List.isEmpty_iff.1 hl]
    have e2 : pureRun P (Builtin.len_ #[t] 0 #[.slice none 0 0]) = some (.int .i64 0) := by
      simp [Builtin.len_, Go.underlying, ht, pureRun, bind, pure, program, Sem.bind, goInt]
    simp only [aLen, e2]
    rfl
  · simp [aLen, ht]

theorem aAppend_opt {α : Type} (P : Program) (h : Heap) (new : Nat) (h' : Heap) (tys : Array TypeId) (t0 t1 e : TypeId) (sz b : Nat) (zs : List V) (f : α → List V) (id : Nat) (l : List α) (y : V) (r : α)
    (ht : tys[0]? = some t0) (ht1 : tys[1]? = some t1) (hu : P.underlying t0 = some (.slice e)) (hs1 : isStrOrSlice P t1 = true) (hs : sizeT P e = some sz) (hb : bytesT P e = some b) (hz : zeroCellsV P e = some zs) (hzl : zs.length = sz)
    (ho : h[id]? = some (optH sz f e l)) (hy : rowsOf h sz y = some [f r]) (hk : (f r).all leafOk = true) (hh : halloc (h.set id .dead) new ⟨sz, (l ++ [r]).map f, e⟩ = some h') (hroom : (l.length + 1) * max b 1 ≤ 2 ^ 47) :
    aAppend P h new tys (optS id l) y = some (.sO new 0 (l.length + 1), h') := by
  have h1 : l.length + 1 ≤ 2 ^ 47 := Nat.le_trans (Nat.le_mul_of_pos_right _ (by omega)) hroom
  have h2 : (l.length + 1) * b ≤ 2 ^ 47 := Nat.le_trans (Nat.mul_le_mul_left _ (by omega)) hroom
  have hr : roomOk (l.length + 1) b = true := by simp [roomOk, h1, h2]
  have hidlt := get_lt ho
  simp only [aAppend, ht, ht1, hu, if_pos hs1, aAppendE, hs, hb, hz, hy, aAppendRows]
  by_cases hl : l.isEmpty = true
  · have e0 : l = [] := List.isEmpty_iff.1 hl
    subst e0
    simp [optH] at ho
    have hset : h.set id .dead = h := by
      rw [List.getElem?_eq_getElem hidlt] at ho; injection ho with ho
      rw [← ho, List.set_getElem_self]
    rw [hset] at hh
    have hz2 : zs.length = sz ∧ ([f r].all (·.all leafOk)) = true := ⟨hzl, by simp [hk]⟩
    simp only [optS, List.isEmpty_nil, List.isEmpty_cons, Bool.false_eq_true, if_false, if_true, if_pos hz2]
    rw [if_pos ⟨rfl, by simpa using hr⟩]
    have : halloc h new ⟨sz, [f r], e⟩ = some h' := by simpa using hh
    rw [this]
    rfl
  · simp only [optS, optH, if_neg hl] at ho ⊢
    have hz2 : zs.length = sz ∧ ([f r].all (·.all leafOk)) = true := ⟨hzl, by simp [hk]⟩
    simp only [List.isEmpty_cons, Bool.false_eq_true, if_false, if_pos hz2, ho]
    rw [if_pos ⟨trivial, trivial, by simp, by simpa using hr⟩]
    have : halloc (h.set id .dead) new ⟨sz, (List.drop 0 (l.map f)).take l.length ++ [f r], e⟩ = some h' := by
      rw [List.drop_zero, List.take_of_length_le (by simp)]
      simpa using hh
    rw [this]
    rfl

/-- No memory in it. -/
inductive Fl : V → Prop
  | v (x : Value) : Fl (.v x)
  | any : Fl .any
  | agg {xs : List V} : (∀ x, x ∈ xs → Fl x) → Fl (.agg xs)
  | tup {xs : List V} : (∀ x, x ∈ xs → Fl x) → Fl (.tup xs)
theorem Fl.rep {w w' : World} {ι ι' : Iota} {M M' : Nat → Prop} {x : V} {y : Value} (r : Rep w ι M x y) : Fl x → Rep w' ι' M' x y := by
  induction r with
  | v x => intro _; exact .v x
  | any x => intro _; exact .any x
  | pF => intro h; cases h
  | pO => intro h; cases h
  | sF => intro h; cases h
  | sN => intro h; cases h
  | sO => intro h; cases h
  | agg xs vs hl _ ih => intro h; cases h with | agg h => exact .agg xs vs hl (fun i h1 h2 => ih i h1 h2 (h _ (List.getElem_mem h1)))
  | tup xs vs hl _ ih => intro h; cases h with | tup h => exact .tup xs vs hl (fun i h1 h2 => ih i h1 h2 (h _ (List.getElem_mem h1)))
  | fn => intro h; cases h
  | ifc => intro h; cases h
theorem Fl_v (x : Value) : Fl (.v x) ↔ True := ⟨fun _ => trivial, fun _ => .v x⟩
theorem Fl_tup (xs : List V) : Fl (.tup xs) ↔ ∀ x, x ∈ xs → Fl x := ⟨fun h => by cases h; assumption, .tup⟩
theorem Fl_agg (xs : List V) : Fl (.agg xs) ↔ ∀ x, x ∈ xs → Fl x := ⟨fun h => by cases h; assumption, .agg⟩

/-- The places of nobody's objects. -/
def Iota.none (ι : Iota) : Iota := { at' := fun _ => Option.none, X := ι.X }
theorem mt_none {ι : Iota} {b : Nat} : Mt [] ι.none b → ι.X b := by
  rintro (q | ⟨id, o, l, q, _⟩)
  · exact q
  · simp at q
/-- In the heap k, y can be read as the tree x. -/
def RA (k : Heap) (y x : V) : Prop := ∀ (w : World) (ι : Iota) (z : Value), HRel k ι w → Rep w ι (Mt k ι) y z → Rep w ι.none (Mt [] ι.none) x z
inductive RAs (k : Heap) : List V → List V → Prop
  | nil : RAs k [] []
  | v {x : Value} {ys xs : List V} : RAs k ys xs → RAs k (.v x :: ys) (.v x :: xs)
  | cons {y x : V} {ys xs : List V} : RA k y x → RAs k ys xs → RAs k (y :: ys) (x :: xs)
inductive RAr (k : Heap) : List (List V) → List (List V) → Prop
  | nil : RAr k [] []
  | cons {y x : List V} {ys xs : List (List V)} : RAs k y x → RAr k ys xs → RAr k (y :: ys) (x :: xs)
theorem RA.tree {k : Heap} {x : V} (h : NI 0 x) : RA k x x := fun w ι z _ r => r.free (fun b q => .inl (mt_none q)) h
theorem RA.nil {k : Heap} {sz : Nat} : RA k (.v (.slice none 0 0)) (.sF sz []) := fun w ι z _ r => by cases r; exact .sN sz
theorem RAs.len {k : Heap} {ys xs : List V} (h : RAs k ys xs) : ys.length = xs.length := by
  induction h with
  | nil => rfl
  | v _ ih => simp [ih]
  | cons _ _ ih => simp [ih]
theorem RAs.get {k : Heap} {ys xs : List V} (h : RAs k ys xs) : ∀ (i : Nat) (x : V), xs[i]? = some x → ∃ y, ys[i]? = some y ∧ RA k y x := by
  induction h with
  | nil => intro i x h; simp at h
  | v _ ih =>
    intro i x h
    cases i with
    | zero => simp at h; subst h; exact ⟨_, rfl, RA.tree (.v _)⟩
    | succ i => simpa using ih i x (by simpa using h)
  | cons h1 _ ih =>
    intro i x h
    cases i with
    | zero => simp at h; subst h; exact ⟨_, rfl, h1⟩
    | succ i => simpa using ih i x (by simpa using h)
theorem RAs.refl {k : Heap} : ∀ {xs : List V}, NIs 0 xs → RAs k xs xs
  | [], _ => .nil
  | x :: xs, h => .cons (RA.tree (h x (List.mem_cons_self ..))) (RAs.refl fun y hy => h y (List.mem_cons_of_mem _ hy))
theorem RAr.refl {k : Heap} : ∀ {xs : List (List V)}, NIr 0 xs → RAr k xs xs
  | [], _ => .nil
  | x :: xs, h => .cons (RAs.refl (h x (List.mem_cons_self ..))) (RAr.refl fun y hy => h y (List.mem_cons_of_mem _ hy))
theorem RAr.len {k : Heap} {ys xs : List (List V)} (h : RAr k ys xs) : ys.length = xs.length := by
  induction h with
  | nil => rfl
  | cons _ _ ih => simp [ih]
theorem RAr.get {k : Heap} {ys xs : List (List V)} (h : RAr k ys xs) : ∀ (i : Nat) (x : List V), xs[i]? = some x → ∃ y, ys[i]? = some y ∧ RAs k y x := by
  induction h with
  | nil => intro i x h; simp at h
  | cons h1 _ ih =>
    intro i x h
    cases i with
    | zero => simp at h; subst h; exact ⟨_, rfl, h1⟩
    | succ i => simpa using ih i x (by simpa using h)
theorem RA.agg {k : Heap} {ys xs : List V} (h : RAs k ys xs) : RA k (.agg ys) (.agg xs) := by
  intro w ι z H r
  cases r with
  | agg _ vs hl hr =>
    refine .agg _ vs (h.len.symm.trans hl) (fun i h1 h2 => ?_)
    obtain ⟨y, y1, y2⟩ := h.get i _ (List.getElem?_eq_getElem h1)
    have hi := get_lt y1
    rw [List.getElem?_eq_getElem hi] at y1; injection y1 with y1
    exact y2 w ι _ H (y1 ▸ hr i hi h2)
theorem RA.sO {k : Heap} {id sz : Nat} {rows rows' : List (List V)} {e : TypeId} {len : Nat} (ho : k[id]? = some (.live ⟨sz, rows, e⟩)) (hl : len = rows.length) (hr : RAr k rows rows') : RA k (.sO id 0 len) (.sF sz rows') := by
  intro w ι z H r
  subst hl
  cases r with
  | sO _ _ _ cap l2 c2 e2 fr2 hl hcap hb hsz =>
    obtain ⟨l, c, fr, h1, la⟩ := H.live id _ ho
    rw [h1] at hl; injection hl with hl; subst hl
    have hls : l.sz = sz := la.sz
    have hblk : l.blk < w.heap.size := H.blk_lt ⟨id, _, l, ho, h1, rfl⟩
    have hnot : ¬ Mt [] ι.none l.blk := fun q => H.xob _ (mt_none q) ⟨id, _, l, ho, h1, rfl⟩
    have hcell : ∀ i, (hi : i < rows'.length) → ∀ j, (hj : j < rows'[i].length) → ∃ x, c[l.base + i * sz + j]? = some x ∧ Rep w ι.none (Mt [] ι.none) rows'[i][j] x := by
      intro i hi j hj
      obtain ⟨row, r1, r2⟩ := hr.get i _ (List.getElem?_eq_getElem hi)
      obtain ⟨y, y1, y2⟩ := r2.get j _ (List.getElem?_eq_getElem hj)
      have hi0 := get_lt r1
      rw [List.getElem?_eq_getElem hi0] at r1; injection r1 with r1
      subst r1
      have hj0 := get_lt y1
      rw [List.getElem?_eq_getElem hj0] at y1; injection y1 with y1
      obtain ⟨x, x1, x2⟩ := la.reads i hi0 j hj0
      exact ⟨x, x1, y2 w ι _ H (y1 ▸ x2)⟩
    have hch2 : ∃ cells : Nat → Nat → Value, ∀ i, (hi : i < rows'.length) → ∀ j, (hj : j < rows'[i].length) → c[l.base + i * sz + j]? = some (cells i j) ∧ Rep w ι.none (Mt [] ι.none) rows'[i][j] (cells i j) := by
      refine ⟨fun i j => if h : ∃ (hi : i < rows'.length) (hj : j < rows'[i].length), True then Classical.choose (hcell i h.1 j h.2.1) else undef, fun i hi j hj => ?_⟩
      have hx : ∃ (hi : i < rows'.length) (hj : j < rows'[i].length), True := ⟨hi, hj, trivial⟩
      simp only [dif_pos hx]
      exact Classical.choose_spec (hcell i hi j hj)
    obtain ⟨cells, hcells⟩ := hch2
    have hlr := hr.len
    rw [hlr]
    refine .sF sz rows' ⟨l.blk, l.base + 0 * l.sz, Option.none⟩ cap cells (fun _ => ⟨rfl, hblk, hnot⟩) (hlr ▸ hcap) (fun r' hr' => ?_) (fun i hi j hj => ?_) (fun i hi j hj => (hcells i hi j hj).2)
    · obtain ⟨i, hi, e⟩ := List.getElem_of_mem hr'
      obtain ⟨row, r1, r2⟩ := hr.get i _ (List.getElem?_eq_getElem hi)
      rw [← e, ← r2.len]
      exact la.rows row (get_mem r1)
    · have := (hcells i hi j hj).1
      simp only [World.cell?, la.blk, Nat.zero_mul, Nat.add_zero]
      simpa using this
theorem RA.sOmap {k : Heap} {α : Type} {f : α → List V} {l : List α} {id len sz : Nat} {e : TypeId} (ho : k[id]? = some (.live ⟨sz, l.map f, e⟩)) (hl : len = l.length) (hr : ∀ x, NIs 0 (f x)) : RA k (.sO id 0 len) (.sF sz (l.map f)) :=
  RA.sO ho (by simpa using hl) (RAr.refl ((NIr_map 0 f l hr).2 trivial))
theorem RA.optS {k : Heap} {α : Type} {f : α → List V} {l : List α} {id sz : Nat} {e : TypeId} (ho : k[id]? = some (optH sz f e l)) (hr : ∀ x, NIs 0 (f x)) : RA k (optS id l) (.sF sz (l.map f)) := by
  unfold Go.Abs.optS
  split
  · rename_i hl; rw [List.isEmpty_iff.1 hl]; exact RA.nil
  · rename_i hl
    rw [optH, if_neg hl] at ho
    exact RA.sOmap ho rfl hr

/-- A contract over trees serves a call whose arguments are objects of the caller: the callee reads them and writes none of them. -/
theorem PCX.read {P : Program} {f : FuncId} {args args0 : List V} {pre : List (Nat × HS)} {x : V} (hx : Fl x) (hc : PCX P f args0 [] [] x)
    (ha : ∀ k : Heap, (∀ p, p ∈ pre → k[p.1]? = some p.2) → RAs k args args0) : PCX P f args pre [] x := by
  refine ⟨fun p hp => by simp at hp, fun k hk => ?_⟩
  have hargs := ha k hk
  intro ι w vals hp H
  have hob0 : ∀ b, ¬ Ob [] ι.none b := by rintro b ⟨id, o, l, q, _⟩; simp at q
  have H0 : HRel [] ι.none w := ⟨fun id o h => by simp at h, fun id h => by simp at h, fun id _ => rfl, fun id o l id' o' l' h => by simp at h, H.xlt, fun b _ => hob0 b⟩
  have hp0 : PW2 w ι.none (Mt [] ι.none) args0 vals := by
    refine ⟨hargs.len.symm.trans hp.1, fun i x hx => ?_⟩
    obtain ⟨x1, h1, h2⟩ := hargs.get i x hx
    obtain ⟨y, y1, y2⟩ := hp.2 i x1 h1
    exact ⟨y, y1, h2 w ι _ H y2⟩
  refine ((hc.use []) ι.none w vals hp0 H0).mono ?_
  rintro e w' ⟨y, _, _, ι', rfl, ⟨rfl, rfl⟩, ry, H', ev⟩
  have ev' : Evolve k ι w k ι w' := ⟨ev.os, ev.tape, ev.output, ev.size, fun _ _ q => q, rfl, fun b hb q => ⟨(ev.frame b hb (hob0 b)).1, q⟩, ev.sizes⟩
  refine ⟨y, _, k, ι, rfl, ⟨rfl, rfl⟩, ?_, ?_, ev'⟩
  · exact Fl.rep ry hx
  · refine ⟨fun id o ho => ?_, H.free, H.out, H.apart, fun b hb => Nat.lt_of_lt_of_le (H.xlt b hb) ev.size, H.xob⟩
    obtain ⟨l, c, fr, h1, la⟩ := H.live id o ho
    have hb := H.blk_lt ⟨id, o, l, ho, h1, rfl⟩
    exact ⟨l, c, fr, h1, ⟨((ev.frame _ hb (hob0 _)).1).trans la.blk, la.unfrozen, la.sz, la.rows, la.fits, fun i hi j hj => let ⟨u, u1, u2⟩ := la.reads i hi j hj; ⟨u, u1, u2.mono ev'⟩⟩⟩

/-- A contract of a function that makes one object and returns its place: wherever that is. -/
def PCA (P : Program) (f : FuncId) (args : List V) (o : AObj) : Prop :=
  ∀ (h : Heap) (new : Nat) (h' : Heap), halloc h new o = some h' → PC P f args h (fun y k' => y = .pO new 0 0 ∧ k' = h')

theorem DRG.callA {P : Program} {ops : Array Oper} {base k : Nat} {s : St} {Q : St → List (List Nat × List Nat) → Prop} (f : FuncId) (args : List V) (d : Option Tmp) {o : AObj} (s' : St) (e : callAt P ops k s = some (f, args, d)) (hc : PCA P f args o)
    (hf : s.h[base + k]? = some .free) (e' : (⟨sput s.sl d (.pO (base + k) 0 0), s.h.set (base + k) (.live o)⟩ : St) = s') (hr : DRG P ops base (k + 1) s' (fun s2 fs => Q s2 (([base + k], [base + k]) :: fs))) : DRG P ops base k s Q := by
  obtain ⟨op, ho, hw, hop, hcall, rfl⟩ := callAt_spec e
  subst e'
  refine DRG.step ho ⟨s.sl, [(base + k, some .free)], .pO (base + k) 0 0, [(base + k, .live o)]⟩ ([base + k], [base + k]) rfl (fun p hp' => ?_) ?_ (fun q hq => by simpa using hq) (fun q hq => by simpa using hq) hr
  · simp at hp'; subst hp'; exact hf
  · intro t ag ah
    have hcong := agreeS_eval ag
    refine wo_call ho (by rw [agreeS_wanted ag]; exact hw) (by rw [callOf_congr hcong]; exact hop) hcall ?_
    have ht : t.h[base + k]? = some .free := ah (base + k, some .free) (by simp)
    exact hc t.h (base + k) _ (by simp only [halloc, ht]; rfl)

theorem PON.callA {P : Program} {ops : Array Oper} {k : Nat} {s : St} {Q : St → Prop} (f : FuncId) (args : List V) (d : Option Tmp) {o : AObj} (s' : St) (e : callAt P ops k s = some (f, args, d)) (hc : PCA P f args o)
    (e' : (⟨sput s.sl d (.pO s.h.length 0 0), s.h ++ [.live o]⟩ : St) = s') (hr : PON P ops (k + 1) s' Q) : PON P ops k s Q := by
  refine PON.callR e (hc s.h s.h.length _ (show halloc s.h s.h.length o = some (s.h ++ [.live o]) by simp [halloc])) ?_
  rintro _ _ ⟨rfl, rfl⟩
  rw [e']; exact hr

theorem PON.oneN {P : Program} {ops : Array Oper} {k : Nat} {s : St} {Q : St → Prop} (new : Nat) {s' : St} (e : opAt P ops k new s = some s') (hr : PON P ops (k + 1) s' Q) : PON P ops k s Q := by
  have hk := opAt_lt e
  unfold PON at *
  rw [show ops.size - k = (ops.size - (k + 1)) + 1 by omega, List.range'_succ]
  unfold opAt at e
  split at e
  · rename_i o ho
    split at e
    · rename_i hw
      split at e
      · rename_i x h' hx
        injection e with e; subst e
        exact PO.op new ho hw hx hr
      · cases e
    · rename_i hw
      injection e with e; subst e
      exact PO.no ho hw hr
    · cases e
  · cases e

/- freezing an object in place -/
mutual
/-- The first one's references to the object id are replaced by its rows. -/
inductive frzV (p q : V) : V → V → Prop
  | same {x : V} : frzV p q x x
  | it : frzV p q p q
  | agg {xs ys : List V} : frzVs p q xs ys → frzV p q (.agg xs) (.agg ys)
inductive frzVs (p q : V) : List V → List V → Prop
  | nil : frzVs p q [] []
  | same {x : V} {xs ys : List V} : frzVs p q xs ys → frzVs p q (x :: xs) (x :: ys)
  | cons {x y : V} {xs ys : List V} : frzV p q x y → frzVs p q xs ys → frzVs p q (x :: xs) (y :: ys)
end
theorem frzVs.len {p q : V} : ∀ {xs ys : List V}, frzVs p q xs ys → xs.length = ys.length
  | _, _, .nil => rfl
  | _, _, .same h => congrArg (· + 1) h.len
  | _, _, .cons _ h => congrArg (· + 1) h.len
mutual
theorem frzV.rep {w : World} {ι : Iota} {M : Nat → Prop} {p q : V} (hs : ∀ {y : Value}, Rep w ι M p y → Rep w ι M q y) : ∀ {x y : V}, frzV p q x y → ∀ {z : Value}, Rep w ι M x z → Rep w ι M y z
  | _, _, .same, z, r => r
  | _, _, .it, z, r => hs r
  | _, _, .agg h, z, r => by
    cases r with
    | agg _ vs hl hr => exact .agg _ vs (by rw [← h.len]; exact hl) (fun i h1 h2 => (h.rep hs i (by rw [h.len]; exact h1) h1).2 (hr i (by rw [h.len]; exact h1) h2))
theorem frzVs.rep {w : World} {ι : Iota} {M : Nat → Prop} {p q : V} (hs : ∀ {y : Value}, Rep w ι M p y → Rep w ι M q y) : ∀ {xs ys : List V}, frzVs p q xs ys → ∀ (i : Nat) (h1 : i < xs.length) (h2 : i < ys.length), True ∧ (∀ {z : Value}, Rep w ι M xs[i] z → Rep w ι M ys[i] z)
  | _, _, .nil, i, h1, h2 => by simp at h1
  | _, _, .same h, 0, h1, h2 => ⟨trivial, fun {z} r => r⟩
  | _, _, .cons u h, 0, h1, h2 => ⟨trivial, fun {z} r => u.rep hs r⟩
  | _, _, .same h, i + 1, h1, h2 => by simpa using h.rep hs i (by simpa using h1) (by simpa using h2)
  | _, _, .cons u h, i + 1, h1, h2 => by simpa using h.rep hs i (by simpa using h1) (by simpa using h2)
end

theorem freezeSR {s : St} {ι : Iota} {a : Act} {w : World} (r : SR s ι a w) {id sz : Nat} {rows : List (List V)} {e : TypeId} (ho : s.h[id]? = some (.live ⟨sz, rows, e⟩)) (hr : NIr 0 rows) {sl : List V} (hs : frzVs (.sO id 0 rows.length) (.sF sz rows) s.sl sl) :
    SR ⟨sl, s.h.set id .dead⟩ ι a w ∧ Evolve s.h ι w (s.h.set id .dead) ι w := by
  obtain ⟨H1, ev⟩ := HRel.kill r.heap ho
  obtain ⟨l, c, fr, h1, la⟩ := r.heap.live id _ ho
  have hidlt := get_lt ho
  have hnot : ¬ Mt (s.h.set id .dead) ι l.blk := by
    rintro (q | ⟨k, o', l', k1, k2, k3⟩)
    · exact r.heap.xob _ q ⟨id, _, l, ho, h1, rfl⟩
    · have hk : k ≠ id := by intro q; subst q; rw [List.getElem?_set_self hidlt] at k1; cases k1
      rw [List.getElem?_set_ne (Ne.symm hk)] at k1
      exact hk (r.heap.apart _ _ _ _ _ _ k1 k2 ho h1 k3)
  have hsO : ∀ {y : Value}, Rep w ι (Mt (s.h.set id .dead) ι) (.sO id 0 rows.length) y → Rep w ι (Mt (s.h.set id .dead) ι) (.sF sz rows) y := by
    intro y ry
    cases ry with
    | sO _ _ _ cap l2 c2 e2 fr2 hl hcap hb hsz =>
      rw [h1] at hl; injection hl with hl; subst hl
      have hls : l.sz = sz := la.sz
      have hblk : l.blk < w.heap.size := r.heap.blk_lt ⟨id, _, l, ho, h1, rfl⟩
      have hch : ∀ i, (hi : i < rows.length) → ∀ j, (hj : j < rows[i].length) → ∃ x, c[l.base + i * sz + j]? = some x ∧ Rep w ι (Mt s.h ι) rows[i][j] x := la.reads
      have hch2 : ∃ cells : Nat → Nat → Value, ∀ i, (hi : i < rows.length) → ∀ j, (hj : j < rows[i].length) → c[l.base + i * sz + j]? = some (cells i j) ∧ Rep w ι (Mt s.h ι) rows[i][j] (cells i j) := by
        refine ⟨fun i j => if h : ∃ (hi : i < rows.length) (hj : j < rows[i].length), True then Classical.choose (hch i h.1 j h.2.1) else undef, fun i hi j hj => ?_⟩
        have hx : ∃ (hi : i < rows.length) (hj : j < rows[i].length), True := ⟨hi, hj, trivial⟩
        simp only [dif_pos hx]
        exact Classical.choose_spec (hch i hi j hj)
      obtain ⟨cells, hcells⟩ := hch2
      refine .sF sz rows ⟨l.blk, l.base + 0 * l.sz, none⟩ cap cells (fun _ => ⟨rfl, hblk, hnot⟩) hcap (fun r' hr' => la.rows r' hr') (fun i hi j hj => ?_) (fun i hi j hj => ?_)
      · have := (hcells i hi j hj).1
        simp only [World.cell?, la.blk]
        simp only [Nat.zero_mul, Nat.add_zero]
        simpa using this
      · exact ((hcells i hi j hj).2.mono ev)
  refine ⟨⟨r.defers, ⟨r.slots.1.trans hs.len, fun i y hy => ?_⟩, H1⟩, ev⟩
  have h2 := get_lt hy
  have h0 : i < s.sl.length := by rw [hs.len]; exact h2
  rw [List.getElem?_eq_getElem h2] at hy; injection hy with hy; subst hy
  obtain ⟨z, z1, z2⟩ := r.slots.2 i _ (List.getElem?_eq_getElem h0)
  exact ⟨z, z1, (hs.rep hsO i h0 h2).2 (z2.mono ev)⟩

theorem PON.freeze {P : Program} {ops : Array Oper} {Q : St → Prop} {k : Nat} {s : St} (id : Nat) {sz : Nat} {rows : List (List V)} {e : TypeId} (s' : St) (ho : s.h[id]? = some (.live ⟨sz, rows, e⟩)) (hr : NIr 0 rows)
    (hs : frzVs (.sO id 0 rows.length) (.sF sz rows) s.sl s'.sl) (hh : s.h.set id .dead = s'.h) (hp : PON P ops k s' Q) : PON P ops k s Q := by
  intro ι a w r
  obtain ⟨r1, ev⟩ := freezeSR r ho hr hs
  have e0 : (⟨s'.sl, s.h.set id .dead⟩ : St) = s' := by rw [hh]
  rw [e0] at r1
  rw [hh] at ev
  refine wpOps_mono ?_ _ _ _ (hp ι a w r1)
  rintro e a' w' ⟨s2, ι2, q, r2, ev2⟩
  exact ⟨s2, ι2, q, r2, Evolve.trans ev ev2⟩

theorem PON.freezeL {P : Program} {ops : Array Oper} {Q : St → Prop} {k : Nat} {s : St} (id : Nat) {len sz : Nat} {rows : List (List V)} (hl : len = rows.length) {e : TypeId} (s' : St) (ho : s.h[id]? = some (.live ⟨sz, rows, e⟩)) (hr : NIr 0 rows)
    (hs : frzVs (.sO id 0 len) (.sF sz rows) s.sl s'.sl) (hh : s.h.set id .dead = s'.h) (hp : PON P ops k s' Q) : PON P ops k s Q := by
  subst hl
  exact PON.freeze id s' ho hr hs hh hp

theorem PON.freezeO {P : Program} {ops : Array Oper} {Q : St → Prop} {k : Nat} {s : St} {α : Type} (id : Nat) {sz : Nat} {f : α → List V} {e : TypeId} (l : List α) (s' : St) (ho : s.h[id]? = some (optH sz f e l)) (hr : NIr 0 (l.map f))
    (hs : frzVs (optS id l) (.sF sz (l.map f)) s.sl s'.sl) (hh : s.h.set id .dead = s'.h) (hp : PON P ops k s' Q) : PON P ops k s Q := by
  by_cases hl : l.isEmpty = true
  · have e0 : l = [] := List.isEmpty_iff.1 hl
    subst e0
    simp only [optS, optH, List.isEmpty_nil, if_true, List.map_nil] at ho hs
    have hidlt := get_lt ho
    have hset : s.h.set id .dead = s.h := by
      rw [List.getElem?_eq_getElem hidlt] at ho; injection ho with ho
      rw [← ho, List.set_getElem_self]
    rw [hset] at hh
    intro ι a w r
    have hn : ∀ {y : Value}, Rep w ι (Mt s.h ι) (.v (.slice none 0 0)) y → Rep w ι (Mt s.h ι) (.sF sz []) y := by intro y ry; cases ry; exact .sN sz
    have r1 : SR ⟨s'.sl, s.h⟩ ι a w := by
      refine ⟨r.defers, ⟨r.slots.1.trans hs.len, fun i y hy => ?_⟩, r.heap⟩
      have h2 := get_lt hy
      have h0 : i < s.sl.length := by rw [hs.len]; exact h2
      rw [List.getElem?_eq_getElem h2] at hy; injection hy with hy; subst hy
      obtain ⟨z, z1, z2⟩ := r.slots.2 i _ (List.getElem?_eq_getElem h0)
      exact ⟨z, z1, (hs.rep hn i h0 h2).2 z2⟩
    have e0 : (⟨s'.sl, s.h⟩ : St) = s' := by rw [hh]
    rw [e0] at r1
    refine wpOps_mono ?_ _ _ _ (hp ι a w r1)
    rintro e a' w' ⟨s2, ι2, q, r2, ev2⟩
    exact ⟨s2, ι2, q, r2, by rw [hh]; exact ev2⟩
  · simp only [optS, optH, if_neg hl] at ho hs
    refine PON.freeze id s' ho hr ?_ hh hp
    simpa using hs

end Go.Abs
