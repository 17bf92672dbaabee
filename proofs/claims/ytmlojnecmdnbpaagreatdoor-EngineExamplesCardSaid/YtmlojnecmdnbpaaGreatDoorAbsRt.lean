/- A call sees the objects that it can reach, and no others. -/
import Derived.Test.YtmlojnecmdnbpaaGreatDoorAbsZc
namespace Go.Abs
set_option linter.unusedVariables false
set_option linter.unusedSimpArgs false

/-- All references go into p. -/
inductive RI (p : Nat → Bool) : V → Prop
  | v (x : Value) : RI p (.v x)
  | any : RI p .any
  | pO {id : Nat} (row off : Nat) : p id = true → RI p (.pO id row off)
  | sO {id : Nat} (off len : Nat) : p id = true → RI p (.sO id off len)
  | pF {row : List V} (off : Nat) : (∀ x, x ∈ row → RI p x) → RI p (.pF row off)
  | sF (sz : Nat) {rows : List (List V)} : (∀ r, r ∈ rows → ∀ x, x ∈ r → RI p x) → RI p (.sF sz rows)
  | agg {xs : List V} : (∀ x, x ∈ xs → RI p x) → RI p (.agg xs)
  | tup {xs : List V} : (∀ x, x ∈ xs → RI p x) → RI p (.tup xs)
  | fn {f : Fn} {a b : List V} : (∀ x, x ∈ a → RI p x) → (∀ x, x ∈ b → RI p x) → RI p (.fn f a b)
  | ifc {t : TypeId} {x : V} : RI p x → RI p (.ifc t x)
def ri (p : Nat → Bool) : Nat → V → Bool
  | 0, _ => false
  | n + 1, x => match x with
    | .v _ => true
    | .any => true
    | .pO id _ _ => p id
    | .sO id _ _ => p id
    | .pF row _ => row.all (ri p n)
    | .sF _ rows => rows.all fun r => r.all (ri p n)
    | .agg xs => xs.all (ri p n)
    | .tup xs => xs.all (ri p n)
    | .fn _ a b => a.all (ri p n) && b.all (ri p n)
    | .ifc _ x => ri p n x
    | _ => false
theorem ri_ok {p : Nat → Bool} : ∀ {n : Nat} {x : V}, ri p n x = true → RI p x
  | 0, _, h => by cases h
  | n + 1, x, h => by
    have l : ∀ {xs : List V}, xs.all (ri p n) = true → ∀ x, x ∈ xs → RI p x := fun h x hx => ri_ok (List.all_eq_true.1 h x hx)
    cases x with
    | v y => exact .v y
    | any => exact .any
    | pO id r o => exact .pO r o h
    | sO id r o => exact .sO r o h
    | pF row o => exact .pF o (l h)
    | sF sz rows => exact .sF sz fun r hr => l (List.all_eq_true.1 (show rows.all (fun r => r.all (ri p n)) = true from h) r hr)
    | agg xs => exact .agg (l h)
    | tup xs => exact .tup (l h)
    | fn f a b => obtain ⟨h1, h2⟩ := Bool.and_eq_true_iff.1 (show (a.all (ri p n) && b.all (ri p n)) = true from h); exact .fn (l h1) (l h2)
    | ifc t x => exact .ifc (ri_ok (n := n) h)
    | sL t l => cases h
    | oL i m => cases h
theorem Rep.cutI {w : World} {p : Nat → Bool} {ι ι0 : Iota} {M M0 : Nat → Prop} (hi : ∀ id l, p id = true → ι id = some l → ι0 id = some l) (hM : ∀ b, M0 b → M b) : ∀ {x : V} {y : Value}, Rep w ι M x y → RI p x → Rep w ι0 M0 x y := by
  intro x y r
  induction r with
  | v x => intro _; exact .v x
  | any x => intro _; exact .any x
  | pF row off b o cells hb hm hc _ ih => intro h; cases h with | pF _ h => exact .pF row off b o cells hb (fun q => hm (hM _ q)) hc (fun j hj => ih j hj (h _ (List.getElem_mem hj)))
  | pO id row off l hl => intro h; cases h with | pO _ _ h => exact .pO id row off l (hi _ _ h hl)
  | sF sz rows a cap cells hb hcap hr hc _ ih => intro h; cases h with | sF _ h => exact .sF sz rows a cap cells (fun hne => ⟨(hb hne).1, (hb hne).2.1, fun q => (hb hne).2.2 (hM _ q)⟩) hcap hr hc (fun i hi j hj => ih i hi j hj (h _ (List.getElem_mem hi) _ (List.getElem_mem hj)))
  | sN sz => intro _; exact .sN sz
  | sO id off len cap l c e fr hl hcap hb hs => intro h; cases h with | sO _ _ h => exact .sO id off len cap l c e fr (hi _ _ h hl) hcap hb hs
  | agg xs vs hl _ ih => intro h; cases h with | agg h => exact .agg xs vs hl (fun i h1 h2 => ih i h1 h2 (h _ (List.getElem_mem h1)))
  | tup xs vs hl _ ih => intro h; cases h with | tup h => exact .tup xs vs hl (fun i h1 h2 => ih i h1 h2 (h _ (List.getElem_mem h1)))
  | fn f a b vs us h1 h2 _ _ ih1 ih2 => intro h; cases h with | fn ha hb => exact .fn f a b vs us h1 h2 (fun i q1 q2 => ih1 i q1 q2 (ha _ (List.getElem_mem q1))) (fun i q1 q2 => ih2 i q1 q2 (hb _ (List.getElem_mem q1)))
  | ifc t x y _ ih => intro h; cases h with | ifc h => exact .ifc t x y (ih h)
  | sL t l y _ ih => intro h; cases h
  | oL id m y _ ih => intro h; cases h
theorem Rep.wideI {w : World} {ι ι2 : Iota} {M M2 : Nat → Prop} (hi : ∀ id l, ι id = some l → ι2 id = some l) (hM : ∀ b, M2 b → M b) : ∀ {x : V} {y : Value}, Rep w ι M x y → Rep w ι2 M2 x y := by
  intro x y r
  induction r with
  | v x => exact .v x
  | any x => exact .any x
  | pF row off b o cells hb hm hc _ ih => exact .pF row off b o cells hb (fun q => hm (hM _ q)) hc ih
  | pO id row off l hl => exact .pO id row off l (hi _ _ hl)
  | sF sz rows a cap cells hb hcap hr hc _ ih => exact .sF sz rows a cap cells (fun hne => ⟨(hb hne).1, (hb hne).2.1, fun q => (hb hne).2.2 (hM _ q)⟩) hcap hr hc ih
  | sN sz => exact .sN sz
  | sO id off len cap l c e fr hl hcap hb hs => exact .sO id off len cap l c e fr (hi _ _ hl) hcap hb hs
  | agg xs vs hl _ ih => exact .agg xs vs hl ih
  | tup xs vs hl _ ih => exact .tup xs vs hl ih
  | fn f a b vs us h1 h2 _ _ ih1 ih2 => exact .fn f a b vs us h1 h2 ih1 ih2
  | ifc t x y _ ih => exact .ifc t x y ih
  | sL t l y _ ih => exact .sL t l y ih
  | oL id m y _ ih => exact .oL id m y ih

theorem PC.ext {P : Program} {f : FuncId} {args : List V} {x0 : V} {S T : Nat → Bool} {h0 h1 k K : Heap}
    (hlK : K.length = k.length)
    (hargs : ∀ x, x ∈ args → RI S x) (hrows : ∀ (id : Nat) (o : AObj), h0[id]? = some (.live o) → ∀ r, r ∈ o.rows → ∀ x, x ∈ r → RI S x)
    (hS0 : ∀ (id : Nat) (o : AObj), S id = false → h0[id]? ≠ some (.live o)) (hk : ∀ id, S id = true → k[id]? = h0[id]?)
    (hST : ∀ id, S id = true → T id = true) (hT1 : ∀ id, T id = false → h1[id]? = some .free ∨ h1[id]? = none) (hT2 : ∀ id, T id = true → S id = false → k[id]? = some .free ∨ k[id]? = none)
    (hK : ∀ id, K[id]? = if T id = true then h1[id]? else k[id]?)
    (hc : PC P f args h0 (fun y k' => y = x0 ∧ k' = h1)) : PC P f args k (fun y k' => y = x0 ∧ k' = K) := by
  intro ι w vals hp HR
  let ι0 : Iota := { at' := fun id => if S id = true then ι id else none, X := fun b => ι.X b ∨ ∃ id o l, S id = false ∧ k[id]? = some (.live o) ∧ ι id = some l ∧ l.blk = b }
  have i0 : ∀ id, ι0 id = if S id = true then ι id else none := fun _ => rfl
  have i0s : ∀ id, S id = true → ι0 id = ι id := fun id h => by rw [i0, if_pos h]
  have i0n : ∀ id, S id = false → ι0 id = none := fun id h => by rw [i0, if_neg (by rw [h]; simp)]
  have ob0 : ∀ b, Ob h0 ι0 b → Ob k ι b := by
    rintro b ⟨id, o, l, q1, q2, q3⟩
    cases hs : S id with
    | true => exact ⟨id, o, l, by rw [hk id hs]; exact q1, by rw [← i0s id hs]; exact q2, q3⟩
    | false => exact (hS0 id o hs q1).elim
  have mt0 : ∀ b, Mt h0 ι0 b → Mt k ι b := by
    rintro b ((q | ⟨id, o, l, _, q1, q2, q3⟩) | q)
    · exact .inl q
    · exact .inr ⟨id, o, l, q1, q2, q3⟩
    · exact .inr (ob0 b q)
  have H0 : HRel h0 ι0 w := by
    refine ⟨fun id o ho => ?_, fun id ho => ?_, fun id ho => ?_, fun id o l id' o' l' a1 a2 b1 b2 hb => ?_, fun b hb => ?_, fun b hb q => ?_⟩
    · cases hs : S id with
      | false => exact (hS0 id o hs ho).elim
      | true =>
        obtain ⟨l, c, fr, q1, la⟩ := HR.live id o (by rw [hk id hs]; exact ho)
        refine ⟨l, c, fr, by rw [i0s id hs]; exact q1, la.blk, la.unfrozen, la.sz, la.rows, la.fits, fun i hi j hj => ?_⟩
        obtain ⟨y, g1, g2⟩ := la.reads i hi j hj
        exact ⟨y, g1, g2.cutI (p := S) (fun id l h e => by rw [i0s id h]; exact e) mt0 (hrows id o ho _ (List.getElem_mem hi) _ (List.getElem_mem hj))⟩
    · cases hs : S id with
      | false => exact i0n id hs
      | true => rw [i0s id hs]; exact HR.free id (by rw [hk id hs]; exact ho)
    · cases hs : S id with
      | false => exact i0n id hs
      | true => rw [i0s id hs]; exact HR.out id (List.getElem?_eq_none_iff.1 (by rw [hk id hs]; exact List.getElem?_eq_none_iff.2 ho))
    · have sid : ∀ {id : Nat} {l : Loc}, ι0 id = some l → S id = true ∧ ι id = some l := by
        intro id l e
        cases hs : S id with
        | true => exact ⟨rfl, by rw [← i0s id hs]; exact e⟩
        | false => rw [i0n id hs] at e; cases e
      obtain ⟨s1, e1⟩ := sid a2
      obtain ⟨s2, e2⟩ := sid b2
      exact HR.apart id o l id' o' l' (by rw [hk id s1]; exact a1) e1 (by rw [hk id' s2]; exact b1) e2 hb
    · rcases hb with q | ⟨id, o, l, _, q1, q2, q3⟩
      · exact HR.xlt b q
      · obtain ⟨l', c, fr, g1, la⟩ := HR.live id o q1
        rw [q2] at g1; injection g1 with g1; subst g1
        rw [← q3]; exact (Array.getElem?_eq_some_iff.1 la.blk).1
    · rcases hb with q' | ⟨id, o, l, s1, q1, q2, q3⟩
      · exact HR.xob b q' (ob0 b q)
      · obtain ⟨id', o', l', g1, g2, g3⟩ := q
        cases hs : S id' with
        | false => exact hS0 id' o' hs g1
        | true =>
          rw [i0s id' hs] at g2
          have := HR.apart id o l id' o' l' q1 q2 (by rw [hk id' hs]; exact g1) g2 (q3.trans g3.symm)
          subst this
          rw [hs] at s1; cases s1
  refine (hc ι0 w vals ⟨hp.1, fun i x hx => let ⟨y, y1, y2⟩ := hp.2 i x hx; ⟨y, y1, y2.cutI (p := S) (fun id l h e => by rw [i0s id h]; exact e) mt0 (hargs x (get_mem hx))⟩⟩ H0).mono ?_
  rintro e w' ⟨y, x, h', ι', rfl, ⟨rfl, rfl⟩, ry, H1, ev⟩
  have hTn : ∀ id, T id = false → ι' id = none := by
    intro id h
    rcases hT1 id h with q | q
    · exact H1.free id q
    · exact H1.out id (List.getElem?_eq_none_iff.1 q)
  have hTk : ∀ id, T id = true → S id = false → ι id = none := by
    intro id h1 h2
    rcases hT2 id h1 h2 with q | q
    · exact HR.free id q
    · exact HR.out id (List.getElem?_eq_none_iff.1 q)
  let ι2 : Iota := { at' := fun id => if T id = true then ι' id else ι id, X := ι.X }
  have i2 : ∀ id, ι2 id = if T id = true then ι' id else ι id := fun _ => rfl
  have i2t : ∀ id, T id = true → ι2 id = ι' id := fun id h => by rw [i2, if_pos h]
  have i2n : ∀ id, T id = false → ι2 id = ι id := fun id h => by rw [i2, if_neg (by rw [h]; simp)]
  have Kt : ∀ id, T id = true → K[id]? = h'[id]? := fun id h => by rw [hK, if_pos h]
  have Kn : ∀ id, T id = false → K[id]? = k[id]? := fun id h => by rw [hK, if_neg (by rw [h]; simp)]
  have nST : ∀ id, T id = false → S id = false := fun id h => by
    cases hs : S id with
    | false => rfl
    | true => rw [hST id hs] at h; cases h
  have up : ∀ id l, ι' id = some l → ι2 id = some l := by
    intro id l e
    cases h : T id with
    | true => rw [i2t id h]; exact e
    | false => rw [hTn id h] at e; cases e
  have up0 : ∀ id l, ι id = some l → ι2 id = some l := by
    intro id l e
    cases h : T id with
    | false => rw [i2n id h]; exact e
    | true =>
      rw [i2t id h]
      cases hs : S id with
      | true => exact ev.iota id l (by rw [i0s id hs]; exact e)
      | false => rw [hTk id h hs] at e; cases e
  have hX : ι'.X = ι0.X := ev.away
  have obK : ∀ b, Ob K ι2 b → Ob h' ι' b ∨ ∃ id o l, T id = false ∧ k[id]? = some (.live o) ∧ ι id = some l ∧ l.blk = b := by
    rintro b ⟨id, o, l, q1, q2, q3⟩
    cases h : T id with
    | true => exact .inl ⟨id, o, l, by rw [← Kt id h]; exact q1, by rw [← i2t id h]; exact q2, q3⟩
    | false => exact .inr ⟨id, o, l, h, by rw [← Kn id h]; exact q1, by rw [← i2n id h]; exact q2, q3⟩
  have evk : Evolve k ι w K ι2 w' := by
    refine ⟨ev.os, ev.tape, ev.output, ev.size, up0, rfl, fun b hb hn => ?_, ev.sizes⟩
    obtain ⟨q1, q2⟩ := ev.frame b hb (fun q => hn (ob0 b q))
    refine ⟨q1, fun q => ?_⟩
    rcases obK b q with g | ⟨id, o, l, _, g1, g2, g3⟩
    · exact q2 g
    · exact hn ⟨id, o, l, g1, g2, g3⟩
  have mtK : ∀ b, Mt K ι2 b → Mt h' ι' b := by
    rintro b (q | q)
    · exact .inl (by rw [hX]; exact .inl q)
    · rcases obK b q with g | ⟨id, o, l, g0, g1, g2, g3⟩
      · exact .inr g
      · exact .inl (by rw [hX]; exact .inr ⟨id, o, l, nST id g0, g1, g2, g3⟩)
  refine ⟨y, x, K, ι2, rfl, ⟨rfl, rfl⟩, ry.wideI up mtK, ?_, evk⟩
  have far : ∀ {id : Nat} {o : AObj} {l : Loc}, T id = false → k[id]? = some (.live o) → ι id = some l → ι'.X l.blk := fun h q1 q2 => by rw [hX]; exact .inr ⟨_, _, _, nST _ h, q1, q2, rfl⟩
  refine ⟨fun id o ho => ?_, fun id ho => ?_, fun id ho => ?_, fun id o l id' o' l' a1 a2 b1 b2 hb => ?_, fun b hb => Nat.lt_of_lt_of_le (HR.xlt b hb) ev.size, fun b hb q => ?_⟩
  · cases h : T id with
    | true =>
      obtain ⟨l, c, fr, q1, la⟩ := H1.live id o (by rw [← Kt id h]; exact ho)
      exact ⟨l, c, fr, by rw [i2t id h]; exact q1, la.blk, la.unfrozen, la.sz, la.rows, la.fits, fun i hi j hj => let ⟨y, g1, g2⟩ := la.reads i hi j hj; ⟨y, g1, g2.wideI up mtK⟩⟩
    | false =>
      have ho' : k[id]? = some (.live o) := by rw [← Kn id h]; exact ho
      obtain ⟨l, c, fr, q1, la⟩ := HR.live id o ho'
      have hlt : l.blk < w.heap.size := (Array.getElem?_eq_some_iff.1 la.blk).1
      have hno : ¬ Ob h0 ι0 l.blk := H0.xob l.blk (by rw [← hX]; exact far h ho' q1)
      exact ⟨l, c, fr, by rw [i2n id h]; exact q1, (ev.frame l.blk hlt hno).1.trans la.blk, la.unfrozen, la.sz, la.rows, la.fits, fun i hi j hj => let ⟨y, g1, g2⟩ := la.reads i hi j hj; ⟨y, g1, g2.mono evk⟩⟩
  · cases h : T id with
    | true => rw [i2t id h]; exact H1.free id (by rw [← Kt id h]; exact ho)
    | false => rw [i2n id h]; exact HR.free id (by rw [← Kn id h]; exact ho)
  · have hk' : k.length ≤ id := by omega
    have hn := HR.out id hk'
    cases h : T id with
    | false => rw [i2n id h]; exact hn
    | true =>
      rw [i2t id h]
      have : h'[id]? = none := by rw [← Kt id h]; exact List.getElem?_eq_none_iff.2 ho
      exact H1.out id (List.getElem?_eq_none_iff.1 this)
  · cases h : T id with
    | true =>
      rw [i2t id h] at a2; rw [Kt id h] at a1
      cases h' : T id' with
      | true => rw [i2t id' h'] at b2; rw [Kt id' h'] at b1; exact H1.apart id o l id' o' l' a1 a2 b1 b2 hb
      | false =>
        rw [i2n id' h'] at b2; rw [Kn id' h'] at b1
        exact (H1.xob l'.blk (far h' b1 b2) ⟨id, o, l, a1, a2, hb⟩).elim
    | false =>
      rw [i2n id h] at a2; rw [Kn id h] at a1
      cases h' : T id' with
      | true =>
        rw [i2t id' h'] at b2; rw [Kt id' h'] at b1
        exact (H1.xob l.blk (far h a1 a2) ⟨id', o', l', b1, b2, hb.symm⟩).elim
      | false => rw [i2n id' h'] at b2; rw [Kn id' h'] at b1; exact HR.apart id o l id' o' l' a1 a2 b1 b2 hb
  · rcases obK b q with g | ⟨id, o, l, g0, g1, g2, g3⟩
    · exact H1.xob b (by rw [hX]; exact .inl hb) g
    · exact HR.xob b hb ⟨id, o, l, g1, g2, g3⟩
end Go.Abs
