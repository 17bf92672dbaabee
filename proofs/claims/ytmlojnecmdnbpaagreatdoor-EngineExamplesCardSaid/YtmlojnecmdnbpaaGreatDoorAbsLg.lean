/- A call on objects: from the callee's small heap to the caller's; N are free places that new objects may take. -/
import Derived.Test.YtmlojnecmdnbpaaGreatDoorAbsX
namespace Go.Abs
set_option linter.unusedVariables false

theorem Rep.ext {w : World} {ι ι2 : Iota} {M M2 : Nat → Prop} (hi : ∀ i l, ι i = some l → ι2 i = some l) (hm : ∀ b, M2 b → M b) {x : V} {y : Value} (r : Rep w ι M x y) : Rep w ι2 M2 x y := by
  induction r with
  | v x => exact .v x
  | any x => exact .any x
  | pF row off b o cells hb hn hc _ ih => exact .pF row off b o cells hb (fun q => hn (hm _ q)) hc ih
  | pO id row off l hl => exact .pO id row off l (hi _ _ hl)
  | sF sz rows a cap cells hb hcap hr hc _ ih => exact .sF sz rows a cap cells (fun hne => let ⟨h1, h2, h3⟩ := hb hne; ⟨h1, h2, fun q => h3 (hm _ q)⟩) hcap hr hc ih
  | sN sz => exact .sN sz
  | sO id off len cap l c e fr hl h1 h2 h3 => exact .sO id off len cap l c e fr (hi _ _ hl) h1 h2 h3
  | agg xs vs hl _ ih => exact .agg xs vs hl ih
  | tup xs vs hl _ ih => exact .tup xs vs hl ih
  | fn f first caps vs us h1 h2 _ _ ih1 ih2 => exact .fn f first caps vs us h1 h2 ih1 ih2
  | ifc t x y _ ih => exact .ifc t x y ih
  | sL t l y _ ih => exact .sL t l y ih
  | oL id n y _ ih => exact .oL id n y ih

/-- Where the caller's objects are behind a call: in the callee's heap (its number there), or where they were. -/
structure Out (σ N : List Nat) (k : Heap) (h' : Heap) (k' : Heap) (τ : List Nat) : Prop where
  len : τ.length = k'.length
  le : k.length ≤ k'.length
  other : ∀ i : Nat, i < k.length → ¬ i ∈ σ → ¬ i ∈ N → τ[i]? = some (List.length h') ∧ k'[i]? = k[i]?
  old : ∀ j i : Nat, σ[j]? = some i → τ[i]? = some j
  obj : ∀ i : Nat, (i ∈ σ ∨ (i ∈ N ∨ k.length ≤ i)) → i < k'.length → ∃ m x z, τ[i]? = some m ∧ h'[m]? = some x ∧ k'[i]? = some z ∧ RenO τ x z
  inj : ∀ (i1 i2 m : Nat) (o1 o2 : AObj), (i1 ∈ σ ∨ (i1 ∈ N ∨ k.length ≤ i1)) → (i2 ∈ σ ∨ (i2 ∈ N ∨ k.length ≤ i2)) → k'[i1]? = some (.live o1) → k'[i2]? = some (.live o2) → τ[i1]? = some m → τ[i2]? = some m → i1 = i2

theorem PC.liftN {P : Program} {f : FuncId} {args0 args : List V} {h0 k : Heap} {σ N : List Nat} {R : V → Heap → Prop} {y' : V} {k' : Heap} (hσ : σ.Nodup) (hN : ∀ i, i ∈ N → k[i]? = some .free) (hl0 : h0.length = σ.length)
    (hobj : ∀ (j i : Nat), σ[j]? = some i → ∃ x y, k[i]? = some y ∧ h0[j]? = some x ∧ RenO σ y x) (harg : Pairs (RenV σ) args args0) (hc : PC P f args0 h0 R)
    (hout : ∀ y h', R y h' → ∃ τ, Out σ N k h' k' τ ∧ RenV τ y y') : PC P f args k (fun y k2 => y = y' ∧ k2 = k') := by
  intro ι w vals hp H
  -- the callee's heap
  let X0 : Nat → Prop := fun b => Mt k ι b ∧ ¬ Ob h0 (ι.ren σ) b
  let ι0 : Iota := { at' := (ι.ren σ).at', X := X0 }
  have e0 : ∀ j, ι0 j = (ι.ren σ) j := fun _ => rfl
  have at0 : ∀ (j i : Nat), σ[j]? = some i → ι0 j = ι i := by intro j i h; rw [e0]; simp [Iota.ren, h]
  have ob0 : ∀ b, Ob h0 ι0 b ↔ Ob h0 (ι.ren σ) b := fun b => Iff.rfl
  have getσ : ∀ (j : Nat) (o : AObj), h0[j]? = some (.live o) → ∃ i oc, σ[j]? = some i ∧ k[i]? = some (.live oc) ∧ RenL σ oc o := by
    intro j o h
    have hj : j < σ.length := by rw [← hl0]; exact get_lt h
    obtain ⟨x, y, h1, h2, h3⟩ := hobj j σ[j] (List.getElem?_eq_getElem hj)
    rw [h] at h2; injection h2 with h2; subst h2
    obtain ⟨oc, rfl, h4⟩ := h3.2 o rfl
    exact ⟨σ[j], oc, List.getElem?_eq_getElem hj, h1, h4⟩
  have obk : ∀ b, Ob h0 ι0 b → Ob k ι b := by
    rintro b ⟨j, o, l, h1, h2, h3⟩
    obtain ⟨i, oc, g1, g2, _⟩ := getσ j o h1
    rw [at0 j i g1] at h2
    exact ⟨i, oc, l, g2, h2, h3⟩
  have mt0 : ∀ b, Mt h0 ι0 b → Mt k ι b := fun b q => q.elim (fun q => q.1) (fun q => .inr (obk b q))
  have mlt : ∀ b, Mt k ι b → b < w.heap.size := by
    rintro b (q | q)
    · exact H.xlt b q
    · exact H.blk_lt q
  have rep0 : ∀ {x y : V} {z : Value}, RenV σ x y → Rep w ι (Mt k ι) x z → Rep w ι0 (Mt h0 ι0) y z := fun hr r =>
    Rep.ext (ι := ι.ren σ) (ι2 := ι0) (fun i l q => q) (fun b q => q) (hr w ι _ _ mt0 _ r)
  have H0 : HRel h0 ι0 w := by
    refine ⟨fun j o ho => ?_, fun j hj => ?_, fun j hj => ?_, fun j1 o1 l1 j2 o2 l2 a1 a2 b1 b2 hb => ?_, fun b q => mlt b q.1, fun b q r => q.2 r⟩
    · obtain ⟨i, oc, g1, g2, g3⟩ := getσ j o ho
      obtain ⟨l, c, fr, h1, la⟩ := H.live i oc g2
      refine ⟨l, c, fr, (at0 j i g1).trans h1, ⟨by rw [← g3.elem]; exact la.blk, by rw [← g3.elem, ← g3.sz]; exact la.unfrozen, by rw [← g3.sz]; exact la.sz, fun r' hr' => ?_, by rw [← g3.sz, ← g3.len]; exact la.fits, fun a ha b hb => ?_⟩⟩
      · obtain ⟨a, ha, e⟩ := List.getElem_of_mem hr'
        have ha1 : a < oc.rows.length := by rw [g3.len]; exact ha
        have u := g3.rows a _ _ (List.getElem?_eq_getElem ha1) (List.getElem?_eq_getElem ha)
        rw [← e, ← u.1, ← g3.sz]
        exact la.rows _ (List.getElem_mem ha1)
      · have ha1 : a < oc.rows.length := by rw [g3.len]; exact ha
        have u := g3.rows a _ _ (List.getElem?_eq_getElem ha1) (List.getElem?_eq_getElem ha)
        have hb1 : b < oc.rows[a].length := by rw [u.1]; exact hb
        obtain ⟨z, z1, z2⟩ := la.reads a ha1 b hb1
        exact ⟨z, by rw [← g3.sz]; exact z1, rep0 (u.2 b _ _ (List.getElem?_eq_getElem hb1) (List.getElem?_eq_getElem hb)) z2⟩
    · exfalso
      have hj' : j < σ.length := by rw [← hl0]; exact get_lt hj
      obtain ⟨x, y, h1, h2, h3⟩ := hobj j σ[j] (List.getElem?_eq_getElem hj')
      rw [hj] at h2; injection h2 with h2; subst h2
      exact h3.1 rfl
    · have : σ[j]? = none := List.getElem?_eq_none (by rw [← hl0]; exact hj)
      rw [e0]; simp [Iota.ren, this]
    · obtain ⟨i1, p1, g1, g2, _⟩ := getσ j1 o1 a1
      obtain ⟨i2, p2, f1, f2, _⟩ := getσ j2 o2 b1
      rw [at0 j1 i1 g1] at a2
      rw [at0 j2 i2 f1] at b2
      have := H.apart _ _ _ _ _ _ g2 a2 f2 b2 hb
      subst this
      have h1 := get_lt g1
      have h2 := get_lt f1
      rw [List.getElem?_eq_getElem h1] at g1; injection g1 with g1
      rw [List.getElem?_eq_getElem h2] at f1; injection f1 with f1
      have hpw := List.pairwise_iff_getElem.1 hσ
      rcases Nat.lt_trichotomy j1 j2 with q | q | q
      · exact absurd (g1.trans f1.symm) (hpw j1 j2 h1 h2 q)
      · exact q
      · exact absurd (f1.trans g1.symm) (hpw j2 j1 h2 h1 q)
  have hp0 : PW2 w ι0 (Mt h0 ι0) args0 vals := by
    refine ⟨harg.1.symm.trans hp.1, fun i y hy => ?_⟩
    have hi : i < args.length := by rw [harg.1]; exact get_lt hy
    obtain ⟨z, z1, z2⟩ := hp.2 i _ (List.getElem?_eq_getElem hi)
    exact ⟨z, z1, rep0 (harg.2 i _ _ (List.getElem?_eq_getElem hi) hy) z2⟩
  refine (hc ι0 w vals hp0 H0).mono ?_
  rintro e w' ⟨z, y, h', ι', rfl, hR, rz, H', ev⟩
  obtain ⟨τ, O, hy⟩ := hout y h' hR
  -- the caller's heap
  have hX : ι'.X = X0 := ev.away
  have dec : ∀ i, Decidable (i ∈ σ ∨ (i ∈ N ∨ k.length ≤ i)) := fun i => inferInstance
  let ι2 : Iota := { at' := fun i => (match τ[i]? with
    | some m => if i ∈ σ ∨ (i ∈ N ∨ k.length ≤ i) then ι' m else ι i
    | none => none), X := ι.X }
  have at2 : ∀ i m, τ[i]? = some m → (i ∈ σ ∨ (i ∈ N ∨ k.length ≤ i)) → ι2 i = ι' m := fun i m h1 h2 => by
    show (match τ[i]? with
      | some m => if i ∈ σ ∨ (i ∈ N ∨ k.length ≤ i) then ι' m else ι i
      | none => none) = _
    rw [h1]; simp only [if_pos h2]
  have at2o : ∀ i, i < k.length → (¬ i ∈ σ ∧ ¬ i ∈ N) → ι2 i = ι i := fun i h1 h2 => by
    show (match τ[i]? with
      | some m => if i ∈ σ ∨ (i ∈ N ∨ k.length ≤ i) then ι' m else ι i
      | none => none) = _
    rw [(O.other i h1 h2.1 h2.2).1]; simp only [if_neg (show ¬ (i ∈ σ ∨ (i ∈ N ∨ k.length ≤ i)) by rintro (q | q | q); exact h2.1 q; exact h2.2 q; omega)]
  have side : ∀ i, i < k'.length → (i < k.length ∧ (¬ i ∈ σ ∧ ¬ i ∈ N)) ∨ (i ∈ σ ∨ (i ∈ N ∨ k.length ≤ i)) := fun i _ => by
    by_cases h1 : i ∈ σ
    · exact .inr (.inl h1)
    · by_cases h3 : i ∈ N
      · exact .inr (.inr (.inl h3))
      · rcases Nat.lt_or_ge i k.length with h2 | h2
        · exact .inl ⟨h2, h1, h3⟩
        · exact .inr (.inr (.inr h2))
  have ext2 : ∀ i l, (ι'.ren τ) i = some l → ι2 i = some l := by
    intro i l h
    have hi : i < k'.length := by
      rcases Nat.lt_or_ge i k'.length with q | q
      · exact q
      · rw [← O.len] at q
        simp [Iota.ren, List.getElem?_eq_none q] at h
    rcases side i hi with ⟨h1, h2⟩ | h1
    · rw [show (ι'.ren τ) i = none by simp [Iota.ren, (O.other i h1 h2.1 h2.2).1]; exact H'.out _ (Nat.le_refl _)] at h
      cases h
    · obtain ⟨m, x, zz, g1, _⟩ := O.obj i h1 hi
      rw [at2 i m g1 h1, ← h]
      simp [Iota.ren, g1]
  -- an object of the caller's is one of its own, or one of the callee's
  have obO : ∀ b, Ob k' ι2 b → (Ob k ι b ∧ ¬ Ob h0 ι0 b) ∨ Ob h' ι' b := by
    rintro b ⟨i, o, l, g1, g2, g3⟩
    rcases side i (get_lt g1) with ⟨h1, h2⟩ | h1
    · rw [(O.other i h1 h2.1 h2.2).2] at g1
      rw [at2o i h1 h2] at g2
      refine .inl ⟨⟨i, o, l, g1, g2, g3⟩, ?_⟩
      rintro ⟨j, o2, l2, f1, f2, f3⟩
      obtain ⟨i2, oc, d1, d2, _⟩ := getσ j o2 f1
      rw [at0 j i2 d1] at f2
      have := H.apart _ _ _ _ _ _ g1 g2 d2 f2 (by rw [g3, f3])
      subst this
      exact h2.1 (get_mem d1)
    · obtain ⟨m, x, zz, d1, d2, d3, d4⟩ := O.obj i h1 (get_lt g1)
      rw [g1] at d3; injection d3 with d3; subst d3
      obtain ⟨ox, rfl, _⟩ := d4.2 o rfl
      rw [at2 i m d1 h1] at g2
      exact .inr ⟨m, ox, l, d2, g2, g3⟩
  have x0 : ∀ b, ι.X b → X0 b := fun b q => ⟨.inl q, fun r => H.xob b q (obk b r)⟩
  have mt2 : ∀ b, Mt k' ι2 b → Mt h' ι' b := by
    rintro b (q | q)
    · exact .inl (by rw [hX]; exact x0 b q)
    · rcases obO b q with ⟨q1, q2⟩ | q1
      · exact .inl (by rw [hX]; exact ⟨.inr q1, q2⟩)
      · exact .inr q1
  have ev2 : Evolve k ι w k' ι2 w' := by
    refine ⟨ev.os, ev.tape, ev.output, ev.size, fun i l hl => ?_, rfl, fun b hb hn => ?_, ev.sizes⟩
    · have hi : i < k.length := by
        rcases Nat.lt_or_ge i k.length with q | q
        · exact q
        · rw [H.out i q] at hl; cases hl
      by_cases h1 : i ∈ σ
      · obtain ⟨j, hj, rfl⟩ := List.getElem_of_mem h1
        have hs := List.getElem?_eq_getElem hj
        rw [at2 _ j (O.old j _ hs) (.inl h1)]
        exact ev.iota j l ((at0 j _ hs).trans hl)
      · by_cases h3 : i ∈ N
        · rw [H.free i (hN i h3)] at hl; cases hl
        · rw [at2o i hi ⟨h1, h3⟩]; exact hl
    · have hn0 : ¬ Ob h0 ι0 b := fun q => hn (obk b q)
      obtain ⟨g1, g2⟩ := ev.frame b hb hn0
      refine ⟨g1, fun q => ?_⟩
      rcases obO b q with ⟨q1, _⟩ | q1
      · exact hn q1
      · exact g2 q1
  have rep2 : ∀ {x y : V} {v : Value}, RenV τ x y → Rep w' ι' (Mt h' ι') x v → Rep w' ι2 (Mt k' ι2) y v := fun hr r =>
    Rep.ext ext2 (fun b q => q) (hr w' ι' _ _ mt2 _ r)
  refine ⟨z, y', k', ι2, rfl, ⟨rfl, rfl⟩, rep2 hy rz, ?_, ev2⟩
  refine ⟨fun i o ho => ?_, fun i hi => ?_, fun i hi => ?_, fun i1 o1 l1 i2 o2 l2 a1 a2 b1 b2 hb => ?_, fun b hb => Nat.lt_of_lt_of_le (H.xlt b hb) ev.size, fun b hb q => ?_⟩
  · rcases side i (get_lt ho) with ⟨h1, h2⟩ | h1
    · have hok := ho
      rw [(O.other i h1 h2.1 h2.2).2] at hok
      obtain ⟨l, c, fr, g1, la⟩ := H.live i o hok
      have hob : Ob k ι l.blk := ⟨i, o, l, hok, g1, rfl⟩
      have hn0 : ¬ Ob h0 ι0 l.blk := by
        rintro ⟨j, o2, l2, f1, f2, f3⟩
        obtain ⟨i2, oc, d1, d2, _⟩ := getσ j o2 f1
        rw [at0 j i2 d1] at f2
        have := H.apart _ _ _ _ _ _ hok g1 d2 f2 f3.symm
        subst this
        exact h2.1 (get_mem d1)
      refine ⟨l, c, fr, (at2o i h1 h2).trans g1, ⟨((ev.frame _ (H.blk_lt hob) hn0).1).trans la.blk, la.unfrozen, la.sz, la.rows, la.fits, fun a ha b hb => ?_⟩⟩
      obtain ⟨v, v1, v2⟩ := la.reads a ha b hb
      exact ⟨v, v1, v2.mono ev2⟩
    · obtain ⟨m, x, zz, d1, d2, d3, d4⟩ := O.obj i h1 (get_lt ho)
      rw [ho] at d3; injection d3 with d3; subst d3
      obtain ⟨ox, rfl, g3⟩ := d4.2 o rfl
      obtain ⟨l, c, fr, g1, la⟩ := H'.live m ox d2
      refine ⟨l, c, fr, (at2 i m d1 h1).trans g1, ⟨by rw [← g3.elem]; exact la.blk, by rw [← g3.elem, ← g3.sz]; exact la.unfrozen, by rw [← g3.sz]; exact la.sz, fun r' hr' => ?_, by rw [← g3.sz, ← g3.len]; exact la.fits, fun a ha b hb => ?_⟩⟩
      · obtain ⟨a, ha, e⟩ := List.getElem_of_mem hr'
        have ha1 : a < ox.rows.length := by rw [g3.len]; exact ha
        have u := g3.rows a _ _ (List.getElem?_eq_getElem ha1) (List.getElem?_eq_getElem ha)
        rw [← e, ← u.1, ← g3.sz]
        exact la.rows _ (List.getElem_mem ha1)
      · have ha1 : a < ox.rows.length := by rw [g3.len]; exact ha
        have u := g3.rows a _ _ (List.getElem?_eq_getElem ha1) (List.getElem?_eq_getElem ha)
        have hb1 : b < ox.rows[a].length := by rw [u.1]; exact hb
        obtain ⟨v, v1, v2⟩ := la.reads a ha1 b hb1
        exact ⟨v, by rw [← g3.sz]; exact v1, rep2 (u.2 b _ _ (List.getElem?_eq_getElem hb1) (List.getElem?_eq_getElem hb)) v2⟩
  · rcases side i (get_lt hi) with ⟨h1, h2⟩ | h1
    · rw [(O.other i h1 h2.1 h2.2).2] at hi
      rw [at2o i h1 h2]; exact H.free i hi
    · exfalso
      obtain ⟨m, x, zz, d1, d2, d3, d4⟩ := O.obj i h1 (get_lt hi)
      rw [hi] at d3; injection d3 with d3; subst d3
      exact d4.1 rfl
  · show (match τ[i]? with
      | some m => if i ∈ σ ∨ (i ∈ N ∨ k.length ≤ i) then ι' m else ι i
      | none => none) = _
    rw [List.getElem?_eq_none (by rw [O.len]; exact hi)]
  · rcases side i1 (get_lt a1) with ⟨h1, h2⟩ | h1 <;> rcases side i2 (get_lt b1) with ⟨f1, f2⟩ | f1
    · rw [(O.other i1 h1 h2.1 h2.2).2] at a1
      rw [(O.other i2 f1 f2.1 f2.2).2] at b1
      rw [at2o i1 h1 h2] at a2
      rw [at2o i2 f1 f2] at b2
      exact H.apart _ _ _ _ _ _ a1 a2 b1 b2 hb
    · exfalso
      have q : Ob k' ι2 l1.blk := ⟨i1, o1, l1, a1, a2, rfl⟩
      rw [(O.other i1 h1 h2.1 h2.2).2] at a1
      rw [at2o i1 h1 h2] at a2
      obtain ⟨m, x, zz, d1, d2, d3, d4⟩ := O.obj i2 f1 (get_lt b1)
      rw [b1] at d3; injection d3 with d3; subst d3
      obtain ⟨ox, rfl, _⟩ := d4.2 o2 rfl
      rw [at2 i2 m d1 f1] at b2
      have hx : X0 l1.blk := by
        refine ⟨.inr ⟨i1, o1, l1, a1, a2, rfl⟩, ?_⟩
        rintro ⟨j, o3, l3, g1, g2, g3⟩
        obtain ⟨i3, oc, e1, e2, _⟩ := getσ j o3 g1
        have g2' : ι i3 = some l3 := (at0 j i3 e1).symm.trans g2
        have := H.apart _ _ _ _ _ _ a1 a2 e2 g2' g3.symm
        subst this
        exact h2.1 (get_mem e1)
      exact H'.xob _ (by rw [hX]; exact hx) ⟨m, ox, l2, d2, b2, hb.symm⟩
    · exfalso
      rw [(O.other i2 f1 f2.1 f2.2).2] at b1
      rw [at2o i2 f1 f2] at b2
      obtain ⟨m, x, zz, d1, d2, d3, d4⟩ := O.obj i1 h1 (get_lt a1)
      rw [a1] at d3; injection d3 with d3; subst d3
      obtain ⟨ox, rfl, _⟩ := d4.2 o1 rfl
      rw [at2 i1 m d1 h1] at a2
      have hx : X0 l2.blk := by
        refine ⟨.inr ⟨i2, o2, l2, b1, b2, rfl⟩, ?_⟩
        rintro ⟨j, o3, l3, g1, g2, g3⟩
        obtain ⟨i3, oc, e1, e2, _⟩ := getσ j o3 g1
        have g2' : ι i3 = some l3 := (at0 j i3 e1).symm.trans g2
        have := H.apart _ _ _ _ _ _ b1 b2 e2 g2' g3.symm
        subst this
        exact f2.1 (get_mem e1)
      exact H'.xob _ (by rw [hX]; exact hx) ⟨m, ox, l1, d2, a2, hb⟩
    · obtain ⟨m1, x1, z1, d1, d2, d3, d4⟩ := O.obj i1 h1 (get_lt a1)
      obtain ⟨m2, x2, z2, c1, c2, c3, c4⟩ := O.obj i2 f1 (get_lt b1)
      rw [a1] at d3; injection d3 with d3; subst d3
      rw [b1] at c3; injection c3 with c3; subst c3
      obtain ⟨ox1, rfl, _⟩ := d4.2 o1 rfl
      obtain ⟨ox2, rfl, _⟩ := c4.2 o2 rfl
      rw [at2 i1 m1 d1 h1] at a2
      rw [at2 i2 m2 c1 f1] at b2
      have := H'.apart _ _ _ _ _ _ d2 a2 c2 b2 hb
      subst this
      exact O.inj i1 i2 _ o1 o2 h1 f1 a1 b1 d1 c1
  · rcases obO b q with ⟨q1, _⟩ | q1
    · exact H.xob b hb q1
    · exact H'.xob b (by rw [hX]; exact x0 b hb) q1

end Go.Abs
