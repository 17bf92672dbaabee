/- A call on objects with lists of their own: from the callee's small heap to the caller's. -/
import Derived.Test.YtpjgjkoajoiopaaAbsX
namespace Go.Abs
set_option linter.unusedVariables false

theorem Rep.ext {w : World} {ι ι2 : Iota} {M M2 : Nat → Prop} (hi : ∀ i l, ι i = some l → ι2 i = some l) (hm : ∀ b, M2 b → M b) {x : V} {y : Value} (r : Rep w ι M x y) : Rep w ι2 M2 x y := by
  induction r with
  | v x => exact .v x
  | any x => exact .any x
  | pF row off b o cells hb hn hc _ ih => exact .pF row off b o cells hb (fun q => hn (hm _ q)) hc ih
  | pO id row off l hl => exact .pO id row off l (hi _ _ hl)
  | sF sz rows a cap cells hb hcap hr hc _ ih => exact .sF sz rows a cap cells (fun hne => let ⟨h1, h2, h3⟩ := hb hne; ⟨h1, h2, fun q => h3 (hm _ q)⟩) hcap hr hc ih
  | sN sz => exact .sN sz
  | sO id off len cap l c e fr hl h1 h2 h3 => exact .sO id off len cap l c e fr (hi _ _ hl) h1 h2 h3
  | agg xs vs hl _ ih => exact .agg xs vs hl ih
  | tup xs vs hl _ ih => exact .tup xs vs hl ih
  | fn f first caps vs us h1 h2 _ _ ih1 ih2 => exact .fn f first caps vs us h1 h2 ih1 ih2
  | ifc t x y _ ih => exact .ifc t x y ih
  | sL t l y _ ih => exact .sL t l y ih
  | oL id n y _ ih => exact .oL id n y ih

/-- Where the caller's objects are behind a call: in the callee's heap (its number there), or where they were. -/
structure Out (σ : List Nat) (k : Heap) (h' : Heap) (k' : Heap) (τ : List Nat) : Prop where
  len : τ.length = k'.length
  le : k.length ≤ k'.length
  other : ∀ i : Nat, i < k.length → ¬ i ∈ σ → τ[i]? = some (List.length h') ∧ k'[i]? = k[i]?
  old : ∀ j i : Nat, σ[j]? = some i → τ[i]? = some j
  obj : ∀ i : Nat, (i ∈ σ ∨ k.length ≤ i) → i < k'.length → ∃ m x z, τ[i]? = some m ∧ h'[m]? = some x ∧ k'[i]? = some z ∧ RenO τ x z
  inj : ∀ (i1 i2 m : Nat) (o1 o2 : AObj), (i1 ∈ σ ∨ k.length ≤ i1) → (i2 ∈ σ ∨ k.length ≤ i2) → k'[i1]? = some (.live o1) → k'[i2]? = some (.live o2) → τ[i1]? = some m → τ[i2]? = some m → i1 = i2

theorem PC.liftG {P : Program} {f : FuncId} {args0 args : List V} {h0 k : Heap} {σ : List Nat} {R : V → Heap → Prop} {y' : V} {k' : Heap} (hσ : σ.Nodup) (hl0 : h0.length = σ.length)
    (hobj : ∀ (j i : Nat), σ[j]? = some i → ∃ x y, k[i]? = some y ∧ h0[j]? = some x ∧ RenO σ y x) (harg : Pairs (RenV σ) args args0) (hc : PC P f args0 h0 R)
    (hout : ∀ y h', R y h' → ∃ τ, Out σ k h' k' τ ∧ RenV τ y y') : PC P f args k (fun y k2 => y = y' ∧ k2 = k') := by
  intro ι w vals hp H
  -- the callee's heap
  let X0 : Nat → Prop := fun b => Mt k ι b ∧ ¬ Ob h0 (ι.ren σ) b
  let ι0 : Iota := { at' := (ι.ren σ).at', X := X0 }
  have e0 : ∀ j, ι0 j = (ι.ren σ) j := fun _ => rfl
  have at0 : ∀ (j i : Nat), σ[j]? = some i → ι0 j = ι i := by intro j i h; rw [e0]; simp [Iota.ren, h]
  have ob0 : ∀ b, Ob h0 ι0 b ↔ Ob h0 (ι.ren σ) b := fun b => Iff.rfl
  have getσ : ∀ (j : Nat) (o : AObj), h0[j]? = some (.live o) → ∃ i oc, σ[j]? = some i ∧ k[i]? = some (.live oc) ∧ RenL σ oc o := by
    intro j o h
    have hj : j < σ.length := by rw [← hl0]; exact get_lt h
    obtain ⟨x, y, h1, h2, h3⟩ := hobj j σ[j] (List.getElem?_eq_getElem hj)
    rw [h] at h2; injection h2 with h2; subst h2
    obtain ⟨oc, rfl, h4⟩ := h3.2 o rfl
    exact ⟨σ[j], oc, List.getElem?_eq_getElem hj, h1, h4⟩
  have obk : ∀ b, Ob h0 ι0 b → Ob k ι b := by
    rintro b ⟨j, o, l, h1, h2, h3⟩
    obtain ⟨i, oc, g1, g2, _⟩ := getσ j o h1
    rw [at0 j i g1] at h2
    exact ⟨i, oc, l, g2, h2, h3⟩
  have mt0 : ∀ b, Mt h0 ι0 b → Mt k ι b := fun b q => q.elim (fun q => q.1) (fun q => .inr (obk b q))
  have mlt : ∀ b, Mt k ι b → b < w.heap.size := by
    rintro b (q | q)
    · exact H.xlt b q
    · exact H.blk_lt q
  have rep0 : ∀ {x y : V} {z : Value}, RenV σ x y → Rep w ι (Mt k ι) x z → Rep w ι0 (Mt h0 ι0) y z := fun hr r =>
    Rep.ext (ι := ι.ren σ) (ι2 := ι0) (fun i l q => q) (fun b q => q) (hr w ι _ _ mt0 _ r)
  have H0 : HRel h0 ι0 w := by
    refine ⟨fun j o ho => ?_, fun j hj => ?_, fun j hj => ?_, fun j1 o1 l1 j2 o2 l2 a1 a2 b1 b2 hb => ?_, fun b q => mlt b q.1, fun b q r => q.2 r⟩
    · obtain ⟨i, oc, g1, g2, g3⟩ := getσ j o ho
      obtain ⟨l, c, fr, h1, la⟩ := H.live i oc g2
      refine ⟨l, c, fr, (at0 j i g1).trans h1, ⟨by rw [← g3.elem]; exact la.blk, by rw [← g3.sz]; exact la.unfrozen, by rw [← g3.sz]; exact la.sz, fun r' hr' => ?_, by rw [← g3.sz, ← g3.len]; exact la.fits, fun a ha b hb => ?_⟩⟩
      · obtain ⟨a, ha, e⟩ := List.getElem_of_mem hr'
        have ha1 : a < oc.rows.length := by rw [g3.len]; exact ha
        have u := g3.rows a _ _ (List.getElem?_eq_getElem ha1) (List.getElem?_eq_getElem ha)
        rw [← e, ← u.1, ← g3.sz]
        exact la.rows _ (List.getElem_mem ha1)
      · have ha1 : a < oc.rows.length := by rw [g3.len]; exact ha
        have u := g3.rows a _ _ (List.getElem?_eq_getElem ha1) (List.getElem?_eq_getElem ha)
        have hb1 : b < oc.rows[a].length := by rw [u.1]; exact hb
        obtain ⟨z, z1, z2⟩ := la.reads a ha1 b hb1
        exact ⟨z, by rw [← g3.sz]; exact z1, rep0 (u.2 b _ _ (List.getElem?_eq_getElem hb1) (List.getElem?_eq_getElem hb)) z2⟩
    · exfalso
      have hj' : j < σ.length := by rw [← hl0]; exact get_lt hj
      obtain ⟨x, y, h1, h2, h3⟩ := hobj j σ[j] (List.getElem?_eq_getElem hj')
      rw [hj] at h2; injection h2 with h2; subst h2
      exact h3.1 rfl
    · have : σ[j]? = none := List.getElem?_eq_none (by rw [← hl0]; exact hj)
      rw [e0]; simp [Iota.ren, this]
    · obtain ⟨i1, p1, g1, g2, _⟩ := getσ j1 o1 a1
      obtain ⟨i2, p2, f1, f2, _⟩ := getσ j2 o2 b1
      rw [at0 j1 i1 g1] at a2
      rw [at0 j2 i2 f1] at b2
      have := H.apart _ _ _ _ _ _ g2 a2 f2 b2 hb
      subst this
      have h1 := get_lt g1
      have h2 := get_lt f1
      rw [List.getElem?_eq_getElem h1] at g1; injection g1 with g1
      rw [List.getElem?_eq_getElem h2] at f1; injection f1 with f1
      have hpw := List.pairwise_iff_getElem.1 hσ
      rcases Nat.lt_trichotomy j1 j2 with q | q | q
      · exact absurd (g1.trans f1.symm) (hpw j1 j2 h1 h2 q)
      · exact q
      · exact absurd (f1.trans g1.symm) (hpw j2 j1 h2 h1 q)
  have hp0 : PW2 w ι0 (Mt h0 ι0) args0 vals := by
    refine ⟨harg.1.symm.trans hp.1, fun i y hy => ?_⟩
    have hi : i < args.length := by rw [harg.1]; exact get_lt hy
    obtain ⟨z, z1, z2⟩ := hp.2 i _ (List.getElem?_eq_getElem hi)
    exact ⟨z, z1, rep0 (harg.2 i _ _ (List.getElem?_eq_getElem hi) hy) z2⟩
  refine (hc ι0 w vals hp0 H0).mono ?_
  rintro e w' ⟨z, y, h', ι', rfl, hR, rz, H', ev⟩
  obtain ⟨τ, O, hy⟩ := hout y h' hR
  -- the caller's heap
  have hX : ι'.X = X0 := ev.away
  have dec : ∀ i, Decidable (i ∈ σ ∨ k.length ≤ i) := fun i => inferInstance
  let ι2 : Iota := { at' := fun i => (match τ[i]? with
    | some m => if i ∈ σ ∨ k.length ≤ i then ι' m else ι i
    | none => none), X := ι.X }
  have at2 : ∀ i m, τ[i]? = some m → (i ∈ σ ∨ k.length ≤ i) → ι2 i = ι' m := fun i m h1 h2 => by
    show (match τ[i]? with
      | some m => if i ∈ σ ∨ k.length ≤ i then ι' m else ι i
      | none => none) = _
    rw [h1]; simp only [if_pos h2]
  have at2o : ∀ i, i < k.length → ¬ i ∈ σ → ι2 i = ι i := fun i h1 h2 => by
    show (match τ[i]? with
      | some m => if i ∈ σ ∨ k.length ≤ i then ι' m else ι i
      | none => none) = _
    rw [(O.other i h1 h2).1]; simp only [if_neg (show ¬ (i ∈ σ ∨ k.length ≤ i) by rintro (q | q); exact h2 q; omega)]
  have side : ∀ i, i < k'.length → (i < k.length ∧ ¬ i ∈ σ) ∨ (i ∈ σ ∨ k.length ≤ i) := fun i _ => by
    by_cases h1 : i ∈ σ
    · exact .inr (.inl h1)
    · rcases Nat.lt_or_ge i k.length with h2 | h2
      · exact .inl ⟨h2, h1⟩
      · exact .inr (.inr h2)
  have ext2 : ∀ i l, (ι'.ren τ) i = some l → ι2 i = some l := by
    intro i l h
    have hi : i < k'.length := by
      rcases Nat.lt_or_ge i k'.length with q | q
      · exact q
      · rw [← O.len] at q
        simp [Iota.ren, List.getElem?_eq_none q] at h
    rcases side i hi with ⟨h1, h2⟩ | h1
    · rw [show (ι'.ren τ) i = none by simp [Iota.ren, (O.other i h1 h2).1]; exact H'.out _ (Nat.le_refl _)] at h
      cases h
    · obtain ⟨m, x, zz, g1, _⟩ := O.obj i h1 hi
      rw [at2 i m g1 h1, ← h]
      simp [Iota.ren, g1]
  -- an object of the caller's is one of its own, or one of the callee's
  have obO : ∀ b, Ob k' ι2 b → (Ob k ι b ∧ ¬ Ob h0 ι0 b) ∨ Ob h' ι' b := by
    rintro b ⟨i, o, l, g1, g2, g3⟩
    rcases side i (get_lt g1) with ⟨h1, h2⟩ | h1
    · rw [(O.other i h1 h2).2] at g1
      rw [at2o i h1 h2] at g2
      refine .inl ⟨⟨i, o, l, g1, g2, g3⟩, ?_⟩
      rintro ⟨j, o2, l2, f1, f2, f3⟩
      obtain ⟨i2, oc, d1, d2, _⟩ := getσ j o2 f1
      rw [at0 j i2 d1] at f2
      have := H.apart _ _ _ _ _ _ g1 g2 d2 f2 (by rw [g3, f3])
      subst this
      exact h2 (get_mem d1)
    · obtain ⟨m, x, zz, d1, d2, d3, d4⟩ := O.obj i h1 (get_lt g1)
      rw [g1] at d3; injection d3 with d3; subst d3
      obtain ⟨ox, rfl, _⟩ := d4.2 o rfl
      rw [at2 i m d1 h1] at g2
      exact .inr ⟨m, ox, l, d2, g2, g3⟩
  have x0 : ∀ b, ι.X b → X0 b := fun b q => ⟨.inl q, fun r => H.xob b q (obk b r)⟩
  have mt2 : ∀ b, Mt k' ι2 b → Mt h' ι' b := by
    rintro b (q | q)
    · exact .inl (by rw [hX]; exact x0 b q)
    · rcases obO b q with ⟨q1, q2⟩ | q1
      · exact .inl (by rw [hX]; exact ⟨.inr q1, q2⟩)
      · exact .inr q1
  have ev2 : Evolve k ι w k' ι2 w' := by
    refine ⟨ev.os, ev.tape, ev.output, ev.size, fun i l hl => ?_, rfl, fun b hb hn => ?_, ev.sizes⟩
    · have hi : i < k.length := by
        rcases Nat.lt_or_ge i k.length with q | q
        · exact q
        · rw [H.out i q] at hl; cases hl
      by_cases h1 : i ∈ σ
      · obtain ⟨j, hj, rfl⟩ := List.getElem_of_mem h1
        have hs := List.getElem?_eq_getElem hj
        rw [at2 _ j (O.old j _ hs) (.inl h1)]
        exact ev.iota j l ((at0 j _ hs).trans hl)
      · rw [at2o i hi h1]; exact hl
    · have hn0 : ¬ Ob h0 ι0 b := fun q => hn (obk b q)
      obtain ⟨g1, g2⟩ := ev.frame b hb hn0
      refine ⟨g1, fun q => ?_⟩
      rcases obO b q with ⟨q1, _⟩ | q1
      · exact hn q1
      · exact g2 q1
  have rep2 : ∀ {x y : V} {v : Value}, RenV τ x y → Rep w' ι' (Mt h' ι') x v → Rep w' ι2 (Mt k' ι2) y v := fun hr r =>
    Rep.ext ext2 (fun b q => q) (hr w' ι' _ _ mt2 _ r)
  refine ⟨z, y', k', ι2, rfl, ⟨rfl, rfl⟩, rep2 hy rz, ?_, ev2⟩
  refine ⟨fun i o ho => ?_, fun i hi => ?_, fun i hi => ?_, fun i1 o1 l1 i2 o2 l2 a1 a2 b1 b2 hb => ?_, fun b hb => Nat.lt_of_lt_of_le (H.xlt b hb) ev.size, fun b hb q => ?_⟩
  · rcases side i (get_lt ho) with ⟨h1, h2⟩ | h1
    · have hok := ho
      rw [(O.other i h1 h2).2] at hok
      obtain ⟨l, c, fr, g1, la⟩ := H.live i o hok
      have hob : Ob k ι l.blk := ⟨i, o, l, hok, g1, rfl⟩
      have hn0 : ¬ Ob h0 ι0 l.blk := by
        rintro ⟨j, o2, l2, f1, f2, f3⟩
        obtain ⟨i2, oc, d1, d2, _⟩ := getσ j o2 f1
        rw [at0 j i2 d1] at f2
        have := H.apart _ _ _ _ _ _ hok g1 d2 f2 f3.symm
        subst this
        exact h2 (get_mem d1)
      refine ⟨l, c, fr, (at2o i h1 h2).trans g1, ⟨((ev.frame _ (H.blk_lt hob) hn0).1).trans la.blk, la.unfrozen, la.sz, la.rows, la.fits, fun a ha b hb => ?_⟩⟩
      obtain ⟨v, v1, v2⟩ := la.reads a ha b hb
      exact ⟨v, v1, v2.mono ev2⟩
    · obtain ⟨m, x, zz, d1, d2, d3, d4⟩ := O.obj i h1 (get_lt ho)
      rw [ho] at d3; injection d3 with d3; subst d3
      obtain ⟨ox, rfl, g3⟩ := d4.2 o rfl
      obtain ⟨l, c, fr, g1, la⟩ := H'.live m ox d2
      refine ⟨l, c, fr, (at2 i m d1 h1).trans g1, ⟨by rw [← g3.elem]; exact la.blk, by rw [← g3.sz]; exact la.unfrozen, by rw [← g3.sz]; exact la.sz, fun r' hr' => ?_, by rw [← g3.sz, ← g3.len]; exact la.fits, fun a ha b hb => ?_⟩⟩
      · obtain ⟨a, ha, e⟩ := List.getElem_of_mem hr'
        have ha1 : a < ox.rows.length := by rw [g3.len]; exact ha
        have u := g3.rows a _ _ (List.getElem?_eq_getElem ha1) (List.getElem?_eq_getElem ha)
        rw [← e, ← u.1, ← g3.sz]
        exact la.rows _ (List.getElem_mem ha1)
      · have ha1 : a < ox.rows.length := by rw [g3.len]; exact ha
        have u := g3.rows a _ _ (List.getElem?_eq_getElem ha1) (List.getElem?_eq_getElem ha)
        have hb1 : b < ox.rows[a].length := by rw [u.1]; exact hb
        obtain ⟨v, v1, v2⟩ := la.reads a ha1 b hb1
        exact ⟨v, by rw [← g3.sz]; exact v1, rep2 (u.2 b _ _ (List.getElem?_eq_getElem hb1) (List.getElem?_eq_getElem hb)) v2⟩
  · rcases side i (get_lt hi) with ⟨h1, h2⟩ | h1
    · rw [(O.other i h1 h2).2] at hi
      rw [at2o i h1 h2]; exact H.free i hi
    · exfalso
      obtain ⟨m, x, zz, d1, d2, d3, d4⟩ := O.obj i h1 (get_lt hi)
      rw [hi] at d3; injection d3 with d3; subst d3
      exact d4.1 rfl
  · show (match τ[i]? with
      | some m => if i ∈ σ ∨ k.length ≤ i then ι' m else ι i
      | none => none) = _
    rw [List.getElem?_eq_none (by rw [O.len]; exact hi)]
  · rcases side i1 (get_lt a1) with ⟨h1, h2⟩ | h1 <;> rcases side i2 (get_lt b1) with ⟨f1, f2⟩ | f1
    · rw [(O.other i1 h1 h2).2] at a1
      rw [(O.other i2 f1 f2).2] at b1
      rw [at2o i1 h1 h2] at a2
      rw [at2o i2 f1 f2] at b2
      exact H.apart _ _ _ _ _ _ a1 a2 b1 b2 hb
    · exfalso
      have q : Ob k' ι2 l1.blk := ⟨i1, o1, l1, a1, a2, rfl⟩
      rw [(O.other i1 h1 h2).2] at a1
      rw [at2o i1 h1 h2] at a2
      obtain ⟨m, x, zz, d1, d2, d3, d4⟩ := O.obj i2 f1 (get_lt b1)
      rw [b1] at d3; injection d3 with d3; subst d3
      obtain ⟨ox, rfl, _⟩ := d4.2 o2 rfl
      rw [at2 i2 m d1 f1] at b2
      have hx : X0 l1.blk := by
        refine ⟨.inr ⟨i1, o1, l1, a1, a2, rfl⟩, ?_⟩
        rintro ⟨j, o3, l3, g1, g2, g3⟩
        obtain ⟨i3, oc, e1, e2, _⟩ := getσ j o3 g1
        have g2' : ι i3 = some l3 := (at0 j i3 e1).symm.trans g2
        have := H.apart _ _ _ _ _ _ a1 a2 e2 g2' g3.symm
        subst this
        exact h2 (get_mem e1)
      exact H'.xob _ (by rw [hX]; exact hx) ⟨m, ox, l2, d2, b2, hb.symm⟩
    · exfalso
      rw [(O.other i2 f1 f2).2] at b1
      rw [at2o i2 f1 f2] at b2
      obtain ⟨m, x, zz, d1, d2, d3, d4⟩ := O.obj i1 h1 (get_lt a1)
      rw [a1] at d3; injection d3 with d3; subst d3
      obtain ⟨ox, rfl, _⟩ := d4.2 o1 rfl
      rw [at2 i1 m d1 h1] at a2
      have hx : X0 l2.blk := by
        refine ⟨.inr ⟨i2, o2, l2, b1, b2, rfl⟩, ?_⟩
        rintro ⟨j, o3, l3, g1, g2, g3⟩
        obtain ⟨i3, oc, e1, e2, _⟩ := getσ j o3 g1
        have g2' : ι i3 = some l3 := (at0 j i3 e1).symm.trans g2
        have := H.apart _ _ _ _ _ _ b1 b2 e2 g2' g3.symm
        subst this
        exact f2 (get_mem e1)
      exact H'.xob _ (by rw [hX]; exact hx) ⟨m, ox, l1, d2, a2, hb⟩
    · obtain ⟨m1, x1, z1, d1, d2, d3, d4⟩ := O.obj i1 h1 (get_lt a1)
      obtain ⟨m2, x2, z2, c1, c2, c3, c4⟩ := O.obj i2 f1 (get_lt b1)
      rw [a1] at d3; injection d3 with d3; subst d3
      rw [b1] at c3; injection c3 with c3; subst c3
      obtain ⟨ox1, rfl, _⟩ := d4.2 o1 rfl
      obtain ⟨ox2, rfl, _⟩ := c4.2 o2 rfl
      rw [at2 i1 m1 d1 h1] at a2
      rw [at2 i2 m2 c1 f1] at b2
      have := H'.apart _ _ _ _ _ _ d2 a2 c2 b2 hb
      subst this
      exact O.inj i1 i2 _ o1 o2 h1 f1 a1 b1 d1 c1
  · rcases obO b q with ⟨q1, _⟩ | q1
    · exact H.xob b hb q1
    · exact H'.xob b (by rw [hX]; exact x0 b hb) q1

/- how objects lie, under other numbers -/
theorem RenV.le {σ : List Nat} {x y z : V} (h : LE x y) (h2 : RenV σ y z) : RenV σ x z := fun w ι M M' hM v r => h2 w ι M M' hM v (h r)
theorem RenO.le {σ : List Nat} {x y z : HS} (h : HSle x y) (h2 : RenO σ y z) : RenO σ x z := by
  refine ⟨h2.1, fun o' ho' => ?_⟩
  obtain ⟨o, rfl, h3⟩ := h2.2 o' ho'
  obtain ⟨ox, rfl, a1, a2, a3, a4⟩ := h.2 o rfl
  refine ⟨ox, rfl, ⟨a1.trans h3.sz, a2.trans h3.elem, a3.trans h3.len, fun i r r' hr hr' => ?_⟩⟩
  have hi : i < o.rows.length := by rw [← a3]; exact get_lt hr
  have u := a4 i r _ hr (List.getElem?_eq_getElem hi)
  have v := h3.rows i _ _ (List.getElem?_eq_getElem hi) hr'
  refine ⟨u.1.trans v.1, fun j x y hx hy => ?_⟩
  have hj : j < o.rows[i].length := by rw [← u.1]; exact get_lt hx
  exact RenV.le (u.2 j x _ hx (List.getElem?_eq_getElem hj)) (v.2 j _ y (List.getElem?_eq_getElem hj) hy)
theorem RenV.row (σ : List Nat) (t : Ty) (a : t.den) : Pairs (RenV σ) (t.row a) (t.row a) :=
  ⟨rfl, fun i x y hx hy => by rw [hx] at hy; injection hy with hy; subst hy; exact RenV.tree (LE.refl _) (t.nis 0 a [] (by intro _ h; cases h) _ (get_mem hx))⟩
theorem RenO.list (σ : List Nat) (t : Ty) (l : List t.den) (e : TypeId) : RenO σ (.live ⟨t.size, l.map t.row, e⟩) (.live ⟨t.size, l.map t.row, e⟩) := by
  refine ⟨by simp, fun o' h => ?_⟩
  injection h with h; subst h
  refine ⟨_, rfl, ⟨rfl, rfl, rfl, fun i r r' h1 h2 => ?_⟩⟩
  rw [h1] at h2; injection h2 with h2; subst h2
  obtain ⟨a, _, rfl⟩ := List.mem_map.1 (get_mem h1)
  exact RenV.row σ t a
theorem RenO.dead (σ : List Nat) (x : HS) : RenO σ x .dead := ⟨by simp, fun _ h => by cases h⟩
theorem Pairs.app {R : V → V → Prop} {a b c d : List V} (h1 : Pairs R a b) (h2 : Pairs R c d) : Pairs R (a ++ c) (b ++ d) := by
  refine ⟨by simp [h1.1, h2.1], fun i x y hx hy => ?_⟩
  by_cases hi : i < a.length
  · rw [List.getElem?_append_left hi] at hx
    rw [List.getElem?_append_left (by rw [← h1.1]; exact hi)] at hy
    exact h1.2 i x y hx hy
  · rw [List.getElem?_append_right (by omega)] at hx
    rw [List.getElem?_append_right (by rw [← h1.1]; omega), ← h1.1] at hy
    exact h2.2 _ x y hx hy
theorem Pairs.one {R : V → V → Prop} {x y : V} (h : R x y) : Pairs R [x] [y] := ⟨rfl, fun i a b ha hb => by
  cases i with
  | zero => simp at ha hb; subst ha hb; exact h
  | succ i => simp at ha⟩

/-- Two layings of the same: what is at the same place of the two lists of objects, and of cells. -/
inductive Zip (σ : List Nat) : List (Nat × HS) → List (Nat × HS) → Prop where
  | nil : Zip σ [] []
  | cons {a b : Nat × HS} {l m : List (Nat × HS)} : σ[b.1]? = some a.1 → RenO σ a.2 b.2 → Zip σ l m → Zip σ (a :: l) (b :: m)
theorem Zip.app {σ : List Nat} {a b c d : List (Nat × HS)} (h1 : Zip σ a b) (h2 : Zip σ c d) : Zip σ (a ++ c) (b ++ d) := by
  induction h1 with
  | nil => exact h2
  | cons p q _ ih => exact .cons p q ih
theorem Zip.get {σ : List Nat} {a b : List (Nat × HS)} (h : Zip σ a b) : ∀ y, y ∈ b → ∃ x, x ∈ a ∧ σ[y.1]? = some x.1 ∧ RenO σ x.2 y.2 := by
  induction h with
  | nil => intro y hy; cases hy
  | cons p q _ ih =>
    intro y hy
    rcases List.mem_cons.1 hy with r | r
    · subst r; exact ⟨_, List.mem_cons_self .., p, q⟩
    · obtain ⟨x, x1, x2⟩ := ih y r
      exact ⟨x, List.mem_cons_of_mem _ x1, x2⟩

/-- From the numbers p, q to the numbers that g gives them; σ leads back. -/
theorem lay_map {σ : List Nat} {g : Nat → Nat} : ∀ (s : Sh) (a : s.ty.den) (me : Option Nat) (p q : List Nat) (L : Lay), lay me s a p q = some L → (∀ i, i ∈ p ++ q → σ[g i]? = some i) → (∀ m, me = some m → σ[g m]? = some m) →
    ∃ L0, lay (me.map g) s a (p.map g) (q.map g) = some L0 ∧ L0.p = L.p.map g ∧ L0.q = L.q.map g ∧ Pairs (RenV σ) L.c L0.c ∧ Zip σ L.o L0.o ∧ L0.o.map (·.1) = L.o.map (fun z => g z.1) ∧ (∀ i, i ∈ L.p ++ L.q → i ∈ p ++ q)
  | .val t, a, me, p, q, L, h, hg, hm => by
    simp only [lay] at h; injection h with h; subst h
    exact ⟨_, rfl, rfl, rfl, RenV.row σ t a, .nil, rfl, fun i hi => hi⟩
  | .own t e, z, me, p, q, L, h, hg, hm => by
    simp only [lay] at h ⊢
    split at h
    · split at h
      · rename_i i q
        have hi := hg i (by simp)
        injection h with h; subst h
        exact ⟨_, rfl, rfl, rfl, Pairs.one (RenV.sO 0 _ hi), .cons hi (RenO.list σ t _ e) .nil, rfl, fun j hj => by simp at hj ⊢; rcases hj with r | r <;> simp [r]⟩
      · cases h
    · injection h with h; subst h
      exact ⟨_, rfl, rfl, rfl, Pairs.one (RenV.tree (LE.refl _) (.v _)), .nil, rfl, fun j hj => hj⟩
  | .opt t e, l, me, p, q, L, h, hg, hm => by
    simp only [lay] at h ⊢
    split at h
    · rename_i i q
      injection h with h; subst h
      have hi := hg i (by simp)
      refine ⟨_, rfl, rfl, rfl, Pairs.one (RenV.oL _ hi), .cons hi ?_ .nil, rfl, fun j hj => by simp at hj ⊢; rcases hj with r | r <;> simp [r]⟩
      simp only [XO.den]
      split
      · exact RenO.dead σ _
      · exact RenO.list σ t _ e
    · cases h
  | .slf, b, me, p, q, L, h, hg, hm => by
    simp only [lay] at h ⊢
    split at h
    · rename_i m
      injection h with h; subst h
      exact ⟨_, rfl, rfl, rfl, Pairs.one (RenV.pO 0 0 (hm m rfl)), .nil, rfl, fun j hj => hj⟩
    · injection h with h; subst h
      refine ⟨_, by cases me <;> rfl, rfl, rfl, Pairs.one (RenV.tree (LE.refl _) (.v _)), .nil, rfl, fun j hj => hj⟩
    · cases h
  | .ptr e s, a, me, p, q, L, h, hg, hm => by
    simp only [lay] at h ⊢
    split at h
    · rename_i i p
      split at h
      · rename_i L1 h1
        injection h with h; subst h
        have hi := hg i (by simp)
        obtain ⟨L0, e1, e2, e3, e4, e5, e6, e7⟩ := lay_map s a (some i) p q L1 h1 (fun j hj => hg j (by simp at hj ⊢; rcases hj with r | r <;> simp [r])) (fun m hm => by injection hm with hm; subst hm; exact hi)
        simp only [Option.map_some] at e1
        simp only [List.map_cons, e1]
        refine ⟨_, rfl, e2, e3, Pairs.one (RenV.pO 0 0 hi), .cons hi ⟨by simp, fun o' ho' => ?_⟩ e5, by simp [e6], fun j hj => by have := e7 j hj; simp at this ⊢; rcases this with r | r <;> simp [r]⟩
        injection ho' with ho'; subst ho'
        refine ⟨_, rfl, ⟨rfl, rfl, rfl, fun i r r' h1 h2 => ?_⟩⟩
        cases i with
        | zero => simp at h1 h2; subst h1 h2; exact e4
        | succ i => simp at h1
      · cases h
    · cases h
  | .optp e s, z, me, p, q, L, h, hg, hm => by
    simp only [lay] at h ⊢
    split at h
    · split at h
      · rename_i i p
        split at h
        · rename_i L1 h1
          injection h with h; subst h
          have hi := hg i (by simp)
          obtain ⟨L0, e1, e2, e3, e4, e5, e6, e7⟩ := lay_map s z.2 (some i) p q L1 h1 (fun j hj => hg j (by simp at hj ⊢; rcases hj with r | r <;> simp [r])) (fun m hm => by injection hm with hm; subst hm; exact hi)
          simp only [Option.map_some] at e1
          simp only [List.map_cons, e1]
          refine ⟨_, rfl, e2, e3, Pairs.one (RenV.pO 0 0 hi), .cons hi ⟨by simp, fun o' ho' => ?_⟩ e5, by simp [e6], fun j hj => by have := e7 j hj; simp at this ⊢; rcases this with r | r <;> simp [r]⟩
          injection ho' with ho'; subst ho'
          refine ⟨_, rfl, ⟨rfl, rfl, rfl, fun i r r' h1 h2 => ?_⟩⟩
          cases i with
          | zero => simp at h1 h2; subst h1 h2; exact e4
          | succ i => simp at h1
        · cases h
      · cases h
    · injection h with h; subst h
      exact ⟨_, rfl, rfl, rfl, Pairs.one (RenV.tree (LE.refl _) (.v _)), .nil, rfl, fun j hj => hj⟩
  | .pair a b, z, me, p, q, L, h, hg, hm => by
    simp only [lay] at h ⊢
    split at h
    · rename_i L1 h1
      split at h
      · rename_i L2 h2
        injection h with h; subst h
        obtain ⟨L0, e1, e2, e3, e4, e5, e6, e7⟩ := lay_map a z.1 me p q L1 h1 hg hm
        obtain ⟨L3, f1, f2, f3, f4, f5, f6, f7⟩ := lay_map b z.2 me L1.p L1.q L2 h2 (fun j hj => hg j (e7 j hj)) hm
        rw [e1]; simp only
        rw [e2, e3, f1]
        exact ⟨_, rfl, f2, f3, e4.app f4, e5.app f5, by simp [e6, f6], fun j hj => e7 j (f7 j hj)⟩
      · cases h
    · cases h
theorem RenV.arg1 {σ : List Nat} {s : Sh} {c c0 : List V} (h : Pairs (RenV σ) c c0) : RenV σ (arg1 s c) (Go.Abs.arg1 s c0) := by
  have agg : RenV σ (.agg c) (.agg c0) := RenV.agg h
  have hl := h.1
  match c, c0, h, hl, agg with
  | [], [], _, _, agg => cases s with
    | val t => cases t <;> first | exact agg | exact RenV.any _ _
    | pair a b => exact agg
    | _ => exact RenV.any _ _
  | [x], [y], h, _, agg =>
    have one : RenV σ x y := h.2 0 x y rfl rfl
    cases s with
    | val t => cases t <;> first | exact agg | exact one
    | pair a b => exact agg
    | _ => exact one
  | x :: x2 :: r, y :: y2 :: r2, _, _, agg => cases s with
    | val t => cases t <;> first | exact agg | exact RenV.any _ _
    | pair a b => exact agg
    | _ => exact RenV.any _ _
  | [], _ :: _, _, hl, _ => simp at hl
  | [_], [], _, hl, _ => simp at hl
  | [_], _ :: _ :: _, _, hl, _ => simp at hl
  | _ :: _ :: _, [], _, hl, _ => simp at hl
  | _ :: _ :: _, [_], _, hl, _ => simp at hl
theorem layA_map {σ : List Nat} {g : Nat → Nat} : ∀ (ps : List Sh) (x : Tup (tys ps)) (p q : List Nat) (L : Lay), layA ps x p q = some L → (∀ i, i ∈ p ++ q → σ[g i]? = some i) →
    ∃ L0, layA ps x (p.map g) (q.map g) = some L0 ∧ L0.p = L.p.map g ∧ L0.q = L.q.map g ∧ Pairs (RenV σ) L.c L0.c ∧ Zip σ L.o L0.o ∧ L0.o.map (·.1) = L.o.map (fun z => g z.1) ∧ (∀ i, i ∈ L.p ++ L.q → i ∈ p ++ q)
  | [], x, p, q, L, h, hg => by
    simp only [layA] at h; injection h with h; subst h
    exact ⟨_, rfl, rfl, rfl, ⟨rfl, fun i x y h => by simp at h⟩, .nil, rfl, fun i hi => hi⟩
  | s :: ps, z, p, q, L, h, hg => by
    simp only [layA] at h ⊢
    split at h
    · rename_i L1 h1
      split at h
      · rename_i L2 h2
        injection h with h; subst h
        obtain ⟨L0, e1, e2, e3, e4, e5, e6, e7⟩ := lay_map s z.1 none p q L1 h1 hg (fun m hm => by cases hm)
        obtain ⟨L3, f1, f2, f3, f4, f5, f6, f7⟩ := layA_map ps z.2 L1.p L1.q L2 h2 (fun j hj => hg j (e7 j hj))
        simp only [Option.map_none] at e1
        rw [e1]; simp only
        rw [e2, e3, f1]
        exact ⟨_, rfl, f2, f3, Pairs.app (Pairs.one (RenV.arg1 e4)) f4, e5.app f5, by simp [e6, f6], fun j hj => e7 j (f7 j hj)⟩
      · cases h
    · cases h

/-- The places of the objects are those that were taken. -/
theorem lay_places : ∀ (s : Sh) (a : s.ty.den) (me : Option Nat) (p q : List Nat) (L : Lay), lay me s a p q = some L → ∃ p1 q1, p = p1 ++ L.p ∧ q = q1 ++ L.q ∧ (L.o.map (·.1)).Perm (p1 ++ q1)
  | .val t, a, me, p, q, L, h => by
    simp only [lay] at h; injection h with h; subst h
    exact ⟨[], [], rfl, rfl, .nil⟩
  | .own t e, z, me, p, q, L, h => by
    simp only [lay] at h
    split at h
    · split at h
      · injection h with h; subst h
        exact ⟨[], [_], rfl, rfl, .refl _⟩
      · cases h
    · injection h with h; subst h
      exact ⟨[], [], rfl, rfl, .nil⟩
  | .opt t e, l, me, p, q, L, h => by
    simp only [lay] at h
    split at h
    · injection h with h; subst h
      exact ⟨[], [_], rfl, rfl, .refl _⟩
    · cases h
  | .slf, b, me, p, q, L, h => by
    simp only [lay] at h
    split at h
    · injection h with h; subst h; exact ⟨[], [], rfl, rfl, .nil⟩
    · injection h with h; subst h; exact ⟨[], [], rfl, rfl, .nil⟩
    · cases h
  | .ptr e s, a, me, p, q, L, h => by
    simp only [lay] at h
    split at h
    · rename_i i p
      split at h
      · rename_i L1 h1
        injection h with h; subst h
        obtain ⟨p1, q1, e1, e2, e3⟩ := lay_places s a (some i) p q L1 h1
        exact ⟨i :: p1, q1, by rw [e1]; rfl, e2, by simpa using e3⟩
      · cases h
    · cases h
  | .optp e s, z, me, p, q, L, h => by
    simp only [lay] at h
    split at h
    · split at h
      · rename_i i p
        split at h
        · rename_i L1 h1
          injection h with h; subst h
          obtain ⟨p1, q1, e1, e2, e3⟩ := lay_places s z.2 (some i) p q L1 h1
          exact ⟨i :: p1, q1, by rw [e1]; rfl, e2, by simpa using e3⟩
        · cases h
      · cases h
    · injection h with h; subst h
      exact ⟨[], [], rfl, rfl, .nil⟩
  | .pair a b, z, me, p, q, L, h => by
    simp only [lay] at h
    split at h
    · rename_i L1 h1
      split at h
      · rename_i L2 h2
        injection h with h; subst h
        obtain ⟨p1, q1, e1, e2, e3⟩ := lay_places a z.1 me p q L1 h1
        obtain ⟨p2, q2, f1, f2, f3⟩ := lay_places b z.2 me L1.p L1.q L2 h2
        refine ⟨p1 ++ p2, q1 ++ q2, by rw [e1, f1]; simp, by rw [e2, f2]; simp, ?_⟩
        simp only [List.map_append]
        refine (e3.append f3).trans ?_
        rw [List.append_assoc, List.append_assoc]
        exact (List.perm_append_comm_assoc q1 p2 q2).append_left p1
      · cases h
    · cases h
theorem layA_places : ∀ (ps : List Sh) (x : Tup (tys ps)) (p q : List Nat) (L : Lay), layA ps x p q = some L → ∃ p1 q1, p = p1 ++ L.p ∧ q = q1 ++ L.q ∧ (L.o.map (·.1)).Perm (p1 ++ q1)
  | [], x, p, q, L, h => by
    simp only [layA] at h; injection h with h; subst h
    exact ⟨[], [], rfl, rfl, .nil⟩
  | s :: ps, z, p, q, L, h => by
    simp only [layA] at h
    split at h
    · rename_i L1 h1
      split at h
      · rename_i L2 h2
        injection h with h; subst h
        obtain ⟨p1, q1, e1, e2, e3⟩ := lay_places s z.1 none p q L1 h1
        obtain ⟨p2, q2, f1, f2, f3⟩ := layA_places ps z.2 L1.p L1.q L2 h2
        refine ⟨p1 ++ p2, q1 ++ q2, by rw [e1, f1]; simp, by rw [e2, f2]; simp, ?_⟩
        simp only [List.map_append]
        refine (e3.append f3).trans ?_
        rw [List.append_assoc, List.append_assoc]
        exact (List.perm_append_comm_assoc q1 p2 q2).append_left p1
      · cases h
    · cases h

/-- What lies in cells. -/
def rdS (h : List XO) : (s : Sh) → Option Nat → List V → Option (List Bool × s.ty.den × List V × List Nat × List Nat)
  | .val t, _, cs => match un (unPure 8) t cs with
    | some (a, r) => some ([], a, r, [], [])
    | none => none
  | .own t e, _, cs => match cs with
    | [] => none
    | x :: r => match x with
      | .sO i 0 n => (match h[i]? with
        | some (.tl _ l e') => if e' = e then (match castL (t' := t) l with
          | some l => some ([decide (n = l.length)], (true, l), r, [], [i])
          | none => none) else none
        | _ => none)
      | .oL i n => (match h[i]? with
        | some (.opt _ l e') => if e' = e then (match castL (t' := t) l with
          | some l => some ([decide (n = l.length), decide (0 < l.length)], (true, l), r, [], [i])
          | none => none) else none
        | some (.raw .dead) => (match n with
          | 0 => some ([], (false, []), r, [], [])
          | _ => none)
        | _ => none)
      | .v (.slice none 0 0) => some ([], (false, []), r, [], [])
      | _ => none
  | .opt t e, _, cs => match cs with
    | [] => none
    | x :: r => match x with
      | .oL i n => (match h[i]? with
        | some (.opt _ l e') => if e' = e then (match castL (t' := t) l with
          | some l => some ([decide (n = l.length)], l, r, [], [i])
          | none => none) else none
        | some (.raw .dead) => (match n with
          | 0 => some ([], [], r, [], [i])
          | _ => none)
        | _ => none)
      | .sO i 0 n => (match h[i]? with
        | some (.tl _ l e') => if e' = e then (match castL (t' := t) l with
          | some l => some ([decide (n = l.length), decide (0 < l.length)], l, r, [], [i])
          | none => none) else none
        | _ => none)
      | _ => none
  | .slf, me, cs => match cs with
    | [] => none
    | x :: r => match x with
      | .v (.pointer none) => some ([], false, r, [], [])
      | .pO i 0 0 => (match me with
        | some m => if m = i then some ([], true, r, [], []) else none
        | none => none)
      | _ => none
  | .ptr e s, _, cs => match cs with
    | [] => none
    | x :: r => match x with
      | .pO i 0 0 => (match h[i]? with
        | some o => (match o.den with
          | .live ob => if ob.sz = s.size ∧ ob.elem = e then (match ob.rows with
            | [row] => (match rdS h s (some i) row with
              | some (c, a, [], p, q) => some (c, a, r, i :: p, q)
              | _ => none)
            | _ => none) else none
          | _ => none)
        | none => none)
      | _ => none
  | .optp e s, _, cs => match cs with
    | [] => none
    | x :: r => match x with
      | .v (.pointer none) => some ([], (false, s.ty.dflt), r, [], [])
      | .pO i 0 0 => (match h[i]? with
        | some o => (match o.den with
          | .live ob => if ob.sz = s.size ∧ ob.elem = e then (match ob.rows with
            | [row] => (match rdS h s (some i) row with
              | some (c, a, [], p, q) => some (c, (true, a), r, i :: p, q)
              | _ => none)
            | _ => none) else none
          | _ => none)
        | none => none)
      | _ => none
  | .pair a b, me, cs => match rdS h a me cs with
    | some (c, x, r, p, q) => (match rdS h b me r with
      | some (c2, y, r2, p2, q2) => some (c ++ c2, (x, y), r2, p ++ p2, q ++ q2)
      | none => none)
    | none => none
theorem HSle.refl {x : HS} (h : x ≠ .free) : HSle x x := ⟨h, fun o' ho => ⟨o', ho, rfl, rfl, rfl, fun i r r' h1 h2 => by rw [h1] at h2; injection h2 with h2; subst h2; exact LEs.refl _⟩⟩
theorem LEs.app {a b c d : List V} (h1 : LEs a b) (h2 : LEs c d) : LEs (a ++ c) (b ++ d) := Pairs.app (R := fun x y => LE x y) h1 h2
/-- What is read lies so. -/
structure Lies (h : List XO) (me : Option Nat) (s : Sh) (cs : List V) (a : s.ty.den) (r : List V) (p q : List Nat) : Prop where
  out : ∃ pre c o, cs = pre ++ r ∧ (∀ p' q', lay me s a (p ++ p') (q ++ q') = some ⟨c, o, p', q'⟩) ∧ LEs pre c ∧ ∀ z, z ∈ o → ∃ x, (dens h)[z.1]? = some x ∧ HSle x z.2
theorem opt_den {t : Ty} {l : List t.den} {e : TypeId} (h : 0 < l.length) : (XO.opt t l e).den = .live ⟨t.size, l.map t.row, e⟩ := by
  simp only [XO.den]
  rw [if_neg]
  cases l with
  | nil => simp at h
  | cons a l => simp
theorem opt_ne {t : Ty} {l : List t.den} {e : TypeId} : (XO.opt t l e).den ≠ .free := by
  simp only [XO.den]; split <;> simp
theorem rdS_ok {h : List XO} : ∀ (s : Sh) (me : Option Nat) (cs : List V) (c : List Bool) (a : s.ty.den) (r : List V) (p q : List Nat), rdS h s me cs = some (c, a, r, p, q) → allT c → Lies h me s cs a r p q
  | .val t, me, cs, c, a, r, p, q, e, hc => by
    simp only [rdS] at e
    split at e
    · rename_i a' r' hu
      injection e with e; simp only [Prod.mk.injEq] at e
      obtain ⟨rfl, rfl, rfl, rfl, rfl⟩ := e
      obtain ⟨pre, e1, e2, _, e3⟩ := un_gen (R := fun a b => LE a b) (unPure_ok 8) (fun _ => LE.refl _) t cs _ _ hu
      have hl := t.cells_len a' []
      exact ⟨pre, t.row a', [], e1, fun _ _ => rfl, ⟨by simp [e2, Ty.row] at hl ⊢; omega, e3⟩, fun z hz => by cases hz⟩
    · cases e
  | .own t el, me, cs, c, a, r, p, q, e, hc => by
    simp only [rdS] at e
    split at e
    · cases e
    · rename_i x rest
      split at e
      · rename_i i n
        split at e
        · rename_i t0 l0 e' ho
          split at e
          · rename_i he
            split at e
            · rename_i l hl
              injection e with e; simp only [Prod.mk.injEq] at e
              obtain ⟨rfl, rfl, rfl, rfl, rfl⟩ := e
              subst he
              obtain ⟨et, el2⟩ := castL_ty hl
              subst et; subst el2
              have hn := of_decide_eq_true (allT_cons hc).1
              refine ⟨[_], _, _, rfl, fun _ _ => rfl, by rw [hn]; exact LEs.refl _, fun z hz => ?_⟩
              rw [List.mem_singleton] at hz; subst hz
              exact ⟨_, by rw [dens_get, ho]; rfl, HSle.refl (by simp)⟩
            · cases e
          · cases e
        · cases e
      · rename_i i n
        split at e
        · rename_i t0 l0 e' ho
          split at e
          · rename_i he
            split at e
            · rename_i l hl
              injection e with e; simp only [Prod.mk.injEq] at e
              obtain ⟨rfl, rfl, rfl, rfl, rfl⟩ := e
              subst he
              obtain ⟨et, el2⟩ := castL_ty hl
              subst et; subst el2
              have hn := of_decide_eq_true (allT_cons hc).1
              have h0 := of_decide_eq_true (allT_cons (allT_cons hc).2).1
              refine ⟨[_], [.sO i 0 l.length], [(i, .live ⟨t0.size, l.map t0.row, e'⟩)], rfl, fun _ _ => by simp [lay], LEs.cons ?_ LEs.nil, fun z hz => ?_⟩
              · rw [hn]
                intro w ι M v rr
                cases rr with
                | oL _ _ _ rr => rw [if_neg (by omega)] at rr; exact rr
              · rw [List.mem_singleton] at hz; subst hz
                exact ⟨_, by rw [dens_get, ho]; exact congrArg some (opt_den h0), HSle.refl (by simp)⟩
            · cases e
          · cases e
        · split at e
          · injection e with e; simp only [Prod.mk.injEq] at e
            obtain ⟨rfl, rfl, rfl, rfl, rfl⟩ := e
            refine ⟨[_], [.v (.slice none 0 0)], [], rfl, fun _ _ => rfl, LEs.cons ?_ LEs.nil, fun z hz => by cases hz⟩
            intro w ι M v rr
            cases rr with
            | oL _ _ _ rr => rw [if_pos rfl] at rr; exact rr
          · cases e
        · cases e
      · injection e with e; simp only [Prod.mk.injEq] at e
        obtain ⟨rfl, rfl, rfl, rfl, rfl⟩ := e
        exact ⟨[_], _, [], rfl, fun _ _ => rfl, LEs.refl _, fun z hz => by cases hz⟩
      · cases e
  | .opt t el, me, cs, c, a, r, p, q, e, hc => by
    simp only [rdS] at e
    split at e
    · cases e
    · rename_i x rest
      split at e
      · rename_i i n
        split at e
        · rename_i t0 l0 e' ho
          split at e
          · rename_i he
            split at e
            · rename_i l hl
              injection e with e; simp only [Prod.mk.injEq] at e
              obtain ⟨rfl, rfl, rfl, rfl, rfl⟩ := e
              subst he
              obtain ⟨et, el2⟩ := castL_ty hl
              subst et; subst el2
              have hn := of_decide_eq_true (allT_cons hc).1
              refine ⟨[_], _, _, rfl, fun _ _ => rfl, by rw [hn]; exact LEs.refl _, fun z hz => ?_⟩
              rw [List.mem_singleton] at hz; subst hz
              exact ⟨_, by rw [dens_get, ho]; rfl, HSle.refl opt_ne⟩
            · cases e
          · cases e
        · rename_i ho
          split at e
          · injection e with e; simp only [Prod.mk.injEq] at e
            obtain ⟨rfl, rfl, rfl, rfl, rfl⟩ := e
            refine ⟨[_], _, _, rfl, fun _ _ => rfl, LEs.refl _, fun z hz => ?_⟩
            rw [List.mem_singleton] at hz; subst hz
            exact ⟨_, by rw [dens_get, ho]; rfl, HSle.refl (x := .dead) (by simp)⟩
          · cases e
        · cases e
      · rename_i i n
        split at e
        · rename_i t0 l0 e' ho
          split at e
          · rename_i he
            split at e
            · rename_i l hl
              injection e with e; simp only [Prod.mk.injEq] at e
              obtain ⟨rfl, rfl, rfl, rfl, rfl⟩ := e
              subst he
              obtain ⟨et, el2⟩ := castL_ty hl
              subst et; subst el2
              have hn := of_decide_eq_true (allT_cons hc).1
              have h0 := of_decide_eq_true (allT_cons (allT_cons hc).2).1
              refine ⟨[_], _, _, rfl, fun _ _ => rfl, LEs.cons ?_ LEs.nil, fun z hz => ?_⟩
              · rw [hn]
                exact fun rr => .oL _ _ _ (by rw [if_neg (by omega)]; exact rr)
              · rw [List.mem_singleton] at hz; subst hz
                exact ⟨_, by rw [dens_get, ho]; rfl, by rw [opt_den h0]; exact HSle.refl (x := HS.live ⟨t0.size, l.map t0.row, e'⟩) (by simp)⟩
            · cases e
          · cases e
        · cases e
      · cases e
  | .slf, me, cs, c, a, r, p, q, e, hc => by
    simp only [rdS] at e
    split at e
    · cases e
    · rename_i x rest
      split at e
      · injection e with e; simp only [Prod.mk.injEq] at e
        obtain ⟨rfl, rfl, rfl, rfl, rfl⟩ := e
        exact ⟨[_], _, [], rfl, fun _ _ => by cases me <;> rfl, LEs.refl _, fun z hz => by cases hz⟩
      · rename_i i
        split at e
        · rename_i m
          split at e
          · rename_i hm
            subst hm
            injection e with e; simp only [Prod.mk.injEq] at e
            obtain ⟨rfl, rfl, rfl, rfl, rfl⟩ := e
            exact ⟨[_], _, [], rfl, fun _ _ => rfl, LEs.refl _, fun z hz => by cases hz⟩
          · cases e
        · cases e
      · cases e
  | .ptr el s, me, cs, c, a, r, p, q, e, hc => by
    simp only [rdS] at e
    split at e
    · cases e
    · rename_i x rest
      split at e
      · rename_i i
        split at e
        · rename_i o ho
          split at e
          · rename_i ob hob
            split at e
            · rename_i hsz
              split at e
              · rename_i row hrow
                split at e
                · rename_i c1 a1 p1 q1 hr
                  injection e with e; simp only [Prod.mk.injEq] at e
                  obtain ⟨rfl, rfl, rfl, rfl, rfl⟩ := e
                  obtain ⟨pre, cc, oo, e1, e2, e3, e4⟩ := rdS_ok s (some i) row _ _ _ _ _ hr hc
                  rw [List.append_nil] at e1
                  subst e1
                  refine ⟨[_], [.pO i 0 0], (i, .live ⟨s.size, [cc], el⟩) :: oo, rfl, fun p' q' => ?_, LEs.refl _, fun z hz => ?_⟩
                  · simp only [lay, List.cons_append]
                    rw [e2 p' q']
                  · rcases List.mem_cons.1 hz with hz | hz
                    · subst hz
                      refine ⟨_, by rw [dens_get, ho]; rfl, ⟨by simp, fun o' ho' => ?_⟩⟩
                      injection ho' with ho'; subst ho'
                      refine ⟨ob, hob, hsz.1, hsz.2, by rw [hrow]; rfl, fun i r r' h1 h2 => ?_⟩
                      rw [hrow] at h1
                      cases i with
                      | zero => simp at h1 h2; subst h1 h2; exact e3
                      | succ i => simp at h1
                    · exact e4 z hz
                · cases e
              · cases e
            · cases e
          · cases e
        · cases e
      · cases e
  | .optp el s, me, cs, c, a, r, p, q, e, hc => by
    simp only [rdS] at e
    split at e
    · cases e
    · rename_i x rest
      split at e
      · injection e with e; simp only [Prod.mk.injEq] at e
        obtain ⟨rfl, rfl, rfl, rfl, rfl⟩ := e
        exact ⟨[_], [.v (.pointer none)], [], rfl, fun _ _ => rfl, LEs.refl _, fun z hz => by cases hz⟩
      · rename_i i
        split at e
        · rename_i o ho
          split at e
          · rename_i ob hob
            split at e
            · rename_i hsz
              split at e
              · rename_i row hrow
                split at e
                · rename_i c1 a1 p1 q1 hr
                  injection e with e; simp only [Prod.mk.injEq] at e
                  obtain ⟨rfl, rfl, rfl, rfl, rfl⟩ := e
                  obtain ⟨pre, cc, oo, e1, e2, e3, e4⟩ := rdS_ok s (some i) row _ _ _ _ _ hr hc
                  rw [List.append_nil] at e1
                  subst e1
                  refine ⟨[_], [.pO i 0 0], (i, .live ⟨s.size, [cc], el⟩) :: oo, rfl, fun p' q' => ?_, LEs.refl _, fun z hz => ?_⟩
                  · simp only [lay, List.cons_append]
                    rw [e2 p' q']
                  · rcases List.mem_cons.1 hz with hz | hz
                    · subst hz
                      refine ⟨_, by rw [dens_get, ho]; rfl, ⟨by simp, fun o' ho' => ?_⟩⟩
                      injection ho' with ho'; subst ho'
                      refine ⟨ob, hob, hsz.1, hsz.2, by rw [hrow]; rfl, fun i r r' h1 h2 => ?_⟩
                      rw [hrow] at h1
                      cases i with
                      | zero => simp at h1 h2; subst h1 h2; exact e3
                      | succ i => simp at h1
                    · exact e4 z hz
                · cases e
              · cases e
            · cases e
          · cases e
        · cases e
      · cases e
  | .pair a b, me, cs, c, z, r, p, q, e, hc => by
    simp only [rdS] at e
    split at e
    · rename_i c1 x1 r1 p1 q1 h1
      split at e
      · rename_i c2 y1 r2 p2 q2 h2
        injection e with e; simp only [Prod.mk.injEq] at e
        obtain ⟨rfl, rfl, rfl, rfl, rfl⟩ := e
        obtain ⟨pre1, cc1, oo1, e1, e2, e3, e4⟩ := rdS_ok a me cs _ _ _ _ _ h1 (fun b hb => hc b (List.mem_append.2 (.inl hb)))
        obtain ⟨pre2, cc2, oo2, f1, f2, f3, f4⟩ := rdS_ok b me r1 _ _ _ _ _ h2 (fun b hb => hc b (List.mem_append.2 (.inr hb)))
        refine ⟨pre1 ++ pre2, cc1 ++ cc2, oo1 ++ oo2, by rw [e1, f1]; simp, fun p' q' => ?_, e3.app f3, fun z hz => ?_⟩
        · simp only [lay]
          rw [show p1 ++ p2 ++ p' = p1 ++ (p2 ++ p') by simp, show q1 ++ q2 ++ q' = q1 ++ (q2 ++ q') by simp, e2]
          simp only [f2]
        · rcases List.mem_append.1 hz with hz | hz
          · exact e4 z hz
          · exact f4 z hz
      · cases e
    · cases e

/- arguments and results -/
def Sh.top : Sh → Bool
  | .pair _ _ => false
  | _ => true
def cA : Sh → V → List V
  | .val t, v => argCells t v
  | _, v => [v]
def rdAr (h : List XO) : (ps : List Sh) → List V → Option (List Bool × Tup (tys ps) × List Nat × List Nat)
  | [], [] => some ([], (), [], [])
  | s :: ps, v :: vs => match s.top with
    | true => (match rdS h s none (cA s v) with
      | some (c, a, [], p, q) => (match rdAr h ps vs with
        | some (c2, x, p2, q2) => some (c ++ c2, (a, x), p ++ p2, q ++ q2)
        | none => none)
      | _ => none)
    | false => none
  | _, _ => none
structure LiesA (h : List XO) (ps : List Sh) (args : List V) (x : Tup (tys ps)) (p q : List Nat) : Prop where
  out : ∃ c o, (∀ p' q', layA ps x (p ++ p') (q ++ q') = some ⟨c, o, p', q'⟩) ∧ LEs args c ∧ ∀ z, z ∈ o → ∃ x, (dens h)[z.1]? = some x ∧ HSle x z.2
theorem arg1_val (t : Ty) (a : t.den) : arg1 (.val t) (t.row a) = t.val a := by cases t <;> rfl
theorem arg1_one {s : Sh} (h : s.top = true) (h2 : ∀ t, s ≠ .val t) (x : V) : arg1 s [x] = x := by
  cases s with
  | val t => exact absurd rfl (h2 t)
  | pair a b => cases h
  | _ => rfl
theorem rdAr_ok {h : List XO} : ∀ (ps : List Sh) (args : List V) (c : List Bool) (x : Tup (tys ps)) (p q : List Nat), rdAr h ps args = some (c, x, p, q) → allT c → LiesA h ps args x p q
  | [], [], c, x, p, q, e, hc => by
    simp only [rdAr] at e
    injection e with e; simp only [Prod.mk.injEq] at e
    obtain ⟨rfl, _, rfl, rfl⟩ := e
    exact ⟨[], [], fun _ _ => rfl, LEs.nil, fun z hz => by cases hz⟩
  | [], _ :: _, _, _, _, _, e, _ => by simp [rdAr] at e
  | _ :: _, [], _, _, _, _, e, _ => by simp [rdAr] at e
  | s :: ps, v :: vs, c, x, p, q, e, hc => by
    simp only [rdAr] at e
    split at e
    · rename_i htop
      split at e
      · rename_i c1 a1 p1 q1 h1
        split at e
        · rename_i c2 x2 p2 q2 h2
          injection e with e; simp only [Prod.mk.injEq] at e
          obtain ⟨rfl, rfl, rfl, rfl⟩ := e
          obtain ⟨cc2, oo2, f2, f3, f4⟩ := rdAr_ok ps vs _ _ _ _ h2 (fun b hb => hc b (List.mem_append.2 (.inr hb)))
          have hc1 : allT c1 := fun b hb => hc b (List.mem_append.2 (.inl hb))
          obtain ⟨pre, cc, oo, e1, e2, e3, e4⟩ := rdS_ok s none _ _ _ _ _ _ h1 hc1
          rw [List.append_nil] at e1
          have key : LE v (arg1 s cc) := by
            by_cases hv : ∃ t, s = .val t
            · obtain ⟨t, rfl⟩ := hv
              simp only [rdS] at h1
              split at h1
              · rename_i a' r' hu
                injection h1 with h1; simp only [Prod.mk.injEq] at h1
                obtain ⟨rfl, rfl, rfl, rfl, rfl⟩ := h1
                have := e2 [] []
                simp only [lay] at this
                injection this with this
                injection this with this _ _ _
                rw [← this, arg1_val]
                exact arg_gen (R := fun a b => LE a b) (R' := fun a b => LE a b) (unPure_ok 8) (fun _ => LE.refl _) (fun _ _ h => h) LE.norm_agg hu
              · cases h1
            · have hcA : cA s v = [v] := by
                cases s with
                | val t => exact absurd ⟨t, rfl⟩ hv
                | _ => rfl
              rw [← e1, hcA] at e3
              match cc, e3 with
              | [y], e3 => rw [arg1_one htop (fun t q => hv ⟨t, q⟩)]; exact e3.2 0 _ _ rfl rfl
              | [], e3 => have := e3.1; simp at this
              | _ :: _ :: _, e3 => have := e3.1; simp at this
          refine ⟨arg1 s cc :: cc2, oo ++ oo2, fun p' q' => ?_, LEs.cons key f3, fun z hz => ?_⟩
          · simp only [layA]
            rw [show p1 ++ p2 ++ p' = p1 ++ (p2 ++ p') by simp, show q1 ++ q2 ++ q' = q1 ++ (q2 ++ q') by simp, e2]
            simp only [f2]
          · rcases List.mem_append.1 hz with hz | hz
            · exact e4 z hz
            · exact f4 z hz
        · cases e
      · cases e
    · cases e

/-- How many places are taken. -/
def nP : (s : Sh) → s.ty.den → Nat
  | .ptr _ s, a => nP s a + 1
  | .optp _ s, z => if z.1 = true then nP s z.2 + 1 else 0
  | .pair a b, z => nP a z.1 + nP b z.2
  | _, _ => 0
def nQ : (s : Sh) → s.ty.den → Nat
  | .own _ _, z => if z.1 = true then 1 else 0
  | .opt _ _, _ => 1
  | .ptr _ s, a => nQ s a
  | .optp _ s, z => if z.1 = true then nQ s z.2 else 0
  | .pair a b, z => nQ a z.1 + nQ b z.2
  | _, _ => 0
theorem lay_use : ∀ (s : Sh) (a : s.ty.den) (me : Option Nat) (p q : List Nat) (L : Lay), lay me s a p q = some L → p.length = nP s a + L.p.length ∧ q.length = nQ s a + L.q.length
  | .val t, a, me, p, q, L, h => by
    simp only [lay] at h; injection h with h; subst h; simp [nP, nQ]
  | .own t e, z, me, p, q, L, h => by
    simp only [lay] at h
    split at h
    · rename_i hz
      split at h
      · injection h with h; subst h; simp [nP, nQ, hz]; omega
      · cases h
    · rename_i hz
      injection h with h; subst h; simp [nP, nQ, hz]
  | .opt t e, l, me, p, q, L, h => by
    simp only [lay] at h
    split at h
    · injection h with h; subst h; simp [nP, nQ]; omega
    · cases h
  | .slf, b, me, p, q, L, h => by
    simp only [lay] at h
    split at h
    · injection h with h; subst h; simp [nP, nQ]
    · injection h with h; subst h; simp [nP, nQ]
    · cases h
  | .ptr e s, a, me, p, q, L, h => by
    simp only [lay] at h
    split at h
    · split at h
      · rename_i L1 h1
        injection h with h; subst h
        have := lay_use s a _ _ _ _ h1
        simp [nP, nQ]; omega
      · cases h
    · cases h
  | .optp e s, z, me, p, q, L, h => by
    simp only [lay] at h
    split at h
    · rename_i hz
      split at h
      · split at h
        · rename_i L1 h1
          injection h with h; subst h
          have := lay_use s z.2 _ _ _ _ h1
          simp [nP, nQ, hz]; omega
        · cases h
      · cases h
    · rename_i hz
      injection h with h; subst h; simp [nP, nQ, hz]
  | .pair a b, z, me, p, q, L, h => by
    simp only [lay] at h
    split at h
    · rename_i L1 h1
      split at h
      · rename_i L2 h2
        injection h with h; subst h
        have := lay_use a z.1 _ _ _ _ h1
        have := lay_use b z.2 _ _ _ _ h2
        simp [nP, nQ]; omega
      · cases h
    · cases h
def nPA : (ps : List Sh) → Tup (tys ps) → Nat
  | [], _ => 0
  | s :: ps, z => nP s z.1 + nPA ps z.2
def nQA : (ps : List Sh) → Tup (tys ps) → Nat
  | [], _ => 0
  | s :: ps, z => nQ s z.1 + nQA ps z.2
theorem layA_use : ∀ (ps : List Sh) (x : Tup (tys ps)) (p q : List Nat) (L : Lay), layA ps x p q = some L → p.length = nPA ps x + L.p.length ∧ q.length = nQA ps x + L.q.length
  | [], x, p, q, L, h => by simp only [layA] at h; injection h with h; subst h; simp [nPA, nQA]
  | s :: ps, z, p, q, L, h => by
    simp only [layA] at h
    split at h
    · rename_i L1 h1
      split at h
      · rename_i L2 h2
        injection h with h; subst h
        have := lay_use s z.1 _ _ _ _ h1
        have := layA_use ps z.2 _ _ _ h2
        simp [nPA, nQA]; omega
      · cases h
    · cases h

/- objects made anew -/
def denO (o : List (Nat × XO)) : List (Nat × HS) := o.map fun z => (z.1, z.2.den)
/-- Behind a call: the objects of p, lists from n on. -/
def bdK : (s : Sh) → Option Nat → s.ty.den → List Nat → Nat → (List V → List (Nat × XO) → List Nat → Nat → Prop) → Prop
  | .val t, _, a, p, n, K => fVs (t.row a) fun c => K c [] p n
  | .own t e, _, z, p, n, K => br z.1 (fN (n + 1) fun m => K [.sO n 0 z.2.length] [(n, .tl t z.2 e)] p m) (K [.v (.slice none 0 0)] [] p n)
  | .opt t e, _, l, p, n, K => fN (n + 1) fun m => K [.oL n l.length] [(n, .opt t l e)] p m
  | .slf, me, b, p, n, K => (match me with
    | some m => br b (K [.pO m 0 0] [] p n) (K [.v (.pointer none)] [] p n)
    | none => False)
  | .ptr e s, _, a, p, n, K => (match p with
    | i :: p => bdK s (some i) a p n fun c o p n => fVs c fun c => K [.pO i 0 0] ((i, .raw (.live ⟨s.size, [c], e⟩)) :: o) p n
    | [] => False)
  | .optp e s, _, z, p, n, K => br z.1 (match p with
    | i :: p => bdK s (some i) z.2 p n fun c o p n => fVs c fun c => K [.pO i 0 0] ((i, .raw (.live ⟨s.size, [c], e⟩)) :: o) p n
    | [] => False) (K [.v (.pointer none)] [] p n)
  | .pair a b, me, z, p, n, K => bdK a me z.1 p n fun c o p n => bdK b me z.2 p n fun c2 o2 p n => K (c ++ c2) (o ++ o2) p n
theorem range_app (n m k : Nat) (h1 : n ≤ m) (h2 : m ≤ k) : List.range' n (m - n) ++ List.range' m (k - m) = List.range' n (k - n) := by
  rw [show k - n = (m - n) + (k - m) by omega, ← List.range'_append_1, show n + (m - n) = m by omega]
theorem bdK_ok : ∀ (s : Sh) (me : Option Nat) (a : s.ty.den) (p : List Nat) (n : Nat) (K : List V → List (Nat × XO) → List Nat → Nat → Prop), bdK s me a p n K → ∃ c o p' n', (∀ q', lay me s a p (List.range' n (n' - n) ++ q') = some ⟨c, denO o, p', q'⟩) ∧ n ≤ n' ∧ K c o p' n'
  | .val t, me, a, p, n, K, h => by
    simp only [bdK, fVs_eq] at h
    exact ⟨_, _, _, _, fun q' => by simp [lay, denO], Nat.le_refl _, h⟩
  | .own t e, me, z, p, n, K, h => by
    simp only [bdK, fN_eq] at h
    obtain ⟨h1, h2⟩ := (br_iff _ _ _).1 h
    cases hz : z.1 with
    | true => exact ⟨_, _, _, _, fun q' => by simp only [lay, hz, show n + 1 - n = 1 by omega, List.range'_one, List.singleton_append]; rfl, by omega, h1 hz⟩
    | false => exact ⟨_, _, _, _, fun q' => by simp only [lay, hz, Nat.sub_self, List.range'_zero, List.nil_append]; rfl, Nat.le_refl _, h2 hz⟩
  | .opt t e, me, l, p, n, K, h => by
    simp only [bdK, fN_eq] at h
    exact ⟨_, _, _, _, fun q' => by simp only [lay, show n + 1 - n = 1 by omega, List.range'_one, List.singleton_append]; rfl, by omega, h⟩
  | .slf, me, b, p, n, K, h => by
    simp only [bdK] at h
    split at h
    · obtain ⟨h1, h2⟩ := (br_iff _ _ _).1 h
      cases b with
      | true => exact ⟨_, _, _, _, fun q' => by simp only [lay, Nat.sub_self, List.range'_zero, List.nil_append]; rfl, Nat.le_refl _, h1 rfl⟩
      | false => exact ⟨_, _, _, _, fun q' => by simp only [lay, Nat.sub_self, List.range'_zero, List.nil_append]; rfl, Nat.le_refl _, h2 rfl⟩
    · exact h.elim
  | .ptr e s, me, a, p, n, K, h => by
    simp only [bdK] at h
    split at h
    · rename_i i p
      obtain ⟨c, o, p', n', h1, h2, h3⟩ := bdK_ok s _ a p n _ h
      rw [fVs_eq] at h3
      exact ⟨_, _, _, _, fun q' => by simp only [lay, h1]; rfl, h2, h3⟩
    · exact h.elim
  | .optp e s, me, z, p, n, K, h => by
    simp only [bdK] at h
    obtain ⟨h1, h2⟩ := (br_iff _ _ _).1 h
    cases hz : z.1 with
    | true =>
      have h3 := h1 hz
      split at h3
      · rename_i i p
        obtain ⟨c, o, p', n', g1, g2, g3⟩ := bdK_ok s _ z.2 p n _ h3
        rw [fVs_eq] at g3
        exact ⟨_, _, _, _, fun q' => by simp only [lay, hz, g1]; rfl, g2, g3⟩
      · exact h3.elim
    | false => exact ⟨_, _, _, _, fun q' => by simp only [lay, hz, Nat.sub_self, List.range'_zero, List.nil_append]; rfl, Nat.le_refl _, h2 hz⟩
  | .pair a b, me, z, p, n, K, h => by
    simp only [bdK] at h
    obtain ⟨c, o, p', n', h1, h2, h3⟩ := bdK_ok a me z.1 p n _ h
    obtain ⟨c2, o2, p2, n2, g1, g2, g3⟩ := bdK_ok b me z.2 p' n' _ h3
    refine ⟨_, _, _, _, fun q' => ?_, Nat.le_trans h2 g2, g3⟩
    rw [← range_app n n' n2 h2 g2, List.append_assoc]
    simp only [lay, h1, g1]
    simp [denO]
def bdA : (ps : List Sh) → Tup (tys ps) → List Nat → Nat → (List (Nat × XO) → List Nat → Nat → Prop) → Prop
  | [], _, p, n, K => K [] p n
  | s :: ps, z, p, n, K => bdK s none z.1 p n fun _ o p n => bdA ps z.2 p n fun o2 p n => K (o ++ o2) p n
theorem bdA_ok : ∀ (ps : List Sh) (x : Tup (tys ps)) (p : List Nat) (n : Nat) (K : List (Nat × XO) → List Nat → Nat → Prop), bdA ps x p n K → ∃ c o p' n', (∀ q', layA ps x p (List.range' n (n' - n) ++ q') = some ⟨c, denO o, p', q'⟩) ∧ n ≤ n' ∧ K o p' n'
  | [], x, p, n, K, h => ⟨[], [], p, n, fun q' => by simp [layA, denO], Nat.le_refl _, h⟩
  | s :: ps, z, p, n, K, h => by
    simp only [bdA] at h
    obtain ⟨c, o, p', n', h1, h2, h3⟩ := bdK_ok s none z.1 p n _ h
    obtain ⟨c2, o2, p2, n2, g1, g2, g3⟩ := bdA_ok ps z.2 p' n' _ h3
    refine ⟨arg1 s c :: c2, _, _, _, fun q' => ?_, Nat.le_trans h2 g2, g3⟩
    rw [← range_app n n' n2 h2 g2, List.append_assoc]
    simp only [layA, h1, g1]
    simp [denO]
/-- All new: results, and where a function begins. -/
def nwK : (s : Sh) → Option Nat → s.ty.den → Nat → (List V → List (Nat × XO) → List Nat → List Nat → Nat → Prop) → Prop
  | .val t, _, a, n, K => fVs (t.row a) fun c => K c [] [] [] n
  | .own t e, _, z, n, K => br z.1 (fN (n + 1) fun m => K [.sO n 0 z.2.length] [(n, .tl t z.2 e)] [] [n] m) (K [.v (.slice none 0 0)] [] [] [] n)
  | .opt t e, _, l, n, K => fN (n + 1) fun m => K [.oL n l.length] [(n, .opt t l e)] [] [n] m
  | .slf, me, b, n, K => (match me with
    | some m => br b (K [.pO m 0 0] [] [] [] n) (K [.v (.pointer none)] [] [] [] n)
    | none => False)
  | .ptr e s, _, a, n, K => fN (n + 1) fun m => nwK s (some n) a m fun c o p q m => fVs c fun c => K [.pO n 0 0] ((n, .raw (.live ⟨s.size, [c], e⟩)) :: o) (n :: p) q m
  | .optp e s, _, z, n, K => br z.1 (fN (n + 1) fun m => nwK s (some n) z.2 m fun c o p q m => fVs c fun c => K [.pO n 0 0] ((n, .raw (.live ⟨s.size, [c], e⟩)) :: o) (n :: p) q m) (K [.v (.pointer none)] [] [] [] n)
  | .pair a b, me, z, n, K => nwK a me z.1 n fun c o p q n => nwK b me z.2 n fun c2 o2 p2 q2 n => K (c ++ c2) (o ++ o2) (p ++ p2) (q ++ q2) n
theorem nwK_ok : ∀ (s : Sh) (me : Option Nat) (a : s.ty.den) (n : Nat) (K : List V → List (Nat × XO) → List Nat → List Nat → Nat → Prop), nwK s me a n K → ∃ c o p q n', (∀ p' q', lay me s a (p ++ p') (q ++ q') = some ⟨c, denO o, p', q'⟩) ∧ n ≤ n' ∧ o.map (·.1) = List.range' n (n' - n) ∧ K c o p q n'
  | .val t, me, a, n, K, h => by
    simp only [nwK, fVs_eq] at h
    exact ⟨_, _, _, _, _, fun p' q' => by simp [lay, denO], Nat.le_refl _, by simp, h⟩
  | .own t e, me, z, n, K, h => by
    simp only [nwK, fN_eq] at h
    obtain ⟨h1, h2⟩ := (br_iff _ _ _).1 h
    cases hz : z.1 with
    | true => exact ⟨_, _, _, _, _, fun p' q' => by simp only [lay, hz, List.singleton_append, List.nil_append]; rfl, by omega, by simp [show n + 1 - n = 1 by omega], h1 hz⟩
    | false => exact ⟨_, _, _, _, _, fun p' q' => by simp only [lay, hz, List.nil_append]; rfl, Nat.le_refl _, by simp, h2 hz⟩
  | .opt t e, me, l, n, K, h => by
    simp only [nwK, fN_eq] at h
    exact ⟨_, _, _, _, _, fun p' q' => by simp only [lay, List.singleton_append, List.nil_append]; rfl, by omega, by simp [show n + 1 - n = 1 by omega], h⟩
  | .slf, me, b, n, K, h => by
    simp only [nwK] at h
    split at h
    · obtain ⟨h1, h2⟩ := (br_iff _ _ _).1 h
      cases b with
      | true => exact ⟨_, _, _, _, _, fun p' q' => by simp only [lay, List.nil_append]; rfl, Nat.le_refl _, by simp, h1 rfl⟩
      | false => exact ⟨_, _, _, _, _, fun p' q' => by simp only [lay, List.nil_append]; rfl, Nat.le_refl _, by simp, h2 rfl⟩
    · exact h.elim
  | .ptr e s, me, a, n, K, h => by
    simp only [nwK, fN_eq] at h
    obtain ⟨c, o, p, q, n', h1, h2, h3, h4⟩ := nwK_ok s _ a (n + 1) _ h
    rw [fVs_eq] at h4
    refine ⟨_, _, _, _, _, fun p' q' => by simp only [lay, List.cons_append, h1]; rfl, by omega, ?_, h4⟩
    simp only [List.map_cons, h3]
    rw [show n' - n = (n' - (n + 1)) + 1 by omega, List.range'_succ]
  | .optp e s, me, z, n, K, h => by
    simp only [nwK, fN_eq] at h
    obtain ⟨h1, h2⟩ := (br_iff _ _ _).1 h
    cases hz : z.1 with
    | true =>
      obtain ⟨c, o, p, q, n', g1, g2, g3, g4⟩ := nwK_ok s _ z.2 (n + 1) _ (h1 hz)
      rw [fVs_eq] at g4
      refine ⟨_, _, _, _, _, fun p' q' => by simp only [lay, hz, List.cons_append, g1]; rfl, by omega, ?_, g4⟩
      simp only [List.map_cons, g3]
      rw [show n' - n = (n' - (n + 1)) + 1 by omega, List.range'_succ]
    | false => exact ⟨_, _, _, _, _, fun p' q' => by simp only [lay, hz, List.nil_append]; rfl, Nat.le_refl _, by simp, h2 hz⟩
  | .pair a b, me, z, n, K, h => by
    simp only [nwK] at h
    obtain ⟨c, o, p, q, n', h1, h2, h3, h4⟩ := nwK_ok a me z.1 n _ h
    obtain ⟨c2, o2, p2, q2, n2, g1, g2, g3, g4⟩ := nwK_ok b me z.2 n' _ h4
    refine ⟨_, _, _, _, _, fun p' q' => ?_, Nat.le_trans h2 g2, ?_, g4⟩
    · simp only [lay, List.append_assoc, h1, g1]
      simp [denO]
    · rw [List.map_append, h3, g3, range_app n n' n2 h2 g2]
def nwA : (ps : List Sh) → Tup (tys ps) → Nat → (List V → List (Nat × XO) → List Nat → List Nat → Nat → Prop) → Prop
  | [], _, n, K => K [] [] [] [] n
  | s :: ps, z, n, K => nwK s none z.1 n fun c o p q n => nwA ps z.2 n fun c2 o2 p2 q2 n => K (arg1 s c :: c2) (o ++ o2) (p ++ p2) (q ++ q2) n
theorem nwA_ok : ∀ (ps : List Sh) (x : Tup (tys ps)) (n : Nat) (K : List V → List (Nat × XO) → List Nat → List Nat → Nat → Prop), nwA ps x n K → ∃ c o p q n', (∀ p' q', layA ps x (p ++ p') (q ++ q') = some ⟨c, denO o, p', q'⟩) ∧ n ≤ n' ∧ o.map (·.1) = List.range' n (n' - n) ∧ K c o p q n'
  | [], x, n, K, h => ⟨[], [], [], [], n, fun p' q' => by simp [layA, denO], Nat.le_refl _, by simp, h⟩
  | s :: ps, z, n, K, h => by
    simp only [nwA] at h
    obtain ⟨c, o, p, q, n', h1, h2, h3, h4⟩ := nwK_ok s none z.1 n _ h
    obtain ⟨c2, o2, p2, q2, n2, g1, g2, g3, g4⟩ := nwA_ok ps z.2 n' _ h4
    refine ⟨_, _, _, _, _, fun p' q' => ?_, Nat.le_trans h2 g2, ?_, g4⟩
    · simp only [layA, List.append_assoc, h1, g1]
      simp [denO]
    · rw [List.map_append, h3, g3, range_app n n' n2 h2 g2]

def putX : List (Nat × XO) → List XO → List XO
  | [], h => h
  | z :: r, h => putX r (h.set z.1 z.2)
theorem putX_len : ∀ (l : List (Nat × XO)) (h : List XO), (putX l h).length = h.length
  | [], _ => rfl
  | z :: r, h => by rw [putX, putX_len r]; simp
theorem putX_other : ∀ (l : List (Nat × XO)) (h : List XO) (i : Nat), ¬ i ∈ l.map (·.1) → (putX l h)[i]? = h[i]?
  | [], _, _, _ => rfl
  | z :: r, h, i, hi => by
    rw [putX, putX_other r _ i (fun q => hi (by simp only [List.map_cons, List.mem_cons]; exact .inr q))]
    exact List.getElem?_set_ne (fun q => hi (by simp [q]))
theorem putX_get : ∀ (l : List (Nat × XO)) (h : List XO) (z : Nat × XO), (l.map (·.1)).Nodup → z ∈ l → z.1 < h.length → (putX l h)[z.1]? = some z.2
  | [], _, _, _, hz, _ => by cases hz
  | y :: r, h, z, hn, hz, hl => by
    simp only [List.map_cons, List.nodup_cons] at hn
    rw [putX]
    rcases List.mem_cons.1 hz with q | q
    · subst q
      rw [putX_other r _ _ hn.1, List.getElem?_set_self hl]
    · exact putX_get r _ z hn.2 q (by simpa using hl)
def ndB : List Nat → Bool
  | [] => true
  | x :: r => !r.elem x && ndB r
theorem ndB_ok : ∀ {l : List Nat}, ndB l = true → l.Nodup
  | [], _ => List.nodup_nil
  | x :: r, h => by
    simp only [ndB, Bool.and_eq_true, Bool.not_eq_true', List.elem_eq_mem, decide_eq_false_iff_not] at h
    exact List.nodup_cons.2 ⟨h.1, ndB_ok h.2⟩
def deads (q : List Nat) : List (Nat × XO) := q.map fun i => (i, .raw .dead)
theorem deads_fst (q : List Nat) : (deads q).map (·.1) = q := by
  unfold deads; rw [List.map_map]; conv => rhs; rw [← List.map_id q]
  exact List.map_congr_left fun _ _ => rfl
theorem after_ok {h : List XO} {p q : List Nat} {o : List (Nat × XO)} {m : Nat} (hpq : (p ++ q).Nodup) (hlt : ∀ i, i ∈ p ++ q → i < h.length) (ho : (o.map (·.1)).Perm (p ++ List.range' h.length m)) :
    After (dens h) p q (denO o) (dens (putX o (putX (deads q) h ++ List.replicate m (.raw .dead)))) := by
  have hd : (denO o).map (·.1) = o.map (·.1) := by unfold denO; rw [List.map_map]; rfl
  obtain ⟨hp, hq, hdis⟩ := List.nodup_append.1 hpq
  have hl1 : (putX (deads q) h ++ List.replicate m (XO.raw .dead)).length = h.length + m := by simp [putX_len]
  have hnd : (o.map (·.1)).Nodup := by
    rw [ho.nodup_iff, List.nodup_append]
    refine ⟨hp, List.nodup_range' .., fun a ha b hb e => ?_⟩
    subst e
    have := hlt a (List.mem_append.2 (.inl ha))
    have := (List.mem_range'_1.1 hb).1
    omega
  have hnq : ∀ i, i ∈ q → ¬ i ∈ o.map (·.1) := fun i hi hq => by
    rcases List.mem_append.1 (ho.mem_iff.1 hq) with r | r
    · exact hdis i r i hi rfl
    · have := hlt i (List.mem_append.2 (.inr hi))
      have := (List.mem_range'_1.1 r).1
      omega
  refine ⟨by simp [dens_len, putX_len], fun i hi h1 h2 => ?_, fun i hi => ?_, fun z hz => ?_, fun i hi hlt2 => ?_, by rw [hd]; exact hnd⟩
  · rw [dens_len] at hi
    rw [dens_get, dens_get, putX_other, List.getElem?_append_left (by rw [putX_len]; exact hi), putX_other _ _ _ (by rw [deads_fst]; exact h2)]
    intro r
    rcases List.mem_append.1 (ho.mem_iff.1 r) with r | r
    · exact h1 r
    · have := (List.mem_range'_1.1 r).1
      omega
  · have hil := hlt i (List.mem_append.2 (.inr hi))
    rw [dens_get, putX_other _ _ _ (hnq i hi), List.getElem?_append_left (by rw [putX_len]; exact hil)]
    have := putX_get (deads q) h (i, .raw .dead) (by rw [deads_fst]; exact hq) (by unfold deads; rw [List.mem_map]; exact ⟨i, hi, rfl⟩) hil
    rw [this]; rfl
  · unfold denO at hz
    obtain ⟨y, hy, rfl⟩ := List.mem_map.1 hz
    have hyl : y.1 < (putX (deads q) h ++ List.replicate m (XO.raw .dead)).length := by
      rw [hl1]
      rcases List.mem_append.1 (ho.mem_iff.1 (List.mem_map.2 ⟨y, hy, rfl⟩)) with r | r
      · have := hlt y.1 (List.mem_append.2 (.inl r)); omega
      · have := (List.mem_range'_1.1 r).2; omega
    rw [dens_get, putX_get o _ y hnd hy hyl]; rfl
  · rw [hd, ho.mem_iff, List.mem_append]
    rw [dens_len] at hi
    rw [dens_len, putX_len, hl1] at hlt2
    rcases hi with r | r
    · exact .inl r
    · exact .inr (List.mem_range'_1.2 ⟨r, by omega⟩)
end Go.Abs
