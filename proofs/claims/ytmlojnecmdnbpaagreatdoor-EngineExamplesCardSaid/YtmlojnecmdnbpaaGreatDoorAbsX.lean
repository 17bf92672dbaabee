/- Walks that may give other numbers to the objects that a function has made. -/
import Derived.Test.YtmlojnecmdnbpaaGreatDoorAbsW
import Derived.LoopN
namespace Go.Abs
set_option linter.unusedVariables false

/-- As 'Evolve', but only the first n objects keep their places. -/
structure EvN (n : Nat) (h : Heap) (ι : Iota) (w : World) (h' : Heap) (ι' : Iota) (w' : World) : Prop where
  os : w'.os = w.os
  tape : w'.tape = w.tape
  output : w'.output = w.output
  size : w.heap.size ≤ w'.heap.size
  iota : ∀ id l, id < n → ι id = some l → ι' id = some l
  away : ι'.X = ι.X
  frame : ∀ b, b < w.heap.size → ¬ Ob h ι b → w'.heap[b]? = w.heap[b]? ∧ ¬ Ob h' ι' b
  sizes : ∀ (b : Nat) (c : Array Value) (e : TypeId) (fr : Nat × Nat), w.heap[b]? = some (.cells c e fr) → ∃ (c' : Array Value) (fr' : Nat × Nat), w'.heap[b]? = some (.cells c' e fr') ∧ c'.size = c.size

theorem EvN.of {n : Nat} {h ι w h' ι' w'} (e : Evolve h ι w h' ι' w') : EvN n h ι w h' ι' w' := ⟨e.os, e.tape, e.output, e.size, fun id l _ q => e.iota id l q, e.away, e.frame, e.sizes⟩
theorem EvN.to {h ι w h' ι' w'} (e : EvN h.length h ι w h' ι' w') (H : HRel h ι w) : Evolve h ι w h' ι' w' := ⟨e.os, e.tape, e.output, e.size, (fun id l q => by
  rcases Nat.lt_or_ge id h.length with hlt | hge
  · exact e.iota id l hlt q
  · rw [H.out id hge] at q; cases q), e.away, e.frame, e.sizes⟩
theorem EvN.trans {n : Nat} {h ι w h₁ ι₁ w₁ h₂ ι₂ w₂} (a : EvN n h ι w h₁ ι₁ w₁) (b : EvN n h₁ ι₁ w₁ h₂ ι₂ w₂) : EvN n h ι w h₂ ι₂ w₂ where
  os := b.os.trans a.os
  tape := b.tape.trans a.tape
  output := b.output.trans a.output
  size := Nat.le_trans a.size b.size
  iota := fun id l hn e => b.iota id l hn (a.iota id l hn e)
  away := b.away.trans a.away
  frame := fun k hk hm => by
    obtain ⟨e1, m1⟩ := a.frame k hk hm
    obtain ⟨e2, m2⟩ := b.frame k (Nat.lt_of_lt_of_le hk a.size) m1
    exact ⟨e2.trans e1, m2⟩
  sizes := fun k c e fr hc => by
    obtain ⟨c1, fr1, h1, s1⟩ := a.sizes k c e fr hc
    obtain ⟨c2, fr2, h2, s2⟩ := b.sizes k c1 e fr1 h1
    exact ⟨c2, fr2, h2, s2.trans s1⟩

def PostN (n : Nat) (s : St) (ι : Iota) (w : World) (Q : Exit → St → Prop) : Exit → Act → World → Prop :=
  fun e a' w' => ∃ s' ι', Q e s' ∧ SR s' ι' a' w' ∧ EvN n s.h ι w s'.h ι' w'

/-- The walk of a function that began with n objects. -/
def PV (n : Nat) (P : Program) (c : Code) (s : St) (Q : Exit → St → Prop) : Prop :=
  ∀ ι a w, SR s ι a w → c.wp P (PostN n s ι w Q) a w

section
variable {n : Nat} {P : Program} {Q : Exit → St → Prop} {s : St}

theorem PV.of {c : Code} (h : PW P c s Q) : PV n P c s Q := fun ι a w r => wp_mono (h ι a w r) fun e a' w' ⟨s', ι', q, r', ev⟩ => ⟨s', ι', q, r', EvN.of ev⟩
theorem PV.mono {c : Code} {Q' : Exit → St → Prop} (h : PV n P c s Q) (hq : ∀ e s, Q e s → Q' e s) : PV n P c s Q' :=
  fun ι a w r => wp_mono (h ι a w r) fun e a' w' ⟨s', ι', q, rest⟩ => ⟨s', ι', hq _ _ q, rest⟩
theorem PV.norm {c : Code} (s' : St) (e : s = s') (h : PV n P c s' Q) : PV n P c s Q := by rw [e]; exact h
theorem PV.skip (h : Q .normal s) : PV n P .skip s Q := PV.of (PW.skip h)
theorem PV.exit {id : Nat} (h : Q (.exit id) s) : PV n P (.exit id) s Q := PV.of (PW.exit h)
theorem PV.ret (h : Q .ret s) : PV n P .ret s Q := PV.of (PW.ret h)
theorem PV.seq {x y : Code} (h : PV n P x s (thenA (fun s' => PV n P y s' Q) Q)) : PV n P (.seq x y) s Q := by
  intro ι a w r
  refine wp_seq (wp_mono (h ι a w r) ?_)
  rintro e a' w' ⟨s', ι', q, r', ev⟩
  cases e with
  | normal => exact wp_mono (q ι' a' w' r') fun e2 a2 w2 ⟨s2, ι2, q2, r2, ev2⟩ => ⟨s2, ι2, q2, r2, ev.trans ev2⟩
  | _ => exact ⟨s', ι', q, r', ev⟩
def roundsV (n : Nat) (P : Program) (c : Code) (Q : Exit → St → Prop) : Nat → St → Prop
  | 0, _ => False
  | m + 1, s => PV n P c s (thenA (roundsV n P c Q m) Q)
theorem PV.unroll {c : Code} (m : Nat) (h : roundsV n P c Q m s) : PV n P (.loop c) s Q := by
  have go : ∀ (m : Nat) (s' : St) (ι' : Iota) (a' : Act) (w' : World) {ι : Iota} {w : World}, SR s' ι' a' w' → EvN n s.h ι w s'.h ι' w' → roundsV n P c Q m s' → Code.rounds P c (PostN n s ι w Q) m a' w' := by
    intro m
    induction m with
    | zero => intro s' ι' a' w' ι w r ev hm; exact hm.elim
    | succ m ih =>
      intro s' ι' a' w' ι w r ev hm
      rw [rounds_succ]
      refine wp_mono (hm ι' a' w' r) ?_
      rintro e a2 w2 ⟨s2, ι2, q, r2, ev2⟩
      cases e with
      | normal => exact ih s2 ι2 a2 w2 r2 (ev.trans ev2) q
      | _ => exact ⟨s2, ι2, q, r2, ev.trans ev2⟩
  intro ι a w r
  refine wp_loop_rounds m (go m s ι a w r ⟨rfl, rfl, rfl, Nat.le_refl _, fun _ _ _ q => q, rfl, fun _ _ q => ⟨rfl, q⟩, fun _ c _ fr q => ⟨c, fr, q, rfl⟩⟩ h)
theorem PV.block {id : Nat} {c : Code} (h : PV n P c s (inBlockA id Q)) : PV n P (.block id c) s Q := by
  intro ι a w r
  refine wp_block (wp_mono (h ι a w r) ?_)
  rintro e a' w' ⟨s', ι', q, r', ev⟩
  cases e with
  | exit id' =>
    simp only [inBlockA] at q
    simp only [Exit.inBlock]
    split
    · rename_i hid
      rw [if_pos hid] at q
      exact ⟨s', ι', q, r', ev⟩
    · rename_i hid
      rw [if_neg hid] at q
      exact ⟨s', ι', q, r', ev⟩
  | _ => exact ⟨s', ι', q, r', ev⟩
theorem PV.cond {c : Operand} {x y : Code} {t : Bool} (hc : aev s.sl c = .v (.bool t)) (h : PV n P (if t then x else y) s Q) : PV n P (.cond c x y) s Q :=
  fun ι a w r => wp_cond (r.eval hc) (h ι a w r)
theorem PV.cond_true {c : Operand} {x y : Code} (hc : aev s.sl c = .v (.bool true)) (h : PV n P x s Q) : PV n P (.cond c x y) s Q := PV.cond hc h
theorem PV.cond_false {c : Operand} {x y : Code} (hc : aev s.sl c = .v (.bool false)) (h : PV n P y s Q) : PV n P (.cond c x y) s Q := PV.cond hc h
end

def Iota.ren (ι : Iota) (σ : List Nat) : Iota := { at' := fun j => match σ[j]? with | some i => ι i | Option.none => Option.none, X := ι.X }


/-- The old value under the map σ (new number ↦ old number) is the new one, or the new one says less. -/
def RenV (σ : List Nat) (x y : V) : Prop := ∀ (w : World) (ι : Iota) (M M' : Nat → Prop), (∀ b, M' b → M b) → ∀ z : Value, Rep w ι M x z → Rep w (ι.ren σ) M' y z
structure RenL (σ : List Nat) (o o' : AObj) : Prop where
  sz : o.sz = o'.sz
  elem : o.elem = o'.elem
  len : o.rows.length = o'.rows.length
  rows : ∀ (i : Nat) (r r' : List V), o.rows[i]? = some r → o'.rows[i]? = some r' → Pairs (RenV σ) r r'
def RenO (σ : List Nat) (x y : HS) : Prop := y ≠ .free ∧ ∀ o', y = .live o' → ∃ o, x = .live o ∧ RenL σ o o'
theorem RenV.any (σ : List Nat) (x : V) : RenV σ x .any := fun w ι M M' _ z _ => .any z
theorem RenV.tree {σ : List Nat} {x y : V} (h : LE x y) (hy : NI 0 y) : RenV σ x y := fun w ι M M' hM z r => (h r).free hM hy
theorem RenV.pO {σ : List Nat} {i j : Nat} (r o : Nat) (h : σ[j]? = some i) : RenV σ (.pO i r o) (.pO j r o) := fun w ι M M' hM z q => by
  cases q with | pO _ _ _ l hl => exact .pO _ _ _ l (by simp [Iota.ren, h, hl])
theorem RenV.sO {σ : List Nat} {i j : Nat} (o l : Nat) (h : σ[j]? = some i) : RenV σ (.sO i o l) (.sO j o l) := fun w ι M M' hM z q => by
  cases q with | sO _ _ _ cap l c e fr hl hcap hb hs => exact .sO _ _ _ cap l c e fr (by simp [Iota.ren, h, hl]) hcap hb hs
theorem RenV.oL {σ : List Nat} {i j : Nat} (n : Nat) (h : σ[j]? = some i) : RenV σ (.oL i n) (.oL j n) := fun w ι M M' hM z q => by
  cases q with
  | oL _ _ _ q =>
    refine .oL _ _ _ ?_
    by_cases hn : n = 0
    · rw [if_pos hn] at q ⊢; cases q; exact .v _
    · rw [if_neg hn] at q ⊢; exact RenV.sO 0 n h w ι M M' hM z q
theorem RenV.agg {σ : List Nat} {xs ys : List V} (h : Pairs (RenV σ) xs ys) : RenV σ (.agg xs) (.agg ys) := fun w ι M M' hM z q => by
  cases q with
  | agg _ vs hl hr =>
    refine .agg _ vs (h.1.symm.trans hl) (fun i h1 h2 => ?_)
    have hi : i < xs.length := by rw [h.1]; exact h1
    exact h.2 i _ _ (List.getElem?_eq_getElem hi) (List.getElem?_eq_getElem h1) w ι M M' hM _ (hr i hi h2)
theorem RenV.tup {σ : List Nat} {xs ys : List V} (h : Pairs (RenV σ) xs ys) : RenV σ (.tup xs) (.tup ys) := fun w ι M M' hM z q => by
  cases q with
  | tup _ vs hl hr =>
    refine .tup _ vs (h.1.symm.trans hl) (fun i h1 h2 => ?_)
    have hi : i < xs.length := by rw [h.1]; exact h1
    exact h.2 i _ _ (List.getElem?_eq_getElem hi) (List.getElem?_eq_getElem h1) w ι M M' hM _ (hr i hi h2)
theorem RenV.fn {σ : List Nat} {f : Fn} {a b a' b' : List V} (h1 : Pairs (RenV σ) a a') (h2 : Pairs (RenV σ) b b') : RenV σ (.fn f a b) (.fn f a' b') := fun w ι M M' hM z q => by
  cases q with
  | fn _ _ _ vs us l1 l2 r1 r2 =>
    refine .fn _ _ _ vs us (h1.1.symm.trans l1) (h2.1.symm.trans l2) (fun i g1 g2 => ?_) (fun i g1 g2 => ?_)
    · have hi : i < a.length := by rw [h1.1]; exact g1
      exact h1.2 i _ _ (List.getElem?_eq_getElem hi) (List.getElem?_eq_getElem g1) w ι M M' hM _ (r1 i hi g2)
    · have hi : i < b.length := by rw [h2.1]; exact g1
      exact h2.2 i _ _ (List.getElem?_eq_getElem hi) (List.getElem?_eq_getElem g1) w ι M M' hM _ (r2 i hi g2)
theorem RenV.ifc {σ : List Nat} {t : TypeId} {x y : V} (h : RenV σ x y) : RenV σ (.ifc t x) (.ifc t y) := fun w ι M M' hM z q => by
  cases q with | ifc _ _ v r => exact .ifc _ _ v (h w ι M M' hM v r)

/-- What is known behind a step, with new numbers: the object j was σ[j]. The first n0 keep theirs. -/
structure CutR (n0 : Nat) (σ : List Nat) (s s' : St) : Prop where
  len : s'.h.length = σ.length
  ident : ∀ j, j < n0 → σ[j]? = some j
  inj : σ.Nodup
  sl : Pairs (RenV σ) s.sl s'.sl
  h : ∀ (j i : Nat), σ[j]? = some i → ∃ x y, s.h[i]? = some x ∧ s'.h[j]? = some y ∧ RenO σ x y

theorem CutR.apply {n0 : Nat} {σ : List Nat} {s s' : St} (c : CutR n0 σ s s') {ι : Iota} {a : Act} {w : World} (r : SR s ι a w) : SR s' (ι.ren σ) a w ∧ EvN n0 s.h ι w s'.h (ι.ren σ) w := by
  have H := r.heap
  have old : ∀ (j : Nat) (o' : AObj), s'.h[j]? = some (.live o') → ∃ i o, σ[j]? = some i ∧ s.h[i]? = some (.live o) ∧ RenL σ o o' := by
    intro j o' h
    have hj : j < σ.length := by rw [← c.len]; exact get_lt h
    obtain ⟨x, y, h1, h2, h3⟩ := c.h j σ[j] (List.getElem?_eq_getElem hj)
    rw [h] at h2; injection h2 with h2; subst h2
    obtain ⟨o, rfl, h4⟩ := h3.2 o' rfl
    exact ⟨σ[j], o, List.getElem?_eq_getElem hj, h1, h4⟩
  have at' : ∀ (j i : Nat), σ[j]? = some i → (ι.ren σ) j = ι i := by intro j i h; simp [Iota.ren, h]
  have ob : ∀ b, Ob s'.h (ι.ren σ) b → Ob s.h ι b := by
    rintro b ⟨j, o', l, h1, h2, h3⟩
    obtain ⟨i, o, e1, e2, e3⟩ := old j o' h1
    rw [at' j i e1] at h2
    exact ⟨i, o, l, e2, h2, h3⟩
  have mt : ∀ b, Mt s'.h (ι.ren σ) b → Mt s.h ι b := fun b q => q.elim .inl fun q => .inr (ob b q)
  refine ⟨⟨r.defers, ⟨r.slots.1.trans c.sl.1, fun i y hy => ?_⟩, ⟨fun j o' ho => ?_, fun j hj => ?_, fun j hj => ?_, fun j1 o1 l1 j2 o2 l2 a1 a2 b1 b2 hb => ?_, H.xlt, fun b hb q => H.xob b hb (ob b q)⟩⟩,
    ⟨rfl, rfl, rfl, Nat.le_refl _, fun id l hn hl => by rw [at' id id (c.ident id hn)]; exact hl, rfl, fun b _ q => ⟨rfl, fun z => q (ob b z)⟩, fun b cc e fr hb => ⟨cc, fr, hb, rfl⟩⟩⟩
  · have h2 := get_lt hy
    have h1 : i < s.sl.length := by rw [c.sl.1]; exact h2
    obtain ⟨z, z1, z2⟩ := r.slots.2 i _ (List.getElem?_eq_getElem h1)
    exact ⟨z, z1, c.sl.2 i _ _ (List.getElem?_eq_getElem h1) hy w ι _ _ mt z z2⟩
  · obtain ⟨i, o, e1, e2, e3⟩ := old j o' ho
    obtain ⟨l, cc, fr, h1, la⟩ := H.live i o e2
    refine ⟨l, cc, fr, by rw [at' j i e1]; exact h1, ⟨by rw [← e3.elem]; exact la.blk, by rw [← e3.elem, ← e3.sz]; exact la.unfrozen, by rw [← e3.sz]; exact la.sz, fun r' hr' => ?_, by rw [← e3.sz, ← e3.len]; exact la.fits, fun k hk m hm => ?_⟩⟩
    · obtain ⟨k, hk, e⟩ := List.getElem_of_mem hr'
      have hk1 : k < o.rows.length := by rw [e3.len]; exact hk
      have u := e3.rows k _ _ (List.getElem?_eq_getElem hk1) (List.getElem?_eq_getElem hk)
      rw [← e, ← u.1, ← e3.sz]
      exact la.rows _ (List.getElem_mem hk1)
    · have hk1 : k < o.rows.length := by rw [e3.len]; exact hk
      have u := e3.rows k _ _ (List.getElem?_eq_getElem hk1) (List.getElem?_eq_getElem hk)
      have hm1 : m < o.rows[k].length := by rw [u.1]; exact hm
      obtain ⟨z, z1, z2⟩ := la.reads k hk1 m hm1
      exact ⟨z, by rw [← e3.sz]; exact z1, u.2 m _ _ (List.getElem?_eq_getElem hm1) (List.getElem?_eq_getElem hm) w ι _ _ mt z z2⟩
  · exfalso
    have hj' : j < σ.length := by rw [← c.len]; exact get_lt hj
    obtain ⟨x, y, h1, h2, h3⟩ := c.h j σ[j] (List.getElem?_eq_getElem hj')
    rw [hj] at h2; injection h2 with h2; subst h2
    exact h3.1 rfl
  · have : σ[j]? = none := List.getElem?_eq_none (by rw [← c.len]; exact hj)
    simp [Iota.ren, this]
  · obtain ⟨i1, p1, e1, e2, _⟩ := old j1 o1 a1
    obtain ⟨i2, p2, f1, f2, _⟩ := old j2 o2 b1
    rw [at' j1 i1 e1] at a2
    rw [at' j2 i2 f1] at b2
    have := H.apart _ _ _ _ _ _ e2 a2 f2 b2 hb
    subst this
    have h1 := get_lt e1
    have h2 := get_lt f1
    rw [List.getElem?_eq_getElem h1] at e1; injection e1 with e1
    rw [List.getElem?_eq_getElem h2] at f1; injection f1 with f1
    have hpw := List.pairwise_iff_getElem.1 c.inj
    rcases Nat.lt_trichotomy j1 j2 with q | q | q
    · exact absurd (e1.trans f1.symm) (hpw j1 j2 h1 h2 q)
    · exact q
    · exact absurd (f1.trans e1.symm) (hpw j2 j1 h2 h1 q)

/-- Another knowledge of a state. -/
def CutS (n : Nat) (s s' : St) : Prop := ∀ {ι : Iota} {a : Act} {w : World}, SR s ι a w → ∃ ι', SR s' ι' a w ∧ EvN n s.h ι w s'.h ι' w
theorem CutS.trans {n : Nat} {a b c : St} (h1 : CutS n a b) (h2 : CutS n b c) : CutS n a c := fun r => by
  obtain ⟨ι1, r1, e1⟩ := h1 r
  obtain ⟨ι2, r2, e2⟩ := h2 r1
  exact ⟨ι2, r2, e1.trans e2⟩
theorem CutR.cs {n : Nat} {σ : List Nat} {s s' : St} (c : CutR n σ s s') : CutS n s s' := fun r => ⟨_, c.apply r⟩
section
variable {n : Nat} {P : Program} {Q : Exit → St → Prop} {s : St}
/-- A loop: the states at its head by a pattern, up to the numbers of objects. -/
theorem PV.loopR {c : Code} {α : Type} (S : α → St) (J : α → Prop) (μ : α → Nat) (x0 : α)
    (h0 : CutS n s (S x0)) (h3 : J x0)
    (round : ∀ x, J x → PV n P c (S x) (thenA (fun s' => ∃ y, CutS n s' (S y) ∧ J y ∧ μ y < μ x) Q)) : PV n P (.loop c) s Q := by
  have main : PV n P (.loop c) (S x0) Q := by
    intro ι a w r
    let I : Nat → Act → World → Prop := fun m a' w' => ∃ x ι', μ x = m ∧ J x ∧ SR (S x) ι' a' w' ∧ EvN n (S x0).h ι w (S x).h ι' w'
    have dec : ∀ a' w', ∃ m, ((∃ n, I n a' w') → I m a' w' ∧ ∀ n, I n a' w' → m ≤ n) := by
      intro a' w'
      by_cases hx : ∃ n, I n a' w'
      · obtain ⟨n, hn⟩ := hx
        induction n using Nat.strongRecOn with
        | _ n ih =>
          by_cases hlt : ∃ k, k < n ∧ I k a' w'
          · obtain ⟨k, hk, hj⟩ := hlt
            exact ih k hk hj
          · refine ⟨n, fun _ => ⟨hn, fun k hk => ?_⟩⟩
            rcases Nat.lt_or_ge k n with q | q
            · exact absurd ⟨k, q, hk⟩ hlt
            · exact q
      · exact ⟨0, fun q => absurd q hx⟩
    have hch : ∃ f : Act → World → Nat, ∀ a' w', (∃ n, I n a' w') → I (f a' w') a' w' ∧ ∀ n, I n a' w' → f a' w' ≤ n :=
      ⟨fun a' w' => Classical.choose (dec a' w'), fun a' w' => Classical.choose_spec (dec a' w')⟩
    obtain ⟨f, hf⟩ := hch
    refine wp_loop (fun a' w' => ∃ n, I n a' w') f ⟨μ x0, x0, ι, rfl, h3, r, EvN.of (Evolve.refl _ _ _)⟩ ?_
    intro a' w' hI
    obtain ⟨⟨x, ι', hm, hj, r', ev⟩, _⟩ := hf a' w' hI
    refine wp_mono (round x hj ι' a' w' r') ?_
    rintro e a2 w2 ⟨s2, ι2, q, r2, ev2⟩
    cases e with
    | normal =>
      obtain ⟨y, hc, hj', hlt⟩ := q
      obtain ⟨ι3, r3, ev3⟩ := hc r2
      have hi : I (μ y) a2 w2 := ⟨y, _, rfl, hj', r3, (ev.trans ev2).trans ev3⟩
      refine ⟨⟨_, hi⟩, ?_⟩
      have := (hf a2 w2 ⟨_, hi⟩).2 _ hi
      omega
    | _ => exact ⟨s2, ι2, q, r2, ev.trans ev2⟩
  intro ι a w r
  obtain ⟨ι2, r2, ev2⟩ := h0 r
  refine wp_mono (main _ a w r2) ?_
  rintro e a' w' ⟨s', ι', q, r', ev'⟩
  exact ⟨s', ι', q, r', ev2.trans ev'⟩

end

theorem PC.of_bodyK {P : Program} {f : FuncId} {fn : Func} {c : Code} {args : List V} {h : Heap} {R : V → Heap → Prop} (hf : P.funcs[f]? = some fn) (hb : fn.body = some c) (sl : List V)
    (e0 : args ++ List.replicate (fn.ntmps - args.length) (.v undef) = sl)
    (hp : ∀ K : Exit → St → Prop, (∀ (e : Exit) (s' : St) (x : V), (e = .normal ∨ e = .ret) → ares P fn.results.toList s'.sl s'.h = some x → R x s'.h → K e s') → PW P c ⟨sl, h⟩ K) : PC P f args h R := by
  subst e0
  exact PC.of_body hf hb (hp _ fun e s' x h1 h2 h3 => ⟨h1, x, h2, h3⟩)

theorem PC.of_bodyV {P : Program} {f : FuncId} {fn : Func} {c : Code} {args : List V} {h : Heap} {R : V → Heap → Prop} (hf : P.funcs[f]? = some fn) (hb : fn.body = some c) (sl : List V)
    (e0 : args ++ List.replicate (fn.ntmps - args.length) (.v undef) = sl)
    (hp : ∀ K : Exit → St → Prop, (∀ (e : Exit) (s' : St) (x : V), (e = .normal ∨ e = .ret) → ares P fn.results.toList s'.sl s'.h = some x → R x s'.h → K e s') → PV h.length P c ⟨sl, h⟩ K) : PC P f args h R := by
  refine PC.of_bodyK hf hb sl e0 (fun K hK => ?_)
  intro ι a w r
  refine wp_mono (hp K hK ι a w r) ?_
  rintro e a' w' ⟨s', ι', q, r', ev⟩
  exact ⟨s', ι', q, r', ev.to r.heap⟩


theorem PV.regionL {n : Nat} {P : Program} {Q : Exit → St → Prop} {s : St} {id : Nat} {ops : Array Oper} (h : POL P ops ops.toList s (Q .normal)) : PV n P (.region id ops false) s Q := PV.of (PW.regionL h)
theorem PV.post {n : Nat} {P : Program} {Q : Exit → St → Prop} {s s2 : St} {c : Code} (hp : ∀ {ι : Iota} {a : Act} {w : World}, SR s ι a w → ∃ ι', SR s2 ι' a w ∧ EvN n s.h ι w s2.h ι' w) (hr : PV n P c s2 Q) : PV n P c s Q := by
  intro ι a w r
  obtain ⟨ι', r2, ev⟩ := hp r
  refine wp_mono (hr ι' a w r2) ?_
  rintro e a' w' ⟨s3, ι3, q, r3, ev3⟩
  exact ⟨s3, ι3, q, r3, ev.trans ev3⟩

end Go.Abs
