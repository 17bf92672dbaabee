/- Weaker knowledge of values; forgetting the last objects; a region place by place. -/
import Derived.Test.YtinehkfcploeiaaAbsR
namespace Go.Abs
set_option linter.unusedVariables false

mutual
/-- The second says no more than the first. -/
inductive leV : V → V → Prop
  | any (x : V) : leV x .any
  | refl (x : V) : leV x x
  | nil (sz : Nat) : leV (.v (.slice none 0 0)) (.sF sz [])
  | agg {xs ys : List V} : leVs xs ys → leV (.agg xs) (.agg ys)
  | tup {xs ys : List V} : leVs xs ys → leV (.tup xs) (.tup ys)
  | pF {xs ys : List V} (o : Nat) : leVs xs ys → leV (.pF xs o) (.pF ys o)
inductive leVs : List V → List V → Prop
  | nil : leVs [] []
  | any {x : V} {xs ys : List V} : leVs xs ys → leVs (x :: xs) (.any :: ys)
  | same {x : V} {xs ys : List V} : leVs xs ys → leVs (x :: xs) (x :: ys)
  | cons {x y : V} {xs ys : List V} : leV x y → leVs xs ys → leVs (x :: xs) (y :: ys)
end

theorem leVs.rfl' : ∀ {xs : List V}, leVs xs xs
  | [] => .nil
  | _ :: _ => .same leVs.rfl'

theorem leVs.len : ∀ {xs ys : List V}, leVs xs ys → xs.length = ys.length
  | _, _, .nil => rfl
  | _, _, .any h => congrArg (· + 1) h.len
  | _, _, .same h => congrArg (· + 1) h.len
  | _, _, .cons _ h => congrArg (· + 1) h.len

mutual
theorem leV.rep {w : World} {ι : Iota} {M : Nat → Prop} : ∀ {x y : V}, leV x y → ∀ {z : Value}, Rep w ι M x z → Rep w ι M y z
  | _, _, .any x, z, _ => .any z
  | _, _, .refl x, z, r => r
  | _, _, .nil sz, z, r => by cases r; exact .sN sz
  | _, _, .agg h, z, r => by
    cases r with
    | agg _ vs hl hr =>
      refine .agg _ vs (by rw [← h.len]; exact hl) (fun i h1 h2 => ?_)
      obtain ⟨q, q1⟩ := h.rep i (by rw [h.len]; exact h1) h1
      exact q1 (hr i (by rw [h.len]; exact h1) h2)
  | _, _, .tup h, z, r => by
    cases r with
    | tup _ vs hl hr =>
      refine .tup _ vs (by rw [← h.len]; exact hl) (fun i h1 h2 => ?_)
      obtain ⟨q, q1⟩ := h.rep i (by rw [h.len]; exact h1) h1
      exact q1 (hr i (by rw [h.len]; exact h1) h2)
  | _, _, .pF o h, z, r => by
    cases r with
    | pF _ _ b o' cells hb hm hc hr =>
      refine .pF _ _ b o' cells hb hm (fun j hj => hc j (by rw [h.len]; exact hj)) (fun j hj => ?_)
      obtain ⟨q, q1⟩ := h.rep j (by rw [h.len]; exact hj) hj
      exact q1 (hr j (by rw [h.len]; exact hj))
theorem leVs.rep {w : World} {ι : Iota} {M : Nat → Prop} : ∀ {xs ys : List V}, leVs xs ys → ∀ (i : Nat) (h1 : i < xs.length) (h2 : i < ys.length), True ∧ (∀ {z : Value}, Rep w ι M xs[i] z → Rep w ι M ys[i] z)
  | _, _, .nil, i, h1, h2 => by simp at h1
  | _, _, .any h, 0, h1, h2 => ⟨trivial, fun {z} _ => .any z⟩
  | _, _, .same h, 0, h1, h2 => ⟨trivial, fun {z} r => r⟩
  | _, _, .cons q h, 0, h1, h2 => ⟨trivial, fun {z} r => q.rep r⟩
  | _, _, .any h, i + 1, h1, h2 => by simpa using h.rep i (by simpa using h1) (by simpa using h2)
  | _, _, .same h, i + 1, h1, h2 => by simpa using h.rep i (by simpa using h1) (by simpa using h2)
  | _, _, .cons q h, i + 1, h1, h2 => by simpa using h.rep i (by simpa using h1) (by simpa using h2)
end

theorem leVs.opt {w : World} {ι : Iota} {M : Nat → Prop} {xs ys : List V} (h : leVs xs ys) {i : Nat} {y : V} (hy : ys[i]? = some y) : ∃ x, xs[i]? = some x ∧ ∀ {z : Value}, Rep w ι M x z → Rep w ι M y z := by
  have h2 := get_lt hy
  have h1 : i < xs.length := by rw [h.len]; exact h2
  rw [List.getElem?_eq_getElem h2] at hy
  injection hy with hy
  subst hy
  exact ⟨xs[i], List.getElem?_eq_getElem h1, fun {z} r => (h.rep i h1 h2).2 r⟩

theorem SR.weaken {s : St} {ι : Iota} {a : Act} {w : World} {sl : List V} (r : SR s ι a w) (h : leVs s.sl sl) : SR ⟨sl, s.h⟩ ι a w := by
  refine ⟨r.defers, ⟨r.slots.1.trans h.len, fun i y hy => ?_⟩, r.heap⟩
  obtain ⟨x, x1, x2⟩ := h.opt (w := w) (ι := ι) (M := Mt s.h ι) hy
  obtain ⟨z, z1, z2⟩ := r.slots.2 i x x1
  exact ⟨z, z1, x2 z2⟩

theorem PC.args_le {P : Program} {f : FuncId} {args args' : List V} {h : Heap} {R : V → Heap → Prop} (hl : leVs args args') (hc : PC P f args' h R) : PC P f args h R := by
  intro ι w vals hp H
  refine hc ι w vals ⟨hl.len.symm.trans hp.1, fun i y hy => ?_⟩ H
  obtain ⟨x, x1, x2⟩ := hl.opt (w := w) (ι := ι) (M := Mt h ι) hy
  obtain ⟨z, z1, z2⟩ := hp.2 i x x1
  exact ⟨z, z1, x2 z2⟩

/-- No reference to an object from n on. -/
inductive NI (n : Nat) : V → Prop
  | v (x : Value) : NI n (.v x)
  | any : NI n .any
  | pO {id : Nat} (row off : Nat) : id < n → NI n (.pO id row off)
  | sO {id : Nat} (off len : Nat) : id < n → NI n (.sO id off len)
  | pF {row : List V} (off : Nat) : (∀ x, x ∈ row → NI n x) → NI n (.pF row off)
  | sF (sz : Nat) {rows : List (List V)} : (∀ r, r ∈ rows → ∀ x, x ∈ r → NI n x) → NI n (.sF sz rows)
  | agg {xs : List V} : (∀ x, x ∈ xs → NI n x) → NI n (.agg xs)
  | tup {xs : List V} : (∀ x, x ∈ xs → NI n x) → NI n (.tup xs)
  | fn {f : Fn} {a b : List V} : (∀ x, x ∈ a → NI n x) → (∀ x, x ∈ b → NI n x) → NI n (.fn f a b)
  | ifc {t : TypeId} {x : V} : NI n x → NI n (.ifc t x)

def NIs (n : Nat) (xs : List V) : Prop := ∀ x, x ∈ xs → NI n x
def NIr (n : Nat) (rows : List (List V)) : Prop := ∀ r, r ∈ rows → NIs n r
def NIh (n : Nat) (h : Heap) : Prop := ∀ o, HS.live o ∈ h → NIr n o.rows

theorem NI_v (n : Nat) (x : Value) : NI n (.v x) ↔ True := ⟨fun _ => trivial, fun _ => .v x⟩
theorem NI_any (n : Nat) : NI n .any ↔ True := ⟨fun _ => trivial, fun _ => .any⟩
theorem NI_pO (n id r o : Nat) : NI n (.pO id r o) ↔ id < n := ⟨fun h => by cases h; assumption, fun h => .pO r o h⟩
theorem NI_sO (n id r o : Nat) : NI n (.sO id r o) ↔ id < n := ⟨fun h => by cases h; assumption, fun h => .sO r o h⟩
theorem NI_pF (n : Nat) (row : List V) (o : Nat) : NI n (.pF row o) ↔ NIs n row := ⟨fun h => by cases h; assumption, fun h => .pF o h⟩
theorem NI_sF (n sz : Nat) (rows : List (List V)) : NI n (.sF sz rows) ↔ NIr n rows := ⟨fun h => by cases h; assumption, fun h => .sF sz h⟩
theorem NI_agg (n : Nat) (xs : List V) : NI n (.agg xs) ↔ NIs n xs := ⟨fun h => by cases h; assumption, fun h => .agg h⟩
theorem NI_tup (n : Nat) (xs : List V) : NI n (.tup xs) ↔ NIs n xs := ⟨fun h => by cases h; assumption, fun h => .tup h⟩
theorem NI_fn (n : Nat) (f : Fn) (a b : List V) : NI n (.fn f a b) ↔ NIs n a ∧ NIs n b := ⟨fun h => by cases h; exact ⟨by assumption, by assumption⟩, fun h => .fn h.1 h.2⟩
theorem NIs_nil (n : Nat) : NIs n [] ↔ True := ⟨fun _ => trivial, fun _ x h => by simp at h⟩
theorem NIs_cons (n : Nat) (x : V) (xs : List V) : NIs n (x :: xs) ↔ NI n x ∧ NIs n xs := by simp [NIs]
theorem NIr_nil (n : Nat) : NIr n [] ↔ True := ⟨fun _ => trivial, fun _ x h => by simp at h⟩
theorem NIr_cons (n : Nat) (x : List V) (xs : List (List V)) : NIr n (x :: xs) ↔ NIs n x ∧ NIr n xs := by simp [NIr]
theorem NIr_map {α : Type} (n : Nat) (f : α → List V) (l : List α) (h : ∀ x, NIs n (f x)) : NIr n (l.map f) ↔ True := by
  refine ⟨fun _ => trivial, fun _ r hr => ?_⟩
  obtain ⟨x, _, rfl⟩ := List.mem_map.1 hr
  exact h x
theorem NIr_append (n : Nat) (a b : List (List V)) : NIr n (a ++ b) ↔ NIr n a ∧ NIr n b := by
  simp only [NIr, List.mem_append]
  exact ⟨fun h => ⟨fun r hr => h r (.inl hr), fun r hr => h r (.inr hr)⟩, fun h r hr => hr.elim (h.1 r) (h.2 r)⟩
theorem NIh_nil (n : Nat) : NIh n [] ↔ True := ⟨fun _ => trivial, fun _ o h => by simp at h⟩
theorem NIh_live (n : Nat) (sz : Nat) (rows : List (List V)) (e : TypeId) (h : Heap) : NIh n (.live ⟨sz, rows, e⟩ :: h) ↔ NIr n rows ∧ NIh n h := by simp [NIh]
theorem NIh_dead (n : Nat) (h : Heap) : NIh n (.dead :: h) ↔ NIh n h := by simp [NIh]
theorem NIh_free (n : Nat) (h : Heap) : NIh n (.free :: h) ↔ NIh n h := by simp [NIh]

def Iota.cut (ι : Iota) (n : Nat) : Iota := { at' := fun i => if i < n then ι i else none, X := ι.X }

theorem Rep.cut {w : World} {ι : Iota} {M M' : Nat → Prop} {n : Nat} (hM : ∀ b, M' b → M b) : ∀ {x : V} {y : Value}, Rep w ι M x y → NI n x → Rep w (ι.cut n) M' x y := by
  intro x y r
  induction r with
  | v x => intro _; exact .v x
  | any x => intro _; exact .any x
  | pF row off b o cells hb hm hc _ ih =>
    intro h; cases h with | pF _ h => exact .pF row off b o cells hb (fun q => hm (hM _ q)) hc (fun j hj => ih j hj (h _ (List.getElem_mem hj)))
  | pO id row off l hl =>
    intro h; cases h with | pO _ _ h => exact .pO id row off l (by simp [Iota.cut, h, hl])
  | sF sz rows a cap cells hb hcap hr hc _ ih =>
    intro h; cases h with | sF _ h => exact .sF sz rows a cap cells (fun hne => ⟨(hb hne).1, (hb hne).2.1, fun q => (hb hne).2.2 (hM _ q)⟩) hcap hr hc (fun i hi j hj => ih i hi j hj (h _ (List.getElem_mem hi) _ (List.getElem_mem hj)))
  | sN sz => intro _; exact .sN sz
  | sO id off len cap l c e fr hl hcap hb hs =>
    intro h; cases h with | sO _ _ h => exact .sO id off len cap l c e fr (by simp [Iota.cut, h, hl]) hcap hb hs
  | agg xs vs hl _ ih => intro h; cases h with | agg h => exact .agg xs vs hl (fun i h1 h2 => ih i h1 h2 (h _ (List.getElem_mem h1)))
  | tup xs vs hl _ ih => intro h; cases h with | tup h => exact .tup xs vs hl (fun i h1 h2 => ih i h1 h2 (h _ (List.getElem_mem h1)))
  | fn f a b vs us h1 h2 _ _ ih1 ih2 => intro h; cases h with | fn ha hb => exact .fn f a b vs us h1 h2 (fun i q1 q2 => ih1 i q1 q2 (ha _ (List.getElem_mem q1))) (fun i q1 q2 => ih2 i q1 q2 (hb _ (List.getElem_mem q1)))
  | ifc t x y _ ih => intro h; cases h with | ifc h => exact .ifc t x y (ih h)

/-- The last objects are forgotten; a statement whose start has no more than n objects does not need them. -/
theorem cut_heap {s : St} {ι : Iota} {w : World} {h0 : Heap} {ι0 : Iota} {w0 : World} {a : Act} {n : Nat} (r : SR s ι a w) (ev : Evolve h0 ι0 w0 s.h ι w) (H0 : HRel h0 ι0 w0) (hn : h0.length ≤ n)
    (hs : NIs n s.sl) (hh : NIh n (s.h.take n)) : SR ⟨s.sl, s.h.take n⟩ (ι.cut n) a w ∧ Evolve h0 ι0 w0 (s.h.take n) (ι.cut n) w := by
  have get : ∀ (id : Nat) (c : HS), (s.h.take n)[id]? = some c → id < n ∧ s.h[id]? = some c := by
    intro id c h
    rw [List.getElem?_take] at h
    split at h
    · exact ⟨by assumption, h⟩
    · cases h
  have ob : ∀ b, Ob (s.h.take n) (ι.cut n) b → Ob s.h ι b := by
    rintro b ⟨id, o, l, h1, h2, h3⟩
    obtain ⟨g1, g2⟩ := get id _ h1
    simp only [Iota.cut, if_pos g1] at h2
    exact ⟨id, o, l, g2, h2, h3⟩
  have mt : ∀ b, Mt (s.h.take n) (ι.cut n) b → Mt s.h ι b := fun b q => q.elim .inl fun q => .inr (ob b q)
  have H := r.heap
  refine ⟨⟨r.defers, ⟨r.slots.1, fun i x hx => ?_⟩, ⟨fun id o ho => ?_, fun id hid => ?_, fun id hid => ?_, fun id o l id' o' l' a1 a2 b1 b2 => ?_, H.xlt, fun b hb q => H.xob b hb (ob b q)⟩⟩,
    ⟨ev.os, ev.tape, ev.output, ev.size, fun id l hl => ?_, ev.away, fun b hb q => ⟨(ev.frame b hb q).1, fun z => (ev.frame b hb q).2 (ob b z)⟩, ev.sizes⟩⟩
  · obtain ⟨y, y1, y2⟩ := r.slots.2 i x hx
    exact ⟨y, y1, y2.cut mt (hs x (get_mem hx))⟩
  · obtain ⟨g1, g2⟩ := get id _ ho
    obtain ⟨l, c, fr, h1, la⟩ := H.live id o g2
    refine ⟨l, c, fr, by simp [Iota.cut, g1, h1], ⟨la.blk, la.unfrozen, la.sz, la.rows, la.fits, fun i hi j hj => ?_⟩⟩
    obtain ⟨u, u1, u2⟩ := la.reads i hi j hj
    exact ⟨u, u1, u2.cut mt (hh o (get_mem ho) _ (List.getElem_mem hi) _ (List.getElem_mem hj))⟩
  · obtain ⟨g1, g2⟩ := get id _ hid
    simp [Iota.cut, g1, H.free id g2]
  · simp only [Iota.cut]
    split
    · rename_i hlt
      refine H.out id ?_
      rw [List.length_take] at hid
      omega
    · rfl
  · obtain ⟨g1, g2⟩ := get id _ a1
    obtain ⟨g3, g4⟩ := get id' _ b1
    simp only [Iota.cut, if_pos g1] at a2
    simp only [Iota.cut, if_pos g3] at b2
    exact H.apart _ _ _ _ _ _ g2 a2 g4 b2
  · have : id < n := by
      rcases Nat.lt_or_ge id n with q | q
      · exact q
      · rw [H0.out id (by omega)] at hl; cases hl
    simp [Iota.cut, this, ev.iota id l hl]

/-- Objects in another's knowledge: fewer objects known, cells known less. -/
inductive leHs : Heap → Heap → Prop
  | nil : leHs [] []
  | same {x : HS} {xs ys : Heap} : leHs xs ys → leHs (x :: xs) (x :: ys)
  | dead {o : AObj} {xs ys : Heap} : leHs xs ys → leHs (.live o :: xs) (.dead :: ys)
  | row {sz : Nat} {r r' : List V} {e : TypeId} {xs ys : Heap} : leVs r r' → leHs xs ys → leHs (.live ⟨sz, [r], e⟩ :: xs) (.live ⟨sz, [r'], e⟩ :: ys)

theorem leHs.rfl' : ∀ {h : Heap}, leHs h h
  | [] => .nil
  | _ :: _ => .same leHs.rfl'

theorem HRel.weakRow {ι : Iota} {w : World} {h : Heap} (H : HRel h ι w) {id sz : Nat} {r r' : List V} {e : TypeId} (ho : h[id]? = some (.live ⟨sz, [r], e⟩)) (hl : leVs r r') :
    HRel (h.set id (.live ⟨sz, [r'], e⟩)) ι w ∧ Evolve h ι w (h.set id (.live ⟨sz, [r'], e⟩)) ι w := by
  have hidlt := get_lt ho
  have get : ∀ (k : Nat), k ≠ id → (h.set id (.live ⟨sz, [r'], e⟩))[k]? = h[k]? := fun k hk => List.getElem?_set_ne (by omega)
  have gid : (h.set id (HS.live ⟨sz, [r'], e⟩))[id]? = some (.live ⟨sz, [r'], e⟩) := by simp [hidlt]
  have ob : ∀ b, Ob (h.set id (.live ⟨sz, [r'], e⟩)) ι b → Ob h ι b := by
    rintro b ⟨k, x, y, h1, h2, h3⟩
    by_cases hk : k = id
    · subst hk; exact ⟨k, _, y, ho, h2, h3⟩
    · rw [get k hk] at h1; exact ⟨k, x, y, h1, h2, h3⟩
  have ev : Evolve h ι w (h.set id (.live ⟨sz, [r'], e⟩)) ι w := ⟨rfl, rfl, rfl, Nat.le_refl _, fun _ _ q => q, rfl, fun b _ hm => ⟨rfl, fun q => hm (ob b q)⟩, fun b c _ fr hb => ⟨c, fr, hb, rfl⟩⟩
  have f : ∀ (k : Nat) (x : AObj), (h.set id (.live ⟨sz, [r'], e⟩))[k]? = some (.live x) → ∃ y, h[k]? = some (.live y) := by
    intro k x hx
    by_cases hk : k = id
    · subst hk; exact ⟨_, ho⟩
    · rw [get k hk] at hx; exact ⟨x, hx⟩
  refine ⟨⟨fun k x hx => ?_, fun k hk => ?_, fun k hk => H.out k (by simpa using hk), fun k1 o1 l1 k2 o2 l2 a1 a2 b1 b2 hbk => ?_, H.xlt, fun b hb q => H.xob b hb (ob b q)⟩, ev⟩
  · by_cases hk : k = id
    · subst hk
      rw [gid] at hx; injection hx with hx; injection hx with hx; subst hx
      obtain ⟨l2, c2, fr2, h1, la2⟩ := H.live k _ ho
      refine ⟨l2, c2, fr2, h1, ⟨la2.blk, la2.unfrozen, la2.sz, fun q hq => ?_, la2.fits, fun i hi j hj => ?_⟩⟩
      · simp at hq; subst hq
        have := la2.rows r (by simp)
        rw [← hl.len]; exact this
      · simp at hi; subst hi
        simp at hj
        obtain ⟨y, q1, q2⟩ := la2.reads 0 (by simp) j (by simpa [hl.len] using hj)
        refine ⟨y, q1, (((hl.rep j (by simpa [hl.len] using hj) hj).2) ?_).mono ev⟩
        simpa using q2
    · rw [get k hk] at hx
      obtain ⟨l2, c2, fr2, h1, la2⟩ := H.live k x hx
      exact ⟨l2, c2, fr2, h1, ⟨la2.blk, la2.unfrozen, la2.sz, la2.rows, la2.fits, fun i hi j hj => let ⟨y, q1, q2⟩ := la2.reads i hi j hj; ⟨y, q1, q2.mono ev⟩⟩⟩
  · have hne : k ≠ id := by intro e; subst e; rw [gid] at hk; cases hk
    rw [get k hne] at hk
    exact H.free k hk
  · obtain ⟨y1, q1⟩ := f _ _ a1
    obtain ⟨y2, q2⟩ := f _ _ b1
    exact H.apart _ _ _ _ _ _ q1 a2 q2 b2 hbk

theorem HRel.weaken {ι : Iota} {w : World} : ∀ {h h' : Heap} (p : Heap), leHs h h' → HRel (p ++ h) ι w → HRel (p ++ h') ι w ∧ Evolve (p ++ h) ι w (p ++ h') ι w
  | _, _, p, .nil, H => ⟨H, Evolve.refl _ _ _⟩
  | x :: xs, _ :: ys, p, .same hl, H => by
    have := HRel.weaken (p ++ [x]) hl (by simpa using H)
    simpa using this
  | .live o :: xs, _ :: ys, p, .dead hl, H => by
    obtain ⟨H1, e1⟩ := HRel.kill H (id := p.length) (o := o) (by simp)
    have e : (p ++ HS.live o :: xs).set p.length .dead = (p ++ [.dead]) ++ xs := by simp
    rw [e] at H1 e1
    obtain ⟨H2, e2⟩ := HRel.weaken (p ++ [.dead]) hl H1
    exact ⟨by simpa using H2, by simpa using e1.trans e2⟩
  | .live ⟨sz, [r], t⟩ :: xs, .live ⟨_, [r'], _⟩ :: ys, p, .row hr hl, H => by
    obtain ⟨H1, e1⟩ := HRel.weakRow H (id := p.length) (sz := sz) (r := r) (r' := r') (e := t) (by simp) hr
    have e : (p ++ HS.live ⟨sz, [r], t⟩ :: xs).set p.length (.live ⟨sz, [r'], t⟩) = (p ++ [.live ⟨sz, [r'], t⟩]) ++ xs := by simp
    rw [e] at H1 e1
    obtain ⟨H2, e2⟩ := HRel.weaken (p ++ [.live ⟨sz, [r'], t⟩]) hl H1
    exact ⟨by simpa using H2, by simpa using e1.trans e2⟩

/-- Knowing less. -/
structure leT (s s' : St) : Prop where
  sl : leVs s.sl s'.sl
  h : leHs s.h s'.h

theorem PW.weaken {P : Program} {c : Code} {s : St} (s' : St) {Q : Exit → St → Prop} (hl : leT s s') (hp : PW P c s' Q) : PW P c s Q := by
  intro ι a w r
  have r1 := r.weaken hl.sl
  obtain ⟨H, ev⟩ := HRel.weaken [] hl.h r1.heap
  refine wp_mono (hp ι a w ⟨r1.defers, r1.slots.mono ev, H⟩) ?_
  rintro e a' w' ⟨s2, ι2, q, r2, ev2⟩
  exact ⟨s2, ι2, q, r2, Evolve.trans ev ev2⟩

/-- What is known behind a step may be cut: objects from n on are forgotten, if nothing that is kept refers to them. -/
structure Cut (n : Nat) (s s' : St) : Prop where
  le : leT s ⟨s'.sl, s'.h ++ s.h.drop n⟩
  len : s'.h.length = n
  sl : NIs n s'.sl
  h : NIh n s'.h

theorem PW.cut {P : Program} {c : Code} {s : St} {Q : Exit → St → Prop} (hp : PW P c s (fun e s1 => ∃ s2 n, s.h.length ≤ n ∧ Cut n s1 s2 ∧ Q e s2)) : PW P c s Q := by
  intro ι a w r
  refine wp_mono (hp ι a w r) ?_
  rintro e a' w' ⟨s1, ι1, ⟨s2, n, hn, hc, q⟩, r1, ev1⟩
  have r2 := r1.weaken hc.le.sl
  obtain ⟨H, ev⟩ := HRel.weaken [] hc.le.h r2.heap
  have r3 : SR ⟨s2.sl, s2.h ++ s1.h.drop n⟩ ι1 a' w' := ⟨r2.defers, r2.slots.mono ev, H⟩
  have e0 : (s2.h ++ s1.h.drop n).take n = s2.h := by rw [← hc.len]; simp
  obtain ⟨r4, ev4⟩ := cut_heap (n := n) r3 (ev1.trans ev) r.heap hn hc.sl (by simp only [e0]; exact hc.h)
  simp only [e0] at r4 ev4
  exact ⟨s2, ι1.cut n, q, r4, ev4⟩

end Go.Abs
