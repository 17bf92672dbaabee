/- Writing into an object; an object that takes another's place. -/
import Derived.Test.YtmlojnecmdnbpaaGreatDoorAbsA
import Derived.WalkKit
namespace Go.Abs
set_option linter.unusedVariables false

structure SameBut (w w' : World) (b : Nat) : Prop where
  os : w'.os = w.os
  tape : w'.tape = w.tape
  output : w'.output = w.output
  size : w'.heap.size = w.heap.size
  others : ∀ k, k ≠ b → w'.heap[k]? = w.heap[k]?

theorem setCells_row (b : Nat) (e : TypeId) (fr : Nat × Nat) : ∀ (vs : List Value) (o : Nat) (w : World) (c : Array Value), w.heap[b]? = some (.cells c e fr) → o + vs.length ≤ c.size →
    ∃ c' : Array Value, (w.setCells b o vs).heap[b]? = some (.cells c' e fr) ∧ c'.size = c.size ∧ SameBut w (w.setCells b o vs) b ∧
      (∀ k, (k < o ∨ o + vs.length ≤ k) → c'[k]? = c[k]?) ∧ (∀ j, j < vs.length → c'[o + j]? = vs[j]?)
  | [], o, w, c, h, _ => ⟨c, h, rfl, ⟨rfl, rfl, rfl, rfl, fun _ _ => rfl⟩, fun _ _ => rfl, fun j hj => by simp at hj⟩
  | v :: r, o, w, c, h, hl => by
    simp only [List.length_cons] at hl
    have h1 : (w.setCell ⟨b, o, none⟩ v).heap[b]? = some (.cells (c.setIfInBounds o v) e fr) := by
      simp only [World.setCell, Array.getElem?_modify, if_pos, h]
      simp
    obtain ⟨c', e1, e2, e3, e4, e5⟩ := setCells_row b e fr r (o + 1) (w.setCell ⟨b, o, none⟩ v) (c.setIfInBounds o v) h1 (by simp; omega)
    refine ⟨c', e1, by simpa using e2, ⟨e3.os, e3.tape, e3.output, by rw [World.setCells, e3.size]; simp [World.setCell], fun k hk => ?_⟩, fun k hk => ?_, fun j hj => ?_⟩
    · rw [World.setCells, e3.others k hk]
      simp only [World.setCell, Array.getElem?_modify]
      rw [if_neg (by omega)]
    · rw [e4 k (by simp only [List.length_cons] at hk; omega)]
      rw [Array.getElem?_setIfInBounds_ne (by simp only [List.length_cons] at hk; omega)]
    · cases j with
      | zero =>
        rw [e4 _ (by omega)]
        simp [Array.getElem?_setIfInBounds]
        omega
      | succ j =>
        have := e5 j (by simpa using hj)
        rw [show o + (j + 1) = o + 1 + j by omega, this]
        simp

theorem HRel.reloc {h : Heap} {ι : Iota} {w : World} (H : HRel h ι w) {id : Nat} {o : AObj} {l : Loc} {c : Array Value} {fr : Nat × Nat}
    (ho : h[id]? = some (.live o)) (hl : ι id = some l) (la : LiveAt w ι (Mt h ι) o l c fr)
    {new : Nat} {o' : AObj} {h' : Heap} (e : halloc (h.set id .dead) new o' = some h') {base' : Nat} (hal : base' % o'.sz = 0) {c' : Array Value} {w' : World}
    (hw : SameBut w w' l.blk) (hb : w'.heap[l.blk]? = some (.cells c' o.elem.t fr)) (hs : c'.size = c.size) (he : o'.elem = o.elem) (hz : o'.sz = o.sz) (hbz : o.elem.fz ≤ 1 ∨ base' = l.base)
    (hr : ∀ r, r ∈ o'.rows → r.length = o'.sz) (hf : base' + o'.rows.length * o'.sz ≤ c.size)
    (hc : ∀ i, (hi : i < o'.rows.length) → ∀ j, (hj : j < o'.rows[i].length) → ∃ x, c'[base' + i * o'.sz + j]? = some x ∧ Rep w ι (Mt h ι) o'.rows[i][j] x) :
    HRel h' (ι.put new ⟨l.blk, base', o'.sz, hal⟩) w' ∧ Evolve h ι w h' (ι.put new ⟨l.blk, base', o'.sz, hal⟩) w' := by
  obtain ⟨g1, g2, g3, g4⟩ := halloc_get e
  have hidlt : id < h.length := by
    rcases Nat.lt_or_ge id h.length with hh | hh
    · exact hh
    · rw [List.getElem?_eq_none hh] at ho; cases ho
  have hnid : new ≠ id := by
    intro e; subst e
    rcases g4 with g4 | g4
    · simp [hidlt] at g4
    · simp at g4; omega
  have hnew : ι new = none := by
    rcases g4 with g4 | g4
    · rw [List.getElem?_set_ne (by omega)] at g4; exact H.free _ g4
    · exact H.out _ (by simpa using g4)
  have get : ∀ k x, k ≠ new → h'[k]? = some (.live x) → k ≠ id ∧ h[k]? = some (.live x) := by
    intro k x hk hx
    rw [g2 k hk] at hx
    by_cases hki : k = id
    · subst hki; simp [hidlt] at hx
    · rw [List.getElem?_set_ne (by omega)] at hx; exact ⟨hki, hx⟩
  have io : ∀ k x, ι k = some x → (ι.put new ⟨l.blk, base', o'.sz, hal⟩) k = some x := by
    intro k x hx
    have : k ≠ new := by intro e; subst e; rw [hnew] at hx; cases hx
    simp [Iota.put, this, hx]
  have mt : ∀ b, Ob h' (ι.put new ⟨l.blk, base', o'.sz, hal⟩) b → Ob h ι b := by
    rintro b ⟨k, x, y, h1, h2, h3⟩
    by_cases hk : k = new
    · subst hk
      simp [Iota.put] at h2
      subst h2
      exact ⟨id, o, l, ho, hl, h3⟩
    · obtain ⟨_, h1⟩ := get k x hk h1
      simp [Iota.put, hk] at h2
      exact ⟨k, x, y, h1, h2, h3⟩
  have ev : Evolve h ι w h' (ι.put new ⟨l.blk, base', o'.sz, hal⟩) w' := by
    refine ⟨hw.os, hw.tape, hw.output, by rw [hw.size]; exact Nat.le_refl _, io, rfl, fun b hbl hm => ⟨hw.others b ?_, fun m => hm (mt b m)⟩, fun b cc el f hbb => ?_⟩
    · intro e; subst e; exact hm ⟨id, o, l, ho, hl, rfl⟩
    · by_cases hbe : b = l.blk
      · subst hbe
        rw [la.blk] at hbb
        injection hbb with hbb
        injection hbb with q1 q2 q3
        subst q1 q2 q3
        exact ⟨c', fr, hb, hs⟩
      · exact ⟨cc, f, (hw.others b hbe).trans hbb, rfl⟩
  refine ⟨⟨?_, ?_, ?_, ?_, fun b hb => Nat.lt_of_lt_of_le (H.xlt b hb) ev.size, fun b hb => (ev.frame b (H.xlt b hb) (H.xob b hb)).2⟩, ev⟩
  · intro k x hx
    by_cases hk : k = new
    · subst hk
      rw [g1] at hx
      injection hx with hx
      injection hx with hx
      subst hx
      refine ⟨⟨l.blk, base', o'.sz, hal⟩, c', fr, by simp [Iota.put], ⟨by rw [he]; exact hb, ?_, rfl, hr, by rw [hs]; exact hf, ?_⟩⟩
      · show Unfr o'.elem.fz base' o'.sz c'.size fr
        rw [he, hz, hs]
        rcases hbz with q | q
        · exact la.unfrozen.move q
        · rw [q]; exact la.unfrozen
      intro i hi j hj
      obtain ⟨x, h1, h2⟩ := hc i hi j hj
      exact ⟨x, h1, h2.mono ev⟩
    · obtain ⟨hki, hx⟩ := get k x hk hx
      obtain ⟨l2, c2, fr2, h1, la2⟩ := H.live k x hx
      have hne : l2.blk ≠ l.blk := fun q => hki (H.apart _ _ _ _ _ _ hx h1 ho hl q)
      refine ⟨l2, c2, fr2, io k l2 h1, ⟨(hw.others _ hne).trans la2.blk, la2.unfrozen, la2.sz, la2.rows, la2.fits, ?_⟩⟩
      intro i hi j hj
      obtain ⟨y, h1, h2⟩ := la2.reads i hi j hj
      exact ⟨y, h1, h2.mono ev⟩
  · intro k hk
    have hne : k ≠ new := by intro e; subst e; rw [g1] at hk; cases hk
    rw [g2 k hne] at hk
    have hki : k ≠ id := by intro e; subst e; simp [hidlt] at hk
    rw [List.getElem?_set_ne (by omega)] at hk
    simp [Iota.put, hne, H.free k hk]
  · intro k hk
    have hne : k ≠ new := by
      intro e; subst e
      rw [List.getElem?_eq_none hk] at g1; cases g1
    have hlen : h.length ≤ k := by
      rcases Nat.lt_or_ge k h.length with hh | hh
      · have h0 := g2 k hne
        rw [List.getElem?_eq_none hk, List.getElem?_eq_getElem (by simpa using hh)] at h0
        cases h0
      · exact hh
    simp [Iota.put, hne, H.out k hlen]
  · intro k1 o1 l1 k2 o2 l2 a1 a2 b1 b2 hbk
    by_cases h1 : k1 = new
    · by_cases h2 : k2 = new
      · rw [h1, h2]
      · exfalso
        obtain ⟨hki, b1⟩ := get k2 o2 h2 b1
        simp [Iota.put, h2] at b2
        simp [Iota.put, h1] at a2
        subst a2
        exact hki (H.apart _ _ _ _ _ _ b1 b2 ho hl hbk.symm)
    · by_cases h2 : k2 = new
      · exfalso
        obtain ⟨hki, a1⟩ := get k1 o1 h1 a1
        simp [Iota.put, h1] at a2
        simp [Iota.put, h2] at b2
        subst b2
        exact hki (H.apart _ _ _ _ _ _ a1 a2 ho hl hbk)
      · obtain ⟨_, a1⟩ := get k1 o1 h1 a1
        obtain ⟨_, b1⟩ := get k2 o2 h2 b1
        simp [Iota.put, h1] at a2
        simp [Iota.put, h2] at b2
        exact H.apart _ _ _ _ _ _ a1 a2 b1 b2 hbk

/-- Writing in place: the same number, the same block. -/
theorem HRel.updG {h : Heap} {ι : Iota} {w : World} (H : HRel h ι w) {id : Nat} {o : AObj} {l : Loc} {c : Array Value} {fr : Nat × Nat}
    (ho : h[id]? = some (.live o)) (hl : ι id = some l) (la : LiveAt w ι (Mt h ι) o l c fr)
    {o' : AObj} {c' : Array Value} {fr' : Nat × Nat} {w' : World}
    (hw : SameBut w w' l.blk) (hb : w'.heap[l.blk]? = some (.cells c' o.elem.t fr')) (hs : c'.size = c.size) (he : o'.elem.t = o.elem.t) (hz : o'.sz = o.sz) (hu : Unfr o'.elem.fz l.base o.sz c.size fr')
    (hr : ∀ r, r ∈ o'.rows → r.length = o'.sz) (hf : l.base + o'.rows.length * o'.sz ≤ c.size)
    (hc : ∀ i, (hi : i < o'.rows.length) → ∀ j, (hj : j < o'.rows[i].length) → ∃ x, c'[l.base + i * o'.sz + j]? = some x ∧ Rep w ι (Mt h ι) o'.rows[i][j] x) :
    HRel (h.set id (.live o')) ι w' ∧ Evolve h ι w (h.set id (.live o')) ι w' := by
  have hidlt : id < h.length := by
    rcases Nat.lt_or_ge id h.length with hh | hh
    · exact hh
    · rw [List.getElem?_eq_none hh] at ho; cases ho
  have get : ∀ (k : Nat), k ≠ id → (h.set id (.live o'))[k]? = h[k]? := fun k hk => List.getElem?_set_ne (by omega)
  have gid : (h.set id (HS.live o'))[id]? = some (.live o') := by simp [hidlt]
  have mt : ∀ b, Ob (h.set id (.live o')) ι b → Ob h ι b := by
    rintro b ⟨k, x, y, h1, h2, h3⟩
    by_cases hk : k = id
    · subst hk
      exact ⟨k, o, y, ho, h2, h3⟩
    · rw [get k hk] at h1
      exact ⟨k, x, y, h1, h2, h3⟩
  have ev : Evolve h ι w (h.set id (.live o')) ι w' := by
    refine ⟨hw.os, hw.tape, hw.output, by rw [hw.size]; exact Nat.le_refl _, fun _ _ q => q, rfl, fun b hbl hm => ⟨hw.others b ?_, fun m => hm (mt b m)⟩, fun b cc el f hbb => ?_⟩
    · intro e; subst e; exact hm ⟨id, o, l, ho, hl, rfl⟩
    · by_cases hbe : b = l.blk
      · subst hbe
        rw [la.blk] at hbb
        injection hbb with hbb
        injection hbb with q1 q2 q3
        subst q1 q2 q3
        exact ⟨c', fr', hb, hs⟩
      · exact ⟨cc, f, (hw.others b hbe).trans hbb, rfl⟩
  refine ⟨⟨?_, ?_, ?_, ?_, fun b hb => Nat.lt_of_lt_of_le (H.xlt b hb) ev.size, fun b hb => (ev.frame b (H.xlt b hb) (H.xob b hb)).2⟩, ev⟩
  · intro k x hx
    by_cases hk : k = id
    · subst hk
      rw [gid] at hx
      injection hx with hx
      injection hx with hx
      subst hx
      refine ⟨l, c', fr', hl, ⟨by rw [he]; exact hb, by rw [hs, hz]; exact hu, by rw [la.sz, hz], hr, by rw [hs]; exact hf, ?_⟩⟩
      intro i hi j hj
      obtain ⟨x, h1, h2⟩ := hc i hi j hj
      exact ⟨x, h1, h2.mono ev⟩
    · rw [get k hk] at hx
      obtain ⟨l2, c2, fr2, h1, la2⟩ := H.live k x hx
      have hne : l2.blk ≠ l.blk := fun q => hk (H.apart _ _ _ _ _ _ hx h1 ho hl q)
      refine ⟨l2, c2, fr2, h1, ⟨(hw.others _ hne).trans la2.blk, la2.unfrozen, la2.sz, la2.rows, la2.fits, ?_⟩⟩
      intro i hi j hj
      obtain ⟨y, h1, h2⟩ := la2.reads i hi j hj
      exact ⟨y, h1, h2.mono ev⟩
  · intro k hk
    have hne : k ≠ id := by intro e; subst e; rw [gid] at hk; cases hk
    rw [get k hne] at hk
    exact H.free k hk
  · intro k hk
    exact H.out k (by simpa using hk)
  · intro k1 o1 l1 k2 o2 l2 a1 a2 b1 b2 hbk
    have f : ∀ (k : Nat) (x : AObj), (h.set id (.live o'))[k]? = some (.live x) → ∃ y, h[k]? = some (.live y) := by
      intro k x hx
      by_cases hk : k = id
      · subst hk; exact ⟨o, ho⟩
      · rw [get k hk] at hx; exact ⟨x, hx⟩
    obtain ⟨y1, q1⟩ := f _ _ a1
    obtain ⟨y2, q2⟩ := f _ _ b1
    exact H.apart _ _ _ _ _ _ q1 a2 q2 b2 hbk

theorem HRel.upd {h : Heap} {ι : Iota} {w : World} (H : HRel h ι w) {id : Nat} {o : AObj} {l : Loc} {c : Array Value} {fr : Nat × Nat}
    (ho : h[id]? = some (.live o)) (hl : ι id = some l) (la : LiveAt w ι (Mt h ι) o l c fr)
    {o' : AObj} {c' : Array Value} {w' : World}
    (hw : SameBut w w' l.blk) (hb : w'.heap[l.blk]? = some (.cells c' o.elem.t fr)) (hs : c'.size = c.size) (he : o'.elem = o.elem) (hz : o'.sz = o.sz)
    (hr : ∀ r, r ∈ o'.rows → r.length = o'.sz) (hf : l.base + o'.rows.length * o'.sz ≤ c.size)
    (hc : ∀ i, (hi : i < o'.rows.length) → ∀ j, (hj : j < o'.rows[i].length) → ∃ x, c'[l.base + i * o'.sz + j]? = some x ∧ Rep w ι (Mt h ι) o'.rows[i][j] x) :
    HRel (h.set id (.live o')) ι w' ∧ Evolve h ι w (h.set id (.live o')) ι w' :=
  H.updG ho hl la hw hb hs (congrArg El.t he) hz (by rw [he]; exact la.unfrozen) hr hf hc

/-- Forgetting an object. -/
theorem HRel.kill {h : Heap} {ι : Iota} {w : World} (H : HRel h ι w) {id : Nat} {o : AObj} (ho : h[id]? = some (.live o)) :
    HRel (h.set id .dead) ι w ∧ Evolve h ι w (h.set id .dead) ι w := by
  have hidlt : id < h.length := by
    rcases Nat.lt_or_ge id h.length with hh | hh
    · exact hh
    · rw [List.getElem?_eq_none hh] at ho; cases ho
  have get : ∀ (k : Nat) (x : AObj), (h.set id HS.dead)[k]? = some (.live x) → h[k]? = some (.live x) := by
    intro k x hx
    by_cases hk : k = id
    · subst hk; simp [hidlt] at hx
    · rwa [List.getElem?_set_ne (by omega)] at hx
  have ev : Evolve h ι w (h.set id .dead) ι w := by
    refine ⟨rfl, rfl, rfl, Nat.le_refl _, fun _ _ q => q, rfl, fun b _ hm => ⟨rfl, ?_⟩, fun b c _ fr hb => ⟨c, fr, hb, rfl⟩⟩
    rintro ⟨k, x, y, h1, h2, h3⟩
    exact hm ⟨k, x, y, get k x h1, h2, h3⟩
  refine ⟨⟨fun k x hx => ?_, fun k hk => ?_, fun k hk => H.out k (by simpa using hk), fun k1 o1 l1 k2 o2 l2 a1 a2 b1 b2 => H.apart _ _ _ _ _ _ (get _ _ a1) a2 (get _ _ b1) b2, H.xlt, fun b hb => (ev.frame b (H.xlt b hb) (H.xob b hb)).2⟩, ev⟩
  · obtain ⟨l2, c2, fr2, h1, la2⟩ := H.live k x (get k x hx)
    exact ⟨l2, c2, fr2, h1, ⟨la2.blk, la2.unfrozen, la2.sz, la2.rows, la2.fits, fun i hi j hj => let ⟨y, q1, q2⟩ := la2.reads i hi j hj; ⟨y, q1, q2.mono ev⟩⟩⟩
  · have hne : k ≠ id := by intro e; subst e; simp [hidlt] at hk
    rw [List.getElem?_set_ne (by omega)] at hk
    exact H.free k hk

/-- A draw changes nothing. -/
theorem HRel.drawn {h : Heap} {ι : Iota} {w : World} (H : HRel h ι w) (n : Nat) : HRel h ι { w with drawn := n } ∧ Evolve h ι w h ι { w with drawn := n } := by
  have ev : Evolve h ι w h ι { w with drawn := n } := ⟨rfl, rfl, rfl, Nat.le_refl _, fun _ _ q => q, rfl, fun b _ hm => ⟨rfl, hm⟩, fun b c _ fr hb => ⟨c, fr, hb, rfl⟩⟩
  refine ⟨⟨fun k x hx => ?_, H.free, H.out, H.apart, H.xlt, fun b hb => (ev.frame b (H.xlt b hb) (H.xob b hb)).2⟩, ev⟩
  obtain ⟨l2, c2, fr2, h1, la2⟩ := H.live k x hx
  exact ⟨l2, c2, fr2, h1, ⟨la2.blk, la2.unfrozen, la2.sz, la2.rows, la2.fits, fun i hi j hj => let ⟨y, q1, q2⟩ := la2.reads i hi j hj; ⟨y, q1, q2.mono ev⟩⟩⟩

end Go.Abs
