/- Freezing what a call has made, and the frame: what holds in the empty heap holds in every heap. -/
import Derived.Test.YtinehkfcploeiaaAbsK
namespace Go.Abs
set_option linter.unusedVariables false

def mapOpt {α β : Type} (f : α → Option β) : List α → Option (List β)
  | [] => some []
  | x :: xs => match f x, mapOpt f xs with
    | some y, some ys => some (y :: ys)
    | _, _ => none

theorem mapOpt_get {α β : Type} {f : α → Option β} : ∀ {xs : List α} {ys : List β}, mapOpt f xs = some ys → xs.length = ys.length ∧ ∀ (i : Nat) (y : β), ys[i]? = some y → ∃ x, xs[i]? = some x ∧ f x = some y
  | [], ys, h => by simp [mapOpt] at h; subst h; exact ⟨rfl, fun i y hy => by simp at hy⟩
  | x :: xs, ys, h => by
    simp only [mapOpt] at h
    split at h
    · rename_i y ys' hy hys
      injection h with h
      subst h
      obtain ⟨h1, h2⟩ := mapOpt_get hys
      refine ⟨by simp [h1], fun i z hz => ?_⟩
      cases i with
      | zero => simp at hz; subst hz; exact ⟨x, rfl, hy⟩
      | succ i => simpa using h2 i z (by simpa using hz)
    · cases h

/-- References that τ knows are renamed, all others are replaced by what they lead to. -/
def frz (τ : Nat → Option Nat) (h : Heap) : Nat → V → Option V
  | 0, _ => none
  | n + 1, x => match x with
    | .v y => some (.v y)
    | .any => some .any
    | .pF row off => match mapOpt (frz τ h n) row with
      | some r => some (.pF r off)
      | none => none
    | .pO id r off => match τ id with
      | some j => some (.pO j r off)
      | none => match h[id]? with
        | some (.live o) => match o.rows[r]? with
          | some row => match mapOpt (frz τ h n) row with
            | some r' => some (.pF r' off)
            | none => none
          | none => none
        | _ => none
    | .sF sz rows => match mapOpt (mapOpt (frz τ h n)) rows with
      | some rs => some (.sF sz rs)
      | none => none
    | .sO id off len => match τ id with
      | some j => some (.sO j off len)
      | none => match h[id]? with
        | some (.live o) => if off + len ≤ o.rows.length then match mapOpt (mapOpt (frz τ h n)) ((o.rows.drop off).take len) with
            | some rs => some (.sF o.sz rs)
            | none => none
          else none
        | _ => none
    | .agg xs => match mapOpt (frz τ h n) xs with
      | some ys => some (.agg ys)
      | none => none
    | .tup xs => match mapOpt (frz τ h n) xs with
      | some ys => some (.tup ys)
      | none => none
    | .fn f a b => match mapOpt (frz τ h n) a, mapOpt (frz τ h n) b with
      | some a', some b' => some (.fn f a' b')
      | _, _ => none
    | .ifc t x => match frz τ h n x with
      | some y => some (.ifc t y)
      | none => none

structure Conv (τ : Nat → Option Nat) (h : Heap) (w : World) (ι : Iota) (M : Nat → Prop) (ι₂ : Iota) (M₂ : Nat → Prop) : Prop where
  keep : ∀ id j l, τ id = some j → ι id = some l → ι₂ j = some l
  wide : ∀ b, ¬ M b → ¬ M₂ b
  live : ∀ id o, τ id = none → h[id]? = some (.live o) → ∃ l c fr, ι id = some l ∧ LiveAt w ι M o l c fr ∧ l.blk < w.heap.size ∧ ¬ M₂ l.blk

theorem row_conv {τ h w ι M ι₂ M₂ n} (ih : ∀ x y x', Rep w ι M x y → frz τ h n x = some x' → Rep w ι₂ M₂ x' y) {rows rs : List (List V)} (hm : mapOpt (mapOpt (frz τ h n)) rows = some rs)
    {i j : Nat} {r : List V} {x : V} (hi : rs[i]? = some r) (hj : r[j]? = some x) :
    ∃ r0 x0, rows[i]? = some r0 ∧ r0[j]? = some x0 ∧ r0.length = r.length ∧ ∀ y, Rep w ι M x0 y → Rep w ι₂ M₂ x y := by
  obtain ⟨r0, h1, h2⟩ := (mapOpt_get hm).2 i r hi
  obtain ⟨x0, h3, h4⟩ := (mapOpt_get h2).2 j x hj
  exact ⟨r0, x0, h1, h3, (mapOpt_get h2).1, fun y ry => ih _ _ _ ry h4⟩

theorem rows_len {τ h n} {rows rs : List (List V)} {sz : Nat} (hm : mapOpt (mapOpt (frz τ h n)) rows = some rs) (hr : ∀ r, r ∈ rows → r.length = sz) : ∀ r, r ∈ rs → r.length = sz := by
  intro r hr'
  obtain ⟨i, hi, rfl⟩ := List.getElem_of_mem hr'
  obtain ⟨r0, h1, h2⟩ := (mapOpt_get hm).2 i _ (List.getElem?_eq_getElem hi)
  rw [← (mapOpt_get h2).1]
  exact hr r0 (get_mem h1)

theorem Rep.pF_opt {w ι M} {row : List V} {off : Nat} {y : Value} (r : Rep w ι M (.pF row off) y) :
    ∃ b o, y = .pointer (some ⟨b, o + off, none⟩) ∧ b < w.heap.size ∧ ¬ M b ∧ ∀ (j : Nat) (x : V), row[j]? = some x → ∃ z, w.cell? ⟨b, o + j, none⟩ = some z ∧ Rep w ι M x z := by
  cases r with
  | pF _ _ b o cells hb hm hc hr =>
    refine ⟨b, o, rfl, hb, hm, fun j x hx => ?_⟩
    have hlt := get_lt hx
    rw [List.getElem?_eq_getElem hlt] at hx
    injection hx with hx
    subst hx
    exact ⟨_, hc j hlt, hr j hlt⟩

theorem Rep.pF_mk {w ι M} {row : List V} {off b o : Nat} (hb : b < w.heap.size) (hm : ¬ M b) (h : ∀ (j : Nat) (x : V), row[j]? = some x → ∃ z, w.cell? ⟨b, o + j, none⟩ = some z ∧ Rep w ι M x z) :
    Rep w ι M (.pF row off) (.pointer (some ⟨b, o + off, none⟩)) := by
  have hch : ∀ j, ∃ z, ∀ (hj : j < row.length), w.cell? ⟨b, o + j, none⟩ = some z ∧ Rep w ι M row[j] z := by
    intro j
    by_cases hj : j < row.length
    · obtain ⟨z, h1, h2⟩ := h j row[j] (List.getElem?_eq_getElem hj)
      exact ⟨z, fun _ => ⟨h1, h2⟩⟩
    · exact ⟨undef, fun q => absurd q hj⟩
  obtain ⟨f, hf⟩ := Classical.axiomOfChoice hch
  exact .pF row off b o f hb hm (fun j hj => (hf j hj).1) (fun j hj => (hf j hj).2)

theorem list_conv {τ h w ι M ι₂ M₂ n} (ih : ∀ x y x', Rep w ι M x y → frz τ h n x = some x' → Rep w ι₂ M₂ x' y) {xs ys : List V} (hm : mapOpt (frz τ h n) xs = some ys) {vs : Array Value} (hl : xs.length = vs.size)
    (hr : ∀ i, (h1 : i < xs.length) → (h2 : i < vs.size) → Rep w ι M xs[i] vs[i]) : ys.length = vs.size ∧ ∀ i, (h1 : i < ys.length) → (h2 : i < vs.size) → Rep w ι₂ M₂ ys[i] vs[i] := by
  obtain ⟨e1, e2⟩ := mapOpt_get hm
  refine ⟨by omega, fun i h1 h2 => ?_⟩
  obtain ⟨x, x1, x2⟩ := e2 i ys[i] (List.getElem?_eq_getElem h1)
  rw [List.getElem?_eq_getElem (by omega)] at x1
  injection x1 with x1
  subst x1
  exact ih _ _ _ (hr i (by omega) h2) x2

theorem frz_rep {τ h w ι M ι₂ M₂} (cv : Conv τ h w ι M ι₂ M₂) : ∀ (n : Nat) (x : V) (y : Value) (x' : V), Rep w ι M x y → frz τ h n x = some x' → Rep w ι₂ M₂ x' y
  | 0, _, _, _, _, e => by simp [frz] at e
  | n + 1, x, y, x', r, e => by
    have ih := frz_rep cv n
    cases x with
    | v q => simp [frz] at e; subst e; cases r; exact .v _
    | any => simp [frz] at e; subst e; exact .any _
    | pF row off =>
      simp only [frz] at e
      split at e
      · rename_i r' hr'
        injection e with e
        subst e
        obtain ⟨b, o, rfl, hb, hm, hc⟩ := r.pF_opt
        refine Rep.pF_mk hb (cv.wide b hm) (fun j z hz => ?_)
        obtain ⟨x0, h1, h2⟩ := (mapOpt_get hr').2 j z hz
        obtain ⟨u, u1, u2⟩ := hc j x0 h1
        exact ⟨u, u1, ih _ _ _ u2 h2⟩
      · cases e
    | pO id rr off =>
      cases r with
      | pO _ _ _ l hl =>
        simp only [frz] at e
        split at e
        · rename_i j hj
          injection e with e
          subst e
          exact .pO j rr off l (cv.keep id j l hj hl)
        · rename_i hj
          split at e
          · rename_i o ho
            split at e
            · rename_i row hrow
              split at e
              · rename_i r' hr'
                injection e with e
                subst e
                obtain ⟨l', c, fr, q1, la, q2, q3⟩ := cv.live id o hj ho
                rw [hl] at q1; injection q1 with q1; subst q1
                refine Rep.pF_mk q2 q3 (fun j z hz => ?_)
                obtain ⟨x0, h1, h2⟩ := (mapOpt_get hr').2 j z hz
                obtain ⟨_, _, u, u1, u2⟩ := la.get hrow h1
                exact ⟨u, by rw [la.cell, la.sz]; exact u1, ih _ _ _ u2 h2⟩
              · cases e
            · cases e
          · cases e
    | sF sz rows =>
      simp only [frz] at e
      split at e
      · rename_i rs hrs
        injection e with e
        subst e
        rcases r.sF_opt with ⟨rfl, rfl⟩ | ⟨a, cap, rfl, hb, hcap, hr, hc⟩
        · simp [mapOpt] at hrs; subst hrs; exact .sN _
        have hlen := (mapOpt_get hrs).1
        rw [hlen]
        refine Rep.sF_mk a cap (fun q => ?_) (by omega) (rows_len hrs hr) (fun i j r x hi hj => ?_)
        · have hne : rows ≠ [] := by intro q'; subst q'; simp [mapOpt] at hrs; exact q hrs
          obtain ⟨b1, b2, b3⟩ := hb hne
          exact ⟨b1, b2, cv.wide _ b3⟩
        · obtain ⟨r0, x0, h1, h2, _, h3⟩ := row_conv ih hrs hi hj
          obtain ⟨z, z1, z2⟩ := hc i j r0 x0 h1 h2
          exact ⟨z, z1, h3 z z2⟩
      · cases e
    | sO id off len =>
      cases r with
      | sO _ _ _ cap l c el fr hl hcap hb hsz =>
        simp only [frz] at e
        split at e
        · rename_i j hj
          injection e with e
          subst e
          exact .sO j off len cap l c el fr (cv.keep id j l hj hl) hcap hb hsz
        · rename_i hj
          split at e
          · rename_i o ho
            split at e
            · rename_i hfit
              split at e
              · rename_i rs hrs
                injection e with e
                subst e
                obtain ⟨l', c', fr', q1, la, q2, q3⟩ := cv.live id o hj ho
                rw [hl] at q1; injection q1 with q1; subst q1
                have hlen := (mapOpt_get hrs).1
                have hl2 : rs.length = len := by rw [← hlen]; simp; omega
                have := Rep.sF_mk (w := w) (ι := ι₂) (M := M₂) (sz := o.sz) (rows := rs) ⟨l.blk, l.base + off * l.sz, none⟩ cap (fun _ => ⟨rfl, q2, q3⟩) (by omega)
                  (rows_len hrs (fun r hr => la.rows r (List.mem_of_mem_drop (List.mem_of_mem_take hr)))) (fun i j r x hi hj => by
                    obtain ⟨r0, x0, h1, h2, _, h3⟩ := row_conv ih hrs hi hj
                    obtain ⟨_, h1⟩ := take_drop_get' h1
                    obtain ⟨_, _, u, u1, u2⟩ := la.get h1 h2
                    refine ⟨u, ?_, h3 u u2⟩
                    rw [la.cell, ← u1, la.sz]
                    congr 1
                    simp only [Nat.add_mul]; omega)
                rw [hl2] at this
                exact this
              · cases e
            · cases e
          · cases e
    | agg xs =>
      simp only [frz] at e
      split at e
      · rename_i ys hys
        injection e with e
        subst e
        cases r with
        | agg _ vs hl hr =>
          obtain ⟨a, b⟩ := list_conv ih hys hl hr
          exact .agg _ _ a b
      · cases e
    | tup xs =>
      simp only [frz] at e
      split at e
      · rename_i ys hys
        injection e with e
        subst e
        cases r with
        | tup _ vs hl hr =>
          obtain ⟨a, b⟩ := list_conv ih hys hl hr
          exact .tup _ _ a b
      · cases e
    | fn f a b =>
      simp only [frz] at e
      split at e
      · rename_i a' b' ha hb
        injection e with e
        subst e
        cases r with
        | fn _ _ _ vs us l1 l2 r1 r2 =>
          obtain ⟨p1, p2⟩ := list_conv ih ha l1 r1
          obtain ⟨q1, q2⟩ := list_conv ih hb l2 r2
          exact .fn f _ _ _ _ p1 q1 p2 q2
      · cases e
    | ifc t z =>
      simp only [frz] at e
      split at e
      · rename_i u hu
        injection e with e
        subst e
        cases r with
        | ifc _ _ v rv => exact .ifc t u v (ih _ _ _ rv hu)
      · cases e

def noTau : Nat → Option Nat := fun _ => none

theorem PC.frame {P : Program} {f : FuncId} {args : List V} {x0 : V} (n : Nat) (hargs : mapOpt (frz noTau [] n) args = some args) (hc : PC P f args [] (fun x h' => ∃ m, frz noTau h' m x = some x0)) (k : Heap) :
    PC P f args k (fun x k' => x = x0 ∧ k' = k) := by
  intro ι w vals hp H
  have hlt : ∀ b, Mt k ι b → b < w.heap.size := by
    rintro b (q | q)
    · exact H.xlt b q
    · exact H.blk_lt q
  let ι0 : Iota := { at' := fun _ => none, X := Mt k ι }
  have H0 : HRel [] ι0 w := ⟨fun id o h => by simp at h, fun id h => by simp at h, fun id _ => rfl, fun id o l id' o' l' h => by simp at h, hlt, fun b _ ⟨id, o, l, q, _⟩ => by simp at q⟩
  have cv0 : Conv noTau [] w ι (Mt k ι) ι0 (Mt [] ι0) := ⟨fun id j l h => by simp [noTau] at h, fun b hb q => by
    rcases q with q | ⟨id, o, l, q, _⟩
    · exact hb q
    · simp at q, fun id o _ h => by simp at h⟩
  have hp0 : PW2 w ι0 (Mt [] ι0) args vals := by
    refine ⟨hp.1, fun i x hx => ?_⟩
    obtain ⟨x1, h1, h2⟩ := (mapOpt_get hargs).2 i x hx
    obtain ⟨y, y1, y2⟩ := hp.2 i x1 h1
    exact ⟨y, y1, frz_rep cv0 n _ _ _ y2 h2⟩
  refine (hc ι0 w vals hp0 H0).mono ?_
  rintro e w' ⟨y, x, h', ι', rfl, ⟨m, hm⟩, ry, H', ev⟩
  have hob0 : ∀ b, ¬ Ob [] ι0 b := by rintro b ⟨id, o, l, q, _⟩; simp at q
  have ev' : Evolve k ι w k ι w' := ⟨ev.os, ev.tape, ev.output, ev.size, fun _ _ q => q, rfl, fun b hb q => ⟨(ev.frame b hb (hob0 b)).1, q⟩, ev.sizes⟩
  refine ⟨y, x0, k, ι, rfl, ⟨rfl, rfl⟩, ?_, ?_, ev'⟩
  · refine frz_rep (τ := noTau) (h := h') (ι := ι') (M := Mt h' ι') ⟨fun id j l h => by simp [noTau] at h, fun b hb q => hb (.inl ?_), fun id o _ ho => ?_⟩ m _ _ _ ry hm
    · rw [ev.away]; exact q
    · obtain ⟨l, c, fr, h1, la⟩ := H'.live id o ho
      refine ⟨l, c, fr, h1, la, H'.blk_lt ⟨id, o, l, ho, h1, rfl⟩, fun q => ?_⟩
      exact (ev.frame l.blk (hlt _ q) (hob0 _)).2 ⟨id, o, l, ho, h1, rfl⟩
  · refine ⟨fun id o ho => ?_, H.free, H.out, H.apart, fun b hb => Nat.lt_of_lt_of_le (H.xlt b hb) ev.size, H.xob⟩
    obtain ⟨l, c, fr, h1, la⟩ := H.live id o ho
    have hb := H.blk_lt ⟨id, o, l, ho, h1, rfl⟩
    exact ⟨l, c, fr, h1, ⟨((ev.frame _ hb (hob0 _)).1).trans la.blk, la.unfrozen, la.sz, la.rows, la.fits, fun i hi j hj => let ⟨u, u1, u2⟩ := la.reads i hi j hj; ⟨u, u1, u2.mono ev'⟩⟩⟩


def frzHS (τ : Nat → Option Nat) (h : Heap) (n : Nat) : HS → Option HS
  | .live o => match mapOpt (mapOpt (frz τ h n)) o.rows with
    | some rs => some (.live { o with rows := rs })
    | none => none
  | .dead => some .dead
  | .free => some .free

theorem frzHS_live {τ h n c} {o : AObj} (e : frzHS τ h n c = some (.live o)) : ∃ o0, c = .live o0 ∧ mapOpt (mapOpt (frz τ h n)) o0.rows = some o.rows ∧ o.sz = o0.sz ∧ o.elem = o0.elem := by
  cases c with
  | live o0 =>
    simp only [frzHS] at e
    split at e
    · rename_i rs hrs
      injection e with e
      injection e with e
      subst e
      exact ⟨o0, rfl, hrs, rfl, rfl⟩
    · cases e
  | _ => simp [frzHS] at e

theorem frzHS_of_live {τ h n} {o0 : AObj} {c : HS} (e : frzHS τ h n (.live o0) = some c) : ∃ o, c = .live o := by
  simp only [frzHS] at e
  split at e
  · injection e with e; exact ⟨_, e.symm⟩
  · cases e

/-- An object's place, its rows renamed. -/
theorem LiveAt.conv {τ h w ι M ι₂ M₂ n} (cv : Conv τ h w ι M ι₂ M₂) {o o' : AObj} {l : Loc} {c : Array Value} {fr : Nat × Nat} (la : LiveAt w ι M o l c fr)
    (hrs : mapOpt (mapOpt (frz τ h n)) o.rows = some o'.rows) (hs : o'.sz = o.sz) (he : o'.elem = o.elem) : LiveAt w ι₂ M₂ o' l c fr := by
  have hlen := (mapOpt_get hrs).1
  refine ⟨by rw [he]; exact la.blk, la.unfrozen, by rw [hs]; exact la.sz, by rw [hs]; exact rows_len hrs la.rows, by rw [hs, ← hlen]; exact la.fits, ?_⟩
  refine dep_of_opt (rows := o'.rows) (p := fun i j x => ∃ y, c[l.base + i * o'.sz + j]? = some y ∧ Rep w ι₂ M₂ x y) (fun i j r x hi hj => ?_)
  obtain ⟨r0, x0, h1, h2, _, h3⟩ := row_conv (frz_rep cv n) hrs hi hj
  obtain ⟨_, _, u, u1, u2⟩ := la.get h1 h2
  exact ⟨u, by rw [hs]; exact u1, h3 u u2⟩

def down (S : List Nat) : Nat → Option Nat := fun id => S.idxOf? id
def up (S : List Nat) : Nat → Option Nat := fun i => S[i]?

theorem down_spec {S : List Nat} {id j : Nat} (h : down S id = some j) : S[j]? = some id := by
  unfold down at h
  rw [List.idxOf?_eq_some_iff] at h
  obtain ⟨h1, h2, _⟩ := h
  rw [List.getElem?_eq_getElem h1]
  simpa using h2

theorem setMany_get {id : Nat} {c : HS} : ∀ (l : List (Nat × HS)) (h : Heap), (l.map (·.1)).Nodup → (id, c) ∈ l → id < h.length → (setMany h l)[id]? = some c
  | [], _, _, hm, _ => by cases hm
  | p :: r, h, hn, hm, hl => by
    simp only [List.map_cons, List.nodup_cons] at hn
    rw [setMany]
    rcases List.mem_cons.1 hm with q | q
    · subst q
      rw [setMany_other r _ (fun x hx e => hn.1 (by have := List.mem_map_of_mem (f := Prod.fst) hx; rw [e] at this; exact this))]
      rw [List.getElem?_set_self hl]
    · exact setMany_get r _ hn.2 q (by simpa using hl)

/-- What a call does to some objects it does to them wherever they lie. -/
theorem PC.lift {P : Program} {f : FuncId} {args args0 : List V} {x0 : V} {S : List Nat} {h0 : Heap} {post : List HS} {k : Heap} (n : Nat) (hS : S.Nodup) (hlen : h0.length = S.length) (hpl : post.length = S.length)
    (hk : ∀ (i id : Nat), S[i]? = some id → ∃ o c, k[id]? = some (.live o) ∧ h0[i]? = some c ∧ frzHS (down S) [] n (.live o) = some c)
    (hargs : mapOpt (frz (down S) [] n) args = some args0)
    (hc : PC P f args0 h0 (fun x h' => ∃ m, frz (up S) h' m x = some x0 ∧ ∀ (i : Nat) (c : HS), post[i]? = some c → ∃ c0, h'[i]? = some c0 ∧ c0 ≠ .free ∧ frzHS (up S) h' m c0 = some c)) :
    PC P f args k (fun x k' => x = x0 ∧ k' = setMany k (S.zip post)) := by
  intro ι w vals hp H
  have Slt : ∀ (i id : Nat), S[i]? = some id → id < k.length := fun i id h => by obtain ⟨o, c, h1, _⟩ := hk i id h; exact get_lt h1
  let ι0 : Iota := { at' := fun i => match S[i]? with | some id => ι id | none => none, X := fun b => ι.X b ∨ ∃ id o l, id ∉ S ∧ k[id]? = some (.live o) ∧ ι id = some l ∧ l.blk = b }
  have at0 : ∀ (i id : Nat), S[i]? = some id → ι0 i = ι id := by intro i id h; show (match S[i]? with | some id => ι id | none => none) = _; rw [h]
  have live0 : ∀ (i : Nat) (o' : AObj), h0[i]? = some (.live o') → ∃ (id : Nat) (o : AObj), S[i]? = some id ∧ k[id]? = some (.live o) ∧ mapOpt (mapOpt (frz (down S) [] n)) o.rows = some o'.rows ∧ o'.sz = o.sz ∧ o'.elem = o.elem := by
    intro i o' h
    have hi : i < S.length := by rw [← hlen]; exact get_lt h
    obtain ⟨o, c, h1, h2, h3⟩ := hk i S[i] (List.getElem?_eq_getElem hi)
    rw [h] at h2; injection h2 with h2; subst h2
    obtain ⟨o0, e1, e2, e3, e4⟩ := frzHS_live h3
    injection e1 with e1; subst e1
    exact ⟨_, o, List.getElem?_eq_getElem hi, h1, e2, e3, e4⟩
  have ob0 : ∀ (b : Nat), Ob h0 ι0 b → ∃ (i id : Nat) (o : AObj) (l : Loc), S[i]? = some id ∧ k[id]? = some (.live o) ∧ ι id = some l ∧ l.blk = b := by
    rintro b ⟨i, o', l, h1, h2, h3⟩
    obtain ⟨id, o, e1, e2, _⟩ := live0 i o' h1
    rw [at0 i id e1] at h2
    exact ⟨i, id, o, l, e1, e2, h2, h3⟩
  have ob0' : ∀ (i id : Nat) (o : AObj) (l : Loc), S[i]? = some id → k[id]? = some (.live o) → ι id = some l → Ob h0 ι0 l.blk := by
    intro i id o l h1 h2 h3
    obtain ⟨o2, c, e1, e2, e3⟩ := hk i id h1
    obtain ⟨o3, e4⟩ := frzHS_of_live e3
    subst e4
    exact ⟨i, o3, l, e2, by rw [at0 i id h1]; exact h3, rfl⟩
  have mt0 : ∀ b, Mt h0 ι0 b ↔ Mt k ι b := by
    intro b
    constructor
    · rintro ((q | ⟨id, o, l, _, h1, h2, h3⟩) | q)
      · exact .inl q
      · exact .inr ⟨id, o, l, h1, h2, h3⟩
      · obtain ⟨i, id, o, l, _, h1, h2, h3⟩ := ob0 b q
        exact .inr ⟨id, o, l, h1, h2, h3⟩
    · rintro (q | ⟨id, o, l, h1, h2, h3⟩)
      · exact .inl (.inl q)
      · by_cases hid : id ∈ S
        · obtain ⟨i, hi, e⟩ := List.getElem_of_mem hid
          have := ob0' i id o l (by rw [List.getElem?_eq_getElem hi, e]) h1 h2
          rw [h3] at this
          exact .inr this
        · exact .inl (.inr ⟨id, o, l, hid, h1, h2, h3⟩)
  have cvd : Conv (down S) [] w ι (Mt k ι) ι0 (Mt h0 ι0) := ⟨fun id j l h1 h2 => by rw [at0 j id (down_spec h1)]; exact h2, fun b hb q => hb ((mt0 b).1 q), fun id o _ h => by simp at h⟩
  have idx : ∀ (i j id : Nat), S[i]? = some id → S[j]? = some id → i = j := by
    intro i j id h1 h2
    have hi := get_lt h1
    have hj := get_lt h2
    rw [List.getElem?_eq_getElem hi] at h1; injection h1 with h1
    rw [List.getElem?_eq_getElem hj] at h2; injection h2 with h2
    have hpw := List.pairwise_iff_getElem.1 hS
    rcases Nat.lt_trichotomy i j with q | q | q
    · exact absurd (h1.trans h2.symm) (hpw i j hi hj q)
    · exact q
    · exact absurd (h2.trans h1.symm) (hpw j i hj hi q)
  have x0ob : ∀ b, ι0.X b → ¬ Ob h0 ι0 b := by
    rintro b (q | ⟨id, o, l, hid, h1, h2, h3⟩) hob
    · obtain ⟨i, id, o, l, _, h1, h2, h3⟩ := ob0 b hob
      exact H.xob b q ⟨id, o, l, h1, h2, h3⟩
    · obtain ⟨i, id', o', l', g0, g1, g2, g3⟩ := ob0 b hob
      have := H.apart id o l id' o' l' h1 h2 g1 g2 (h3.trans g3.symm)
      subst this
      exact hid (get_mem g0)
  have H0 : HRel h0 ι0 w := by
    refine ⟨fun i o' h => ?_, fun i h => ?_, fun i h => ?_, fun i o l i' o' l' h1 h2 h3 h4 h5 => ?_, fun b hb => ?_, x0ob⟩
    · obtain ⟨id, o, e1, e2, e3, e4, e5⟩ := live0 i o' h
      obtain ⟨l, c, fr, g1, la⟩ := H.live id o e2
      exact ⟨l, c, fr, by rw [at0 i id e1]; exact g1, la.conv cvd e3 e4 e5⟩
    · exfalso
      have hi : i < S.length := by rw [← hlen]; exact get_lt h
      obtain ⟨o, c, h1, h2, h3⟩ := hk i S[i] (List.getElem?_eq_getElem hi)
      rw [h] at h2; injection h2 with h2; subst h2
      obtain ⟨o3, e4⟩ := frzHS_of_live h3
      cases e4
    · show (match S[i]? with | some id => ι id | none => none) = none
      rw [List.getElem?_eq_none (by omega)]
    · obtain ⟨id, q, e1, e2, _⟩ := live0 i o h1
      obtain ⟨id', q', e1', e2', _⟩ := live0 i' o' h3
      rw [at0 i id e1] at h2
      rw [at0 i' id' e1'] at h4
      have := H.apart id q l id' q' l' e2 h2 e2' h4 h5
      subst this
      exact idx i i' id e1 e1'
    · rcases hb with q | ⟨id, o, l, _, h1, h2, h3⟩
      · exact H.xlt b q
      · exact H.blk_lt ⟨id, o, l, h1, h2, h3⟩
  have hp0 : PW2 w ι0 (Mt h0 ι0) args0 vals := by
    obtain ⟨l1, l2⟩ := mapOpt_get hargs
    refine ⟨by rw [← l1]; exact hp.1, fun i x hx => ?_⟩
    obtain ⟨x1, h1, h2⟩ := l2 i x hx
    obtain ⟨y, y1, y2⟩ := hp.2 i x1 h1
    exact ⟨y, y1, frz_rep cvd n _ _ _ y2 h2⟩
  refine (hc ι0 w vals hp0 H0).mono ?_
  rintro e w' ⟨y, x, h', ι', rfl, ⟨m, hm, hpost⟩, ry, H', ev⟩
  -- the new heap
  have zmap : (S.zip post).map (·.1) = S := by rw [List.map_fst_zip]; omega
  have getS : ∀ (i id : Nat) (c : HS), S[i]? = some id → post[i]? = some c → (setMany k (S.zip post))[id]? = some c := by
    intro i id c h1 h2
    refine setMany_get _ _ (by rw [zmap]; exact hS) ?_ (Slt i id h1)
    have : (S.zip post)[i]? = some (id, c) := by rw [List.getElem?_zip_eq_some]; exact ⟨h1, h2⟩
    exact get_mem this
  have getO : ∀ (id : Nat), id ∉ S → (setMany k (S.zip post))[id]? = k[id]? := by
    intro id hid
    refine setMany_other _ _ (fun p hp e => hid ?_)
    rw [← e, ← zmap]; exact List.mem_map_of_mem hp
  have liveK : ∀ (id : Nat) (o' : AObj), (setMany k (S.zip post))[id]? = some (.live o') → (id ∉ S ∧ k[id]? = some (.live o')) ∨
      ∃ (i : Nat) (o : AObj) (l : Loc), S[i]? = some id ∧ h'[i]? = some (.live o) ∧ mapOpt (mapOpt (frz (up S) h' m)) o.rows = some o'.rows ∧ o'.sz = o.sz ∧ o'.elem = o.elem ∧ ι id = some l ∧ ι' i = some l ∧ ∃ o2, k[id]? = some (.live o2) := by
    intro id o' h
    by_cases hid : id ∈ S
    · right
      obtain ⟨i, hi, e⟩ := List.getElem_of_mem hid
      have hSi : S[i]? = some id := by rw [List.getElem?_eq_getElem hi, e]
      have hpi : post[i]? = some post[i] := List.getElem?_eq_getElem (by omega)
      rw [getS i id _ hSi hpi] at h
      injection h with h
      obtain ⟨c0, g1, g2, g3⟩ := hpost i _ hpi
      rw [h] at g3
      obtain ⟨o, e1, e2, e3, e4⟩ := frzHS_live g3
      subst e1
      obtain ⟨o2, c, f1, f2, f3⟩ := hk i id hSi
      obtain ⟨l, cc, fr, p1, p2⟩ := H.live id o2 f1
      exact ⟨i, o, l, hSi, g1, e2, e3, e4, p1, ev.iota i l (by rw [at0 i id hSi]; exact p1), o2, f1⟩
    · left
      rw [getO id hid] at h
      exact ⟨hid, h⟩
  have obK : ∀ b, Ob (setMany k (S.zip post)) ι b → Ob k ι b ∧ (ι'.X b ∨ Ob h' ι' b) := by
    rintro b ⟨id, o', l, h1, h2, h3⟩
    rcases liveK id o' h1 with ⟨q1, q2⟩ | ⟨i, o, l2, q1, q2, _, _, _, q3, q4, o2, q5⟩
    · exact ⟨⟨id, o', l, q2, h2, h3⟩, .inl (by rw [ev.away]; exact .inr ⟨id, o', l, q1, q2, h2, h3⟩)⟩
    · rw [h2] at q3; injection q3 with q3; subst q3
      exact ⟨⟨id, o2, l, q5, h2, h3⟩, .inr ⟨i, o, l, q2, q4, h3⟩⟩
  have evk : Evolve k ι w (setMany k (S.zip post)) ι w' := by
    refine ⟨ev.os, ev.tape, ev.output, ev.size, fun _ _ q => q, rfl, fun b hb q => ⟨(ev.frame b hb (fun z => q ?_)).1, fun z => q (obK b z).1⟩, ev.sizes⟩
    obtain ⟨i, id, o, l, _, h1, h2, h3⟩ := ob0 b z
    exact ⟨id, o, l, h1, h2, h3⟩
  have cvu : Conv (up S) h' w' ι' (Mt h' ι') ι (Mt (setMany k (S.zip post)) ι) := by
    refine ⟨fun i id l h1 h2 => ?_, fun b hb q => hb ?_, fun i o hi ho => ?_⟩
    · obtain ⟨o2, c, f1, _⟩ := hk i id h1
      obtain ⟨l2, cc, fr, p1, p2⟩ := H.live id o2 f1
      have := ev.iota i l2 (by rw [at0 i id h1]; exact p1)
      rw [h2] at this; injection this with this
      rw [this]; exact p1
    · rcases q with q | q
      · exact .inl (by rw [ev.away]; exact .inl q)
      · exact (obK b q).2
    · obtain ⟨l, c, fr, g1, la⟩ := H'.live i o ho
      refine ⟨l, c, fr, g1, la, H'.blk_lt ⟨i, o, l, ho, g1, rfl⟩, fun q => ?_⟩
      have hob : Ob h' ι' l.blk := ⟨i, o, l, ho, g1, rfl⟩
      rcases q with q | q
      · exact H'.xob l.blk (by rw [ev.away]; exact .inl q) hob
      · obtain ⟨id, o', l', h1, h2, h3⟩ := q
        rcases liveK id o' h1 with ⟨q1, q2⟩ | ⟨j, o3, l2, q1, q2, _, _, _, q3, q4, _⟩
        · exact H'.xob l.blk (by rw [ev.away]; exact .inr ⟨id, o', l', q1, q2, h2, h3⟩) hob
        · rw [h2] at q3; injection q3 with q3; subst q3
          have := H'.apart i o l j o3 l' ho g1 q2 q4 h3.symm
          subst this
          have : up S i = some id := q1
          rw [hi] at this; cases this
  refine ⟨y, x0, _, ι, rfl, ⟨rfl, rfl⟩, frz_rep cvu m _ _ _ ry hm, ?_, evk⟩
  refine ⟨fun id o' ho => ?_, fun id hid => ?_, fun id hid => H.out id (by rw [setMany_length] at hid; exact hid), fun id o l id' o' l' h1 h2 h3 h4 h5 => ?_, fun b hb => Nat.lt_of_lt_of_le (H.xlt b hb) ev.size, fun b hb q => H.xob b hb (obK b q).1⟩
  · rcases liveK id o' ho with ⟨q1, q2⟩ | ⟨i, o, l, q1, q2, q3, q4, q5, q6, q7, _⟩
    · obtain ⟨l, c, fr, g1, la⟩ := H.live id o' q2
      have hb := H.blk_lt ⟨id, o', l, q2, g1, rfl⟩
      have hno : ¬ Ob h0 ι0 l.blk := x0ob l.blk (.inr ⟨id, o', l, q1, q2, g1, rfl⟩)
      exact ⟨l, c, fr, g1, ⟨((ev.frame _ hb hno).1).trans la.blk, la.unfrozen, la.sz, la.rows, la.fits, fun i hi j hj => let ⟨u, u1, u2⟩ := la.reads i hi j hj; ⟨u, u1, u2.mono evk⟩⟩⟩
    · obtain ⟨l2, c, fr, g1, la⟩ := H'.live i o q2
      rw [q7] at g1; injection g1 with g1; subst g1
      exact ⟨l, c, fr, q6, la.conv cvu q3 q4 q5⟩
  · by_cases hid' : id ∈ S
    · exfalso
      obtain ⟨i, hi, e⟩ := List.getElem_of_mem hid'
      have hSi : S[i]? = some id := by rw [List.getElem?_eq_getElem hi, e]
      have hpi : post[i]? = some post[i] := List.getElem?_eq_getElem (by omega)
      rw [getS i id _ hSi hpi] at hid
      injection hid with hid
      obtain ⟨c0, g1, g2, g3⟩ := hpost i _ hpi
      rw [hid] at g3
      cases c0 with
      | live o => obtain ⟨o3, e4⟩ := frzHS_of_live g3; cases e4
      | dead => simp [frzHS] at g3
      | free => exact g2 rfl
    · rw [getO id hid'] at hid
      exact H.free id hid
  · have f : ∀ (a : Nat) (b : AObj), (setMany k (S.zip post))[a]? = some (.live b) → ∃ b', k[a]? = some (.live b') := by
      intro a b hab
      rcases liveK a b hab with ⟨_, q2⟩ | ⟨i, o, l, _, _, _, _, _, _, _, o2, q5⟩
      · exact ⟨b, q2⟩
      · exact ⟨o2, q5⟩
    obtain ⟨b1, c1⟩ := f _ _ h1
    obtain ⟨b2, c2⟩ := f _ _ h3
    exact H.apart id b1 l id' b2 l' c1 h2 c2 h4 h5

end Go.Abs
