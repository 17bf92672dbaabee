/- The footprint of an operation, and the run of a drawn region by a function. -/
import Derived.Test.YtmlojnecmdnbpaaGreatDoorAbsL
namespace Go.Abs
set_option linter.unusedVariables false

def wids (op : Op) (ρ : Operand → V) (new : Nat) : List Nat :=
  match op with
  | .store _ p _ => topIds (ρ p)
  | .alloc _ => [new]
  | .box _ _ => [new]
  | .buildSlice _ _ _ => [new]
  | .makeSlice _ _ _ => [new]
  | .convert _ _ _ => [new]
  | .call c => match c.callee with
    | .builtin .append => ((c.args.toList.take 1).flatMap fun x => topIds (ρ x)) ++ [new]
    | .builtin .clear => c.args.toList.flatMap fun x => topIds (ρ x)
    | .builtin .copy => c.args.toList.flatMap fun x => topIds (ρ x)
    | _ => []
  | _ => []

/-- It does not look at the heap. -/
def Neut (r : Heap → Option (V × Heap)) : Prop := ∀ h x h', r h = some (x, h') → ∀ k, r k = some (x, k)

/-- It looks at 'ids' alone and writes 'ws' alone. -/
def Loc' (r : Heap → Option (V × Heap)) (ids ws : List Nat) (new : Nat) : Prop :=
  ∀ h x h', r h = some (x, h') → new < h.length → ∃ post : List (Nat × HS), (∀ p, p ∈ post → p.1 ∈ ws) ∧ ∀ k : Heap, (∀ id, id ∈ ids ++ [new] → k[id]? = h[id]?) → r k = some (x, setMany k post)

theorem Neut.loc {r : Heap → Option (V × Heap)} (n : Neut r) (ids ws : List Nat) (new : Nat) : Loc' r ids ws new :=
  fun h x h' e _ => ⟨[], by simp, fun k _ => n h x h' e k⟩

theorem halloc_local {h : Heap} {new : Nat} {o : AObj} {h' : Heap} (e : halloc h new o = some h') (hl : new < h.length) {k : Heap} (hk : k[new]? = h[new]?) :
    halloc k new o = some (k.set new (.live o)) := by
  unfold halloc at e ⊢
  rw [hk]
  rw [List.getElem?_eq_getElem hl] at e ⊢
  split at e
  · rename_i q; cases q
  · first | rfl | (rename_i q; rw [q])
  · cases e

theorem Loc'.alloc {f : Option (AObj × V)} {new : Nat} {ids : List Nat} {r : Heap → Option (V × Heap)}
    (hr : ∀ h, r h = match f with | some (o, x) => (match halloc h new o with | some h' => some (x, h') | none => none) | none => none) : Loc' r ids [new] new := by
  intro h x h' e hl
  rw [hr] at e
  cases f with
  | none => cases e
  | some p =>
    obtain ⟨o, y⟩ := p
    simp only at e
    split at e
    · rename_i h1 h2
      injection e with e
      injection e with e1 e2
      subst e1
      refine ⟨[(new, .live o)], by simp, fun k hk => ?_⟩
      rw [hr]
      simp only [halloc_local h2 hl (hk new (by simp))]
      rfl
    · cases e

theorem box_loc {new : Nat} {elem : TypeId} {x : V} {ids : List Nat} : Loc' (fun h => aBox h new elem x) ids [new] new :=
  Loc'.alloc (f := match leaves x with | some ls => some (⟨ls.length, [ls], elem⟩, .pO new 0 0) | none => none) (fun h => by
    unfold aBox
    cases leaves x <;> rfl)

theorem alloc_loc {P : Program} {new : Nat} {elem : TypeId} {ids : List Nat} : Loc' (fun h => aAlloc P h new elem) ids [new] new := by
  intro h x h' e hl
  simp only [aAlloc] at e
  split at e
  · rename_i z hz
    obtain ⟨post, h1, h2⟩ := box_loc (new := new) (elem := elem) (x := z) (ids := ids) h x h' e hl
    exact ⟨post, h1, fun k hk => by simp only [aAlloc, hz]; exact h2 k hk⟩
  · cases e

theorem toBytes_loc {new : Nat} {elem : TypeId} {b : ByteArray} {ids : List Nat} : Loc' (fun h => aToBytes h new elem b) ids [new] new :=
  Loc'.alloc (f := some (⟨1, b.data.toList.map byteRow, elem⟩, .sO new 0 b.size)) (fun h => by unfold aToBytes; rfl)

theorem buildSlice_loc {P : Program} {new : Nat} {t : TypeId} {len : Nat} {ps : List (Nat × V)} {ids : List Nat} : Loc' (fun h => aBuildSlice P h new t len ps) ids [new] new := by
  intro h x h' e hl
  simp only [aBuildSlice] at e
  split at e
  · rename_i elem hu
    split at e
    · rename_i size zs hs hz
      split at e
      · rename_i hc
        split at e
        · rename_i ls hf
          split at e
          · rename_i h1 h2
            injection e with e
            injection e with e1 e2
            subst e1
            refine ⟨[(new, .live ⟨size, chunk size len ls, elem⟩)], by simp, fun k hk => ?_⟩
            simp only [aBuildSlice, hu, hs, hz, hc, and_self, if_true, hf, halloc_local h2 hl (hk new (by simp))]
            rfl
          · cases e
        · cases e
      · cases e
    · cases e
  · cases e

theorem makeSlice_loc {P : Program} {new : Nat} {t : TypeId} {l c : V} {ids : List Nat} : Loc' (fun h => aMakeSlice P h new t l c) ids [new] new := by
  intro h x h' e hl
  simp only [aMakeSlice] at e
  split at e
  · rename_i elem n m hu hn hm
    split at e
    · rename_i size zs b hs hz hb
      split at e
      · rename_i hc
        split at e
        · rename_i h1 h2
          injection e with e
          injection e with e1 e2
          subst e1
          refine ⟨[(new, .live ⟨size, List.replicate n.toNat zs, elem⟩)], by simp, fun k hk => ?_⟩
          simp only [aMakeSlice, hu, hn, hm, hs, hz, hb]
          rw [if_pos hc]
          simp only [halloc_local h2 hl (hk new (by simp))]
          rfl
        · cases e
      · cases e
    · cases e
  · cases e

theorem rowAt_local {h k : Heap} {p : V} (hk : ∀ id, id ∈ topIds p → k[id]? = h[id]?) : rowAt k p = rowAt h p := by
  cases p <;> simp only [rowAt]
  rename_i id r off
  rw [hk id (by simp [topIds])]

theorem load_loc {P : Program} {t : TypeId} {p : V} {new : Nat} : Loc' (fun h => aLoad P h t p) (topIds p) [] new := by
  intro h x h' e _
  refine ⟨[], by simp, fun k hk => ?_⟩
  have hr := rowAt_local (h := h) (k := k) (p := p) (fun id hid => hk id (List.mem_append_left _ hid))
  simp only [aLoad] at e ⊢
  rw [hr]
  split at e
  · rename_i row off hrow
    split at e
    · rename_i y hy
      injection e with e
      injection e with e1 e2
      subst e1
      first | rfl | (simp only [hy]; rfl)
    · cases e
  · cases e

theorem store_loc {P : Program} {t : TypeId} {p x : V} {new : Nat} : Loc' (fun h => aStore P h t p x) (topIds p) (topIds p) new := by
  intro h y h' e _
  simp only [aStore] at e
  split at e
  · rename_i id r off ls n hls hn
    split at e
    · rename_i hc
      split at e
      · rename_i o ho
        split at e
        · rename_i row hrow
          split at e
          · rename_i hfit
            injection e with e
            injection e with e1 e2
            subst e1
            refine ⟨[(id, .live { o with rows := o.rows.set r (row.take off ++ ls ++ row.drop (off + n)) })], by simp [topIds], fun k hk => ?_⟩
            have hk' := hk id (by simp [topIds])
            simp only [aStore, hls, hn]
            rw [if_pos hc, hk', ho]
            simp only [hrow]
            rw [if_pos hfit]
            rfl
          · cases e
        · cases e
      · cases e
    · cases e
  · cases e

theorem indexAddr_loc {P : Program} {t : TypeId} {x i : V} {new : Nat} : Loc' (fun h => aIndexAddr P h t x i) (topIds x) [] new := by
  intro h y h' e _
  refine ⟨[], by simp, fun k hk => ?_⟩
  simp only [setMany]
  cases x with
  | sO id off len =>
    have hk' := hk id (by simp [topIds])
    simp only [aIndexAddr, hk'] at e ⊢
    (repeat' split at e) <;> simp_all
  | _ =>
    simp only [aIndexAddr] at e ⊢
    (repeat' split at e) <;> simp_all

theorem slice_loc {P : Program} {t : TypeId} {x : V} {lo hi : Option V} {new : Nat} : Loc' (fun h => aSlice P h t x lo hi) (topIds x) [] new := by
  intro h y h' e _
  refine ⟨[], by simp, fun k hk => ?_⟩
  simp only [setMany]
  cases x with
  | sO id off len =>
    have hk' := hk id (by simp [topIds])
    have : aSlice P k t (.sO id off len) lo hi = (aSlice P h t (.sO id off len) lo hi).map fun p => (p.1, k) := by
      simp only [aSlice, hk']
      (repeat' split) <;> simp_all
    show aSlice P k t (.sO id off len) lo hi = _
    have e' : aSlice P h t (.sO id off len) lo hi = some (y, h') := e
    rw [this, e']; rfl
  | _ =>
    simp only [aSlice] at e ⊢
    (repeat' split at e) <;> simp_all

theorem rowsOf_local {h k : Heap} {s : Nat} {y : V} (hk : ∀ id, id ∈ topIds y → k[id]? = h[id]?) : rowsOf k s y = rowsOf h s y := by
  cases y with
  | sO id off len => simp only [rowsOf]; rw [hk id (by simp [topIds])]
  | v q => cases q <;> (unfold rowsOf; first | rfl | ((repeat' split) <;> simp_all))
  | _ => rfl

theorem toString_loc {x : V} {new : Nat} : Loc' (fun h => aToString h x) (topIds x) [] new := by
  intro h y h' e _
  refine ⟨[], by simp, fun k hk => ?_⟩
  have hr := rowsOf_local (h := h) (k := k) (s := 1) (y := x) (fun id hid => hk id (List.mem_append_left _ hid))
  simp only [setMany]
  simp only [aToString] at e ⊢
  rw [hr]
  (repeat' split at e) <;> simp_all

theorem append_loc {P : Program} {tys : Array TypeId} {x y : V} {new : Nat} : Loc' (fun h => aAppend P h new tys x y) (topIds x ++ topIds y) (topIds x ++ [new]) new := by
  intro h z h' e hl
  simp only [aAppend] at e
  split at e
  · rename_i sT xT hs hx
    split at e
    · rename_i elem hu
      split at e
      · rename_i hxx
        simp only [aAppendE] at e
        split at e
        · rename_i s b zs h1 h2 h3
          split at e
          · rename_i rows hrows
            have hrk : ∀ k : Heap, (∀ id, id ∈ topIds x ++ topIds y ++ [new] → k[id]? = h[id]?) → aAppend P k new tys x y = aAppendRows P k new elem s b zs x rows := by
              intro k hk
              have := rowsOf_local (h := h) (k := k) (s := s) (y := y) (fun id hid => hk id (by simp [hid]))
              simp only [aAppend, hs, hx, hu, hxx, if_true, aAppendE, h1, h2, h3, this, hrows]
            simp only [aAppendRows] at e
            split at e
            · rename_i hem
              refine ⟨[], by simp, fun k hk => ?_⟩
              show aAppend P k new tys _ y = _
              rw [hrk k hk]
              simp only [aAppendRows, setMany]
              (repeat' split at e) <;> simp_all
            · rename_i hem
              split at e
              · rename_i hc
                split at e
                · rename_i q
                  split at e
                  · rename_i hq
                    split at e
                    · rename_i h4 h5
                      injection e with e
                      injection e with e1 e2
                      subst e1
                      refine ⟨[(new, .live ⟨s, rows, ⟨elem, 1⟩⟩)], by simp, fun k hk => ?_⟩
                      show aAppend P k new tys _ y = _
                      rw [hrk k hk]
                      simp only [aAppendRows]
                      rw [if_neg hem, if_pos hc]
                      rw [if_pos hq]
                      simp only [halloc_local h5 hl (hk new (by simp))]
                      rfl
                    · cases e
                  · cases e
                · rename_i id off len
                  split at e
                  · rename_i o ho
                    split at e
                    · rename_i hq
                      split at e
                      · rename_i h4 h5
                        injection e with e
                        injection e with e1 e2
                        subst e1
                        refine ⟨[(id, .dead), (new, .live ⟨s, (o.rows.drop off).take len ++ rows, o.elem⟩)], by simp [topIds], fun k hk => ?_⟩
                        have hid := hk id (by simp [topIds])
                        have hnew := hk new (by simp)
                        show aAppend P k new tys _ y = _
                        rw [hrk k hk]
                        simp only [aAppendRows]
                        rw [if_neg hem, if_pos hc]
                        simp only [hid, ho]
                        rw [if_pos hq]
                        have hne : id ≠ new := by
                          intro q; subst q
                          have hlt := get_lt ho
                          obtain ⟨_, _, _, g⟩ := halloc_get h5
                          rcases g with g | g
                          · simp [hlt] at g
                          · simp at g; omega
                        have hkn : (k.set id .dead)[new]? = (h.set id .dead)[new]? := by
                          rw [List.getElem?_set_ne hne, List.getElem?_set_ne hne, hnew]
                        simp only [halloc_local h5 (by simpa using hl) hkn]
                        rfl
                      · cases e
                    · cases e
                  · cases e
                · cases e
              · cases e
          · cases e
        · cases e
      · cases e
    · cases e
  · cases e

theorem clear_loc {P : Program} {t : TypeId} {x : V} {new : Nat} : Loc' (fun h => aClear P h t x) (topIds x) (topIds x) new := by
  intro h z h' e hl
  simp only [aClear] at e
  split at e
  · rename_i elem hu
    split at e
    · injection e with e
      injection e with e1 e2
      subst e1
      exact ⟨[], by simp, fun k hk => by simp only [aClear, hu]; rfl⟩
    · injection e with e
      injection e with e1 e2
      subst e1
      exact ⟨[], by simp, fun k hk => by simp only [aClear, hu]; rfl⟩
    · rename_i id off len
      split at e
      · rename_i o zs ho hz
        split at e
        · rename_i h0
          injection e with e
          injection e with e1 e2
          subst e1
          refine ⟨[], by simp, fun k hk => ?_⟩
          have hid := hk id (by simp [topIds])
          simp only [aClear, hu, hid, ho, hz]
          rw [if_pos h0]; rfl
        · rename_i h0
          split at e
          · rename_i hc
            injection e with e
            injection e with e1 e2
            subst e1
            refine ⟨[(id, .live (putRows o off (List.replicate len zs)))], by simp [topIds], fun k hk => ?_⟩
            have hid := hk id (by simp [topIds])
            simp only [aClear, hu, hid, ho, hz]
            rw [if_neg h0, if_pos hc]; rfl
          · cases e
      · cases e
    · cases e
  · cases e

theorem copy_loc {P : Program} {t : TypeId} {x y : V} {new : Nat} : Loc' (fun h => aCopy P h t x y) (topIds x ++ topIds y) (topIds x) new := by
  intro h z h' e hl
  simp only [aCopy] at e
  split at e
  · rename_i elem hu
    split at e
    · rename_i s hs
      split at e
      · rename_i rows hrows
        have hrk : ∀ k : Heap, (∀ id, id ∈ topIds x ++ topIds y ++ [new] → k[id]? = h[id]?) → rowsOf k s y = some rows := by
          intro k hk
          rw [rowsOf_local (h := h) (fun id hid => hk id (by simp [hid])), hrows]
        split at e
        · injection e with e
          injection e with e1 e2
          subst e1
          exact ⟨[], by simp, fun k hk => by simp only [aCopy, hu, hs, hrk k hk]; rfl⟩
        · injection e with e
          injection e with e1 e2
          subst e1
          exact ⟨[], by simp, fun k hk => by simp only [aCopy, hu, hs, hrk k hk]; rfl⟩
        · rename_i id off len
          split at e
          · rename_i o ho
            split at e
            · rename_i hc
              injection e with e
              injection e with e1 e2
              subst e1
              refine ⟨[(id, .live (putRows o off (rows.take len)))], by simp [topIds], fun k hk => ?_⟩
              have hid := hk id (by simp [topIds])
              simp only [aCopy, hu, hs, hrk k hk, hid, ho]
              rw [if_pos hc]; rfl
            · cases e
          · cases e
        · cases e
      · cases e
    · cases e
  · cases e

theorem Loc'.mono {r : Heap → Option (V × Heap)} {ids ws ids' ws' : List Nat} {new : Nat} (l : Loc' r ids ws new) (h1 : ∀ i, i ∈ ids → i ∈ ids') (h2 : ∀ i, i ∈ ws → i ∈ ws') : Loc' r ids' ws' new := by
  intro h x h' e hl
  obtain ⟨post, p1, p2⟩ := l h x h' e hl
  refine ⟨post, fun p hp => h2 _ (p1 p hp), fun k hk => p2 k (fun id hid => hk id ?_)⟩
  rcases List.mem_append.1 hid with q | q
  · exact List.mem_append_left _ (h1 _ q)
  · exact List.mem_append_right _ q

theorem neut_none : Neut (fun _ => none) := by intro h x h' e; cases e

theorem aop_loc {P : Program} {op : Op} {ρ : Operand → V} {new : Nat} : Loc' (fun h => aop P op ρ h new) (foot op ρ) (wids op ρ new) new := by
  have neut : ∀ {r : Heap → Option (V × Heap)}, (∀ h x h', r h = some (x, h') → ∀ k, r k = some (x, k)) → Loc' r (foot op ρ) (wids op ρ new) new := fun n => Neut.loc n _ _ _
  cases op with
  | load t p => exact load_loc.mono (fun _ h => h) (by simp)
  | store t p x => exact store_loc
  | alloc e => exact alloc_loc
  | box e x => exact box_loc
  | buildSlice t n ps => exact buildSlice_loc
  | makeSlice t l c => exact makeSlice_loc
  | indexAddr t x i => exact indexAddr_loc.mono (fun _ h => h) (by simp)
  | convert s d x =>
    intro h y h' e hl
    simp only [aop, aConvert] at e
    have str : ∀ (hh : ∀ k, aop P (.convert s d x) ρ k new = aToString k (ρ x)), aToString h (ρ x) = some (y, h') → ∃ post : List (Nat × HS), (∀ p, p ∈ post → p.1 ∈ wids (.convert s d x) ρ new) ∧ ∀ k : Heap, (∀ id, id ∈ foot (.convert s d x) ρ ++ [new] → k[id]? = h[id]?) → aop P (.convert s d x) ρ k new = some (y, setMany k post) := by
      intro hh e'
      obtain ⟨post, p1, p2⟩ := toString_loc (new := new) h y h' e' hl
      exact ⟨post, fun p hp => absurd (p1 p hp) (by simp), fun k hk => by rw [hh k]; exact p2 k hk⟩
    split at e
    · rename_i el b hd hx
      split at e
      · rename_i hs he
        obtain ⟨post, p1, p2⟩ := toBytes_loc (ids := topIds (ρ x)) h y h' e hl
        refine ⟨post, fun p hp => by simpa [wids] using p1 p hp, fun k hk => ?_⟩
        simp only [aop, aConvert, hd, hx, hs, he]
        exact p2 k hk
      · cases e
    · rename_i hd hx
      split at e
      · rename_i el hs
        split at e
        · rename_i he
          exact str (fun k => by simp only [aop, aConvert, hd, hx, hs, he]) (by rw [hx] at e ⊢; exact e)
        · cases e
      · cases e
    · rename_i a b hd hx
      split at e
      · rename_i el hs
        split at e
        · rename_i he
          exact str (fun k => by simp only [aop, aConvert, hd, hx, hs, he]) (by rw [hx] at e ⊢; exact e)
        · cases e
      · cases e
    · rename_i a b c hd hx
      split at e
      · rename_i el hs
        split at e
        · rename_i he
          exact str (fun k => by simp only [aop, aConvert, hd, hx, hs, he]) (by rw [hx] at e ⊢; exact e)
        · cases e
      · cases e
    · rename_i id rr hd hx
      split at e
      · rename_i t o hs ho
        split at e
        · rename_i hk
          injection e with e; injection e with e1 e2
          refine ⟨[], by simp, fun k hk2 => ?_⟩
          have hid : k[id]? = some (.live o) := by rw [hk2 id (by simp [foot, hx, topIds])]; exact ho
          subst e1
          simp only [aop, aConvert, hd, hx, hs, hid, hk, setMany]
        · cases e
      · cases e
    · rename_i u id rr hd hx
      split at e
      · rename_i o hs ho
        split at e
        · rename_i hk
          injection e with e; injection e with e1 e2
          refine ⟨[], by simp, fun k hk2 => ?_⟩
          have hid : k[id]? = some (.live o) := by rw [hk2 id (by simp [foot, hx, topIds])]; exact ho
          subst e1
          simp only [aop, aConvert, hd, hx, hs, hid, hk, setMany]
        · cases e
      · cases e
    · rename_i q hx n1 n2
      split at e
      · rename_i z hz
        injection e with e
        injection e with e1 e2
        refine ⟨[], by simp, fun k hk => ?_⟩
        have : aConvert P k new s d (.v q) = some (ofValue z, k) := by
          unfold aConvert
          split
          · rename_i el b hd q1; injection q1 with q1; exact (n1 el b hd q1).elim
          · rename_i hd q1; injection q1 with q1; exact (n2 hd q1).elim
          · rename_i q1; cases q1
          · rename_i q1; cases q1
          · rename_i q1; cases q1
          · rename_i q1; cases q1
          · rename_i q1 _ _; injection q1 with q1; subst q1; rw [hz]
          · rename_i n6 _ _ _; first | exact (n6 q rfl).elim | simp_all
        simp only [aop, hx, setMany]
        rw [this, e1]
      · cases e
    · cases e
  | slice t x lo hi mx =>
    cases mx with
    | some m => exact neut neut_none
    | none =>
      simp only [aop, foot]
      intro h y h' e hl
      cases hx : ρ x with
      | v q =>
        refine ⟨[], by simp, fun k hk => ?_⟩
        simp only [hx, setMany] at e ⊢
        (repeat' split at e) <;> simp_all
      | _ =>
        simp only [hx] at e ⊢
        obtain ⟨post, p1, p2⟩ := slice_loc (new := new) h y h' e hl
        exact ⟨post, fun p hp => absurd (p1 p hp) (by simp), p2⟩
  | call c =>
    obtain ⟨callee, args, tys⟩ := c
    cases callee with
    | builtin b =>
      simp only [aop, aBuiltin]
      split
      · split
        · exact neut fun h x h' e k => by
            simp only [aLen] at e ⊢
            (repeat' split at e) <;> simp_all
        · exact neut neut_none
      · rename_i x y hxy
        split
        · refine append_loc.mono ?_ ?_
          · intro i hi
            have : args.toList.flatMap (fun x => topIds (ρ x)) = topIds x ++ topIds y := by
              rw [show args.toList.flatMap (fun x => topIds (ρ x)) = (args.toList.map ρ).flatMap topIds by rw [List.flatMap_map], hxy]
              simp
            simp only [foot]
            rw [this]; exact hi
          · intro i hi
            have : (args.toList.take 1).flatMap (fun x => topIds (ρ x)) = topIds x := by
              rw [show (args.toList.take 1).flatMap (fun x => topIds (ρ x)) = ((args.toList.map ρ).take 1).flatMap topIds by rw [← List.map_take, List.flatMap_map], hxy]
              simp
            simp only [wids]
            rw [this]
            rcases List.mem_append.1 hi with q | q
            · simp [q]
            · simp at q; simp [q]
        · exact neut neut_none
      · rename_i x hx1
        split
        · refine clear_loc.mono ?_ ?_
          · intro i hi
            have : args.toList.flatMap (fun x => topIds (ρ x)) = topIds x := by
              rw [show args.toList.flatMap (fun x => topIds (ρ x)) = (args.toList.map ρ).flatMap topIds by rw [List.flatMap_map], hx1]
              simp
            simp only [foot]
            rw [this]; exact hi
          · intro i hi
            have : args.toList.flatMap (fun x => topIds (ρ x)) = topIds x := by
              rw [show args.toList.flatMap (fun x => topIds (ρ x)) = (args.toList.map ρ).flatMap topIds by rw [List.flatMap_map], hx1]
              simp
            simp only [wids]
            rw [this]; exact hi
        · exact neut neut_none
      · rename_i x y hxy
        split
        · refine copy_loc.mono ?_ ?_
          · intro i hi
            have : args.toList.flatMap (fun x => topIds (ρ x)) = topIds x ++ topIds y := by
              rw [show args.toList.flatMap (fun x => topIds (ρ x)) = (args.toList.map ρ).flatMap topIds by rw [List.flatMap_map], hxy]
              simp
            simp only [foot]
            rw [this]; exact hi
          · intro i hi
            have : args.toList.flatMap (fun x => topIds (ρ x)) = topIds x ++ topIds y := by
              rw [show args.toList.flatMap (fun x => topIds (ρ x)) = (args.toList.map ρ).flatMap topIds by rw [List.flatMap_map], hxy]
              simp
            simp only [wids]
            rw [this]; exact List.mem_append_left _ hi
        · exact neut neut_none
      · exact neut fun h x h' e k => by
          simp only [aMinMax] at e ⊢
          (repeat' split at e) <;> simp_all
      · exact neut fun h x h' e k => by
          simp only [aMinMax] at e ⊢
          (repeat' split at e) <;> simp_all
      · exact neut neut_none
    | value f =>
      refine neut fun h x h' e k => ?_
      simp only [aop, aExtern] at e ⊢
      (repeat' split at e) <;> simp_all
    | _ => exact neut neut_none
  | build t ps =>
    refine neut fun h x h' e k => ?_
    have : aBuild P k t (ps.toList.map fun p => (p.1, ρ p.2)) = (aBuild P h t (ps.toList.map fun p => (p.1, ρ p.2))).map fun p => (p.1, k) := by
      generalize (ps.toList.map fun p => (p.1, ρ p.2)) = l
      unfold aBuild
      (repeat' split) <;> simp_all
    simp only [aop] at e ⊢
    rw [this, e]; rfl
  | field s x f =>
    refine neut fun h x h' e k => ?_
    simp only [aop, aField] at e ⊢
    (repeat' split at e) <;> simp_all
  | fieldAddr s x f =>
    refine neut fun h x h' e k => ?_
    simp only [aop, aFieldAddr] at e ⊢
    (repeat' split at e) <;> simp_all
  | index t x i =>
    refine neut fun h x h' e k => ?_
    simp only [aop, aIndex] at e ⊢
    (repeat' split at e) <;> simp_all
  | extract x i =>
    refine neut fun h x h' e k => ?_
    simp only [aop, aExtract] at e ⊢
    (repeat' split at e) <;> simp_all
  | nilCheck x =>
    refine neut fun h x h' e k => ?_
    simp only [aop, aNilCheck] at e ⊢
    (repeat' split at e) <;> simp_all
  | binOp op t X Y u =>
    refine neut fun h x h' e k => ?_
    simp only [aop, aBin] at e ⊢
    (repeat' split at e) <;> first | (simp_all; done) | (simp_all; rw [if_neg (by rintro (⟨q1, q2⟩ | ⟨q1, q2⟩) <;> simp_all), if_neg (by rintro (⟨q1, q2⟩ | ⟨q1, q2⟩) <;> simp_all)])
  | unOp op t x =>
    refine neut fun h x h' e k => ?_
    simp only [aop, aUn] at e ⊢
    (repeat' split at e) <;> simp_all
  | makeInterface t x =>
    refine neut fun h x h' e k => ?_
    simp only [aop, aIface] at e ⊢
    (repeat' split at e) <;> simp_all
  | pick c a b =>
    refine neut fun h x h' e k => ?_
    simp only [aop, aPick] at e ⊢
    (repeat' split at e) <;> simp_all
  | move x => exact neut fun h x h' e k => by simp only [aop] at e ⊢; simp_all
  | assign x => exact neut fun h x h' e k => by simp only [aop] at e ⊢; simp_all
  | makeFunc fn a b => exact neut fun h x h' e k => by simp only [aop] at e ⊢; simp_all
  | _ => exact neut neut_none

end Go.Abs
