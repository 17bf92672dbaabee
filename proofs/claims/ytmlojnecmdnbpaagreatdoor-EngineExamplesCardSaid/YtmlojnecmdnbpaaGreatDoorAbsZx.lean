/- Regions that draw their order: the walk in the order of the text. -/
import Derived.Test.YtmlojnecmdnbpaaGreatDoorAbsZ
namespace Go.Abs
set_option linter.unusedVariables false

def setManyX (h : List XO) : List (Nat × XO) → List XO
  | [] => h
  | p :: r => setManyX (h.set p.1 p.2) r
def pden (l : List (Nat × XO)) : List (Nat × HS) := l.map fun p => (p.1, p.2.den)
theorem dens_setMany : ∀ (l : List (Nat × XO)) (h : List XO), dens (setManyX h l) = setMany (dens h) (pden l)
  | [], _ => rfl
  | p :: r, h => by
    show dens (setManyX (h.set p.1 p.2) r) = setMany ((dens h).set p.1 p.2.den) (pden r)
    rw [dens_setMany r, dens_set]

/-- The heap k, with what is known of the places F. -/
def ovX (F : List Nat) (h : List XO) : Heap → Nat → List XO
  | [], _ => []
  | c :: k, i => (if F.contains i then (match h[i]? with
    | some o => o
    | none => .raw c) else .raw c) :: ovX F h k (i + 1)
theorem ovX_den {F : List Nat} {h : List XO} : ∀ {k : Heap} {i : Nat}, (∀ j, (i + j) ∈ F → k[j]? = (dens h)[i + j]?) → dens (ovX F h k i) = k
  | [], i, _ => rfl
  | c :: k, i, hk => by
    have ih := ovX_den (F := F) (h := h) (k := k) (i := i + 1) (fun j hj => by
      have := hk (j + 1) (by rwa [show i + (j + 1) = i + 1 + j by omega])
      rwa [show i + (j + 1) = i + 1 + j by omega] at this)
    have hd : dens (ovX F h (c :: k) i) = XO.den (if F.contains i then (match h[i]? with | some o => o | none => .raw c) else .raw c) :: dens (ovX F h k (i + 1)) := rfl
    rw [hd, ih]
    congr 1
    by_cases hw : i ∈ F
    · rw [if_pos (by simpa using hw)]
      have := hk 0 (by simpa using hw)
      rw [Nat.add_zero, dens_get] at this
      cases hq : h[i]? with
      | none => rfl
      | some o => rw [hq] at this; simp at this; exact this.symm
    · rw [if_neg (by simpa using hw)]; rfl
theorem ovX_get {F : List Nat} {h : List XO} : ∀ {k : Heap} {i j : Nat}, (i + j) ∈ F → k[j]? = (dens h)[i + j]? → (ovX F h k i)[j]? = h[i + j]?
  | [], i, j, hj, hk => by
    rw [dens_get] at hk
    cases hq : h[i + j]? with
    | none => simp [ovX]
    | some o => rw [hq] at hk; simp at hk
  | c :: k, i, 0, hj, hk => by
    rw [Nat.add_zero] at hj hk ⊢
    rw [dens_get] at hk
    simp only [ovX, List.getElem?_cons_zero]
    rw [if_pos (by simpa using hj)]
    cases hq : h[i]? with
    | none => rw [hq] at hk; simp at hk
    | some o => rfl
  | c :: k, i, j + 1, hj, hk => by
    simp only [ovX, List.getElem?_cons_succ]
    rw [show i + (j + 1) = i + 1 + j by omega] at hj hk ⊢
    exact ovX_get hj (by simpa using hk)

/- operations with an explicit place -/
theorem bsX_congr {h h2 : List XO} {ty : Ty} {e : TypeId} : ∀ {x : V}, (∀ id, id ∈ topIds x → h2[id]? = h[id]?) → bsX h2 ty e x = bsX h ty e x
  | .sO id 0 len, hx => by simp only [bsX]; rw [hx id (by simp [topIds])]
  | .sO id (n + 1) len, hx => rfl
  | .oL id n, hx => by simp only [bsX]; rw [hx id (by simp [topIds])]
  | .v x, _ => by unfold bsX; split <;> first | rfl | simp_all
  | .any, _ => rfl
  | .pF _ _, _ => rfl
  | .pO _ _ _, _ => rfl
  | .sF _ _, _ => rfl
  | .agg _, _ => rfl
  | .tup _, _ => rfl
  | .fn _ _ _, _ => rfl
  | .ifc _ _, _ => rfl
  | .sL _ _, _ => rfl
theorem rdX_congr {h h2 : List XO} {ty : Ty} : ∀ {x : V}, (∀ id, id ∈ topIds x → h2[id]? = h[id]?) → rdX h2 ty x = rdX h ty x
  | .sO id off len, hx => by simp only [rdX]; rw [hx id (by simp [topIds])]
  | .oL id n, hx => by simp only [rdX]; rw [hx id (by simp [topIds])]
  | .v x, _ => by unfold rdX; split <;> first | rfl | simp_all
  | .any, _ => rfl
  | .pF _ _, _ => rfl
  | .pO _ _ _, _ => rfl
  | .sF _ _, _ => rfl
  | .agg _, _ => rfl
  | .tup _, _ => rfl
  | .fn _ _ _, _ => rfl
  | .ifc _ _, _ => rfl
  | .sL _ _, _ => rfl

theorem dmake_loc {P : Program} {h h' : List XO} {new : Nat} {t : TypeId} {same : Bool} {n m : Int} {cs : List Bool} {x : V} (e : dmake P h new t same n m = some (cs, x, h')) :
    ∃ o : XO, h' = h.set new o ∧ ∀ h2, dmake P h2 new t same n m = some (cs, x, h2.set new o) := by
  unfold dmake at e
  split at e
  · rename_i el hu
    split at e
    · rename_i ty s zs b hty hs hz hb
      split at e
      · rename_i hsz
        split at e
        · rename_i d hd
          injection e with e; injection e with e1 e2; injection e2 with e2 e3; subst e1 e2 e3
          exact ⟨_, rfl, fun h2 => by simp only [dmake, hu, hty, hs, hz, hb, if_pos hsz, hd]⟩
        · cases e
      · cases e
    · cases e
  · cases e
theorem dtoBytes_loc {P : Program} {h h' : List XO} {new : Nat} {s d : TypeId} {v : V} {cs : List Bool} {x : V} (e : dtoBytes P h new s d v = some (cs, x, h')) :
    ∃ o : XO, h' = h.set new o ∧ ∀ h2, dtoBytes P h2 new s d v = some (cs, x, h2.set new o) := by
  unfold dtoBytes at e
  split at e
  · rename_i b el hs hd
    split at e
    · rename_i hel
      injection e with e; injection e with e1 e2; injection e2 with e2 e3; subst e1 e2 e3
      exact ⟨_, rfl, fun h2 => by simp only [dtoBytes, hs, hd, hel]⟩
    · cases e
  · cases e
theorem dappend_loc {P : Program} {h h' : List XO} {new : Nat} {tys : Array TypeId} {v u : V} {cs : List Bool} {x : V} (e : dappend P h new tys v u = some (cs, x, h')) :
    ∃ (k : Option Nat) (o : XO), (∀ id, k = some id → id ∈ topIds v) ∧ h' = (killX h k).set new o ∧ ∀ h2 : List XO, (∀ id, id ∈ topIds v → h2[id]? = h[id]?) → (∀ id, id ∈ topIds u → h2[id]? = h[id]?) → dappend P h2 new tys v u = some (cs, x, (killX h2 k).set new o) := by
  unfold dappend at e
  split at e
  · rename_i t0 t1 ht0 ht1
    split at e
    · rename_i el hu
      split at e
      · rename_i hst
        split at e
        · rename_i ty s b zs hty hs hb hz
          split at e
          · rename_i hsz
            split at e
            · rename_i c1 l1 k c2 l2 hbs hrd
              injection e with e; injection e with e1 e2; injection e2 with e2 e3; subst e1 e2 e3
              refine ⟨k, _, bsX_id hbs, rfl, fun h2 h3 h4 => ?_⟩
              have q1 := (bsX_congr (ty := ty) (e := el) h3).trans hbs
              have q2 := (rdX_congr (ty := ty) h4).trans hrd
              simp only [dappend, ht0, ht1, hu, if_pos hst, hty, hs, hb, hz, if_pos hsz, q1, q2]
            · cases e
          · cases e
        · cases e
      · cases e
    · cases e
  · cases e

theorem dappendS_loc {P : Program} {h h' : List XO} {new : Nat} {tys : Array TypeId} {v u : V} {cs : List Bool} {x : V} (e : dappendS P h new tys v u = some (cs, x, h')) :
    ∃ (k : Option Nat) (o : XO), (∀ id, k = some id → id ∈ topIds v) ∧ h' = (killX h k).set new o ∧ ∀ h2 : List XO, (∀ id, id ∈ topIds v → h2[id]? = h[id]?) → (∀ id, id ∈ topIds u → h2[id]? = h[id]?) → dappendS P h2 new tys v u = some (cs, x, (killX h2 k).set new o) := by
  unfold dappendS at e
  split at e
  · rename_i t0 t1 ht0 ht1
    split at e
    · rename_i el hu
      split at e
      · rename_i hst
        split at e
        · rename_i ty s b zs hty hs hb hz
          split at e
          · rename_i hsz
            split at e
            · rename_i c1 l1 k c2 l2 hbs hrd
              injection e with e; injection e with e1 e2; injection e2 with e2 e3; subst e1 e2 e3
              refine ⟨k, _, bsX_id hbs, rfl, fun h2 h3 h4 => ?_⟩
              have q1 := (bsX_congr (ty := ty) (e := el) h3).trans hbs
              have q2 := (rdX_congr (ty := ty) h4).trans hrd
              simp only [dappendS, ht0, ht1, hu, if_pos hst, hty, hs, hb, hz, if_pos hsz, q1, q2]
            · cases e
          · cases e
        · cases e
      · cases e
    · cases e
  · cases e

theorem dapp_loc {P : Program} {h h' : List XO} {new : Nat} {tys : Array TypeId} {v u : V} {cs : List Bool} {x : V} (e : dapp P h new tys v u = some (cs, x, h')) :
    ∃ (k : Option Nat) (o : XO), (∀ id, k = some id → id ∈ topIds v) ∧ h' = (killX h k).set new o ∧ ∀ h2 : List XO, (∀ id, id ∈ topIds v → h2[id]? = h[id]?) → (∀ id, id ∈ topIds u → h2[id]? = h[id]?) → dapp P h2 new tys v u = some (cs, x, (killX h2 k).set new o) := by
  cases v with
  | sO a b c => exact dappendS_loc e
  | _ => exact dappend_loc e

theorem dalloc_loc {P : Program} {o : Op} {ev : Operand → V} {h h' : List XO} {new : Nat} {cs : List Bool} {x : V} (e : dalloc P o ev h new = some (cs, x, h')) :
    ∃ post : List (Nat × XO), (∀ p, p ∈ post → p.1 ∈ wids o ev new) ∧ h' = setManyX h post ∧ ∀ (ev2 : Operand → V) (h2 : List XO), (∀ a, a ∈ o.operands → ev2 a = ev a) → (∀ id, id ∈ foot o ev → h2[id]? = h[id]?) → dalloc P o ev2 h2 new = some (cs, x, setManyX h2 post) := by
  unfold dalloc at e
  split at e
  · rename_i t l c
    split at e
    · rename_i k n k' m hl hm
      obtain ⟨o, rfl, q⟩ := dmake_loc e
      refine ⟨[(new, o)], fun p hp => by simp at hp; subst hp; simp [wids], rfl, fun ev2 h2 he _ => ?_⟩
      have e1 := (he l (by simp [Op.operands])).trans hl
      have e2 := (he c (by simp [Op.operands])).trans hm
      simp only [dalloc, e1, e2]
      exact q h2
    · cases e
  · rename_i s d X
    obtain ⟨o, rfl, q⟩ := dtoBytes_loc e
    refine ⟨[(new, o)], fun p hp => by simp at hp; subst hp; simp [wids], rfl, fun ev2 h2 he _ => ?_⟩
    simp only [dalloc, he X (by simp [Op.operands])]
    exact q h2
  · rename_i c
    obtain ⟨callee, args, tys⟩ := c
    simp only at e
    split at e
    · rename_i X Y ha
      split at e
      · rename_i h2s
        obtain ⟨k, o', hk, rfl, q⟩ := dapp_loc e
        have mx : X ∈ args := by rw [← Array.mem_toList_iff, ha]; simp
        have my : Y ∈ args := by rw [← Array.mem_toList_iff, ha]; simp
        have fin : ∀ (ev2 : Operand → V) (h2 : List XO), (∀ a, a ∈ (Op.call ⟨.builtin .append, args, tys⟩).operands → ev2 a = ev a) → (∀ id, id ∈ foot (.call ⟨.builtin .append, args, tys⟩) ev → h2[id]? = h[id]?) →
            dalloc P (.call ⟨.builtin .append, args, tys⟩) ev2 h2 new = some (cs, x, (killX h2 k).set new o') := by
          intro ev2 h2 he hh
          have e1 := he X (by simp [Op.operands, Call.operands, mx])
          have e2 := he Y (by simp [Op.operands, Call.operands, my])
          simp only [dalloc, ha, if_pos h2s, e1, e2]
          exact q h2 (fun id hid => hh id (by simp [foot, ha, hid])) (fun id hid => hh id (by simp [foot, ha, hid]))
        cases k with
        | none => exact ⟨[(new, o')], fun p hp => by simp at hp; subst hp; simp [wids], rfl, fin⟩
        | some id =>
          refine ⟨[(id, .raw .dead), (new, o')], fun p hp => ?_, rfl, fin⟩
          simp only [List.mem_cons, List.not_mem_nil, or_false] at hp
          rcases hp with rfl | rfl
          · simp [wids, ha, hk id rfl]
          · simp [wids]
      · cases e
    · cases e
  · cases e

theorem AO.congr {P : Program} {op : Op} {ev ev2 : Operand → V} {k k' : Heap} {new : Nat} {x : V} (he : ∀ a, a ∈ op.operands → ev2 a = ev a) (a : AO P op ev k new x k') : AO P op ev2 k new x k' := by
  obtain ⟨e, x', h1, h2, h3⟩ := a
  classical
  refine ⟨fun b => if b ∈ op.operands then e b else ev2 b, x', fun b => ?_, h2, ?_⟩
  · by_cases hb : b ∈ op.operands
    · simp only [if_pos hb]; rw [he b hb]; exact h1 b
    · simp only [if_neg hb]; exact ⟨LE.refl _, fun _ q => q⟩
  · rw [← h3]
    exact aop_congr (fun b hb => by simp [hb]) k new

section
variable {P : Program} {ops : Array Oper}

theorem wo_os {i : Nat} {o : Oper} {s : St} {x : V} {h' : Heap} (ho : ops[i]? = some o) (hw : awanted ops s.sl o = some true)
    (hos : ∀ {ι : Iota} {a : Act} {w : World}, SR s ι a w → OS P s.h ι w (execOp a.eval o) (some (x, h'))) : WO P ops i s ⟨sput s.sl o.dst x, h'⟩ := by
  intro ι a w K Q r hk
  simp only [wpOp, ho]
  rw [if_pos (awanted_spec r hw)]
  left
  unfold Oper.wp
  obtain ⟨y, w', ι', h1, h2, h3, ev⟩ := hos r x h' rfl
  have r' : SR ⟨sput s.sl o.dst x, h'⟩ ι' (a.put o.dst y) w' := ⟨by rw [put_defers']; exact r.defers, (r.slots.mono ev).put o.dst h2, h3⟩
  rcases h1 with h1 | ⟨h1, rfl⟩
  · rw [h1]; exact hk _ _ _ r' ev
  · rw [h1]; exact hk _ _ _ r' ev

/-- One operation with an explicit place for what it makes. -/
def stepM (P : Program) (fl : Bool) (o : Op) (sl : List V) (h : List XO) (new : Nat) (K : V → List XO → Prop) : Prop :=
  match pickK o (aev sl) h with
  | some (b, x, y) => br b (fV x fun x => K x h) (fV y fun y => K y h)
  | none => match dpure P fl o (aev sl) h with
  | some (cs, x) => needs cs (fV x fun x => K x h)
  | none => match dst P o (aev sl) h with
    | some (cs, x, h') => needs cs (fH h' fun h' => K x h')
    | none => match dalloc P o (aev sl) h new with
      | some (cs, x, h') => needs cs (fV x fun x => fH h' fun h' => K x h')
      | none => match aop P o (aev sl) (dens h) new with
        | some (x, h') => match wids o (aev sl) new with
          | [] => fV x fun x => K x h
          | ws => fV x fun x => fH (reb h ws h' 0) fun h' => K x h'
        | none => False

def preF (h : Heap) (F : List Nat) : List (Nat × Option HS) := F.map fun id => (id, h[id]?)
theorem preF_mem {h : Heap} {F : List Nat} {k : Heap} (a : agreeH (preF h F) k) (id : Nat) (hid : id ∈ F) : k[id]? = h[id]? := a (id, h[id]?) (List.mem_map_of_mem hid)

theorem ao_ls {o : Oper} {i : Nat} {sl : List V} {h : Heap} {h' : Heap} {new : Nat} {x : V} (ho : ops[i]? = some o) (hw : awanted ops sl o = some true) (hn : new < h.length) (a : AO P o.op (aev sl) h new x h') :
    ∃ post : List (Nat × HS), (∀ p, p ∈ post → p.1 ∈ wids o.op (aev sl) new) ∧ h' = setMany h post ∧ LS P ops i o ⟨sl, preF h (foot o.op (aev sl) ++ [new]), x, post⟩ := by
  obtain ⟨post, p1, p2, p3⟩ := a.loc hn
  refine ⟨post, p1, p2, fun s ag ah => ?_⟩
  have he := agreeS_eval ag
  refine wo_os ho (by rw [agreeS_wanted ag]; exact hw) (fun r => ?_)
  exact (AO.congr he (p3 s.h (fun id hid => preF_mem ah id hid))).os r.heap (fun y => aev_rep r.slots y)

theorem stepM_ls {fl : Bool} {o : Oper} {i : Nat} {sl : List V} {h : List XO} {new : Nat} {K : V → List XO → Prop} (ho : ops[i]? = some o) (hw : awanted ops sl o = some true) (hn : h[new]? = some (.raw .free)) (hs : stepM P fl o.op sl h new K) :
    ∃ (x : V) (h' : List XO) (post : List (Nat × HS)), K x h' ∧ (∀ p, p ∈ post → p.1 ∈ wids o.op (aev sl) new) ∧ dens h' = setMany (dens h) post ∧ LS P ops i o ⟨sl, preF (dens h) (foot o.op (aev sl) ++ [new]), x, post⟩ := by
  have hlt : new < (dens h).length := by rw [dens_len]; exact get_lt hn
  unfold stepM at hs
  split at hs
  · rename_i b x y e
    simp only [fV_eq] at hs
    obtain ⟨h1, h2⟩ := (br_iff _ _ _).1 hs
    obtain ⟨post, p1, p2, p3⟩ := ao_ls ho hw hlt (pickK_ok (new := new) e)
    cases b with
    | true => exact ⟨x, h, post, h1 rfl, p1, p2, p3⟩
    | false => exact ⟨y, h, post, h2 rfl, p1, p2, p3⟩
  split at hs
  · rename_i cs x e
    obtain ⟨hc, hK⟩ := needs_spec hs
    rw [fV_eq] at hK
    obtain ⟨post, p1, p2, p3⟩ := ao_ls ho hw hlt (dpure_ok (new := new) e hc)
    exact ⟨x, h, post, hK, p1, p2, p3⟩
  · split at hs
    · rename_i cs x h' e
      obtain ⟨hc, hK⟩ := needs_spec hs
      rw [fH_eq] at hK
      obtain ⟨post, p1, p2, p3⟩ := ao_ls ho hw hlt (dst_ok (new := new) e hc)
      exact ⟨x, h', post, hK, p1, p2, p3⟩
    · split at hs
      · rename_i cs x h' e
        obtain ⟨hc, hK⟩ := needs_spec hs
        rw [fV_eq, fH_eq] at hK
        obtain ⟨post, p1, p2, p3⟩ := dalloc_loc e
        refine ⟨x, h', pden post, hK, fun p hp => ?_, by rw [p2, dens_setMany], fun s ag ah => ?_⟩
        · obtain ⟨q, hq, rfl⟩ := List.mem_map.1 hp; exact p1 q hq
        · have hF := preF_mem ah
          generalize hh2 : ovX (foot o.op (aev sl) ++ [new]) h s.h 0 = h2
          have hden : dens h2 = s.h := by rw [← hh2]; exact ovX_den (fun j hj => by rw [Nat.zero_add] at hj ⊢; exact hF j hj)
          have hget : ∀ id, id ∈ foot o.op (aev sl) ++ [new] → h2[id]? = h[id]? := fun id hid => by
            have := ovX_get (F := foot o.op (aev sl) ++ [new]) (h := h) (k := s.h) (i := 0) (j := id) (by rwa [Nat.zero_add]) (by rw [Nat.zero_add]; exact hF id hid)
            rwa [Nat.zero_add, hh2] at this
          have e2 := p3 (aev s.sl) h2 (fun a ha => agreeS_eval ag a ha) (fun id hid => hget id (List.mem_append.2 (.inl hid)))
          have hn2 : h2[new]? = some (.raw .free) := (hget new (by simp)).trans hn
          have hw2 : awanted ops s.sl o = some true := by rw [agreeS_wanted ag]; exact hw
          have : WO P ops i ⟨s.sl, dens h2⟩ ⟨sput s.sl o.dst x, dens (setManyX h2 post)⟩ := wo_os ho hw2 (fun r => dalloc_os e2 hc hn2 r.heap (fun y => aev_rep r.slots y))
          rw [dens_setMany, hden] at this
          exact this
      · split at hs
        · rename_i x h' e
          have hlt : new < (dens h).length := hlt
          obtain ⟨post, p1, p2, p3⟩ := ao_ls ho hw hlt (AO.of e)
          split at hs
          · rename_i hwd
            rw [fV_eq] at hs
            rw [hwd] at p1
            have hpost : post = [] := by
              cases post with
              | nil => rfl
              | cons p r => exact absurd (p1 p (by simp)) (by simp)
            subst hpost
            exact ⟨x, h, [], hs, (fun p hp => by cases hp), rfl, p3⟩
          · rw [fV_eq, fH_eq] at hs
            refine ⟨x, _, post, hs, p1, ?_, p3⟩
            rw [← p2]
            refine reb_den fun j t hj hnw => ?_
            rw [Nat.zero_add] at hnw ⊢
            rw [p2, setMany_other post _ (fun p hp q => hnw (by rw [← q]; exact p1 p hp))] at hj
            exact hj
        · exact hs.elim
end

end Go.Abs
