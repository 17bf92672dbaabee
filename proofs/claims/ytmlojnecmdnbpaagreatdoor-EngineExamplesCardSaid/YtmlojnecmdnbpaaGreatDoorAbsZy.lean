/- Regions that draw their order: calls, the whole region. -/
import Derived.Test.YtmlojnecmdnbpaaGreatDoorAbsZx
namespace Go.Abs
set_option linter.unusedVariables false

theorem un_suffix {f : V → (t : Ty) → Option (List t.den)} : ∀ {t : Ty} {cs : List V} {a : t.den} {r : List V}, un f t cs = some (a, r) → ∃ pre, cs = pre ++ r := by
  intro t
  induction t with
  | pair a b iha ihb =>
    intro cs x r h
    simp only [un] at h
    split at h
    · rename_i xa r1 h1
      split at h
      · rename_i xb r2 h2
        injection h with h; injection h with e1 e2; subst e1 e2
        obtain ⟨p1, rfl⟩ := iha h1
        obtain ⟨p2, rfl⟩ := ihb h2
        exact ⟨p1 ++ p2, by simp⟩
      · cases h
    · cases h
  | _ =>
    intro cs x r h
    cases cs with
    | nil => simp [un] at h
    | cons c cs =>
      simp only [un] at h
      repeat' split at h
      all_goals first | (cases h; done) | (injection h with h; injection h with e1 e2; subst e2; exact ⟨[_], rfl⟩)
theorem un_congr {f g : V → (t : Ty) → Option (List t.den)} : ∀ {t : Ty} {cs : List V}, (∀ c, c ∈ cs → ∀ t, f c t = g c t) → un f t cs = un g t cs := by
  intro t
  induction t with
  | list t _ =>
    intro cs h
    cases cs with
    | nil => rfl
    | cons c cs => simp only [un]; rw [h c (by simp) t]
  | pair a b iha ihb =>
    intro cs h
    simp only [un]
    rw [iha h]
    split
    · rename_i xa r1 h1
      obtain ⟨p, rfl⟩ := un_suffix h1
      rw [ihb (cs := r1) (fun c hc => h c (by simp [hc]))]
    · rfl
  | _ => intro cs h; cases cs <;> rfl

def idsA (x : V) : List Nat := match norm x with
  | .agg xs => xs.flatMap topIds
  | y => topIds y
theorem idsA_top {x : V} {id : Nat} (h : id ∈ topIds x) : id ∈ idsA x := by
  cases x with
  | v x => cases h
  | _ => first | exact h | cases h
theorem idsA_cell {x c : V} {t : Ty} {id : Nat} (hc : c ∈ argCells t x) (h : id ∈ topIds c) : id ∈ idsA x := by
  cases t with
  | pair a b =>
    simp only [argCells] at hc
    split at hc
    · rename_i xs hx
      simp only [idsA, hx]
      exact List.mem_flatMap.2 ⟨c, hc, h⟩
    · cases hc
  | _ => simp only [argCells, List.mem_singleton] at hc; subst hc; exact idsA_top h
theorem rdA_congr {f g : V → (t : Ty) → Option (List t.den)} : ∀ {ps : List Ty} {args : List V}, (∀ v, v ∈ args → ∀ t c, c ∈ argCells t v → ∀ t, f c t = g c t) → rdA f ps args = rdA g ps args
  | [], [], _ => rfl
  | [], _ :: _, _ => rfl
  | _ :: _, [], _ => rfl
  | t :: ts, v :: vs, h => by
    simp only [rdA]
    rw [un_congr (h v (by simp) t), rdA_congr (fun u hu => h u (by simp [hu]))]
theorem rdH_congr {h h2 : List XO} {lo : Nat} {t : Ty} : ∀ {x : V}, (∀ id, id ∈ topIds x → h2[id]? = h[id]?) → rdH h2 lo x t = rdH h lo x t
  | .sO id 0 len, hx => by simp only [rdH]; rw [hx id (by simp [topIds])]
  | .sO id (n + 1) len, hx => rfl
  | .oL id n, hx => by simp only [rdH]; rw [hx id (by simp [topIds])]
  | .v _, _ => rfl
  | .any, _ => rfl
  | .pF _ _, _ => rfl
  | .pO _ _ _, _ => rfl
  | .sF _ _, _ => rfl
  | .agg _, _ => rfl
  | .tup _, _ => rfl
  | .fn _ _ _, _ => rfl
  | .ifc _ _, _ => rfl
  | .sL _ _, _ => rfl
theorem lensV_congr {h h2 : List XO} : ∀ {x : V}, (∀ id, id ∈ topIds x → h2[id]? = h[id]?) → lensV h2 x = lensV h x
  | .sO id off len, hx => by simp only [lensV]; rw [hx id (by simp [topIds])]
  | .oL id n, hx => by simp only [lensV]; rw [hx id (by simp [topIds])]
  | .v _, _ => rfl
  | .any, _ => rfl
  | .pF _ _, _ => rfl
  | .pO _ _ _, _ => rfl
  | .sF _ _, _ => rfl
  | .agg _, _ => rfl
  | .tup _, _ => rfl
  | .fn _ _ _, _ => rfl
  | .ifc _ _, _ => rfl
  | .sL _ _, _ => rfl
theorem flatMap_congr' {α β : Type} {f g : α → List β} : ∀ {l : List α}, (∀ a, a ∈ l → f a = g a) → l.flatMap f = l.flatMap g
  | [], _ => rfl
  | a :: l, h => by rw [List.flatMap_cons, List.flatMap_cons, h a (by simp), flatMap_congr' fun b hb => h b (by simp [hb])]
theorem lens_congr {h h2 : List XO} {args : List V} (hx : ∀ v, v ∈ args → ∀ id, id ∈ idsA v → h2[id]? = h[id]?) : lens h2 args = lens h args := by
  refine flatMap_congr' fun v hv => ?_
  cases v with
  | agg xs => exact flatMap_congr' fun c hc => lensV_congr fun id hid => hx _ hv id (List.mem_flatMap.2 ⟨c, hc, hid⟩)
  | _ => exact lensV_congr fun id hid => hx _ hv id (idsA_top hid)

/-- A call in such a region. -/
def xcallM (E : Env) (f : FuncId) (args : List V) (h : List XO) (new : Nat) (K : V → List XO → List Nat → List Nat → Prop) : Prop :=
  match look E.T f with
  | some (.fn ps pre res) => (match rdA (unPure 8) ps args with
    | some x => preK pre x (appK ps res x fun r => fV r.val fun v => K v h [] [])
    | none => match rdA (rdH h 0) ps args with
      | some x => appK ps res x fun r => (match r.flat with
        | true => preK pre x (needs (lens h args) (fV r.val fun v => K v h (args.flatMap idsA) []))
        | false => False)
      | none => False)
  | some (.meth t e ps pre res post) => (match args with
    | .pO j 0 0 :: rest => match h[j]? with
      | some o => (match rdOb t e o, rdA (unPure 8) ps rest with
        | some a, some x => preM pre a x (appK (t :: ps) res (a, x) fun r => fV r.val fun v => appK (t :: ps) post (a, x) fun b => setX h j (.ob t b e) fun h => K v h [j] [j])
        | _, _ => False)
      | _ => False
    | _ => False)
  | some (.new t e ps pre post) => (match rdA (unPure 8) ps args with
    | some x => preK pre x (appK ps post x fun b => match h[new]? with
      | some (.raw .free) => setX h new (.ob t b e) fun h => K (.pO new 0 0) h [new] [new]
      | _ => False)
    | none => False)
  | some (.rd t ps pre res) => (match args with
    | .pO j 0 0 :: rest => (match h[j]? with
      | some o => (match rdRow h t o, rdA (unPure 8) ps rest with
        | some (a, row), some x => appK (t :: ps) res (a, x) fun r => (match r.flat with
          | true => preM pre a x (needs (row.flatMap (lensV h)) (fV r.val fun v => K v h (j :: row.flatMap topIds) []))
          | false => False)
        | _, _ => False)
      | none => False)
    | .pF row 0 :: rest => (match un (unPure 8) t row, rdA (unPure 8) ps rest with
      | some (a, []), some x => preM pre a x (appK (t :: ps) res (a, x) fun r => fV r.val fun v => K v h [] [])
      | _, _ => False)
    | _ => False)
  | some (.bld wr e eb) => (match wr, args with
    | true, .pO i 0 0 :: rest => (match rest with
      | .v (.string s) :: rest2 => (match rest2 with
        | [] => (match bldRd e eb h i, h[new]? with
          | some (_, cs, j, l), some (.raw .free) => needs cs (need (decide (l.length + s.size ≤ 1099511627776)) (setX h i (bldX eb i new (l ++ toInts s).length) fun h => kilK j h fun h => setX h new (.opt (.int .u8) (l ++ toInts s) e) fun h => K (wrR s.size) h (new :: i :: tchJ j []) (new :: i :: tchJ j [])))
          | _, _ => False)
        | _ => False)
      | _ => False)
    | false, .pO i 0 0 :: rest => (match rest with
      | [] => (match bldRd e eb h i with
        | some (_, cs, j, l) => needs cs (need (decide (l.length ≤ 2199023255552)) (setX h i (.raw .dead) fun h => kilK j h fun h => K (.v (.string (ofInts l))) h (i :: tchJ j []) (i :: tchJ j [])))
        | none => False)
      | _ => False)
    | _, _ => False)
  | _ => False

theorem bldRd_congr {e eb : TypeId} {h h2 : List XO} {i : Nat} {b : Bool} {cs : List Bool} {j : Option Nat} {l : List Int} (hr : bldRd e eb h i = some (b, cs, j, l)) (hi : h2[i]? = h[i]?) (hj : ∀ k, j = some k → h2[k]? = h[k]?) : bldRd e eb h2 i = some (b, cs, j, l) := by
  unfold bldRd at hr ⊢
  rw [hi]
  split at hr
  · rename_i o ho
    split at hr
    · rename_i c0 c1 hrow
      split at hr
      · rename_i b' hb hz
        split at hr
        · rename_i j' n
          split at hr
          · rename_i t l' e' hj'
            split at hr
            · rename_i l'' hl he
              injection hr with hr; injection hr with e1 hr; injection hr with e2 hr; injection hr with e3 e4; subst e1 e2 e3 e4
              simp only [hrow, hb, hz, hj _ rfl, hj', hl, he]
            · cases hr
          · cases hr
        · simp only [hrow, hb, hz, hr]
        · cases hr
      · cases hr
    · cases hr
  · cases hr
section
variable {ops : Array Oper}

theorem xcallM_ls {E : Env} (hT : TblOk E.P E.T) {f : FuncId} {args : List V} {o : Oper} {i new : Nat} {sl : List V} {h : List XO} {K : V → List XO → List Nat → List Nat → Prop} (ho : ops[i]? = some o) (hw : awanted ops sl o = some true)
    (hcall : callOf E.P sl o.op = some (f, args)) (hs : xcallM E f args h new K) :
    ∃ (x : V) (h' : List XO) (F W : List Nat) (post : List (Nat × HS)), K x h' F W ∧ (∀ p, p ∈ post → p.1 ∈ W) ∧ dens h' = setMany (dens h) post ∧ LS E.P ops i o ⟨sl, preF (dens h) F, x, post⟩ ∧ h'.length = h.length ∧ ∀ j, ¬ j ∈ W → h'[j]? = h[j]? := by
  have hcl : callable E.P f = true := by
    unfold callOf at hcall
    repeat' split at hcall
    all_goals first | (cases hcall; done) | skip
    injection hcall with hcall; injection hcall with q _; subst q; assumption
  have hop : ∀ s : St, agreeS ops o sl s.sl → callOf E.P s.sl o.op = some (f, args) ∧ awanted ops s.sl o = some true := fun s ag => ⟨by rw [callOf_congr (agreeS_eval ag)]; exact hcall, by rw [agreeS_wanted ag]; exact hw⟩
  unfold xcallM at hs
  split at hs
  · rename_i ps pre res hl
    have hc := hT _ _ hl
    split at hs
    · rename_i x hx
      obtain ⟨hp, hs⟩ := preK_spec hs
      rw [appK_eq, fV_eq] at hs
      refine ⟨(cu ps res x).val, h, [], [], [], hs, (fun p hp => by cases hp), rfl, fun s ag _ => ?_, rfl, fun _ _ => rfl⟩
      obtain ⟨h1, h2⟩ := hop s ag
      exact wo_call ho h2 h1 hcl (PC.args_LE (rdP_ok hx) ((hc x hp).2 s.h (fun _ q => by cases q)))
    · split at hs
      · rename_i x hx
        rw [appK_eq] at hs
        split at hs
        · rename_i hfl
          obtain ⟨hp, hs⟩ := preK_spec hs
          obtain ⟨hcs, hs⟩ := needs_spec hs
          rw [fV_eq] at hs
          refine ⟨(cu ps res x).val, h, _, [], [], hs, (fun p hp => by cases hp), rfl, fun s ag ah => ?_, rfl, fun _ _ => rfl⟩
          obtain ⟨h1, h2⟩ := hop s ag
          have hF := preF_mem ah
          generalize hh2 : ovX (args.flatMap idsA) h s.h 0 = hh
          have hden : dens hh = s.h := by rw [← hh2]; exact ovX_den (fun j hj => by rw [Nat.zero_add] at hj ⊢; exact hF j hj)
          have hget : ∀ id, id ∈ args.flatMap idsA → hh[id]? = h[id]? := fun id hid => by
            have := ovX_get (F := args.flatMap idsA) (h := h) (k := s.h) (i := 0) (j := id) (by rwa [Nat.zero_add]) (by rw [Nat.zero_add]; exact hF id hid)
            rwa [Nat.zero_add, hh2] at this
          have hr : rdA (rdH hh 0) ps args = some x := by
            rw [← hx]
            exact rdA_congr fun v hv t c hc t' => rdH_congr fun id hid => hget id (List.mem_flatMap.2 ⟨v, hv, idsA_cell hc hid⟩)
          have hl2 : allT (lens hh args) := by
            rw [lens_congr fun v hv id hid => hget id (List.mem_flatMap.2 ⟨v, hv, hid⟩)]; exact hcs
          have := PC.read hfl (hc x hp) (rdHs_ra hr hl2)
          rw [hden] at this
          exact wo_call ho h2 h1 hcl this
        · exact hs.elim
      · exact hs.elim
  · rename_i t e ps pre res post hl
    have hc := hT _ _ hl
    split at hs
    · rename_i j rest
      split at hs
      · rename_i xo hob
        split at hs
        · rename_i a x ha hx
          obtain ⟨hp, hs⟩ := preM_spec hs
          rw [appK_eq, fV_eq, appK_eq, setX_eq] at hs
          obtain ⟨ob, o1, o2, o3, o4, o5⟩ := rdOb_ok ha
          refine ⟨_, _, [j], [j], [(j, objT t e (cu ps (post a) x))], hs, (fun p hp => by simp at hp; subst hp; simp), by rw [dens_set]; rfl, fun s ag ah => ?_, by simp, fun i hi => List.getElem?_set_ne (fun q => hi (by simp [q]))⟩
          obtain ⟨h1, h2⟩ := hop s ag
          have hd : s.h[j]? = some (.live ob) := by rw [preF_mem ah j (by simp), dens_get, hob]; simp [o1]
          have hlt := get_lt hd
          refine wo_call ho h2 h1 hcl (PC.pre (h' := s.h.set j (objT t e a)) (fun {ι w} H => H.weakObj hd o2.symm o3.symm o4 o5) ?_)
          refine PC.args_LE (LEs.cons (LE.refl _) (rdP_ok hx)) (PC.mono ((hc a x hp j).2 _ (fun p hp => ?_)) ?_)
          · simp at hp; subst hp; rw [List.getElem?_set_self hlt]
          · rintro y k ⟨rfl, rfl⟩
            exact ⟨rfl, by simp [setMany]⟩
        · exact hs.elim
      · exact hs.elim
    · exact hs.elim
  · rename_i t e ps pre post hl
    have hc := hT _ _ hl
    split at hs
    · rename_i x hx
      obtain ⟨hp, hs⟩ := preK_spec hs
      rw [appK_eq] at hs
      split at hs
      · rename_i hfree
        rw [setX_eq] at hs
        have hlt := get_lt hfree
        refine ⟨_, _, [new], [new], [(new, .live ⟨t.size, [t.row (cu ps post x)], e⟩)], hs, (fun p hp => by simp at hp; subst hp; simp), by rw [dens_set]; rfl, fun s ag ah => ?_, by simp, fun i hi => List.getElem?_set_ne (fun q => hi (by simp [q]))⟩
        obtain ⟨h1, h2⟩ := hop s ag
        have hd : s.h[new]? = some .free := by rw [preF_mem ah new (by simp), dens_get, hfree]; rfl
        refine wo_call ho h2 h1 hcl (PC.args_LE (rdP_ok hx) (PC.mono (hc x hp s.h new _ (halloc_free hd)) ?_))
        rintro y k ⟨rfl, rfl⟩
        exact ⟨rfl, by simp [setMany]⟩
      · exact hs.elim
    · exact hs.elim
  · rename_i t ps pre res hl
    have hc := hT _ _ hl
    split at hs
    · rename_i j rest
      split at hs
      · rename_i xo hob
        split at hs
        · rename_i a row x ha hx
          rw [appK_eq] at hs
          split at hs
          · rename_i hfl
            obtain ⟨hp, hs⟩ := preM_spec hs
            obtain ⟨hcs, hs⟩ := needs_spec hs
            rw [fV_eq] at hs
            refine ⟨_, h, j :: row.flatMap topIds, [], [], hs, (fun p hp => by cases hp), rfl, fun s ag ah => ?_, rfl, fun _ _ => rfl⟩
            obtain ⟨h1, h2⟩ := hop s ag
            have hF := preF_mem ah
            generalize hh2 : ovX (j :: row.flatMap topIds) h s.h 0 = hh
            have hden : dens hh = s.h := by rw [← hh2]; exact ovX_den (fun i hi => by rw [Nat.zero_add] at hi ⊢; exact hF i hi)
            have hget : ∀ id, id ∈ j :: row.flatMap topIds → hh[id]? = h[id]? := fun id hid => by
              have := ovX_get (F := j :: row.flatMap topIds) (h := h) (k := s.h) (i := 0) (j := id) (by rwa [Nat.zero_add]) (by rw [Nat.zero_add]; exact hF id hid)
              rwa [Nat.zero_add, hh2] at this
            have hcell : ∀ c, c ∈ row → ∀ id, id ∈ topIds c → hh[id]? = h[id]? := fun c hc id hid => hget id (List.mem_cons_of_mem _ (List.mem_flatMap.2 ⟨c, hc, hid⟩))
            have ha2 : rdRow hh t xo = some (a, row) := by
              obtain ⟨ob, b1, b2, b3, b4⟩ := rdRow_of ha
              exact rdRow_mk b1 b2 b3 (by rw [← b4]; exact un_congr (fun c hc t => rdH_congr (fun id hid => hcell c hc id hid)))
            have hcs2 : allT (row.flatMap (lensV hh)) := by
              rw [flatMap_congr' (fun c hc => lensV_congr (fun id hid => hcell c hc id hid))]; exact hcs
            have hra : Pairs (fun a b => RA (dens hh) a b) (.pO j 0 0 :: rest) (.pF (t.row a) 0 :: vals ps x) := by
              have h1 := rdP_ok hx
              refine ⟨by simp [h1.1], fun i y z hy hz => ?_⟩
              cases i with
              | zero => simp at hy hz; subst hy hz; exact rdRow_ra ((hget j (by simp)).trans hob) ha2 hcs2
              | succ i =>
                simp at hy hz
                exact fun w ι v H r => (h1.2 i y z hy hz r).free (fun b q => .inl (mt_none q)) (Tup_ni 0 ps x z (get_mem hz))
            have := PC.read hfl (hc a x hp) hra
            rw [hden] at this
            exact wo_call ho h2 h1 hcl this
          · exact hs.elim
        · exact hs.elim
      · exact hs.elim
    · rename_i row rest
      split at hs
      · rename_i a x ha hx
        obtain ⟨hp, hs⟩ := preM_spec hs
        rw [appK_eq, fV_eq] at hs
        refine ⟨_, h, [], [], [], hs, (fun p hp => by cases hp), rfl, fun s ag _ => ?_, rfl, fun _ _ => rfl⟩
        obtain ⟨h1, h2⟩ := hop s ag
        exact wo_call ho h2 h1 hcl (PC.args_LE (LEs.cons (LE.pF (un_row (R := fun a b => LE a b) (unPure_ok 8) (fun _ => LE.refl _) ha)) (rdP_ok hx)) ((hc a x hp).2 s.h (fun _ q => by cases q)))
      · exact hs.elim
    · exact hs.elim
  · rename_i wr e eb hl
    have hc := hT _ _ hl
    have mj : ∀ {j : Option Nat} {k : Nat}, j = some k → k ∈ tchJ j [] := fun {j k} q => by subst q; exact List.mem_cons_self ..
    have get : ∀ {F : List Nat} {s : St}, agreeH (preF (dens h) F) s.h → ∃ hh : List XO, dens hh = s.h ∧ ∀ id, id ∈ F → hh[id]? = h[id]? := fun {F s} ah => by
      have hF := preF_mem ah
      refine ⟨ovX F h s.h 0, ovX_den (fun i hi => by rw [Nat.zero_add] at hi ⊢; exact hF i hi), fun id hid => ?_⟩
      have := ovX_get (F := F) (h := h) (k := s.h) (i := 0) (j := id) (by rwa [Nat.zero_add]) (by rw [Nat.zero_add]; exact hF id hid)
      rwa [Nat.zero_add] at this
    split at hs
    · rename_i i rest
      split at hs
      · rename_i s0 rest2
        split at hs
        · split at hs
          · rename_i b cs j l hr hfree
            obtain ⟨hcs, hs⟩ := needs_spec hs
            obtain ⟨hn, hs⟩ := (need_iff _ _).1 hs
            rw [setX_eq, kilK_eq, setX_eq] at hs
            refine ⟨_, _, _, _, ((i, (bldX eb i new (l ++ toInts s0).length).den) :: (match j with | some k => [(k, HS.dead)] | none => [])) ++ [(new, (XO.opt (.int .u8) (l ++ toInts s0) e).den)], hs, fun p hp => ?_, ?_, fun s ag ah => ?_, by simp [killX_length], fun x hx => ?_⟩
            · simp only [List.mem_append, List.mem_cons, List.not_mem_nil, or_false] at hp
              rcases hp with (rfl | hp) | rfl
              · simp
              · cases j with
                | none => cases hp
                | some k => simp at hp; subst hp; simp [tchJ]
              · simp
            · cases j <;> simp [killX, dens_set, setMany, XO.den]
            · obtain ⟨h1, h2⟩ := hop s ag
              obtain ⟨hh, hden, hget⟩ := get ah
              have hr2 := bldRd_congr hr (hget i (by simp)) (fun k q => hget k (List.mem_cons_of_mem _ (List.mem_cons_of_mem _ (mj q))))
              have hcall := hc hh i new s0 b cs j l hr2 hcs (of_decide_eq_true hn) ((hget new (by simp)).trans hfree)
              rw [hden] at hcall
              refine wo_call ho h2 h1 hcl (PC.mono hcall ?_)
              rintro y k ⟨rfl, rfl⟩
              refine ⟨rfl, ?_⟩
              rw [← hden]
              cases j <;> simp [killX, dens_set, setMany, XO.den]
            · simp only [List.mem_cons, not_or] at hx
              rw [List.getElem?_set_ne (Ne.symm hx.1), killX_get (fun y hy q => hx.2.2 (by rw [← q]; exact mj hy)), List.getElem?_set_ne (Ne.symm hx.2.1)]
          · exact hs.elim
        · exact hs.elim
      · exact hs.elim
    · rename_i i rest
      split at hs
      · split at hs
        · rename_i b cs j l hr
          obtain ⟨hcs, hs⟩ := needs_spec hs
          obtain ⟨hn, hs⟩ := (need_iff _ _).1 hs
          rw [setX_eq, kilK_eq] at hs
          refine ⟨_, _, _, _, (i, HS.dead) :: (match j with | some k => [(k, HS.dead)] | none => []), hs, fun p hp => ?_, ?_, fun s ag ah => ?_, by simp [killX_length], fun x hx => ?_⟩
          · simp only [List.mem_cons] at hp
            rcases hp with rfl | hp
            · simp
            · cases j with
              | none => cases hp
              | some k => simp at hp; subst hp; simp [tchJ]
          · cases j <;> simp [killX, dens_set, setMany, XO.den]
          · obtain ⟨h1, h2⟩ := hop s ag
            obtain ⟨hh, hden, hget⟩ := get ah
            have hr2 := bldRd_congr hr (hget i (by simp)) (fun k q => hget k (List.mem_cons_of_mem _ (mj q)))
            have hcall := hc hh i b cs j l hr2 hcs (of_decide_eq_true hn)
            rw [hden] at hcall
            refine wo_call ho h2 h1 hcl (PC.mono hcall ?_)
            rintro y k ⟨rfl, rfl⟩
            refine ⟨rfl, ?_⟩
            rw [← hden]
            cases j <;> simp [killX, dens_set, setMany, XO.den]
          · simp only [List.mem_cons, not_or] at hx
            rw [killX_get (fun y hy q => hx.2 (by rw [← q]; exact mj hy)), List.getElem?_set_ne (Ne.symm hx.1)]
        · exact hs.elim
      · exact hs.elim
    · exact hs.elim
  · exact hs.elim

/- the run -/
def isNew (T : Tbl) (f : FuncId) : Bool := match look T f with
  | some (.new _ _ _ _ _) => true
  | some (.bld true _ _) => true
  | _ => false
def isAlloc (T : Tbl) : Op → Bool
  | .alloc _ => true
  | .box _ _ => true
  | .buildSlice _ _ _ => true
  | .makeSlice _ _ _ => true
  | .convert _ _ _ => true
  | .call c => match c.callee with
    | .builtin .append => true
    | .value (.func f) => isNew T f
    | _ => false
  | _ => false
def nAlloc (T : Tbl) : List Oper → Nat
  | [] => 0
  | o :: l => match isAlloc T o.op with
    | true => nAlloc T l + 1
    | false => nAlloc T l

def xstepM (E : Env) (fl : Bool) (o : Oper) (new : Nat) (s : Y) (K : Y → List Nat × List Nat → Prop) : Prop :=
  match s with
  | ⟨sl, h, tch, an⟩ => match callOf E.P sl o.op with
    | some (f, args) => xcallM E f args h new fun x h' F W => putK sl o.dst x fun sl => K ⟨sl, h', W ++ tch, an⟩ (F, W)
    | none => match dstF E.P o.op sl h with
    | some (cs, j, id, oj') => needs cs (setX h id (.raw .dead) fun h => fX oj' fun oj' => setX h j oj' fun h => putK sl o.dst .any fun sl => K ⟨sl, h, j :: id :: tch, an⟩ ([j, id], [j, id]))
    | none => match h[new]? with
      | some (.raw .free) => stepM E.P fl o.op sl h new fun x h' => putK sl o.dst x fun sl' => tchK o.op sl new tch fun tch => K ⟨sl', h', tch, an⟩ (foot o.op (aev sl) ++ [new], wids o.op (aev sl) new)
      | _ => False

def xdrw (E : Env) (ops : Array Oper) (rid base tot : Nat) : List Oper → Nat → Nat → Y → (Y → List (List Nat × List Nat) → Prop) → Prop
  | [], _, _, s, K => K s []
  | o :: l, i, cnt, s, K => gd ops o s (fun s => match isAlloc E.T o.op with
      | true => fN (base + cnt) fun new => xstepM E (flips E.flip E.fid rid i) o new s fun s' f => xdrw E ops rid base tot l (i + 1) (cnt + 1) s' fun s2 fs => K s2 (f :: fs)
      | false => fN (base + tot) fun new => xstepM E (flips E.flip E.fid rid i) o new s fun s' f => xdrw E ops rid base tot l (i + 1) cnt s' fun s2 fs => K s2 (f :: fs))
      (fun s => match s with | ⟨sl, h, tch, an⟩ => putK sl o.dst (.v undef) fun sl => xdrw E ops rid base tot l (i + 1) cnt ⟨sl, h, tch, an⟩ fun s2 fs => K s2 (([], []) :: fs))

def RunD (P : Program) (ops : Array Oper) : Nat → List Dat → St → St → Prop
  | _, [], s, s' => s = s'
  | i, d :: ds, s, s' => ∃ s1, AS P ops (fun _ => d) i s s1 ∧ RunD P ops (i + 1) ds s1 s'
def InF (d : Dat) (f : List Nat × List Nat) : Prop := (∀ p, p ∈ d.pre → p.1 ∈ f.1) ∧ ∀ p, p ∈ d.post → p.1 ∈ f.2

theorem agreeS_refl (o : Oper) (sl : List V) : agreeS ops o sl sl := fun _ _ => rfl
theorem agreeH_preF (h : Heap) (F : List Nat) : agreeH (preF h F) h := fun p hp => by
  obtain ⟨id, _, rfl⟩ := List.mem_map.1 hp; rfl

theorem stepM_fr {P : Program} {fl : Bool} {o : Op} {sl : List V} {h : List XO} {new : Nat} {K : V → List XO → Prop} (hn : new < h.length) (hs : stepM P fl o sl h new K) :
    stepM P fl o sl h new fun x h' => K x h' ∧ h'.length = h.length ∧ ∀ j, ¬ j ∈ wids o (aev sl) new → h'[j]? = h[j]? := by
  have nd : ∀ {cs : List Bool} {A B : Prop}, (A → B) → needs cs A → needs cs B := by
    intro cs A B hab
    induction cs with
    | nil => exact hab
    | cons c cs ih => intro q; exact (need_iff c _).2 ⟨((need_iff c _).1 q).1, ih ((need_iff c _).1 q).2⟩
  unfold stepM at hs ⊢
  split
  · rename_i b x y e
    simp only [e, fV_eq] at hs ⊢
    obtain ⟨h1, h2⟩ := (br_iff _ _ _).1 hs
    exact (br_iff _ _ _).2 ⟨fun q => ⟨h1 q, trivial, fun _ _ => trivial⟩, fun q => ⟨h2 q, trivial, fun _ _ => trivial⟩⟩
  rename_i e0
  simp only [e0] at hs
  split
  · rename_i cs x e
    simp only [e, fV_eq] at hs ⊢
    exact nd (fun q => ⟨q, trivial, fun _ _ => trivial⟩) hs
  · rename_i e
    simp only [e] at hs
    split
    · rename_i cs x h' e2
      rw [e2] at hs
      refine nd (fun q => ?_) hs
      rw [fH_eq] at q ⊢
      obtain ⟨g1, g2⟩ := dst_fr (new := new) e2
      exact ⟨q, g1.symm, g2⟩
    · rename_i e2
      simp only [e2] at hs
      split
      · rename_i cs x h' e3
        rw [e3] at hs
        refine nd (fun q => ?_) hs
        rw [fV_eq, fH_eq] at q ⊢
        obtain ⟨g1, g2⟩ := dalloc_fr e3
        exact ⟨q, g1.symm, g2⟩
      · rename_i e3
        simp only [e3] at hs
        split
        · rename_i x h' e4
          rw [e4] at hs
          simp only at hs
          split
          · rename_i e5
            rw [e5] at hs
            rw [fV_eq] at hs ⊢
            exact ⟨hs, rfl, fun _ _ => rfl⟩
          · rename_i e5
            have h2 : fV x fun x => fH (reb h (wids o (aev sl) new) h' 0) fun h' => K x h' := by
              revert hs
              split
              · rename_i e6; exact absurd e6 e5
              · exact fun h => h
            rw [fV_eq, fH_eq] at h2
            rw [fV_eq, fH_eq]
            have hlt : new < (dens h).length := by rw [dens_len]; exact hn
            obtain ⟨post, p1, p2, _⟩ := (AO.of e4).loc hlt
            have hl : h'.length = h.length := by rw [p2, setMany_length]; simp [dens]
            refine ⟨h2, by rw [reb_len, hl], fun j hj => ?_⟩
            rcases Nat.lt_or_ge j h.length with q | q
            · rw [reb_get (by omega) (by rwa [Nat.zero_add]) (by omega), Nat.zero_add]
            · rw [List.getElem?_eq_none (by rw [reb_len, hl]; exact q), List.getElem?_eq_none q]
        · rename_i e4
          rw [e4] at hs
          exact hs.elim

theorem dstF_congr {P : Program} {o : Op} {sl sl2 : List V} {h h2 : List XO} {cs : List Bool} {j id : Nat} {oj' : XO} (e : dstF P o sl h = some (cs, j, id, oj')) (he : ∀ a, a ∈ o.operands → aev sl2 a = aev sl a) (hj : h2[j]? = h[j]?) (hid : h2[id]? = h[id]?) : dstF P o sl2 h2 = dstF P o sl h := by
  cases o with
  | store t p x =>
    have e1 := he p (by simp [Op.operands])
    have e2 := he x (by simp [Op.operands])
    simp only [dstF, e1, e2] at e ⊢
    split at e
    · split at e
      · split at e
        · split at e
          · cases e
          · injection e with e; injection e with _ e; injection e with a1 e; injection e with a2 _; subst a1 a2
            rw [hj, hid]
            simp_all
        · cases e
      · cases e
    · cases e
  | _ => cases e
theorem xstepM_ls {E : Env} (hT : TblOk E.P E.T) {fl : Bool} {o : Oper} {i new : Nat} {s : Y} {W : List Nat} {K : Y → List Nat × List Nat → Prop} (ho : ops[i]? = some o) (hw : awanted ops s.sl o = some true) (hW : ∀ d, o.dst = some d → d ∈ W) (hs : xstepM E fl o new s K) :
    ∃ (s' : Y) (d : Dat) (f : List Nat × List Nat), K s' f ∧ InF d f ∧ AS E.P ops (fun _ => d) i s.den s'.den ∧ FrW W s s' := by
  obtain ⟨sl, h, tch, an⟩ := s
  simp only [xstepM] at hs
  have fin : ∀ (x : V) (h' : List XO) (F U tch' : List Nat) (post : List (Nat × HS)), K ⟨sput sl o.dst x, h', tch', an⟩ (F, U) → (∀ p, p ∈ post → p.1 ∈ U) → dens h' = setMany (dens h) post → LS E.P ops i o ⟨sl, preF (dens h) F, x, post⟩ → h'.length = h.length → (∀ j, ¬ j ∈ U → h'[j]? = h[j]?) → tch' = U ++ tch →
      ∃ (s' : Y) (d : Dat) (f : List Nat × List Nat), K s' f ∧ InF d f ∧ AS E.P ops (fun _ => d) i (Y.den ⟨sl, h, tch, an⟩) s'.den ∧ FrW W ⟨sl, h, tch, an⟩ s' := by
    rintro x h' F U tch' post h1 h2 h3 h4 h5 h6 rfl
    refine ⟨⟨sput sl o.dst x, h', U ++ tch, an⟩, _, (F, U), h1, ⟨fun p hp => ?_, h2⟩, ⟨o, ho, agreeS_refl o sl, agreeH_preF _ _, ?_, h4⟩, ⟨⟨Nat.le_of_eq h5.symm, fun j hj => List.mem_append.2 (.inr hj), fun j hj hn => h6 j (fun q => hn (List.mem_append.2 (.inl q)))⟩, sput_len _ _ _, fun j hj => sput_get (fun k hk q => hj (q ▸ hW k hk))⟩⟩
    · obtain ⟨id, hid, rfl⟩ := List.mem_map.1 hp; exact hid
    · simp only [Y.den, h3]
  split at hs
  · rename_i f args hcall
    obtain ⟨x, h', F, U, post, h1, h2, h3, h4, h5, h6⟩ := xcallM_ls hT ho hw hcall hs
    rw [putK_eq] at h1
    exact fin x h' F U _ post h1 h2 h3 h4 h5 h6 rfl
  · split at hs
    · rename_i cs j id oj' e
      obtain ⟨hcs, hs⟩ := needs_spec hs
      rw [setX_eq, fX_eq, setX_eq, putK_eq] at hs
      refine fin .any _ [j, id] [j, id] _ [(id, .dead), (j, oj'.den)] hs (fun p hp => ?_) (by rw [dens_set, dens_set]; rfl) (fun s ag ah => ?_) (by simp) (fun i hi => ?_) rfl
      · simp only [List.mem_cons, List.not_mem_nil, or_false] at hp ⊢
        rcases hp with rfl | rfl
        · exact .inr rfl
        · exact .inl rfl
      · have hF := preF_mem ah
        generalize hh2 : ovX [j, id] h s.h 0 = hh
        have hden : dens hh = s.h := by rw [← hh2]; exact ovX_den (fun i hi => by rw [Nat.zero_add] at hi ⊢; exact hF i hi)
        have hget : ∀ i, i ∈ [j, id] → hh[i]? = h[i]? := fun i hi => by
          have := ovX_get (F := [j, id]) (h := h) (k := s.h) (i := 0) (j := i) (by rwa [Nat.zero_add]) (by rw [Nat.zero_add]; exact hF i hi)
          rwa [Nat.zero_add, hh2] at this
        have e2 : dstF E.P o.op s.sl hh = some (cs, j, id, oj') := by
          rw [← e]
          exact dstF_congr e (agreeS_eval ag) (hget j (by simp)) (hget id (by simp))
        have : WO E.P ops i ⟨s.sl, dens hh⟩ ⟨sput s.sl o.dst .any, dens ((hh.set id (.raw .dead)).set j oj')⟩ := wo_os ho (by rw [agreeS_wanted ag]; exact hw) (fun r => dstF_os e2 hcs r)
        rw [dens_set, dens_set, hden] at this
        exact this
      · simp only [List.mem_cons, List.not_mem_nil, or_false, not_or] at hi
        rw [List.getElem?_set_ne (Ne.symm hi.1), List.getElem?_set_ne (Ne.symm hi.2)]
    split at hs
    · rename_i hfree
      obtain ⟨x, h', post, ⟨h1, h5, h6⟩, h2, h3, h4⟩ := stepM_ls ho hw hfree (stepM_fr (get_lt hfree) hs)
      rw [putK_eq, tchK_eq] at h1
      exact fin x h' _ _ _ post h1 h2 h3 h4 h5 h6 rfl
    · exact hs.elim

theorem xdrw_ok {E : Env} (hT : TblOk E.P E.T) {rid base tot : Nat} {W : List Nat} : ∀ (l : List Oper) (i cnt : Nat) (s : Y) (K : Y → List (List Nat × List Nat) → Prop), (∀ (j : Nat) (o : Oper), l[j]? = some o → ops[i + j]? = some o) → (∀ o, o ∈ l → ∀ d, o.dst = some d → d ∈ W) → xdrw E ops rid base tot l i cnt s K →
    ∃ (ds : List Dat) (fs : List (List Nat × List Nat)) (s' : Y), ds.length = l.length ∧ (∀ (m : Nat) (d : Dat), ds[m]? = some d → ∃ f, fs[m]? = some f ∧ InF d f) ∧ RunD E.P ops i ds s.den s'.den ∧ K s' fs ∧ FrW W s s'
  | [], i, cnt, s, K, _, _, h => ⟨[], [], s, rfl, fun m d h => by simp at h, rfl, h, FrW.refl _ _⟩
  | o :: l, i, cnt, s, K, hops, hW, h => by
    have ho : ops[i]? = some o := by simpa using hops 0 o (by simp)
    have hops' : ∀ (j : Nat) (o' : Oper), l[j]? = some o' → ops[i + 1 + j]? = some o' := fun j o' hj => by
      have := hops (j + 1) o' (by simpa using hj)
      rwa [show i + (j + 1) = i + 1 + j by omega] at this
    have hW' : ∀ o, o ∈ l → ∀ d, o.dst = some d → d ∈ W := fun o' h' => hW o' (List.mem_cons_of_mem _ h')
    have fin : ∀ (s1 : Y) (d : Dat) (f : List Nat × List Nat) (cnt' : Nat), InF d f → AS E.P ops (fun _ => d) i s.den s1.den → FrW W s s1 → xdrw E ops rid base tot l (i + 1) cnt' s1 (fun s2 fs => K s2 (f :: fs)) →
        ∃ (ds : List Dat) (fs : List (List Nat × List Nat)) (s' : Y), ds.length = (o :: l).length ∧ (∀ (m : Nat) (d : Dat), ds[m]? = some d → ∃ f, fs[m]? = some f ∧ InF d f) ∧ RunD E.P ops i ds s.den s'.den ∧ K s' fs ∧ FrW W s s' := by
      intro s1 d f cnt' h1 h2 h3 h4
      obtain ⟨ds, fs, s', g1, g2, g3, g4, g5⟩ := xdrw_ok hT l (i + 1) cnt' s1 _ hops' hW' h4
      refine ⟨d :: ds, f :: fs, s', by simp [g1], fun m e he => ?_, ⟨s1.den, h2, g3⟩, g4, h3.trans g5⟩
      cases m with
      | zero => simp at he; subst he; exact ⟨f, rfl, h1⟩
      | succ m => simpa using g2 m e (by simpa using he)
    rcases gd_spec h with ⟨hw, hr⟩ | ⟨hw, hr⟩
    · split at hr
      · rw [fN_eq] at hr
        obtain ⟨s1, d, f, h1, h2, h3, h4⟩ := xstepM_ls hT ho hw (hW o (by simp)) hr
        exact fin s1 d f _ h2 h3 h4 h1
      · rw [fN_eq] at hr
        obtain ⟨s1, d, f, h1, h2, h3, h4⟩ := xstepM_ls hT ho hw (hW o (by simp)) hr
        exact fin s1 d f _ h2 h3 h4 h1
    · obtain ⟨sl, hp, tch, an⟩ := s
      simp only at hr
      rw [putK_eq] at hr
      refine fin ⟨sput sl o.dst (.v undef), hp, tch, an⟩ ⟨sl, [], .v undef, []⟩ ([], []) cnt ⟨fun p hp => (by cases hp), fun p hp => (by cases hp)⟩ ⟨o, ho, agreeS_refl o sl, fun p hp => (by cases hp), rfl, fun s ag _ => ?_⟩ ⟨⟨Nat.le_refl _, fun _ h => h, fun _ _ _ => rfl⟩, sput_len _ _ _, fun j hj => sput_get (fun k hk q => hj (q ▸ hW o (by simp) k hk))⟩ hr
      exact wo_no ho (by rw [agreeS_wanted ag]; exact hw)

end

end Go.Abs
