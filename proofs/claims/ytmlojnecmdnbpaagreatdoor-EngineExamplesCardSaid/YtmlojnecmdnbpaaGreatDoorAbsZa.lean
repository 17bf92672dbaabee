/- Arriving at a loop's head or at a join: that it is right. -/
import Derived.Test.YtmlojnecmdnbpaaGreatDoorAbsZy
namespace Go.Abs
set_option linter.unusedVariables false

theorem nodupB_ok : ∀ {l : List Nat}, nodupB l = true → l.Nodup
  | [], _ => List.nodup_nil
  | x :: xs, h => by
    simp only [nodupB, Bool.and_eq_true, Bool.not_eq_true', List.contains_eq_mem, decide_eq_false_iff_not] at h
    exact List.nodup_cons.2 ⟨h.1, nodupB_ok h.2⟩
theorem identB_ok {n : Nat} {σ : List Nat} (h : identB n σ = true) (j : Nat) (hj : j < n) : σ[j]? = some j := by
  have := List.all_eq_true.1 h j (by simpa using hj)
  simpa using this

theorem rd1_ok {t : Ty} {v : V} {a : t.den} (h : un (unPure 8) t (argCells t v) = some (a, [])) : LE v (t.val a) :=
  arg_gen (R := fun a b => LE a b) (R' := fun a b => LE a b) (unPure_ok 8) (fun _ => LE.refl _) (fun _ _ h => h) LE.norm_agg h
theorem RenV.val {σ : List Nat} {t : Ty} {v : V} {a : t.den} (h : un (unPure 8) t (argCells t v) = some (a, [])) : RenV σ v (t.val a) := RenV.tree (rd1_ok h) (Ty.ni_val 0 t a)

theorem pairs_self {R : V → V → Prop} {xs : List V} (h : ∀ x, x ∈ xs → R x x) : Pairs R xs xs :=
  ⟨rfl, fun i x y h1 h2 => by rw [h1] at h2; injection h2 with h2; subst h2; exact h x (get_mem h1)⟩
theorem fixV_ok {σ : List Nat} : ∀ {n : Nat} {x : V}, fixV σ n x = true → RenV σ x x
  | 0, x, h => by simp [fixV] at h
  | n + 1, x, h => by
    have fi : ∀ {id : Nat}, fixI σ id = true → σ[id]? = some id := fun {id} q => by simpa [fixI] using q
    cases x with
    | v x => exact RenV.tree (LE.refl _) (.v _)
    | any => exact RenV.any _ _
    | pO id r o => exact RenV.pO r o (fi h)
    | sO id o l => exact RenV.sO o l (fi h)
    | oL id l => exact RenV.oL l (fi h)
    | sL t l => exact RenV.tree (LE.refl _) (.sL _ _)
    | agg xs => exact RenV.agg (pairs_self fun x hx => fixV_ok (List.all_eq_true.1 h x hx))
    | tup xs => exact RenV.tup (pairs_self fun x hx => fixV_ok (List.all_eq_true.1 h x hx))
    | fn f a b =>
      simp only [fixV, Bool.and_eq_true] at h
      exact RenV.fn (pairs_self fun x hx => fixV_ok (List.all_eq_true.1 h.1 x hx)) (pairs_self fun x hx => fixV_ok (List.all_eq_true.1 h.2 x hx))
    | ifc t x => exact RenV.ifc (fixV_ok (n := n) h)
    | pF r o => exact RenV.tree (LE.refl _) (.pF o fun x hx => niV_ok (List.all_eq_true.1 h x hx))
    | sF s r => exact RenV.tree (LE.refl _) (.sF s fun r hr x hx => niV_ok (List.all_eq_true.1 (List.all_eq_true.1 h r hr) x hx))
theorem RenL.self {σ : List Nat} {o : AObj} (h : ∀ r, r ∈ o.rows → ∀ x, x ∈ r → RenV σ x x) : RenL σ o o :=
  ⟨rfl, rfl, rfl, fun i r r' h1 h2 => by rw [h1] at h2; injection h2 with h2; subst h2; exact pairs_self (h r (get_mem h1))⟩
theorem RenO.typed {σ : List Nat} (t : Ty) (l : List t.den) (e : TypeId) : RenO σ (.live ⟨t.size, l.map t.row, e⟩) (.live ⟨t.size, l.map t.row, e⟩) :=
  ⟨by simp, fun o' h => by
    injection h with h; subst h
    exact ⟨_, rfl, RenL.self fun r hr x hx => RenV.tree (LE.refl _) (Ty.nir 0 t l r hr x hx)⟩⟩
theorem RenO.opt {σ : List Nat} (t : Ty) (l : List t.den) (e : TypeId) : RenO σ (XO.opt t l e).den (XO.opt t l e).den := by
  simp only [XO.den]
  split
  · exact ⟨by simp, fun o' h => by cases h⟩
  · exact RenO.typed t l e
theorem fixX_ok {σ : List Nat} {o : XO} (h : fixX σ o = true) : RenO σ o.den o.den := by
  cases o with
  | raw s =>
    cases s with
    | live o => exact ⟨by simp [XO.den], fun o' q => by
        injection q with q; subst q
        exact ⟨_, rfl, RenL.self fun r hr x hx => fixV_ok (List.all_eq_true.1 (List.all_eq_true.1 h r hr) x hx)⟩⟩
    | dead => exact ⟨by simp [XO.den], fun o' q => by cases q⟩
    | free => cases h
  | tl t l e => exact RenO.typed t l e
  | opt t l e => exact RenO.opt t l e
  | ob t a e => exact RenO.typed t [a] e
theorem fixH_ok {σ gi : List Nat} : ∀ {h : List XO} {k : Nat}, fixH σ gi h k = true → ∀ (j : Nat) (o : XO), h[j]? = some o → ¬ (k + j) ∈ gi → RenO σ o.den o.den ∧ σ[k + j]? = some (k + j)
  | [], _, _, j, o, ho, _ => by simp at ho
  | x :: r, k, h, 0, o, ho, hg => by
    simp only [fixH, Bool.and_eq_true, Bool.or_eq_true] at h
    simp at ho; subst ho
    rcases h.1 with q | q
    · exact absurd (by simpa using q) hg
    · exact ⟨fixX_ok q.1, by simpa using q.2⟩
  | x :: r, k, h, j + 1, o, ho, hg => by
    simp only [fixH, Bool.and_eq_true] at h
    have := fixH_ok h.2 j o (by simpa using ho) (by rwa [show k + 1 + j = k + (j + 1) by omega])
    rwa [show k + 1 + j = k + (j + 1) by omega] at this

/-- What a state has in common with the state at a loop's head. -/
structure Near (W : List Nat) (gi : List Nat) (s1 s' : Y) : Prop where
  sl : ∀ i, ¬ i ∈ W → s'.sl[i]? = s1.sl[i]?
  len : s'.sl.length = s1.sl.length
  h : ∀ j, j < s1.h.length → ¬ j ∈ gi → ¬ j ∈ s'.tch → s'.h[j]? = s1.h[j]?

theorem baseR_len (W : List Nat) : ∀ (sl : List V) (i : Nat), (baseR W sl i).length = sl.length
  | [], _ => rfl
  | _ :: r, i => by simp only [baseR, List.length_cons, baseR_len W r]
theorem baseR_get (W : List Nat) : ∀ (sl : List V) (i j : Nat), (baseR W sl i)[j]? = (sl[j]?).map fun a => match W.contains (i + j) with
    | true => .any
    | false => a
  | [], _, _ => rfl
  | a :: r, i, 0 => rfl
  | a :: r, i, j + 1 => by simp only [baseR, List.getElem?_cons_succ]; rw [baseR_get W r (i + 1) j, show i + 1 + j = i + (j + 1) by omega]
theorem baseS_len (W : List Nat) (sl : List V) : (baseS W sl).length = sl.length := baseR_len W sl 0
theorem baseS_get (W : List Nat) (sl : List V) (i : Nat) (x : V) (h : (baseS W sl)[i]? = some x) : x = .any ∨ (¬ i ∈ W ∧ sl[i]? = some x) := by
  rw [baseS, baseR_get, Nat.zero_add] at h
  by_cases hi : i ∈ W
  · rw [show W.contains i = true by simpa using hi] at h
    cases hs : sl[i]? with
    | none => rw [hs] at h; cases h
    | some a => rw [hs] at h; injection h with h; exact .inl h.symm
  · rw [show W.contains i = false by simpa using hi] at h
    cases hs : sl[i]? with
    | none => rw [hs] at h; cases h
    | some a => rw [hs] at h; injection h with h; exact .inr ⟨hi, by rw [← h]⟩
theorem baseS_other (W : List Nat) (sl : List V) (i : Nat) (hi : ¬ i ∈ W) : (baseS W sl)[i]? = sl[i]? := by
  rw [baseS, baseR_get, Nat.zero_add, show W.contains i = false by simpa using hi]
  cases sl[i]? <;> rfl
theorem setS_len : ∀ (g : List GK) (y : Tup (gts g)) (b : Bs) (l : List V), (setS g y b l).length = l.length
  | [], _, _, _ => rfl
  | .sl _ _ :: g, y, b, l => by simp only [setS]; rw [setS_len g]; simp
  | .lst _ _ _ :: g, y, b, l => by simp only [setS]; rw [setS_len g]; simp
  | .nls _ _ _ :: g, y, b, l => by simp only [setS]; rw [setS_len g]; simp
  | .ob _ _ _ :: g, y, b, l => by simp only [setS]; rw [setS_len g]
  | .ar _ _ _ :: g, y, b, l => by simp only [setS]; rw [setS_len g]
  | .op _ _ _ :: g, y, b, l => by simp only [setS]; rw [setS_len g]
  | .row _ _ :: g, y, b, l => by simp only [setS]; rw [setS_len g]
theorem setS_other : ∀ (g : List GK) (y : Tup (gts g)) (b : Bs) (l : List V) (i : Nat), ¬ i ∈ gslots g → (setS g y b l)[i]? = l[i]?
  | [], _, _, _, _, _ => rfl
  | .sl d _ :: g, y, b, l, i, h => by
    simp only [gslots, List.mem_cons, not_or] at h
    simp only [setS]; rw [setS_other g _ _ _ i h.2, List.getElem?_set_ne (Ne.symm h.1)]
  | .lst d _ _ :: g, y, b, l, i, h => by
    simp only [gslots, List.mem_cons, not_or] at h
    simp only [setS]; rw [setS_other g _ _ _ i h.2, List.getElem?_set_ne (Ne.symm h.1)]
  | .nls d _ _ :: g, y, b, l, i, h => by
    simp only [gslots, List.mem_cons, not_or] at h
    simp only [setS]; rw [setS_other g _ _ _ i h.2, List.getElem?_set_ne (Ne.symm h.1)]
  | .ob _ _ _ :: g, y, b, l, i, h => by simp only [setS]; exact setS_other g _ _ _ i h
  | .ar _ _ _ :: g, y, b, l, i, h => by simp only [setS]; exact setS_other g _ _ _ i h
  | .op _ _ _ :: g, y, b, l, i, h => by simp only [setS]; exact setS_other g _ _ _ i h
  | .row _ _ :: g, y, b, l, i, h => by simp only [setS]; exact setS_other g _ _ _ i h
theorem setOwn_len : ∀ (ks : List CK) (c : Tup (ckTys ks)) (r : List V) (h : List XO), (setOwn ks c r h).length = h.length
  | [], _, _, _ => rfl
  | .same :: ks, _, [], _ => rfl
  | .same :: ks, c, _ :: r, h => setOwn_len ks c r h
  | .val _ :: ks, _, [], _ => rfl
  | .val _ :: ks, c, _ :: r, h => setOwn_len ks c.2 r h
  | .osf _ :: ks, _, [], _ => rfl
  | .osf _ :: ks, c, _ :: r, h => setOwn_len ks c.2 r h
  | .own _ _ :: ks, _, [], _ => rfl
  | .ows _ _ :: ks, _, [], _ => rfl
  | .own t e :: ks, c, x :: r, h => (setOwn_len ks c.2 r (h.set (idC x) (.opt t c.1 e))).trans (by simp)
  | .ows t e :: ks, c, x :: r, h => (setOwn_len ks c.2 r (h.set (idC x) (.tl t c.1 e))).trans (by simp)
theorem setOwn_other : ∀ (ks : List CK) (c : Tup (ckTys ks)) (r : List V) (h : List XO) (i : Nat), ¬ i ∈ ownIds ks r → (setOwn ks c r h)[i]? = h[i]?
  | [], _, _, _, _, _ => rfl
  | .same :: ks, _, [], _, _, _ => rfl
  | .same :: ks, c, _ :: r, h, i, hi => setOwn_other ks c r h i hi
  | .val _ :: ks, _, [], _, _, _ => rfl
  | .val _ :: ks, c, _ :: r, h, i, hi => setOwn_other ks c.2 r h i hi
  | .osf _ :: ks, _, [], _, _, _ => rfl
  | .osf _ :: ks, c, _ :: r, h, i, hi => setOwn_other ks c.2 r h i hi
  | .own _ _ :: ks, _, [], _, _, _ => rfl
  | .ows _ _ :: ks, _, [], _, _, _ => rfl
  | .own t e :: ks, c, x :: r, h, i, hi => by
    simp only [ownIds, List.mem_cons, not_or] at hi
    exact (setOwn_other ks c.2 r (h.set (idC x) (.opt t c.1 e)) i hi.2).trans (List.getElem?_set_ne (Ne.symm hi.1))
  | .ows t e :: ks, c, x :: r, h, i, hi => by
    simp only [ownIds, List.mem_cons, not_or] at hi
    exact (setOwn_other ks c.2 r (h.set (idC x) (.tl t c.1 e)) i hi.2).trans (List.getElem?_set_ne (Ne.symm hi.1))
theorem setO_len : ∀ (g : List GK) (y : Tup (gts g)) (b : Bs) (h : List XO), (setO g y b h).length = h.length
  | [], _, _, _ => rfl
  | .sl _ _ :: g, y, b, h => by simp only [setO]; exact setO_len g _ _ _
  | .lst _ _ _ :: g, y, b, h => by simp only [setO]; rw [setO_len g]; simp
  | .nls _ _ _ :: g, y, b, h => by simp only [setO]; rw [setO_len g]; simp
  | .ob _ _ _ :: g, y, b, h => by simp only [setO]; rw [setO_len g]; simp
  | .ar _ _ _ :: g, y, b, h => by simp only [setO]; rw [setO_len g]; simp
  | .op _ _ _ :: g, y, b, h => by simp only [setO]; rw [setO_len g]; simp
  | .row _ _ :: g, y, b, h => by simp only [setO]; rw [setO_len g, setOwn_len]; simp
theorem setO_other : ∀ (g : List GK) (y : Tup (gts g)) (b : Bs) (h : List XO) (i : Nat), ¬ i ∈ gids b g → (setO g y b h)[i]? = h[i]?
  | [], _, _, _, _, _ => rfl
  | .sl _ _ :: g, y, b, h, i, hi => by simp only [setO]; exact setO_other g _ _ _ i hi
  | .lst d _ _ :: g, y, b, h, i, hi => by
    simp only [gids, List.mem_cons, not_or] at hi
    simp only [setO]; rw [setO_other g _ _ _ i hi.2, List.getElem?_set_ne (Ne.symm hi.1)]
  | .nls d _ _ :: g, y, b, h, i, hi => by
    simp only [gids, List.mem_cons, not_or] at hi
    simp only [setO]; rw [setO_other g _ _ _ i hi.2, List.getElem?_set_ne (Ne.symm hi.1)]
  | .ob d _ _ :: g, y, b, h, i, hi => by
    simp only [gids, List.mem_cons, not_or] at hi
    simp only [setO]; rw [setO_other g _ _ _ i hi.2, List.getElem?_set_ne (Ne.symm hi.1)]
  | .ar d _ _ :: g, y, b, h, i, hi => by
    simp only [gids, List.mem_cons, not_or] at hi
    simp only [setO]; rw [setO_other g _ _ _ i hi.2, List.getElem?_set_ne (Ne.symm hi.1)]
  | .op d _ _ :: g, y, b, h, i, hi => by
    simp only [gids, List.mem_cons, not_or] at hi
    simp only [setO]; rw [setO_other g _ _ _ i hi.2, List.getElem?_set_ne (Ne.symm hi.1)]
  | .row id ks :: g, y, b, h, i, hi => by
    simp only [gids, List.mem_cons, List.mem_append, not_or] at hi
    simp only [setO]; rw [setO_other g _ _ _ i hi.2.2, setOwn_other _ _ _ _ _ hi.2.1, List.getElem?_set_ne (Ne.symm hi.1)]
theorem sigK_len : ∀ (ks : List CK) (r r' : List V) (σ : List Nat), (sigK ks r r' σ).length = σ.length
  | [], _, _, _ => rfl
  | _ :: _, [], _, _ => by unfold sigK; split <;> first | rfl | simp_all
  | _ :: _, _ :: _, [], _ => by unfold sigK; split <;> first | rfl | simp_all
  | .same :: ks, _ :: r, _ :: r', σ => sigK_len ks r r' σ
  | .val _ :: ks, _ :: r, _ :: r', σ => sigK_len ks r r' σ
  | .osf _ :: ks, _ :: r, _ :: r', σ => sigK_len ks r r' σ
  | .own _ _ :: ks, c :: r, c' :: r', σ => (sigK_len ks r r' (σ.set (idC c) (idC c'))).trans (by simp)
  | .ows _ _ :: ks, c :: r, c' :: r', σ => (sigK_len ks r r' (σ.set (idC c) (idC c'))).trans (by simp)
theorem sig_len : ∀ (g : List GK) (b b' : Bs) (σ : List Nat), (sig g b b' σ).length = σ.length
  | [], _, _, _ => rfl
  | .sl _ _ :: g, b, b', σ => by simp only [sig]; exact sig_len g _ _ _
  | .lst _ _ _ :: g, b, b', σ => by simp only [sig]; rw [sig_len g]; simp
  | .nls _ _ _ :: g, b, b', σ => by simp only [sig]; rw [sig_len g]; simp
  | .ob _ _ _ :: g, b, b', σ => by simp only [sig]; exact sig_len g _ _ _
  | .ar _ _ _ :: g, b, b', σ => by simp only [sig]; exact sig_len g _ _ _
  | .op _ _ _ :: g, b, b', σ => by simp only [sig]; exact sig_len g _ _ _
  | .row _ _ :: g, b, b', σ => by simp only [sig]; rw [sig_len g, sigK_len]

theorem joined {a b : List Ty} {x : Tup a} {y : Tup b} {z : Tup (appT a b)} (h : joinT a b x y = z) : splitT a b z = (x, y) := by rw [← h]; exact split_join a b x y

/-- A value that has come from a list under its new number. -/
theorem own_ren {σ : List Nat} {h' : List XO} {c' : V} {j id n : Nat} {t0 : Ty} {l0 : List t0.den} {t : Ty} {l : List t.den} {e' : TypeId} (hc : c' = .oL id n) (ho : h'[id]? = some (.opt t0 l0 e')) (hl : castL l0 = some l) (hd : allT (lensV h' c')) (hσ : σ[j]? = some id) : RenV σ c' (.oL j l.length) := by
  subst hc
  simp only [lensV, ho] at hd
  have hn : n = l0.length := of_decide_eq_true (hd _ (List.mem_singleton.2 rfl))
  rw [hn, (castL_rows hl).2.2]
  exact RenV.oL _ hσ

theorem own_renS {σ : List Nat} {h' : List XO} {c' : V} {j id n : Nat} {t0 : Ty} {l0 : List t0.den} {t : Ty} {l : List t.den} {e' : TypeId} (hc : c' = .sO id 0 n) (ho : h'[id]? = some (.tl t0 l0 e')) (hl : castL l0 = some l) (hd : allT (lensV h' c')) (hσ : σ[j]? = some id) : RenV σ c' (.sO j 0 l.length) := by
  subst hc
  simp only [lensV, ho] at hd
  have hn : n = l0.length := of_decide_eq_true (hd _ (List.mem_singleton.2 rfl))
  rw [hn, (castL_rows hl).2.2]
  exact RenV.sO 0 _ hσ
/-- The slots. -/
theorem slots_ok {σ : List Nat} {sl' : List V} {h' : List XO} {b : Bs} : ∀ (g : List GK) (y : Tup (gts g)) (l : List V), rdG g sl' h' = some y → allT (cdG h' sl' g) → sigOk σ b ⟨sl', h'⟩ g = true →
    (∀ (i : Nat) (x v : V), sl'[i]? = some x → l[i]? = some v → RenV σ x v) → ∀ (i : Nat) (x v : V), sl'[i]? = some x → (setS g y b l)[i]? = some v → RenV σ x v
  | [], _, _, _, _, _, hl => hl
  | .sl d t :: g, y, l, e, hc, hs, hl => by
    simp only [rdG] at e
    split at e
    · rename_i v hv
      split at e
      · rename_i a r ha hr
        injection e with e; subst e
        refine slots_ok g r _ hr hc hs (fun i x v' h1 h2 => ?_)
        rw [List.getElem?_set] at h2
        split at h2
        · rename_i q; subst q
          split at h2
          · injection h2 with h2; subst h2
            rw [hv] at h1; injection h1 with h1; subst h1
            exact RenV.val ha
          · cases h2
        · exact hl i x v' h1 h2
      · cases e
    · cases e
  | .lst d t el :: g, y, l, e, hc, hs, hl => by
    simp only [rdG] at e
    split at e
    · rename_i id n hv
      split at e
      · rename_i t0 l0 e' ho
        split at e
        · split at e
          · rename_i l1 r hl1 hr
            injection e with e; subst e
            simp only [sigOk, Bool.and_eq_true] at hs
            have hi : idAt ⟨sl', h'⟩ d = id := by simp [idAt, hv, idC]
            have hσ : σ[idAt b d]? = some id := by have := hs.1; rw [hi] at this; simpa using this
            refine slots_ok g r _ hr (fun c q => hc c (by simp [cdG, q])) hs.2 (fun i x v' h1 h2 => ?_)
            rw [List.getElem?_set] at h2
            split at h2
            · rename_i q; subst q
              split at h2
              · injection h2 with h2; subst h2
                rw [hv] at h1; injection h1 with h1; subst h1
                exact own_ren rfl ho hl1 (fun c q => hc c (by simp only [cdG, hv, List.mem_append]; exact .inl q)) hσ
              · cases h2
            · exact hl i x v' h1 h2
          · cases e
        · cases e
      · cases e
    · cases e
  | .nls d t el :: g, y, l, e, hc, hs, hl => by
    simp only [rdG] at e
    split at e
    · rename_i id n hv
      split at e
      · rename_i t0 l0 e' ho
        split at e
        · split at e
          · rename_i l1 r hl1 hr
            injection e with e; subst e
            simp only [sigOk, Bool.and_eq_true] at hs
            have hi : idAt ⟨sl', h'⟩ d = id := by simp [idAt, hv, idC]
            have hσ : σ[idAt b d]? = some id := by have := hs.1; rw [hi] at this; simpa using this
            refine slots_ok g r _ hr (fun c q => hc c (by simp [cdG, q])) hs.2 (fun i x v' h1 h2 => ?_)
            rw [List.getElem?_set] at h2
            split at h2
            · rename_i q; subst q
              split at h2
              · injection h2 with h2; subst h2
                rw [hv] at h1; injection h1 with h1; subst h1
                exact own_renS rfl ho hl1 (fun c q => hc c (by simp only [cdG, hv, List.mem_append]; exact .inl q)) hσ
              · cases h2
            · exact hl i x v' h1 h2
          · cases e
        · cases e
      · cases e
    · cases e
  | .ob id t el :: g, y, l, e, hc, hs, hl => by
    simp only [rdG] at e
    repeat' split at e
    all_goals first | (cases e; done) | skip
    rename_i hr
    injection e with e; subst e
    simp only [sigOk, Bool.and_eq_true] at hs
    exact slots_ok g _ _ hr hc hs.2 hl
  | .ar id t el :: g, y, l, e, hc, hs, hl => by
    simp only [rdG] at e
    repeat' split at e
    all_goals first | (cases e; done) | skip
    rename_i hr
    injection e with e; subst e
    simp only [sigOk, Bool.and_eq_true] at hs
    exact slots_ok g _ _ hr hc hs.2 hl
  | .op id t el :: g, y, l, e, hc, hs, hl => by
    simp only [rdG] at e
    repeat' split at e
    all_goals first | (cases e; done) | skip
    rename_i hr
    injection e with e; subst e
    simp only [sigOk, Bool.and_eq_true] at hs
    exact slots_ok g _ _ hr hc hs.2 hl
  | .row id ks :: g, y, l, e, hc, hs, hl => by
    simp only [rdG] at e
    split at e
    · rename_i c q hk hr
      injection e with e
      simp only [sigOk, Bool.and_eq_true] at hs
      simp only [setS, joined e]
      exact slots_ok g q l hr (fun c q => hc c (by simp [cdG, q])) hs.2.2.2.2 hl
    · cases e

def sameKs : (ks : List CK) → List V → List V → Prop
  | .same :: ks, c' :: r', c :: r => c' = c ∧ sameKs ks r' r
  | .val _ :: ks, _ :: r', _ :: r => sameKs ks r' r
  | .own _ _ :: ks, _ :: r', _ :: r => sameKs ks r' r
  | .ows _ _ :: ks, _ :: r', _ :: r => sameKs ks r' r
  | .osf _ :: ks, _ :: r', _ :: r => sameKs ks r' r
  | _, _, _ => True
theorem sameK_spec : ∀ (ks : List CK) (r' r : List V) (A : Prop), sameK ks r' r A → sameKs ks r' r ∧ A
  | [], _, _, _, h => ⟨trivial, h⟩
  | .same :: _, [], _, _, h => h.elim
  | .same :: _, _ :: _, [], _, h => h.elim
  | .val _ :: _, [], _, _, h => h.elim
  | .val _ :: _, _ :: _, [], _, h => h.elim
  | .own _ _ :: _, [], _, _, h => h.elim
  | .ows _ _ :: _, [], _, _, h => h.elim
  | .osf _ :: _, [], _, _, h => h.elim
  | .osf _ :: _, _ :: _, [], _, h => h.elim
  | .own _ _ :: _, _ :: _, [], _, h => h.elim
  | .ows _ _ :: _, _ :: _, [], _, h => h.elim
  | .same :: ks, _ :: r', _ :: r, A, h => by
    obtain ⟨h1, h2⟩ := sameK_spec ks r' r A h.2
    exact ⟨⟨h.1, h1⟩, h2⟩
  | .val _ :: ks, _ :: r', _ :: r, A, h => sameK_spec ks r' r A h
  | .own _ _ :: ks, _ :: r', _ :: r, A, h => sameK_spec ks r' r A h
  | .ows _ _ :: ks, _ :: r', _ :: r, A, h => sameK_spec ks r' r A h
  | .osf _ :: ks, _ :: r', _ :: r, A, h => sameK_spec ks r' r A h
def sameGs (b b' : Bs) : List GK → Prop
  | [] => True
  | .row id ks :: g => sameKs ks (rowB b' id) (rowB b id) ∧ sameGs b b' g
  | .sl _ _ :: g => sameGs b b' g
  | .lst _ _ _ :: g => sameGs b b' g
  | .nls _ _ _ :: g => sameGs b b' g
  | .ob _ _ _ :: g => sameGs b b' g
  | .ar _ _ _ :: g => sameGs b b' g
  | .op _ _ _ :: g => sameGs b b' g
theorem sameG_spec {b b' : Bs} : ∀ (g : List GK) (A : Prop), sameG b b' g A → sameGs b b' g ∧ A
  | [], _, h => ⟨trivial, h⟩
  | .row id ks :: g, A, h => by
    obtain ⟨h1, h2⟩ := sameK_spec ks _ _ _ h
    obtain ⟨h3, h4⟩ := sameG_spec g A h2
    exact ⟨⟨h1, h3⟩, h4⟩
  | .sl _ _ :: g, A, h => sameG_spec g A h
  | .lst _ _ _ :: g, A, h => sameG_spec g A h
  | .nls _ _ _ :: g, A, h => sameG_spec g A h
  | .ob _ _ _ :: g, A, h => sameG_spec g A h
  | .ar _ _ _ :: g, A, h => sameG_spec g A h
  | .op _ _ _ :: g, A, h => sameG_spec g A h
theorem rdSelf_ren {σ : List Nat} {k : Nat} {c : V} {a : Bool} (h : rdSelf k c = some a) (hσ : σ[k]? = some k) : RenV σ c (selfV k a) := by
  unfold rdSelf at h
  split at h
  · injection h with h; subst h; exact RenV.tree (LE.refl _) (.v _)
  · split at h
    · rename_i q
      have q := Nat.eq_of_beq_eq_true q
      injection h with h; subst h q
      exact RenV.pO 0 0 hσ
    · cases h
  · cases h
/-- The cells of an object. -/
theorem row_ren {σ : List Nat} {h' : List XO} : ∀ (ks : List CK) (c : Tup (ckTys ks)) (r r' : List V), rdK ks r' h' = some c → allT (cdK ks r' h') → sameKs ks r' r → sigOkK σ ks r r' = true → fixK σ ks r = true → Pairs (RenV σ) r' (mkRow ks c r)
  | [], _, [], [], _, _, _, _, _ => ⟨rfl, fun i x y h => by simp at h⟩
  | [], _, _ :: _, _, _, _, _, _, hf => by simp [fixK] at hf
  | [], _, [], _ :: _, e, _, _, _, _ => by simp [rdK] at e
  | _ :: _, _, [], _, _, _, _, _, hf => by unfold fixK at hf; split at hf <;> first | (cases hf; done) | simp_all
  | .same :: _, _, _ :: _, [], e, _, _, _, _ => by simp [rdK] at e
  | .val _ :: _, _, _ :: _, [], e, _, _, _, _ => by simp [rdK] at e
  | .own _ _ :: _, _, _ :: _, [], e, _, _, _, _ => by simp [rdK] at e
  | .ows _ _ :: _, _, _ :: _, [], e, _, _, _, _ => by simp [rdK] at e
  | .osf _ :: _, _, _ :: _, [], e, _, _, _, _ => by simp [rdK] at e
  | .same :: ks, c, x :: r, x' :: r', e, hc, hsm, hs, hf => by
    simp only [fixK, Bool.and_eq_true] at hf
    obtain ⟨q1, q2⟩ := row_ren ks c r r' e hc hsm.2 hs hf.2
    have hx := hsm.1
    refine ⟨by simp [mkRow, q1], fun i a b ha hb => ?_⟩
    cases i with
    | zero => simp [mkRow] at ha hb; rw [← ha, ← hb, hx]; exact fixV_ok hf.1
    | succ i => exact q2 i a b (by simpa using ha) (by simpa [mkRow] using hb)
  | .val t :: ks, c, x :: r, x' :: r', e, hc, hsm, hs, hf => by
    simp only [fixK, Bool.and_eq_true] at hf
    simp only [rdK] at e
    split at e
    · rename_i a q ha hq
      injection e with e; subst e
      obtain ⟨q1, q2⟩ := row_ren ks q r r' hq hc hsm hs hf.2
      refine ⟨by simp [mkRow, q1], fun i u v hu hv => ?_⟩
      cases i with
      | zero =>
        simp [mkRow] at hu hv; rw [← hu, ← hv]
        refine RenV.val ?_
        cases t with
        | pair _ _ => simp at hf
        | _ => exact ha
      | succ i => exact q2 i u v (by simpa using hu) (by simpa [mkRow] using hv)
    · cases e
  | .osf k :: ks, c, x :: r, x' :: r', e, hc, hsm, hs, hf => by
    simp only [fixK, Bool.and_eq_true] at hf
    simp only [rdK] at e
    split at e
    · rename_i a q ha hq
      injection e with e; subst e
      obtain ⟨q1, q2⟩ := row_ren ks q r r' hq hc hsm hs hf.2
      refine ⟨by simp [mkRow, q1], fun i u v hu hv => ?_⟩
      cases i with
      | zero =>
        simp [mkRow] at hu hv; rw [← hu, ← hv]
        exact rdSelf_ren ha (by simpa [fixI] using hf.1)
      | succ i => exact q2 i u v (by simpa using hu) (by simpa [mkRow] using hv)
    · cases e
  | .own t el :: ks, c, x :: r, x' :: r', e, hc, hsm, hs, hf => by
    simp only [fixK] at hf
    simp only [rdK] at e
    split at e
    · rename_i id n
      split at e
      · rename_i t0 l0 e' ho
        split at e
        · split at e
          · rename_i l1 q hl1 hq
            injection e with e; subst e
            simp only [sigOkK, Bool.and_eq_true] at hs
            obtain ⟨q1, q2⟩ := row_ren ks q r r' hq (fun c q => hc c (by simp [cdK, q])) hsm hs.2 hf
            refine ⟨by simp [mkRow, q1], fun i u v hu hv => ?_⟩
            cases i with
            | zero =>
              simp [mkRow] at hu hv; rw [← hu, ← hv]
              exact own_ren rfl ho hl1 (fun c q => hc c (by simp only [cdK, List.mem_append]; exact .inl q)) (by simpa [idC] using hs.1)
            | succ i => exact q2 i u v (by simpa using hu) (by simpa [mkRow] using hv)
          · cases e
        · cases e
      · cases e
    · cases e
  | .ows t el :: ks, c, x :: r, x' :: r', e, hc, hsm, hs, hf => by
    simp only [fixK] at hf
    simp only [rdK] at e
    split at e
    · rename_i id n
      split at e
      · rename_i t0 l0 e' ho
        split at e
        · split at e
          · rename_i l1 q hl1 hq
            injection e with e; subst e
            simp only [sigOkK, Bool.and_eq_true] at hs
            obtain ⟨q1, q2⟩ := row_ren ks q r r' hq (fun c q => hc c (by simp [cdK, q])) hsm hs.2 hf
            refine ⟨by simp [mkRow, q1], fun i u v hu hv => ?_⟩
            cases i with
            | zero =>
              simp [mkRow] at hu hv; rw [← hu, ← hv]
              exact own_renS rfl ho hl1 (fun c q => hc c (by simp only [cdK, List.mem_append]; exact .inl q)) (by simpa [idC] using hs.1)
            | succ i => exact q2 i u v (by simpa using hu) (by simpa [mkRow] using hv)
          · cases e
        · cases e
      · cases e
    · cases e
theorem owns_ok {σ : List Nat} {h' : List XO} : ∀ (ks : List CK) (c : Tup (ckTys ks)) (r r' : List V) (k : List XO) (G : List Nat), rdK ks r' h' = some c → sigOkK σ ks r r' = true → fixK σ ks r = true → k.length = σ.length →
    (∀ (j i : Nat), σ[j]? = some i → ¬ j ∈ G ++ ownIds ks r → ∃ x z, (dens h')[i]? = some x ∧ (dens k)[j]? = some z ∧ RenO σ x z) → ∀ (j i : Nat), σ[j]? = some i → ¬ j ∈ G → ∃ x z, (dens h')[i]? = some x ∧ (dens (setOwn ks c r k))[j]? = some z ∧ RenO σ x z
  | [], _, _, _, _, G, _, _, _, _, hk => fun j i h1 h2 => hk j i h1 (by simpa [ownIds] using h2)
  | _ :: _, _, [], _, _, _, _, _, hf, _, _ => by unfold fixK at hf; split at hf <;> first | (cases hf; done) | simp_all
  | .same :: _, _, _ :: _, [], _, _, e, _, _, _, _ => by simp [rdK] at e
  | .val _ :: _, _, _ :: _, [], _, _, e, _, _, _, _ => by simp [rdK] at e
  | .own _ _ :: _, _, _ :: _, [], _, _, e, _, _, _, _ => by simp [rdK] at e
  | .ows _ _ :: _, _, _ :: _, [], _, _, e, _, _, _, _ => by simp [rdK] at e
  | .osf _ :: _, _, _ :: _, [], _, _, e, _, _, _, _ => by simp [rdK] at e
  | .same :: ks, c, x :: r, x' :: r', k, G, e, hs, hf, hl, hk => by
    simp only [fixK, Bool.and_eq_true] at hf
    exact owns_ok ks c r r' k G e hs hf.2 hl hk
  | .val t :: ks, c, x :: r, x' :: r', k, G, e, hs, hf, hl, hk => by
    simp only [fixK, Bool.and_eq_true] at hf
    simp only [rdK] at e
    split at e
    · rename_i a q ha hq
      injection e with e; subst e
      exact owns_ok ks q r r' k G hq hs hf.2 hl hk
    · cases e
  | .osf _ :: ks, c, x :: r, x' :: r', k, G, e, hs, hf, hl, hk => by
    simp only [fixK, Bool.and_eq_true] at hf
    simp only [rdK] at e
    split at e
    · rename_i a q ha hq
      injection e with e; subst e
      exact owns_ok ks q r r' k G hq hs hf.2 hl hk
    · cases e
  | .own t el :: ks, c, x :: r, x' :: r', k, G, e, hs, hf, hl, hk => by
    simp only [fixK] at hf
    simp only [rdK] at e
    split at e
    · rename_i id n
      split at e
      · rename_i t0 l0 e' ho
        split at e
        · rename_i hee
          split at e
          · rename_i l1 q hl1 hq
            injection e with e; subst e
            simp only [sigOkK, Bool.and_eq_true] at hs
            have hσ : σ[idC x]? = some id := by simpa [idC] using hs.1
            refine owns_ok ks q r r' _ G hq hs.2 hf (by simpa using hl) (fun j i h1 h2 => ?_)
            by_cases qe : j = idC x
            · subst qe
              rw [hσ] at h1; injection h1 with h1; subst h1
              have hlt : idC x < k.length := by rw [hl]; exact get_lt hσ
              refine ⟨_, _, by rw [dens_get, ho]; rfl, by rw [dens_get, List.getElem?_set_self hlt]; rfl, ?_⟩
              have : (XO.opt t0 l0 e').den = (XO.opt t l1 el).den := by
                obtain ⟨et, el1⟩ := castL_ty hl1
                subst et el1 hee; rfl
              rw [this]
              exact RenO.opt t l1 el
            · obtain ⟨x, z, g1, g2, g3⟩ := hk j i h1 (by simp only [ownIds, List.mem_append, List.mem_cons, not_or] at h2 ⊢; exact ⟨h2.1, qe, h2.2⟩)
              exact ⟨x, z, g1, by rw [dens_set, List.getElem?_set_ne (Ne.symm qe)]; exact g2, g3⟩
          · cases e
        · cases e
      · cases e
    · cases e
  | .ows t el :: ks, c, x :: r, x' :: r', k, G, e, hs, hf, hl, hk => by
    simp only [fixK] at hf
    simp only [rdK] at e
    split at e
    · rename_i id n
      split at e
      · rename_i t0 l0 e' ho
        split at e
        · rename_i hee
          split at e
          · rename_i l1 q hl1 hq
            injection e with e; subst e
            simp only [sigOkK, Bool.and_eq_true] at hs
            have hσ : σ[idC x]? = some id := by simpa [idC] using hs.1
            refine owns_ok ks q r r' _ G hq hs.2 hf (by simpa using hl) (fun j i h1 h2 => ?_)
            by_cases qe : j = idC x
            · subst qe
              rw [hσ] at h1; injection h1 with h1; subst h1
              have hlt : idC x < k.length := by rw [hl]; exact get_lt hσ
              refine ⟨_, _, by rw [dens_get, ho]; rfl, by rw [dens_get, List.getElem?_set_self hlt]; rfl, ?_⟩
              have : (XO.tl t0 l0 e').den = (XO.tl t l1 el).den := by
                obtain ⟨et, el1⟩ := castL_ty hl1
                subst et el1 hee; rfl
              rw [this]
              exact RenO.typed t l1 el
            · obtain ⟨x, z, g1, g2, g3⟩ := hk j i h1 (by simp only [ownIds, List.mem_append, List.mem_cons, not_or] at h2 ⊢; exact ⟨h2.1, qe, h2.2⟩)
              exact ⟨x, z, g1, by rw [dens_set, List.getElem?_set_ne (Ne.symm qe)]; exact g2, g3⟩
          · cases e
        · cases e
      · cases e
    · cases e

theorem isObj_spec {b : Bs} {id : Nat} {s : Nat} {e : El} (h : isObj b id = some (s, e)) : ∃ r, b.h[id]? = some (.raw (.live ⟨s, [r], e⟩)) ∧ rowB b id = r := by
  unfold isObj at h
  split at h
  · rename_i o ho
    split at h
    · rename_i r hr
      injection h with h; injection h with h1 h2; subst h1 h2
      refine ⟨r, by rw [ho, ← hr], by simp [rowB, ho, hr]⟩
    · cases h
  · cases h

/-- The objects. -/
theorem objs_ok {σ : List Nat} {sl' : List V} {h' : List XO} {b : Bs} : ∀ (g : List GK) (y : Tup (gts g)) (k : List XO) (G : List Nat), rdG g sl' h' = some y → allT (cdG h' sl' g) → sameGs b ⟨sl', h'⟩ g → sigOk σ b ⟨sl', h'⟩ g = true → k.length = σ.length →
    (∀ (j i : Nat), σ[j]? = some i → ¬ j ∈ G ++ gids b g → ∃ x z, (dens h')[i]? = some x ∧ (dens k)[j]? = some z ∧ RenO σ x z) → ∀ (j i : Nat), σ[j]? = some i → ¬ j ∈ G → ∃ x z, (dens h')[i]? = some x ∧ (dens (setO g y b k))[j]? = some z ∧ RenO σ x z
  | [], _, _, G, _, _, _, _, _, hk => fun j i h1 h2 => hk j i h1 (by simpa [gids] using h2)
  | .sl d t :: g, y, k, G, e, hc, hsm, hs, hl, hk => by
    simp only [rdG] at e
    repeat' split at e
    all_goals first | (cases e; done) | skip
    rename_i hr
    injection e with e; subst e
    exact objs_ok g _ k G hr hc hsm hs hl hk
  | .lst d t el :: g, y, k, G, e, hc, hsm, hs, hl, hk => by
    simp only [rdG] at e
    split at e
    · rename_i id n hv
      split at e
      · rename_i t0 l0 e' ho
        split at e
        · rename_i hee
          split at e
          · rename_i l1 r hl1 hr
            injection e with e; subst e
            simp only [sigOk, Bool.and_eq_true] at hs
            have hi : idAt ⟨sl', h'⟩ d = id := by simp [idAt, hv, idC]
            have hσ : σ[idAt b d]? = some id := by have := hs.1; rw [hi] at this; simpa using this
            refine objs_ok g r _ G hr (fun c q => hc c (by simp [cdG, q])) hsm hs.2 (by simpa using hl) (fun j i h1 h2 => ?_)
            by_cases q : j = idAt b d
            · subst q
              rw [hσ] at h1; injection h1 with h1; subst h1
              have hlt : idAt b d < k.length := by rw [hl]; exact get_lt hσ
              refine ⟨_, _, by rw [dens_get, ho]; rfl, by rw [dens_get, List.getElem?_set_self hlt]; rfl, ?_⟩
              have : (XO.opt t0 l0 e').den = (XO.opt t l1 el).den := by
                obtain ⟨et, el1⟩ := castL_ty hl1
                subst et el1 hee; rfl
              rw [this]
              exact RenO.opt t l1 el
            · obtain ⟨x, z, g1, g2, g3⟩ := hk j i h1 (by simp only [gids, List.mem_append, List.mem_cons, not_or] at h2 ⊢; exact ⟨h2.1, q, h2.2⟩)
              exact ⟨x, z, g1, by rw [dens_set, List.getElem?_set_ne (Ne.symm q)]; exact g2, g3⟩
          · cases e
        · cases e
      · cases e
    · cases e
  | .nls d t el :: g, y, k, G, e, hc, hsm, hs, hl, hk => by
    simp only [rdG] at e
    split at e
    · rename_i id n hv
      split at e
      · rename_i t0 l0 e' ho
        split at e
        · rename_i hee
          split at e
          · rename_i l1 r hl1 hr
            injection e with e; subst e
            simp only [sigOk, Bool.and_eq_true] at hs
            have hi : idAt ⟨sl', h'⟩ d = id := by simp [idAt, hv, idC]
            have hσ : σ[idAt b d]? = some id := by have := hs.1; rw [hi] at this; simpa using this
            refine objs_ok g r _ G hr (fun c q => hc c (by simp [cdG, q])) hsm hs.2 (by simpa using hl) (fun j i h1 h2 => ?_)
            by_cases q : j = idAt b d
            · subst q
              rw [hσ] at h1; injection h1 with h1; subst h1
              have hlt : idAt b d < k.length := by rw [hl]; exact get_lt hσ
              refine ⟨_, _, by rw [dens_get, ho]; rfl, by rw [dens_get, List.getElem?_set_self hlt]; rfl, ?_⟩
              have : (XO.tl t0 l0 e').den = (XO.tl t l1 el).den := by
                obtain ⟨et, el1⟩ := castL_ty hl1
                subst et el1 hee; rfl
              rw [this]
              exact RenO.typed t l1 el
            · obtain ⟨x, z, g1, g2, g3⟩ := hk j i h1 (by simp only [gids, List.mem_append, List.mem_cons, not_or] at h2 ⊢; exact ⟨h2.1, q, h2.2⟩)
              exact ⟨x, z, g1, by rw [dens_set, List.getElem?_set_ne (Ne.symm q)]; exact g2, g3⟩
          · cases e
        · cases e
      · cases e
    · cases e
  | .ob id t el :: g, y, k, G, e, hc, hsm, hs, hl, hk => by
    simp only [rdG] at e
    split at e
    · rename_i xo ho
      split at e
      · rename_i a q ha hr
        injection e with e; subst e
        simp only [sigOk, Bool.and_eq_true] at hs
        have hσ : σ[id]? = some id := by simpa using hs.1
        obtain ⟨o, o1, o2, o3, o4, o5⟩ := rdOb_ok ha
        refine objs_ok g q _ G hr hc hsm hs.2 (by simpa using hl) (fun j i h1 h2 => ?_)
        by_cases qe : j = id
        · subst qe
          rw [hσ] at h1; injection h1 with h1; subst h1
          have hlt : j < k.length := by rw [hl]; exact get_lt hσ
          refine ⟨_, _, by rw [dens_get, ho]; rfl, by rw [dens_get, List.getElem?_set_self hlt]; rfl, by simp [XO.den], fun o' ho' => ?_⟩
          simp only [XO.den] at ho'
          injection ho' with ho'; subst ho'
          refine ⟨o, o1, ⟨o2, o3, o4, fun m r1 r2 h3 h4 => ?_⟩⟩
          obtain ⟨u1, u2⟩ := o5 m r1 r2 h3 h4
          refine ⟨u1, fun p c c' hc hc' => RenV.tree (u2 p c c' hc hc') ?_⟩
          exact t.nir 0 [a] r2 (get_mem h4) c' (get_mem hc')
        · obtain ⟨x, z, g1, g2, g3⟩ := hk j i h1 (by simp only [gids, List.mem_append, List.mem_cons, not_or] at h2 ⊢; exact ⟨h2.1, qe, h2.2⟩)
          exact ⟨x, z, g1, by rw [dens_set, List.getElem?_set_ne (Ne.symm qe)]; exact g2, g3⟩
      · cases e
    · cases e
  | .ar id t el :: g, y, k, G, e, hc, hsm, hs, hl, hk => by
    simp only [rdG] at e
    split at e
    · rename_i t0 l0 e' ho
      split at e
      · rename_i hee
        split at e
        · rename_i l1 r hl1 hr
          injection e with e; subst e
          simp only [sigOk, Bool.and_eq_true] at hs
          have hσ : σ[id]? = some id := by simpa using hs.1
          refine objs_ok g r _ G hr hc hsm hs.2 (by simpa using hl) (fun j i h1 h2 => ?_)
          by_cases qe : j = id
          · subst qe
            rw [hσ] at h1; injection h1 with h1; subst h1
            have hlt : j < k.length := by rw [hl]; exact get_lt hσ
            refine ⟨_, _, by rw [dens_get, ho]; rfl, by rw [dens_get, List.getElem?_set_self hlt]; rfl, ?_⟩
            have : (XO.tl t0 l0 e').den = (XO.tl t l1 el).den := by
              obtain ⟨et, el1⟩ := castL_ty hl1
              subst et el1 hee; rfl
            rw [this]
            exact RenO.typed t l1 el
          · obtain ⟨x, z, g1, g2, g3⟩ := hk j i h1 (by simp only [gids, List.mem_append, List.mem_cons, not_or] at h2 ⊢; exact ⟨h2.1, qe, h2.2⟩)
            exact ⟨x, z, g1, by rw [dens_set, List.getElem?_set_ne (Ne.symm qe)]; exact g2, g3⟩
        · cases e
      · cases e
    · cases e
  | .op id t el :: g, y, k, G, e, hc, hsm, hs, hl, hk => by
    simp only [rdG] at e
    split at e
    · rename_i t0 l0 e' ho
      split at e
      · rename_i hee
        split at e
        · rename_i l1 r hl1 hr
          injection e with e; subst e
          simp only [sigOk, Bool.and_eq_true] at hs
          have hσ : σ[id]? = some id := by simpa using hs.1
          refine objs_ok g r _ G hr hc hsm hs.2 (by simpa using hl) (fun j i h1 h2 => ?_)
          by_cases qe : j = id
          · subst qe
            rw [hσ] at h1; injection h1 with h1; subst h1
            have hlt : j < k.length := by rw [hl]; exact get_lt hσ
            refine ⟨_, _, by rw [dens_get, ho]; rfl, by rw [dens_get, List.getElem?_set_self hlt]; rfl, ?_⟩
            have : (XO.opt t0 l0 e').den = (XO.opt t l1 el).den := by
              obtain ⟨et, el1⟩ := castL_ty hl1
              subst et el1 hee; rfl
            rw [this]
            exact RenO.opt t l1 el
          · obtain ⟨x, z, g1, g2, g3⟩ := hk j i h1 (by simp only [gids, List.mem_append, List.mem_cons, not_or] at h2 ⊢; exact ⟨h2.1, qe, h2.2⟩)
            exact ⟨x, z, g1, by rw [dens_set, List.getElem?_set_ne (Ne.symm qe)]; exact g2, g3⟩
        · cases e
      · cases e
    · cases e
  | .row id ks :: g, y, k, G, e, hc, hsm, hs, hl, hk => by
    simp only [rdG] at e
    split at e
    · rename_i c q hrk hr
      injection e with e
      simp only [sigOk, Bool.and_eq_true] at hs
      obtain ⟨s1, s2, s3, s4, s5⟩ := hs
      have hσ : σ[id]? = some id := by simpa using s1
      simp only [setO, joined e]
      refine objs_ok g q _ G hr (fun c q => hc c (by simp [cdG, q])) hsm.2 s5 (by rw [setOwn_len]; simpa using hl) (fun j i h1 h2 => ?_)
      refine owns_ok ks c (rowB b id) (rowB ⟨sl', h'⟩ id) _ (G ++ gids b g) hrk s2 s3 (by simpa using hl) (fun j i h1 h2 => ?_) j i h1 h2
      by_cases qe : j = id
      · subst qe
        rw [hσ] at h1; injection h1 with h1; subst h1
        have hlt : j < k.length := by rw [hl]; exact get_lt hσ
        simp only [sameObj] at s4
        split at s4
        · rename_i sz el sz' el' h3 h4
          simp only [Bool.and_eq_true] at s4
          have q1 := Nat.eq_of_beq_eq_true s4.1
          have q2 := Nat.eq_of_beq_eq_true s4.2.1
          have q3 := Nat.eq_of_beq_eq_true s4.2.2
          subst q1
          have q2 : el = el' := by
            obtain ⟨a, b⟩ := el
            obtain ⟨a', b'⟩ := el'
            have q2 : a = a' := q2
            have q3 : b = b' := q3
            rw [q2, q3]
          subst q2
          obtain ⟨r, u1, u2⟩ := isObj_spec h3
          obtain ⟨r', v1, v2⟩ := isObj_spec h4
          have v1 : h'[j]? = some (.raw (.live ⟨sz, [r'], el⟩)) := v1
          refine ⟨_, _, by rw [dens_get, v1]; rfl, by rw [dens_get, List.getElem?_set_self hlt]; rfl, ?_⟩
          simp only [reRow, u1, XO.den]
          refine ⟨by simp, fun o' ho' => ?_⟩
          injection ho' with ho'; subst ho'
          refine ⟨_, rfl, ⟨rfl, rfl, rfl, fun m r1 r2 h3 h4 => ?_⟩⟩
          cases m with
          | zero =>
            simp at h3 h4; subst h3 h4
            rw [← v2]
            exact row_ren ks c _ _ hrk (fun c q => hc c (by simp [cdG, q])) hsm.1 s2 s3
          | succ m => simp at h3
        · cases s4
      · obtain ⟨x, z, g1, g2, g3⟩ := hk j i h1 (by simp only [gids, List.mem_append, List.mem_cons, not_or] at h2 ⊢; exact ⟨h2.1.1, qe, h2.2, h2.1.2⟩)
        exact ⟨x, z, g1, by rw [dens_set, List.getElem?_set_ne (Ne.symm qe)]; exact g2, g3⟩
    · cases e

theorem arrive_ok {n0 : Nat} {W : List Nat} {g : List GK} {s1 s' : Y} {k : Tup (gts g) → Prop} (hn : Near W (gids s1.bs g) s1 s') (h : arrive n0 W g s1 s' k) :
    ∃ σ y, CutR n0 σ s'.den ⟨setS g y s1.bs (baseS W s1.sl), dens (setO g y s1.bs s1.h)⟩ ∧ k y ∧ (∀ d, d ∈ gslots g → d ∈ W) := by
  unfold arrive at h
  split at h
  · rename_i y hy
    obtain ⟨hcd, h⟩ := needs_spec h
    obtain ⟨hsm, ⟨hok⟩, hk⟩ := sameG_spec g _ h
    simp only [okG, Bool.and_eq_true] at hok
    obtain ⟨⟨⟨⟨⟨⟨⟨o1, o2⟩, o3⟩, o4⟩, o5⟩, o6⟩, o7⟩, o8⟩ := hok
    generalize hσ : sig g s1.bs s'.bs (List.range s1.h.length) = σ at o1 o2 o3 o4 o5 o6
    have hlen : σ.length = s1.h.length := by rw [← hσ, sig_len]; simp
    have hW : ∀ d, d ∈ gslots g → d ∈ W := fun d hd => by simpa using List.all_eq_true.1 o8 d hd
    refine ⟨σ, y, ⟨by rw [hlen, dens_len, setO_len], identB_ok o2, nodupB_ok o1, ⟨?_, ?_⟩, ?_⟩, hk, hW⟩
    · simp only [Y.den, setS_len, baseS_len]; exact hn.len
    · simp only [Y.den]
      refine slots_ok g y _ hy hcd o4 (fun i x v h1 h2 => ?_)
      rcases baseS_get _ _ _ _ h2 with q | ⟨q1, q2⟩
      · subst q; exact RenV.any _ _
      · rw [hn.sl i q1, q2] at h1; injection h1 with h1; subst h1
        exact fixV_ok (List.all_eq_true.1 o5 _ (get_mem h2))
    · simp only [Y.den]
      intro j i hj
      refine objs_ok g y s1.h [] hy hcd hsm o4 hlen.symm (fun j i h1 h2 => ?_) j i hj (by simp)
      have hlt : j < s1.h.length := by rw [← hlen]; exact get_lt h1
      have h2' : ¬ j ∈ gids s1.bs g := by simpa using h2
      obtain ⟨r1, r2⟩ := fixH_ok o6 j s1.h[j] (List.getElem?_eq_getElem hlt) (by simpa using h2')
      rw [Nat.zero_add] at r2
      rw [r2] at h1; injection h1 with h1; subst h1
      have ht : ¬ j ∈ s'.tch := by
        intro q
        have := List.all_eq_true.1 o7 j q
        simp only [Bool.or_eq_true, List.contains_eq_mem, decide_eq_true_eq, Nat.ble_eq] at this
        rcases this with q | q
        · exact h2' q
        · omega
      have he := hn.h j hlt h2' ht
      rw [List.getElem?_eq_getElem hlt] at he
      exact ⟨_, _, by rw [dens_get, he]; rfl, by rw [dens_get, List.getElem?_eq_getElem hlt]; rfl, r1⟩
  · exact h.elim

end Go.Abs
