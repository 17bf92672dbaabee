/- Contracts by the walk. -/
import Derived.Test.YtpjgjkoajoiopaaAbsZb
namespace Go.Abs
set_option linter.unusedVariables false

theorem Tup.ni (n : Nat) : ∀ (ps : List Ty) (x : Tup ps), NIs n (vals ps x)
  | [], _ => fun _ h => by cases h
  | t :: ts, x => fun v h => by
    rcases List.mem_cons.1 h with q | q
    · subst q; exact t.ni_val n x.1
    · exact Tup.ni n ts x.2 v q

theorem Tup.len : ∀ (ps : List Ty) (x : Tup ps), (vals ps x).length = ps.length
  | [], _ => rfl
  | t :: ts, x => by simp only [vals, List.length_cons, Tup.len ts x.2]

/-- Where a function returns. -/
def fin (P : Program) (rs : List ResultVar) (lo : Nat) (r : RV) (k : List XO → Prop) (e : Exit) (s : Y) : Prop :=
  match s with
  | ⟨sl, h, _, _⟩ => match e with
    | .normal => (match ares P rs sl (dens h) with
      | some y => fV y fun y => cmpR h lo y (k h) r
      | none => False)
    | .ret => (match ares P rs sl (dens h) with
      | some y => fV y fun y => cmpR h lo y (k h) r
      | none => False)
    | _ => False
theorem fin_ok {P : Program} {rs : List ResultVar} {lo : Nat} {r : RV} {k : List XO → Prop} {e : Exit} {s : Y} (h : fin P rs lo r k e s) : (e = .normal ∨ e = .ret) ∧ ∃ y, ares P rs s.sl (dens s.h) = some y ∧ cmpR s.h lo y (k s.h) r := by
  obtain ⟨sl, hp, tch, an⟩ := s
  simp only [fin] at h
  split at h
  · split at h
    · rename_i y hy
      rw [fV_eq] at h
      exact ⟨.inl rfl, y, hy, h⟩
    · exact h.elim
  · split at h
    · rename_i y hy
      rw [fV_eq] at h
      exact ⟨.inr rfl, y, hy, h⟩
    · exact h.elim
  · exact h.elim

/-- Functions that are walked in place. -/
def inlN (P : Program) (T : Tbl) (fl : List (Nat × Nat × Nat)) (I : List Nat) : Nat → FuncId → List V → Y → (V → Y → Prop) → Prop
  | 0, _, _, _, _ => False
  | n + 1, f, args, s, K => match I.contains f with
    | true => (match P.funcs[f]? with
      | some fn => (match fn.body with
        | some c => (match s with
          | ⟨sl0, h, tch, an⟩ => fVs (args ++ List.replicate (fn.ntmps - args.length) (.v undef)) fun sl => fN h.length fun n0 => xcode ⟨P, T, n0, f, fl, inlN P T fl I n⟩ c ⟨sl, h, tch, an⟩ fun e s' => (match s' with
            | ⟨sl', h', tch', an'⟩ => match e with
              | .normal => (match ares P fn.results.toList sl' (dens h') with
                | some y => fV y fun y => K y ⟨sl0, h', tch', an⟩
                | none => False)
              | .ret => (match ares P fn.results.toList sl' (dens h') with
                | some y => fV y fun y => K y ⟨sl0, h', tch', an⟩
                | none => False)
              | _ => False))
        | none => False)
      | none => False)
    | false => False
theorem inlN_ok {P : Program} {T : Tbl} (hT : TblOk P T) (hM : P.follows .mixedOrders = true) (fl : List (Nat × Nat × Nat)) (I : List Nat) : ∀ (m n0 fid : Nat), InlOk ⟨P, T, n0, fid, fl, inlN P T fl I m⟩
  | 0, n0, fid => fun f args s K h => h.elim
  | m + 1, n0, fid => fun f args s K h => by
    simp only [inlN] at h
    split at h
    · split at h
      · rename_i fn hf
        split at h
        · rename_i c hb
          obtain ⟨sl0, hp, tch, an⟩ := s
          simp only at h
          rw [fVs_eq, fN_eq] at h
          refine PC.of_bodyV hf hb _ rfl (fun K0 hK => ?_)
          have hw := xcode_ok (E := ⟨P, T, hp.length, f, fl, inlN P T fl I m⟩) hT hM (inlN_ok hT hM fl I m _ _) c _ _ h
          rw [dens_len]
          refine PV.mono hw ?_
          rintro e st ⟨⟨sl', h', tch', an'⟩, rfl, h1, h2⟩
          simp only at h1
          split at h1
          · split at h1
            · rename_i y hy
              rw [fV_eq] at h1
              exact hK _ _ y (.inl rfl) hy ⟨⟨sl0, h', tch', an⟩, rfl, rfl, ⟨h2.fr.len, h2.fr.tch, h2.fr.h⟩, h1⟩
            · exact h1.elim
          · split at h1
            · rename_i y hy
              rw [fV_eq] at h1
              exact hK _ _ y (.inr rfl) hy ⟨⟨sl0, h', tch', an⟩, rfl, rfl, ⟨h2.fr.len, h2.fr.tch, h2.fr.h⟩, h1⟩
            · exact h1.elim
          · exact h1.elim
        · exact h.elim
      · exact h.elim
    · exact h.elim

/-- The contract of a function of trees. -/
theorem CtOk.fn {P : Program} {T : Tbl} {f : FuncId} {fn : Func} {c : Code} {ps : List Ty} {pre : Option (Cu ps Prop)} {res : Cu ps RV} (hT : TblOk P T) (hM : P.follows .mixedOrders = true) (fl : List (Nat × Nat × Nat)) (I : List Nat)
    (hf : P.funcs[f]? = some fn) (hb : fn.body = some c)
    (h : ∀ x : Tup ps, (∀ p, pre = some p → cu ps p x) → ∃ an : List (Nat × Nat × LA), fVs (vals ps x ++ List.replicate (fn.ntmps - ps.length) (.v undef)) fun sl => xcode ⟨P, T, 0, 0, fl, inlN P T fl I 4⟩ c ⟨sl, [], [], an⟩ (fin P fn.results.toList 0 (cu ps res x) fun _ => True)) : CtOk P f (.fn ps pre res) := by
  intro x hx
  have hlen := Tup.len ps x
  refine ⟨fun p hp => (by cases hp), fun k _ => ?_⟩
  refine PC.mono (PC.frame (x0 := (cu ps res x).val) (Tup.ni 0 ps x) ?_ k) (fun y k' ⟨h1, h2⟩ => ⟨h1, h2⟩)
  obtain ⟨an, hw⟩ := h x hx
  rw [fVs_eq] at hw
  refine PC.of_bodyV hf hb _ rfl (fun K hK => ?_)
  rw [hlen]
  have hw := xcode_ok (E := ⟨P, T, 0, 0, fl, inlN P T fl I 4⟩) hT hM (inlN_ok hT hM fl I 4 _ _) c _ _ hw
  refine PV.mono hw ?_
  rintro e st ⟨s', rfl, h1, _⟩
  obtain ⟨he, y, hy, hc⟩ := fin_ok h1
  exact hK e _ y he hy (cmpR_ok (τ := noTau) (fun _ _ => rfl) hc).1

/-- The contract of a method that only reads. -/
theorem CtOk.rd {P : Program} {T : Tbl} {f : FuncId} {fn : Func} {c : Code} {t : Ty} {ps : List Ty} {pre : Option (t.den → Cu ps Prop)} {res : t.den → Cu ps RV} (hT : TblOk P T) (hM : P.follows .mixedOrders = true) (fl : List (Nat × Nat × Nat)) (I : List Nat)
    (hf : P.funcs[f]? = some fn) (hb : fn.body = some c)
    (h : ∀ a (x : Tup ps), (∀ p, pre = some p → cu ps (p a) x) → ∃ an : List (Nat × Nat × LA), fVs (.pF (t.row a) 0 :: vals ps x ++ List.replicate (fn.ntmps - (1 + ps.length)) (.v undef)) fun sl => xcode ⟨P, T, 0, 0, fl, inlN P T fl I 4⟩ c ⟨sl, [], [], an⟩ (fin P fn.results.toList 0 (cu ps (res a) x) fun _ => True)) : CtOk P f (.rd t ps pre res) := by
  intro a x hx
  have hlen := Tup.len ps x
  refine ⟨fun p hp => (by cases hp), fun k _ => ?_⟩
  refine PC.mono (PC.frame (x0 := (cu ps (res a) x).val) (fun v hv => ?_) ?_ k) (fun y k' ⟨h1, h2⟩ => ⟨h1, h2⟩)
  · rcases List.mem_cons.1 hv with q | q
    · subst q; exact .pF 0 (t.nis 0 a [] (by intro _ h; cases h))
    · exact Tup.ni 0 ps x v q
  obtain ⟨an, hw⟩ := h a x hx
  rw [fVs_eq] at hw
  refine PC.of_bodyV hf hb _ rfl (fun K hK => ?_)
  have hl2 : (V.pF (t.row a) 0 :: vals ps x).length = 1 + ps.length := by simp [hlen]; omega
  rw [hl2]
  have hw := xcode_ok (E := ⟨P, T, 0, 0, fl, inlN P T fl I 4⟩) hT hM (inlN_ok hT hM fl I 4 _ _) c _ _ hw
  refine PV.mono hw ?_
  rintro e st ⟨s', rfl, h1, _⟩
  obtain ⟨he, y, hy, hc⟩ := fin_ok h1
  exact hK e _ y he hy (cmpR_ok (τ := noTau) (fun _ _ => rfl) hc).1

/-- The object that a method leaves. -/
def finO (t : Ty) (e : TypeId) (b : t.den) (h : List XO) : Prop := match h with
  | .raw s :: _ => (match s with
    | .live o => if o.sz = t.size ∧ o.elem = e then (match o.rows with
      | [r] => match un (rdH h 1) t r with
        | some (a, []) => needs (r.flatMap (lensV h)) (Leaf (a = b) ∧ True)
        | _ => False
      | _ => False) else False
    | _ => False)
  | .ob _ a e' :: _ => if e' = e then (match castD (t' := t) a with
    | some a => Leaf (a = b) ∧ True
    | _ => False) else False
  | _ => False
theorem finO_ok {t : Ty} {e : TypeId} {b : t.den} {h : List XO} {τ : Nat → Option Nat} (hτ : ∀ id, 1 ≤ id → τ id = none) (q : finO t e b h) : ∃ o, (dens h)[0]? = some (.live o) ∧ FrzO τ (dens h) o ⟨t.size, [t.row b], e⟩ := by
  unfold finO at q
  split at q
  · split at q
    · rename_i r _ o
      split at q
      · rename_i hsz
        split at q
        · rename_i r0 hr
          split at q
          · rename_i a ha
            obtain ⟨hc, ⟨rfl⟩, _⟩ := needs_spec q
            refine ⟨o, rfl, ⟨hsz.1.symm, hsz.2.symm, by rw [hr]; rfl, fun i r1 r2 h1 h2 => ?_⟩⟩
            rw [hr] at h1
            cases i with
            | zero =>
              simp at h1 h2; subst h1 h2
              obtain ⟨u1, u2⟩ := un_row (R := fun x y => allT (lensV (.raw (.live o) :: r) x) → Frz τ (dens (.raw (.live o) :: r)) x y) (fun x t l e hc => rdH_frz hτ e hc) (fun x _ => Frz.tree (.v x)) ha
              refine ⟨u1, fun j x y hx hy => u2 j x y hx hy fun c hc' => hc c (List.mem_flatMap.2 ⟨x, get_mem hx, hc'⟩)⟩
            | succ i => simp at h1
          · exact q.elim
        · exact q.elim
      · exact q.elim
    · exact q.elim
  · rename_i t0 l e' r
    split at q
    · rename_i he
      subst he
      split at q
      · rename_i a ha
        obtain ⟨⟨rfl⟩, _⟩ := q
        obtain ⟨et, el⟩ := castD_ty ha
        subst et; subst el
        exact ⟨_, rfl, FrzO.tree (Ty.nir 0 _ [_])⟩
      · exact q.elim
    · exact q.elim
  · exact q.elim

/-- The contract of a method. -/
theorem CtOk.meth {P : Program} {T : Tbl} {f : FuncId} {fn : Func} {c : Code} {t : Ty} {el : TypeId} {ps : List Ty} {pre : Option (t.den → Cu ps Prop)} {res : t.den → Cu ps RV} {post : t.den → Cu ps t.den} (hT : TblOk P T) (hM : P.follows .mixedOrders = true) (fl : List (Nat × Nat × Nat)) (I : List Nat)
    (hf : P.funcs[f]? = some fn) (hb : fn.body = some c)
    (h : ∀ a (x : Tup ps), (∀ p, pre = some p → cu ps (p a) x) → ∃ an : List (Nat × Nat × LA), fVs (.pO 0 0 0 :: vals ps x ++ List.replicate (fn.ntmps - (1 + ps.length)) (.v undef)) fun sl => fH [.ob t a el] fun h => xcode ⟨P, T, 1, 0, fl, inlN P T fl I 4⟩ c ⟨sl, h, [], an⟩
      (fin P fn.results.toList 1 (cu ps (res a) x) (finO t el (cu ps (post a) x)))) : CtOk P f (.meth t el ps pre res post) := by
  intro a x hx j
  have hlen := Tup.len ps x
  refine ⟨fun p hp => ?_, fun k hk => ?_⟩
  · simp at hp; subst hp; simp
  have hj : k[j]? = some (objT t el a) := hk (j, objT t el a) (by simp)
  have hup : ∀ id, 1 ≤ id → up [j] id = none := fun id hid => by simp [up]; omega
  have hrow : ∀ b : t.den, NIr 0 [t.row b] := fun b r hr => by simp at hr; subst hr; exact t.nis 0 b [] (by intro _ h; cases h)
  refine PC.mono (PC.lift (S := [j]) (h0 := [objT t el a]) (post := [⟨t.size, [t.row (cu ps (post a) x)], el⟩]) (args0 := .pO 0 0 0 :: vals ps x) (x0 := (cu ps (res a) x).val) (by simp) rfl rfl ?_ ?_ ?_) (fun y k' ⟨h1, h2⟩ => ⟨h1, h2⟩)
  · intro i id hi
    match i, hi with
    | 0, hi =>
      simp at hi; subst hi
      exact ⟨_, _, hj, rfl, FrzO.tree (hrow a)⟩
    | i + 1, hi => simp at hi
  · refine ⟨rfl, fun i v v' h1 h2 => ?_⟩
    match i, h1, h2 with
    | 0, h1, h2 =>
      simp at h1 h2; subst h1 h2
      intro w ι M ι₂ M₂ cv y r
      cases r with
      | pO _ _ _ l hl => exact .pO _ _ _ l (cv.keep j 0 l (by simp [down, List.idxOf?, List.findIdx?_cons]) hl)
    | i + 1, h1, h2 =>
      have h1 : (vals ps x)[i]? = some v := h1
      have h2 : (vals ps x)[i]? = some v' := h2
      rw [h1] at h2; injection h2 with h2; subst h2
      intro w ι M ι₂ M₂ cv y r
      exact Frz.tree (τ := down [j]) (h := []) (Tup.ni 0 ps x v (get_mem h1)) cv r
  · obtain ⟨an, hw⟩ := h a x hx
    rw [fVs_eq, fH_eq] at hw
    refine PC.of_bodyV hf hb _ rfl (fun K hK => ?_)
    have hl2 : (V.pO 0 0 0 :: vals ps x).length = 1 + ps.length := by simp [hlen]; omega
    rw [hl2]
    have hw := xcode_ok (E := ⟨P, T, 1, 0, fl, inlN P T fl I 4⟩) hT hM (inlN_ok hT hM fl I 4 _ _) c _ _ hw
    refine PV.mono hw ?_
    rintro e st ⟨s', rfl, h1, _⟩
    obtain ⟨he, y, hy, hc⟩ := fin_ok h1
    obtain ⟨hc, ho⟩ := cmpR_ok (lo := 1) hup hc
    refine hK e _ y he hy ⟨hc, fun i c hi => ?_⟩
    match i, hi with
    | 0, hi =>
      simp at hi; subst hi
      obtain ⟨o, o1, o2⟩ := finO_ok hup ho
      exact ⟨o, o1, o2⟩
    | i + 1, hi => simp at hi

/-- Where a function returns that makes an object. -/
def finN (P : Program) (rs : List ResultVar) (t : Ty) (el : TypeId) (b : t.den) (e : Exit) (s : Y) : Prop :=
  match s with
  | ⟨sl, h, _, _⟩ => match e with
    | .normal => False
    | .ret => (match ares P rs sl (dens h) with
      | some y => (match y with
        | .pO i 0 0 => match h[i]? with
          | some o => (match rdOb t el o with
            | some a => Leaf (a = b) ∧ True
            | none => False)
          | none => False
        | _ => False)
      | none => False)
    | _ => False
theorem finN_ok {P : Program} {rs : List ResultVar} {t : Ty} {el : TypeId} {b : t.den} {e : Exit} {s : Y} (h : finN P rs t el b e s) : (e = .normal ∨ e = .ret) ∧ ∃ i, ares P rs s.sl (dens s.h) = some (.pO i 0 0) ∧ ∃ o, s.h[i]? = some o ∧ rdOb t el o = some b := by
  obtain ⟨sl, hp, tch, an⟩ := s
  simp only [finN] at h
  split at h
  · exact h.elim
  · split at h
    · rename_i y hy
      split at h
      · rename_i i
        split at h
        · rename_i o ho
          split at h
          · rename_i a ha
            obtain ⟨⟨rfl⟩, _⟩ := h
            exact ⟨.inr rfl, i, hy, o, ho, ha⟩
          · exact h.elim
        · exact h.elim
      · exact h.elim
    · exact h.elim
  · exact h.elim
/-- The contract of a function that makes an object. -/
theorem CtOk.new {P : Program} {T : Tbl} {f : FuncId} {fn : Func} {c : Code} {t : Ty} {el : TypeId} {ps : List Ty} {pre : Option (Cu ps Prop)} {post : Cu ps t.den} (hT : TblOk P T) (hM : P.follows .mixedOrders = true) (fl : List (Nat × Nat × Nat)) (I : List Nat)
    (hf : P.funcs[f]? = some fn) (hb : fn.body = some c)
    (h : ∀ x : Tup ps, (∀ p, pre = some p → cu ps p x) → ∃ an : List (Nat × Nat × LA), fVs (vals ps x ++ List.replicate (fn.ntmps - ps.length) (.v undef)) fun sl => xcode ⟨P, T, 0, 0, fl, inlN P T fl I 4⟩ c ⟨sl, [], [], an⟩ (finN P fn.results.toList t el (cu ps post x))) : CtOk P f (.new t el ps pre post) := by
  intro x hx k new k' hh
  have hlen := Tup.len ps x
  refine PC.newObj (Tup.ni 0 ps x) (o := ⟨t.size, [t.row (cu ps post x)], el⟩) (t.nir 0 [cu ps post x]) ?_ hh
  obtain ⟨an, hw⟩ := h x hx
  rw [fVs_eq] at hw
  refine PC.of_bodyV hf hb _ rfl (fun K hK => ?_)
  rw [hlen]
  have hw := xcode_ok (E := ⟨P, T, 0, 0, fl, inlN P T fl I 4⟩) hT hM (inlN_ok hT hM fl I 4 _ _) c _ _ hw
  refine PV.mono hw ?_
  rintro e st ⟨s', rfl, h1, _⟩
  obtain ⟨he, i, hy, o, ho, hr⟩ := finN_ok h1
  obtain ⟨c0, o1, o2, o3, o4, o5⟩ := rdOb_ok hr
  exact hK e _ _ he hy ⟨i, c0, rfl, by rw [Y.den, dens_get, ho]; simp [o1], o2, o3, o4, o5⟩

/- functions over objects with lists of their own -/
def cmpS : (s : Sh) → s.ty.den → s.ty.den → Prop → Prop
  | .val _, a, b, A => Leaf (a = b) ∧ A
  | .own _ _, a, b, A => Leaf (a.1 = b.1) ∧ (Leaf (a.2 = b.2) ∧ A)
  | .opt _ _, a, b, A => Leaf (a = b) ∧ A
  | .slf, a, b, A => Leaf (a = b) ∧ A
  | .ptr _ s, a, b, A => cmpS s a b A
  | .optp _ s, a, b, A => Leaf (a.1 = b.1) ∧ cmpS s a.2 b.2 A
  | .pair x y, a, b, A => cmpS x a.1 b.1 (cmpS y a.2 b.2 A)
theorem cmpS_ok : ∀ (s : Sh) (a b : s.ty.den) (A : Prop), cmpS s a b A → a = b ∧ A
  | .val _, a, b, A, h => ⟨h.1.out, h.2⟩
  | .own _ _, a, b, A, h => ⟨Prod.ext h.1.out h.2.1.out, h.2.2⟩
  | .opt _ _, a, b, A, h => ⟨h.1.out, h.2⟩
  | .slf, a, b, A, h => ⟨h.1.out, h.2⟩
  | .ptr _ s, a, b, A, h => cmpS_ok s a b A h
  | .optp _ s, a, b, A, h => by
    obtain ⟨h1, h2⟩ := cmpS_ok s a.2 b.2 _ h.2
    exact ⟨Prod.ext h.1.out h1, h2⟩
  | .pair x y, a, b, A, h => by
    obtain ⟨h1, h2⟩ := cmpS_ok x a.1 b.1 _ h
    obtain ⟨h3, h4⟩ := cmpS_ok y a.2 b.2 _ h2
    exact ⟨Prod.ext h1 h3, h4⟩
def cmpTs : (ps : List Sh) → Tup (tys ps) → Tup (tys ps) → Prop → Prop
  | [], _, _, A => A
  | s :: ps, a, b, A => cmpS s a.1 b.1 (cmpTs ps a.2 b.2 A)
theorem cmpTs_ok : ∀ (ps : List Sh) (a b : Tup (tys ps)) (A : Prop), cmpTs ps a b A → a = b ∧ A
  | [], a, b, A, h => ⟨rfl, h⟩
  | s :: ps, a, b, A, h => by
    obtain ⟨h1, h2⟩ := cmpS_ok s a.1 b.1 _ h
    obtain ⟨h3, h4⟩ := cmpTs_ok ps a.2 b.2 _ h2
    exact ⟨Prod.ext h1 h3, h4⟩
def resL : List Sh → V → Option (List V)
  | [_], y => some [y]
  | _, y => match y with
    | .tup ys => some ys
    | _ => none
def finM (P : Program) (rv : List ResultVar) (p0 : List Nat) (args : List V) (ps rs : List Sh) (r : Tup (tys rs)) (b : Tup (tys ps)) (e : Exit) (s : Y) : Prop :=
  match s with
  | ⟨sl, h, _, _⟩ => (match (match e with
    | .normal => true
    | .ret => true
    | _ => false) with
    | true => (match ares P rv sl (dens h) with
      | some y => (match resL rs y with
        | some ys => (match rdAr h rs ys with
          | some (cs, r', p3, q3) => (match rdAr h ps args with
            | some (cs2, b', p', q') => needs (cs ++ cs2) (Kern (p' == p0 && ndB (p0 ++ q' ++ (p3 ++ q3))) ∧ cmpTs rs r' r (cmpTs ps b' b True))
            | none => False)
          | none => False)
        | none => False)
      | none => False)
    | false => False)
structure FinM (p0 : List Nat) (args : List V) (ps rs : List Sh) (r : Tup (tys rs)) (b : Tup (tys ps)) (y : V) (h : List XO) : Prop where
  out : ∃ ys p3 q3 q', resL rs y = some ys ∧ LiesA h rs ys r p3 q3 ∧ LiesA h ps args b p0 q' ∧ (p0 ++ q' ++ (p3 ++ q3)).Nodup
theorem finM_ok {P : Program} {rv : List ResultVar} {p0 : List Nat} {args : List V} {ps rs : List Sh} {r : Tup (tys rs)} {b : Tup (tys ps)} {e : Exit} {s : Y} (h : finM P rv p0 args ps rs r b e s) :
    (e = .normal ∨ e = .ret) ∧ ∃ y, ares P rv s.sl (dens s.h) = some y ∧ FinM p0 args ps rs r b y s.h := by
  obtain ⟨sl, hp, tch, an⟩ := s
  simp only [finM] at h
  split at h
  · rename_i he
    split at h
    · rename_i y hy
      split at h
      · rename_i ys hys
        split at h
        · rename_i cs r' p3 q3 hr
          split at h
          · rename_i cs2 b' p' q' hb
            obtain ⟨hc, ⟨hk⟩, h⟩ := needs_spec h
            obtain ⟨er, h2⟩ := cmpTs_ok _ _ _ _ h
            obtain ⟨eb, _⟩ := cmpTs_ok _ _ _ _ h2
            clear h h2
            subst er eb
            simp only [Bool.and_eq_true, beq_iff_eq] at hk
            obtain ⟨rfl, hnd⟩ := hk
            refine ⟨?_, y, hy, ys, p3, q3, q', hys, rdAr_ok _ _ _ _ _ _ hr (fun b hb => hc b (List.mem_append.2 (.inl hb))), rdAr_ok _ _ _ _ _ _ hb (fun b hb => hc b (List.mem_append.2 (.inr hb))), ndB_ok hnd⟩
            cases e <;> first | exact .inl rfl | exact .inr rfl | cases he
          · exact h.elim
        · exact h.elim
      · exact h.elim
    · exact h.elim
  · exact h.elim
/-- Two lists of the same length, of different numbers each: their numbers belong together. -/
theorem corr (A B : List Nat) (hA : A.Nodup) (hB : B.Nodup) (hl : A.length = B.length) : ∃ g f : Nat → Nat, A.map g = B ∧ B.map f = A ∧ (∀ i, i ∈ A → g i ∈ B ∧ f (g i) = i) ∧ (∀ i, i ∈ B → f i ∈ A ∧ g (f i) = i) := by
  have key : ∀ (A B : List Nat), A.Nodup → A.length = B.length → A.map (fun i => B[A.idxOf i]!) = B := by
    intro A B hA hl
    apply List.ext_getElem
    · simp [hl]
    · intro i h1 h2
      have hi : i < A.length := by simpa using h1
      rw [List.getElem_map, hA.idxOf_getElem i hi, getElem!_pos B i h2]
  have mem : ∀ (A B : List Nat), A.Nodup → B.Nodup → A.length = B.length → ∀ i, i ∈ A → B[A.idxOf i]! ∈ B ∧ A[B.idxOf (B[A.idxOf i]!)]! = i := by
    intro A B hA hB hl i hi
    have h1 : A.idxOf i < A.length := List.idxOf_lt_length_iff.2 hi
    have h2 : A.idxOf i < B.length := by omega
    rw [getElem!_pos B _ h2]
    refine ⟨List.getElem_mem h2, ?_⟩
    rw [hB.idxOf_getElem _ h2, getElem!_pos A _ h1, List.getElem_idxOf]
  exact ⟨_, _, key A B hA hl, key B A hB hl.symm, mem A B hA hB hl, mem B A hB hA hl.symm⟩
theorem map_split {g : Nat → Nat} {a b c d : List Nat} (h : (a ++ b).map g = c ++ d) (hl : a.length = c.length) : a.map g = c ∧ b.map g = d := by
  rw [List.map_append] at h
  exact List.append_inj h (by simpa using hl)
theorem CtOk.mo {P : Program} {T : Tbl} {f : FuncId} {fn : Func} {c : Code} {ps rs : List Sh} {pre : Option (Cu (tys ps) Prop)} {res : Cu (tys ps) (Tup (tys rs))} {post : Cu (tys ps) (Tup (tys ps))} (hT : TblOk P T) (hM : P.follows .mixedOrders = true) (fl : List (Nat × Nat × Nat)) (I : List Nat)
    (hf : P.funcs[f]? = some fn) (hb : fn.body = some c)
    (h : ∀ x : Tup (tys ps), (∀ p, pre = some p → cu _ p x) → ∃ an : List (Nat × Nat × LA), nwA ps x 0 fun args o p0 _ n => fVs args fun args => fVs (args ++ List.replicate (fn.ntmps - args.length) (.v undef)) fun sl => fH (o.map (·.2)) fun xs =>
      xcode ⟨P, T, n, 0, fl, inlN P T fl I 4⟩ c ⟨sl, xs, [], an⟩ (finM P fn.results.toList p0 args ps rs (cu _ res x) (cu _ post x))) : CtOk P f (.mo ps pre rs res post) := by
  intro x hx p q L hL hLp hLq hnd k hobs q2 p3 q3 L2 L3 hL2 h2p h2q hL3 h3p h3q hfresh k' A
  obtain ⟨an, hw⟩ := h x hx
  obtain ⟨c0, o0, p0, q0, n, L0, _, hfst, hw⟩ := nwA_ok _ _ _ _ hw
  rw [fVs_eq, fVs_eq, fH_eq] at hw
  have hL0 := L0 [] []
  rw [List.append_nil, List.append_nil] at hL0
  have hdo : (denO o0).map (·.1) = o0.map (·.1) := by unfold denO; rw [List.map_map]; rfl
  rw [Nat.sub_zero] at hfst
  -- the places at the call
  obtain ⟨_, _, e1, e2, hpm⟩ := layA_places _ _ _ _ _ hL
  rw [hLp, List.append_nil] at e1
  rw [hLq, List.append_nil] at e2
  subst e1 e2
  obtain ⟨_, _, e1, e2, hpm0⟩ := layA_places _ _ _ _ _ hL0
  rw [List.append_nil] at e1 e2
  subst e1 e2
  rw [hdo, hfst] at hpm0
  have u1 := layA_use _ _ _ _ _ hL
  have u0 := layA_use _ _ _ _ _ hL0
  rw [hLp, hLq] at u1
  simp only [List.length_nil, Nat.add_zero] at u1 u0
  have hnd0 : (p0 ++ q0).Nodup := by rw [← hpm0.nodup_iff]; exact List.nodup_range' ..
  obtain ⟨g0, f0, m1, m2, m3, m4⟩ := corr (p0 ++ q0) (p ++ q) hnd0 hnd (by simp; omega)
  obtain ⟨m5, m6⟩ := map_split m2 (by omega)
  have hon : o0.length = n := by have := congrArg List.length hfst; simpa using this
  let σ := (List.range' 0 n).map g0
  have hσget : ∀ j, j < n → σ[j]? = some (g0 j) := fun j hj => by
    show ((List.range' 0 n).map g0)[j]? = _
    rw [List.getElem?_map, List.getElem?_range' hj]; simp
  have hσp : σ.Perm (p ++ q) := by
    have := hpm0.map g0
    rw [m1] at this; exact this
  have hσ : σ.Nodup := hσp.nodup_iff.2 hnd
  have mem0 : ∀ i, i ∈ p0 ++ q0 ↔ i < n := fun i => by
    rw [← hpm0.mem_iff, List.mem_range'_1]; omega
  have hσf : ∀ i, i ∈ p ++ q → σ[f0 i]? = some i := fun i hi => by
    obtain ⟨h1, h2⟩ := m4 i hi
    rw [hσget _ ((mem0 _).1 h1), h2]
  obtain ⟨L0', z1, z2, z3, z4, z5, z6, _⟩ := layA_map (σ := σ) (g := f0) ps x p q L hL hσf
  rw [m5, m6, hL0] at z1
  injection z1 with z1; subst z1
  simp only at z4 z5
  refine PC.liftG (σ := σ) (h0 := dens (o0.map (·.2))) (args0 := c0) hσ (by rw [dens_len]; simp [σ, hon]) (fun j i hji => ?_) z4
    (R := fun y hh => ∃ hX : List XO, hh = dens hX ∧ n ≤ hX.length ∧ FinM p0 c0 ps rs (cu _ res x) (cu _ post x) y hX) ?_ ?_
  · -- the objects at the call
    have hj : j < n := by
      have := get_lt hji
      simpa [σ] using this
    have hjo : j < o0.length := by omega
    have hfj : (o0[j]).1 = j := by
      have h1 : (o0.map (·.1))[j]? = some j := by rw [hfst, List.getElem?_range' hj]; simp
      rw [List.getElem?_map, List.getElem?_eq_getElem hjo] at h1
      simpa using h1
    have hmem : (j, (o0[j]).2.den) ∈ denO o0 := by
      unfold denO; rw [List.mem_map]
      exact ⟨o0[j], List.getElem_mem hjo, by rw [hfj]⟩
    obtain ⟨z, hz, hz1, hz2⟩ := z5.get _ hmem
    simp only at hz1 hz2
    rw [hji] at hz1; injection hz1 with hz1; subst hz1
    obtain ⟨y, hy, hle⟩ := hobs z hz
    refine ⟨_, y, hy, ?_, RenO.le hle hz2⟩
    rw [dens_get, List.getElem?_map, List.getElem?_eq_getElem hjo]; rfl
  · -- the walk
    refine PC.of_bodyV hf hb _ rfl (fun K hK => ?_)
    have hn : (dens (o0.map (·.2))).length = n := by rw [dens_len]; simp [hon]
    rw [hn]
    have hw := xcode_ok (E := ⟨P, T, n, 0, fl, inlN P T fl I 4⟩) hT hM (inlN_ok hT hM fl I 4 _ _) c _ _ hw
    refine PV.mono hw ?_
    rintro e st ⟨s', rfl, h1, h2⟩
    obtain ⟨he, y, hy, hF⟩ := finM_ok h1
    refine hK e _ y he hy ⟨s'.h, rfl, ?_, hF⟩
    have := h2.fr.len
    simp only [List.length_map, hon] at this
    exact this
  · -- behind the call
    rintro y h' ⟨hX, rfl, hnX, hF⟩
    obtain ⟨ys, p3c, q3c, q', r1, lR, lB, r2⟩ := hF.out
    obtain ⟨cR, oR, R1, R2, R3⟩ := lR.out
    obtain ⟨cB, oB, B1, B2, B3⟩ := lB.out
    have R1 := R1 [] []
    have B1 := B1 [] []
    rw [List.append_nil, List.append_nil] at R1 B1
    obtain ⟨_, _, e1, e2, pm2⟩ := layA_places _ _ _ _ _ hL2
    rw [h2p, List.append_nil] at e1
    rw [h2q, List.append_nil] at e2
    subst e1 e2
    obtain ⟨_, _, e1, e2, pm3⟩ := layA_places _ _ _ _ _ hL3
    rw [h3p, List.append_nil] at e1
    rw [h3q, List.append_nil] at e2
    subst e1 e2
    have v2 := layA_use _ _ _ _ _ hL2
    have v3 := layA_use _ _ _ _ _ hL3
    have vB := layA_use _ _ _ _ _ B1
    have vR := layA_use _ _ _ _ _ R1
    rw [h2p, h2q] at v2
    rw [h3p, h3q] at v3
    simp only [List.length_nil, Nat.add_zero] at v2 v3 vB vR
    have pmO : ((L2.o ++ L3.o).map (·.1)).Perm (p ++ q2 ++ (p3 ++ q3)) := by rw [List.map_append]; exact pm2.append pm3
    have ndB1 : (p ++ q2 ++ (p3 ++ q3)).Nodup := pmO.nodup_iff.1 A.nodup
    obtain ⟨g1, f1, k1, k2, k3, k4⟩ := corr (p0 ++ q' ++ (p3c ++ q3c)) (p ++ q2 ++ (p3 ++ q3)) r2 ndB1 (by simp; omega)
    obtain ⟨k5, k6⟩ := map_split k1 (by simp; omega)
    obtain ⟨k7, k8⟩ := map_split k5 (by omega)
    obtain ⟨k9, k10⟩ := map_split k6 (by omega)
    have hlt : ∀ i, i ∈ p ++ q2 ++ (p3 ++ q3) → i < k'.length := fun i hi => by
      obtain ⟨z, hz, rfl⟩ := List.mem_map.1 (pmO.mem_iff.2 hi)
      exact get_lt (A.set z hz)
    have hpk : ∀ i, i ∈ p ++ q → i < k.length := fun i hi => by
      obtain ⟨z, hz, rfl⟩ := List.mem_map.1 (hpm.mem_iff.2 hi)
      obtain ⟨y, hy, _⟩ := hobs z hz
      exact get_lt hy
    have hσmem : ∀ i, i ∈ σ ↔ i ∈ p ++ q := fun i => hσp.mem_iff
    let B := p ++ q2 ++ (p3 ++ q3)
    let τ := (List.range k'.length).map fun i => if i ∈ B then f1 i else if i ∈ σ then σ.idxOf i else (dens hX).length
    have τget : ∀ i, i < k'.length → τ[i]? = some (if i ∈ B then f1 i else if i ∈ σ then σ.idxOf i else (dens hX).length) := fun i hi => by
      show ((List.range k'.length).map _)[i]? = _
      rw [List.getElem?_map, List.getElem?_range hi]; rfl
    have τB : ∀ i, i ∈ B → τ[i]? = some (f1 i) := fun i hi => by rw [τget i (hlt i hi), if_pos hi]
    have τg : ∀ i, i ∈ p0 ++ q' ++ (p3c ++ q3c) → τ[g1 i]? = some i := fun i hi => by
      obtain ⟨h1, h2⟩ := k3 i hi
      rw [τB _ h1, h2]
    obtain ⟨L2', w1, _, _, _, w5, _, _⟩ := layA_map (σ := τ) (g := g1) ps _ p0 q' _ B1 (fun i hi => τg i (List.mem_append.2 (.inl hi)))
    rw [k7, k8, hL2] at w1
    injection w1 with w1; subst w1
    obtain ⟨L3', x1, _, _, x4, x5, _, _⟩ := layA_map (σ := τ) (g := g1) rs _ p3c q3c _ R1 (fun i hi => τg i (List.mem_append.2 (.inr hi)))
    rw [k9, k10, hL3] at x1
    injection x1 with x1; subst x1
    have hzip := Zip.app w5 x5
    have inB : ∀ i, (i ∈ σ ∨ k.length ≤ i) → i < k'.length → ¬ i ∈ q → i ∈ B := fun i hi hl hq => by
      refine pmO.mem_iff.1 (A.all i ?_ hl)
      rcases hi with hi | hi
      · rcases List.mem_append.1 ((hσmem i).1 hi) with r | r
        · exact .inl r
        · exact absurd r hq
      · exact .inr hi
    refine ⟨τ, ⟨by simp [τ], A.len, fun i hi hs => ?_, fun j i hji => ?_, fun i hi hl => ?_, fun i1 i2 m o1 o2 a1 a2 b1 b2 c1 c2 => ?_⟩, ?_⟩
    · have h1 : ¬ i ∈ p := fun r => hs ((hσmem i).2 (List.mem_append.2 (.inl r)))
      have h2 : ¬ i ∈ q := fun r => hs ((hσmem i).2 (List.mem_append.2 (.inr r)))
      have h3 : ¬ i ∈ B := fun r => by
        have r : i ∈ p ++ q2 ++ (p3 ++ q3) := r
        rw [List.append_assoc, List.mem_append] at r
        rcases r with r | r
        · exact h1 r
        · have := hfresh i (by rw [List.append_assoc]; exact r)
          omega
      exact ⟨by rw [τget i (Nat.lt_of_lt_of_le hi A.len), if_neg h3, if_neg hs], A.other i hi h1 h2⟩
    · have hi : i ∈ σ := get_mem hji
      have hik := hpk i ((hσmem i).1 hi)
      rw [τget i (Nat.lt_of_lt_of_le hik A.len)]
      have hjn : j < n := by have := get_lt hji; simpa [σ] using this
      have hg : g0 j = i := by rw [hσget j hjn] at hji; injection hji
      by_cases hB : i ∈ B
      · rw [if_pos hB]
        have hip : i ∈ p := by
          have r : i ∈ p ++ q2 ++ (p3 ++ q3) := hB
          rw [List.append_assoc, List.mem_append] at r
          rcases r with r | r
          · exact r
          · have := hfresh i (by rw [List.append_assoc]; exact r)
            omega
        obtain ⟨t, ht, e⟩ := List.getElem_of_mem hip
        have ht0 : t < p0.length := by omega
        have q1 : g1 p0[t] = i := by
          have : (p0.map g1)[t]? = p[t]? := by rw [k7]
          rw [List.getElem?_map, List.getElem?_eq_getElem ht0, List.getElem?_eq_getElem ht] at this
          simp at this; rw [this, e]
        have q2' : g0 p0[t] = i := by
          obtain ⟨n5, n6⟩ := map_split m1 (by omega)
          have : (p0.map g0)[t]? = p[t]? := by rw [n5]
          rw [List.getElem?_map, List.getElem?_eq_getElem ht0, List.getElem?_eq_getElem ht] at this
          simp at this; rw [this, e]
        have hm0 : p0[t] ∈ p0 ++ q0 := List.mem_append.2 (.inl (List.getElem_mem ht0))
        have hj0 : j ∈ p0 ++ q0 := (mem0 j).2 hjn
        have e3 : p0[t] = j := by
          have a1 := (m3 _ hm0).2
          have a2 := (m3 _ hj0).2
          rw [q2'] at a1; rw [hg] at a2
          rw [← a1, ← a2]
        have := (k3 p0[t] (List.mem_append.2 (.inl (List.mem_append.2 (.inl (List.getElem_mem ht0)))))).2
        rw [q1] at this
        rw [this, e3]
      · rw [if_neg hB, if_pos hi]
        have hjl := get_lt hji
        have : σ[j] = i := by rw [List.getElem?_eq_getElem hjl] at hji; injection hji
        rw [← this, hσ.idxOf_getElem j hjl]
    · by_cases hq : i ∈ q
      · have his : i ∈ σ := (hσmem i).2 (List.mem_append.2 (.inr hq))
        refine ⟨_, (dens hX)[σ.idxOf i]'(by
          have h1 : σ.idxOf i < σ.length := List.idxOf_lt_length_iff.2 his
          have : σ.length = n := by simp [σ]
          rw [dens_len]; omega), .dead, ?_, List.getElem?_eq_getElem _, A.dead i hq, RenO.dead _ _⟩
        rw [τget i hl, if_neg, if_pos his]
        intro r
        have r : i ∈ p ++ q2 ++ (p3 ++ q3) := r
        rw [List.append_assoc, List.mem_append] at r
        rcases r with r | r
        · exact (List.nodup_append.1 hnd).2.2 i r i hq rfl
        · have := hfresh i (by rw [List.append_assoc]; exact r)
          have := hpk i (List.mem_append.2 (.inr hq))
          omega
      · have hB := inB i hi hl hq
        obtain ⟨z, hz, rfl⟩ := List.mem_map.1 (pmO.mem_iff.2 hB)
        obtain ⟨w, hw1, hw2, hw3⟩ := hzip.get z hz
        rcases List.mem_append.1 hw1 with hw1 | hw1
        · obtain ⟨v, hv1, hv2⟩ := B3 w hw1
          exact ⟨w.1, v, z.2, hw2, hv1, A.set z hz, RenO.le hv2 hw3⟩
        · obtain ⟨v, hv1, hv2⟩ := R3 w hw1
          exact ⟨w.1, v, z.2, hw2, hv1, A.set z hz, RenO.le hv2 hw3⟩
    · have nq : ∀ i o, k'[i]? = some (.live o) → ¬ i ∈ q := fun i o ho hq => by rw [A.dead i hq] at ho; cases ho
      have hB1 := inB i1 a1 (get_lt b1) (nq _ _ b1)
      have hB2 := inB i2 a2 (get_lt b2) (nq _ _ b2)
      rw [τB _ hB1] at c1
      rw [τB _ hB2] at c2
      injection c1 with c1
      injection c2 with c2
      rw [← (k4 i1 hB1).2, ← (k4 i2 hB2).2, c1, c2]
    · have hys : Pairs (RenV τ) ys L3.c := ⟨R2.1.trans x4.1, fun i a b ha hb => by
        have hi : i < cR.length := by rw [← R2.1]; exact get_lt ha
        exact RenV.le (R2.2 i a _ ha (List.getElem?_eq_getElem hi)) (x4.2 i _ b (List.getElem?_eq_getElem hi) hb)⟩
      have tupcase : ∀ zs, y = .tup zs → ys = zs → RenV τ y (.tup L3.c) := fun zs h1 h2 => by subst h1 h2; exact RenV.tup hys
      match rs, r1 with
      | [s], r1 =>
        injection r1 with r1; subst r1
        match hc : L3.c, hys with
        | [z], hys => exact hys.2 0 _ _ rfl rfl
        | [], hys => have := hys.1; simp at this
        | _ :: _ :: _, hys => have := hys.1; simp at this
      | [], r1 =>
        simp only [resL] at r1
        split at r1
        · injection r1 with r1; exact tupcase _ rfl r1.symm
        · cases r1
      | s1 :: s2 :: r, r1 =>
        simp only [resL] at r1
        split at r1
        · injection r1 with r1; exact tupcase _ rfl r1.symm
        · cases r1

/- for the proofs of walks -/
theorem w_andL {p q : Prop} (h : Leaf p) (a : q) : Leaf p ∧ q := ⟨h, a⟩
theorem w_nd {p : Prop} [d : Decidable p] {A : Prop} (h : Side p) (a : A) : (@decide p d) = true ∧ A := ⟨decide_eq_true h.out, a⟩
theorem w_in {k : IntKind} {n : Int} {A : Prop} (h : Side (loK k ≤ n ∧ n ≤ hiK k)) (a : A) : inR k n = true ∧ A := ⟨decide_eq_true h.out, a⟩
theorem w_and {p q : Prop} (h : Side p) (a : q) : p ∧ q := ⟨h.out, a⟩
theorem w_andS {p q : Prop} (h : Side p) (a : q) : Side p ∧ q := ⟨h, a⟩
theorem w_kern {c : Bool} {q : Prop} (h : c = true) (a : q) : Kern c ∧ q := ⟨⟨h⟩, a⟩
theorem w_join {A B : Prop} {c : Bool} (h : A) (hk : c = true) (b : B) : A ∧ (Kern c ∧ B) := ⟨h, ⟨hk⟩, b⟩
theorem w_true {q : Prop} (a : q) : True ∧ q := ⟨trivial, a⟩
theorem w_br {c : Bool} {A B : Prop} (h1 : c = true → A) (h2 : c = false → B) : @Bool.rec (fun _ => Prop) B A c := by cases c; exact h2 rfl; exact h1 rfl
theorem w_brD {p : Prop} [d : Decidable p] {A B : Prop} (h1 : p → A) (h2 : ¬ p → B) : @Bool.rec (fun _ => Prop) B A (@decide p d) := w_br (fun q => h1 (of_decide_eq_true q)) (fun q => h2 (of_decide_eq_false q))
theorem w_brN {p : Prop} [d : Decidable p] {A B : Prop} (h1 : p → B) (h2 : ¬ p → A) : @Bool.rec (fun _ => Prop) B A (!(@decide p d)) := w_br (fun q => h2 (by simpa using q)) (fun q => h1 (by simpa using q))
theorem w_brO {p : Prop} [d : Decidable p] {c : Bool} {A B : Prop} (h1 : p ∨ c = true → A) (h2 : ¬ p ∧ c = false → B) : @Bool.rec (fun _ => Prop) B A (@decide p d || c) := w_br (fun q => h1 (by simpa using q)) (fun q => h2 (by simpa using q))

end Go.Abs
