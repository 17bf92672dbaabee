/- Contracts by the walk. -/
import Derived.Test.YtmlojnecmdnbpaaGreatDoorAbsZb
namespace Go.Abs
set_option linter.unusedVariables false

theorem Tup.ni (n : Nat) : ∀ (ps : List Ty) (x : Tup ps), NIs n (vals ps x)
  | [], _ => fun _ h => by cases h
  | t :: ts, x => fun v h => by
    rcases List.mem_cons.1 h with q | q
    · subst q; exact t.ni_val n x.1
    · exact Tup.ni n ts x.2 v q

theorem Tup.len : ∀ (ps : List Ty) (x : Tup ps), (vals ps x).length = ps.length
  | [], _ => rfl
  | t :: ts, x => by simp only [vals, List.length_cons, Tup.len ts x.2]

/-- Where a function returns. -/
def fin (P : Program) (rs : List ResultVar) (lo : Nat) (r : RV) (k : List XO → Prop) (e : Exit) (s : Y) : Prop :=
  match s with
  | ⟨sl, h, _, _⟩ => match e with
    | .normal => (match ares P rs sl (dens h) with
      | some y => fV y fun y => cmpR h lo y (k h) r
      | none => False)
    | .ret => (match ares P rs sl (dens h) with
      | some y => fV y fun y => cmpR h lo y (k h) r
      | none => False)
    | _ => False
theorem fin_ok {P : Program} {rs : List ResultVar} {lo : Nat} {r : RV} {k : List XO → Prop} {e : Exit} {s : Y} (h : fin P rs lo r k e s) : (e = .normal ∨ e = .ret) ∧ ∃ y, ares P rs s.sl (dens s.h) = some y ∧ cmpR s.h lo y (k s.h) r := by
  obtain ⟨sl, hp, tch, an⟩ := s
  simp only [fin] at h
  split at h
  · split at h
    · rename_i y hy
      rw [fV_eq] at h
      exact ⟨.inl rfl, y, hy, h⟩
    · exact h.elim
  · split at h
    · rename_i y hy
      rw [fV_eq] at h
      exact ⟨.inr rfl, y, hy, h⟩
    · exact h.elim
  · exact h.elim

/-- Functions that are walked in place. -/
def inlN (P : Program) (T : Tbl) (fl : List (Nat × Nat × Nat)) (I : List Nat) : Nat → FuncId → List V → Y → (V → Y → Prop) → Prop
  | 0, _, _, _, _ => False
  | n + 1, f, args, s, K => match I.contains f with
    | true => (match P.funcs[f]? with
      | some fn => (match fn.body with
        | some c => (match s with
          | ⟨sl0, h, tch, an⟩ => fVs (args ++ List.replicate (fn.ntmps - args.length) (.v undef)) fun sl => fN h.length fun n0 => xcode ⟨P, T, n0, f, fl, inlN P T fl I n⟩ c ⟨sl, h, tch, an⟩ fun e s' => (match s' with
            | ⟨sl', h', tch', an'⟩ => match e with
              | .normal => (match ares P fn.results.toList sl' (dens h') with
                | some y => fV y fun y => K y ⟨sl0, h', tch', an⟩
                | none => False)
              | .ret => (match ares P fn.results.toList sl' (dens h') with
                | some y => fV y fun y => K y ⟨sl0, h', tch', an⟩
                | none => False)
              | _ => False))
        | none => False)
      | none => False)
    | false => False
theorem inlN_ok {P : Program} {T : Tbl} (hT : TblOk P T) (hM : P.follows .mixedOrders = true) (fl : List (Nat × Nat × Nat)) (I : List Nat) : ∀ (m n0 fid : Nat), InlOk ⟨P, T, n0, fid, fl, inlN P T fl I m⟩
  | 0, n0, fid => fun f args s K h => h.elim
  | m + 1, n0, fid => fun f args s K h => by
    simp only [inlN] at h
    split at h
    · split at h
      · rename_i fn hf
        split at h
        · rename_i c hb
          obtain ⟨sl0, hp, tch, an⟩ := s
          simp only at h
          rw [fVs_eq, fN_eq] at h
          refine PC.of_bodyV hf hb _ rfl (fun K0 hK => ?_)
          have hw := xcode_ok (E := ⟨P, T, hp.length, f, fl, inlN P T fl I m⟩) hT hM (inlN_ok hT hM fl I m _ _) c _ _ h
          rw [dens_len]
          refine PV.mono hw ?_
          rintro e st ⟨⟨sl', h', tch', an'⟩, rfl, h1, h2⟩
          simp only at h1
          split at h1
          · split at h1
            · rename_i y hy
              rw [fV_eq] at h1
              exact hK _ _ y (.inl rfl) hy ⟨⟨sl0, h', tch', an⟩, rfl, rfl, ⟨h2.fr.len, h2.fr.tch, h2.fr.h⟩, h1⟩
            · exact h1.elim
          · split at h1
            · rename_i y hy
              rw [fV_eq] at h1
              exact hK _ _ y (.inr rfl) hy ⟨⟨sl0, h', tch', an⟩, rfl, rfl, ⟨h2.fr.len, h2.fr.tch, h2.fr.h⟩, h1⟩
            · exact h1.elim
          · exact h1.elim
        · exact h.elim
      · exact h.elim
    · exact h.elim

/-- The contract of a function of trees. -/
theorem CtOk.fn {P : Program} {T : Tbl} {f : FuncId} {fn : Func} {c : Code} {ps : List Ty} {pre : Option (Cu ps Prop)} {res : Cu ps RV} (hT : TblOk P T) (hM : P.follows .mixedOrders = true) (fl : List (Nat × Nat × Nat)) (I : List Nat)
    (hf : P.funcs[f]? = some fn) (hb : fn.body = some c)
    (h : ∀ x : Tup ps, (∀ p, pre = some p → cu ps p x) → ∃ an : List (Nat × Nat × LA), fVs (vals ps x ++ List.replicate (fn.ntmps - ps.length) (.v undef)) fun sl => xcode ⟨P, T, 0, 0, fl, inlN P T fl I 4⟩ c ⟨sl, [], [], an⟩ (fin P fn.results.toList 0 (cu ps res x) fun _ => True)) : CtOk P f (.fn ps pre res) := by
  intro x hx
  have hlen := Tup.len ps x
  refine ⟨fun p hp => (by cases hp), fun k _ => ?_⟩
  refine PC.mono (PC.frame (x0 := (cu ps res x).val) (Tup.ni 0 ps x) ?_ k) (fun y k' ⟨h1, h2⟩ => ⟨h1, h2⟩)
  obtain ⟨an, hw⟩ := h x hx
  rw [fVs_eq] at hw
  refine PC.of_bodyV hf hb _ rfl (fun K hK => ?_)
  rw [hlen]
  have hw := xcode_ok (E := ⟨P, T, 0, 0, fl, inlN P T fl I 4⟩) hT hM (inlN_ok hT hM fl I 4 _ _) c _ _ hw
  refine PV.mono hw ?_
  rintro e st ⟨s', rfl, h1, _⟩
  obtain ⟨he, y, hy, hc⟩ := fin_ok h1
  exact hK e _ y he hy (cmpR_ok (τ := noTau) (fun _ _ => rfl) hc).1

/-- The contract of a method that only reads. -/
theorem CtOk.rd {P : Program} {T : Tbl} {f : FuncId} {fn : Func} {c : Code} {t : Ty} {ps : List Ty} {pre : Option (t.den → Cu ps Prop)} {res : t.den → Cu ps RV} (hT : TblOk P T) (hM : P.follows .mixedOrders = true) (fl : List (Nat × Nat × Nat)) (I : List Nat)
    (hf : P.funcs[f]? = some fn) (hb : fn.body = some c)
    (h : ∀ a (x : Tup ps), (∀ p, pre = some p → cu ps (p a) x) → ∃ an : List (Nat × Nat × LA), fVs (.pF (t.row a) 0 :: vals ps x ++ List.replicate (fn.ntmps - (1 + ps.length)) (.v undef)) fun sl => xcode ⟨P, T, 0, 0, fl, inlN P T fl I 4⟩ c ⟨sl, [], [], an⟩ (fin P fn.results.toList 0 (cu ps (res a) x) fun _ => True)) : CtOk P f (.rd t ps pre res) := by
  intro a x hx
  have hlen := Tup.len ps x
  refine ⟨fun p hp => (by cases hp), fun k _ => ?_⟩
  refine PC.mono (PC.frame (x0 := (cu ps (res a) x).val) (fun v hv => ?_) ?_ k) (fun y k' ⟨h1, h2⟩ => ⟨h1, h2⟩)
  · rcases List.mem_cons.1 hv with q | q
    · subst q; exact .pF 0 (t.nis 0 a [] (by intro _ h; cases h))
    · exact Tup.ni 0 ps x v q
  obtain ⟨an, hw⟩ := h a x hx
  rw [fVs_eq] at hw
  refine PC.of_bodyV hf hb _ rfl (fun K hK => ?_)
  have hl2 : (V.pF (t.row a) 0 :: vals ps x).length = 1 + ps.length := by simp [hlen]; omega
  rw [hl2]
  have hw := xcode_ok (E := ⟨P, T, 0, 0, fl, inlN P T fl I 4⟩) hT hM (inlN_ok hT hM fl I 4 _ _) c _ _ hw
  refine PV.mono hw ?_
  rintro e st ⟨s', rfl, h1, _⟩
  obtain ⟨he, y, hy, hc⟩ := fin_ok h1
  exact hK e _ y he hy (cmpR_ok (τ := noTau) (fun _ _ => rfl) hc).1

/-- The object that a method leaves. -/
def finO (t : Ty) (e : TypeId) (b : t.den) (h : List XO) : Prop := match h with
  | .raw s :: _ => (match s with
    | .live o => if o.sz = t.size ∧ o.elem = e then (match o.rows with
      | [r] => match un (rdH h 1) t r with
        | some (a, []) => needs (r.flatMap (lensV h)) (Leaf (a = b) ∧ True)
        | _ => False
      | _ => False) else False
    | _ => False)
  | .ob _ a e' :: _ => if e' = e then (match castD (t' := t) a with
    | some a => Leaf (a = b) ∧ True
    | _ => False) else False
  | _ => False
theorem finO_ok {t : Ty} {e : TypeId} {b : t.den} {h : List XO} {τ : Nat → Option Nat} (hτ : ∀ id, 1 ≤ id → τ id = none) (q : finO t e b h) : ∃ o, (dens h)[0]? = some (.live o) ∧ FrzO τ (dens h) o ⟨t.size, [t.row b], e⟩ := by
  unfold finO at q
  split at q
  · split at q
    · rename_i r _ o
      split at q
      · rename_i hsz
        split at q
        · rename_i r0 hr
          split at q
          · rename_i a ha
            obtain ⟨hc, ⟨rfl⟩, _⟩ := needs_spec q
            refine ⟨o, rfl, ⟨hsz.1.symm, hsz.2.symm, by rw [hr]; rfl, fun i r1 r2 h1 h2 => ?_⟩⟩
            rw [hr] at h1
            cases i with
            | zero =>
              simp at h1 h2; subst h1 h2
              obtain ⟨u1, u2⟩ := un_row (R := fun x y => allT (lensV (.raw (.live o) :: r) x) → Frz τ (dens (.raw (.live o) :: r)) x y) (fun x t l e hc => rdH_frz hτ e hc) (fun x _ => Frz.tree (.v x)) ha
              refine ⟨u1, fun j x y hx hy => u2 j x y hx hy fun c hc' => hc c (List.mem_flatMap.2 ⟨x, get_mem hx, hc'⟩)⟩
            | succ i => simp at h1
          · exact q.elim
        · exact q.elim
      · exact q.elim
    · exact q.elim
  · rename_i t0 l e' r
    split at q
    · rename_i he
      subst he
      split at q
      · rename_i a ha
        obtain ⟨⟨rfl⟩, _⟩ := q
        obtain ⟨et, el⟩ := castD_ty ha
        subst et; subst el
        exact ⟨_, rfl, FrzO.tree (Ty.nir 0 _ [_])⟩
      · exact q.elim
    · exact q.elim
  · exact q.elim

/-- The contract of a method. -/
theorem CtOk.meth {P : Program} {T : Tbl} {f : FuncId} {fn : Func} {c : Code} {t : Ty} {el : TypeId} {ps : List Ty} {pre : Option (t.den → Cu ps Prop)} {res : t.den → Cu ps RV} {post : t.den → Cu ps t.den} (hT : TblOk P T) (hM : P.follows .mixedOrders = true) (fl : List (Nat × Nat × Nat)) (I : List Nat)
    (hf : P.funcs[f]? = some fn) (hb : fn.body = some c)
    (h : ∀ a (x : Tup ps), (∀ p, pre = some p → cu ps (p a) x) → ∃ an : List (Nat × Nat × LA), fVs (.pO 0 0 0 :: vals ps x ++ List.replicate (fn.ntmps - (1 + ps.length)) (.v undef)) fun sl => fH [.ob t a el] fun h => xcode ⟨P, T, 1, 0, fl, inlN P T fl I 4⟩ c ⟨sl, h, [], an⟩
      (fin P fn.results.toList 1 (cu ps (res a) x) (finO t el (cu ps (post a) x)))) : CtOk P f (.meth t el ps pre res post) := by
  intro a x hx j
  have hlen := Tup.len ps x
  refine ⟨fun p hp => ?_, fun k hk => ?_⟩
  · simp at hp; subst hp; simp
  have hj : k[j]? = some (objT t el a) := hk (j, objT t el a) (by simp)
  have hup : ∀ id, 1 ≤ id → up [j] id = none := fun id hid => by simp [up]; omega
  have hrow : ∀ b : t.den, NIr 0 [t.row b] := fun b r hr => by simp at hr; subst hr; exact t.nis 0 b [] (by intro _ h; cases h)
  refine PC.mono (PC.lift (S := [j]) (h0 := [objT t el a]) (post := [⟨t.size, [t.row (cu ps (post a) x)], el⟩]) (args0 := .pO 0 0 0 :: vals ps x) (x0 := (cu ps (res a) x).val) (by simp) rfl rfl ?_ ?_ ?_) (fun y k' ⟨h1, h2⟩ => ⟨h1, h2⟩)
  · intro i id hi
    match i, hi with
    | 0, hi =>
      simp at hi; subst hi
      exact ⟨_, _, hj, rfl, FrzO.tree (hrow a)⟩
    | i + 1, hi => simp at hi
  · refine ⟨rfl, fun i v v' h1 h2 => ?_⟩
    match i, h1, h2 with
    | 0, h1, h2 =>
      simp at h1 h2; subst h1 h2
      intro w ι M ι₂ M₂ cv y r
      cases r with
      | pO _ _ _ l hl => exact .pO _ _ _ l (cv.keep j 0 l (by simp [down, List.idxOf?, List.findIdx?_cons]) hl)
    | i + 1, h1, h2 =>
      have h1 : (vals ps x)[i]? = some v := h1
      have h2 : (vals ps x)[i]? = some v' := h2
      rw [h1] at h2; injection h2 with h2; subst h2
      intro w ι M ι₂ M₂ cv y r
      exact Frz.tree (τ := down [j]) (h := []) (Tup.ni 0 ps x v (get_mem h1)) cv r
  · obtain ⟨an, hw⟩ := h a x hx
    rw [fVs_eq, fH_eq] at hw
    refine PC.of_bodyV hf hb _ rfl (fun K hK => ?_)
    have hl2 : (V.pO 0 0 0 :: vals ps x).length = 1 + ps.length := by simp [hlen]; omega
    rw [hl2]
    have hw := xcode_ok (E := ⟨P, T, 1, 0, fl, inlN P T fl I 4⟩) hT hM (inlN_ok hT hM fl I 4 _ _) c _ _ hw
    refine PV.mono hw ?_
    rintro e st ⟨s', rfl, h1, _⟩
    obtain ⟨he, y, hy, hc⟩ := fin_ok h1
    obtain ⟨hc, ho⟩ := cmpR_ok (lo := 1) hup hc
    refine hK e _ y he hy ⟨hc, fun i c hi => ?_⟩
    match i, hi with
    | 0, hi =>
      simp at hi; subst hi
      obtain ⟨o, o1, o2⟩ := finO_ok hup ho
      exact ⟨o, o1, o2⟩
    | i + 1, hi => simp at hi

/-- Where a function returns that makes an object. -/
def finN (P : Program) (rs : List ResultVar) (t : Ty) (el : TypeId) (b : t.den) (e : Exit) (s : Y) : Prop :=
  match s with
  | ⟨sl, h, _, _⟩ => match e with
    | .normal => False
    | .ret => (match ares P rs sl (dens h) with
      | some y => (match y with
        | .pO i 0 0 => match h[i]? with
          | some o => (match rdOb t el o with
            | some a => Leaf (a = b) ∧ True
            | none => False)
          | none => False
        | _ => False)
      | none => False)
    | _ => False
theorem finN_ok {P : Program} {rs : List ResultVar} {t : Ty} {el : TypeId} {b : t.den} {e : Exit} {s : Y} (h : finN P rs t el b e s) : (e = .normal ∨ e = .ret) ∧ ∃ i, ares P rs s.sl (dens s.h) = some (.pO i 0 0) ∧ ∃ o, s.h[i]? = some o ∧ rdOb t el o = some b := by
  obtain ⟨sl, hp, tch, an⟩ := s
  simp only [finN] at h
  split at h
  · exact h.elim
  · split at h
    · rename_i y hy
      split at h
      · rename_i i
        split at h
        · rename_i o ho
          split at h
          · rename_i a ha
            obtain ⟨⟨rfl⟩, _⟩ := h
            exact ⟨.inr rfl, i, hy, o, ho, ha⟩
          · exact h.elim
        · exact h.elim
      · exact h.elim
    · exact h.elim
  · exact h.elim
/-- The contract of a function that makes an object. -/
theorem CtOk.new {P : Program} {T : Tbl} {f : FuncId} {fn : Func} {c : Code} {t : Ty} {el : TypeId} {ps : List Ty} {pre : Option (Cu ps Prop)} {post : Cu ps t.den} (hT : TblOk P T) (hM : P.follows .mixedOrders = true) (fl : List (Nat × Nat × Nat)) (I : List Nat)
    (hf : P.funcs[f]? = some fn) (hb : fn.body = some c)
    (h : ∀ x : Tup ps, (∀ p, pre = some p → cu ps p x) → ∃ an : List (Nat × Nat × LA), fVs (vals ps x ++ List.replicate (fn.ntmps - ps.length) (.v undef)) fun sl => xcode ⟨P, T, 0, 0, fl, inlN P T fl I 4⟩ c ⟨sl, [], [], an⟩ (finN P fn.results.toList t el (cu ps post x))) : CtOk P f (.new t el ps pre post) := by
  intro x hx k new k' hh
  have hlen := Tup.len ps x
  refine PC.newObj (Tup.ni 0 ps x) (o := ⟨t.size, [t.row (cu ps post x)], el⟩) (t.nir 0 [cu ps post x]) ?_ hh
  obtain ⟨an, hw⟩ := h x hx
  rw [fVs_eq] at hw
  refine PC.of_bodyV hf hb _ rfl (fun K hK => ?_)
  rw [hlen]
  have hw := xcode_ok (E := ⟨P, T, 0, 0, fl, inlN P T fl I 4⟩) hT hM (inlN_ok hT hM fl I 4 _ _) c _ _ hw
  refine PV.mono hw ?_
  rintro e st ⟨s', rfl, h1, _⟩
  obtain ⟨he, i, hy, o, ho, hr⟩ := finN_ok h1
  obtain ⟨c0, o1, o2, o3, o4, o5⟩ := rdOb_ok hr
  exact hK e _ _ he hy ⟨i, c0, rfl, by rw [Y.den, dens_get, ho]; simp [o1], o2, o3, o4, o5⟩

/- for the proofs of walks -/
theorem w_andL {p q : Prop} (h : Leaf p) (a : q) : Leaf p ∧ q := ⟨h, a⟩
theorem w_nd {p : Prop} [d : Decidable p] {A : Prop} (h : Side p) (a : A) : (@decide p d) = true ∧ A := ⟨decide_eq_true h.out, a⟩
theorem w_in {k : IntKind} {n : Int} {A : Prop} (h : Side (loK k ≤ n ∧ n ≤ hiK k)) (a : A) : inR k n = true ∧ A := ⟨decide_eq_true h.out, a⟩
theorem w_and {p q : Prop} (h : Side p) (a : q) : p ∧ q := ⟨h.out, a⟩
theorem w_andS {p q : Prop} (h : Side p) (a : q) : Side p ∧ q := ⟨h, a⟩
theorem w_kern {c : Bool} {q : Prop} (h : c = true) (a : q) : Kern c ∧ q := ⟨⟨h⟩, a⟩
theorem w_join {A B : Prop} {c : Bool} (h : A) (hk : c = true) (b : B) : A ∧ (Kern c ∧ B) := ⟨h, ⟨hk⟩, b⟩
theorem w_true {q : Prop} (a : q) : True ∧ q := ⟨trivial, a⟩
theorem w_br {c : Bool} {A B : Prop} (h1 : c = true → A) (h2 : c = false → B) : @Bool.rec (fun _ => Prop) B A c := by cases c; exact h2 rfl; exact h1 rfl
theorem w_brD {p : Prop} [d : Decidable p] {A B : Prop} (h1 : p → A) (h2 : ¬ p → B) : @Bool.rec (fun _ => Prop) B A (@decide p d) := w_br (fun q => h1 (of_decide_eq_true q)) (fun q => h2 (of_decide_eq_false q))
theorem w_brN {p : Prop} [d : Decidable p] {A B : Prop} (h1 : p → B) (h2 : ¬ p → A) : @Bool.rec (fun _ => Prop) B A (!(@decide p d)) := w_br (fun q => h2 (by simpa using q)) (fun q => h1 (by simpa using q))
theorem w_brO {p : Prop} [d : Decidable p] {c : Bool} {A B : Prop} (h1 : p ∨ c = true → A) (h2 : ¬ p ∧ c = false → B) : @Bool.rec (fun _ => Prop) B A (@decide p d || c) := w_br (fun q => h1 (by simpa using q)) (fun q => h2 (by simpa using q))

end Go.Abs
