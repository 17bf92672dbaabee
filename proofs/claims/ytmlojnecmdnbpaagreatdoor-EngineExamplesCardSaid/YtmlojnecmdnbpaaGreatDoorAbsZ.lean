/- Regions, loops, joins and functions by the walk. -/
import Derived.Test.YtmlojnecmdnbpaaGreatDoorAbsY
namespace Go.Abs
set_option linter.unusedVariables false

theorem gd_spec {ops : Array Oper} {o : Oper} {s : Y} {run skip : Y → Prop} (h : gd ops o s run skip) : (awanted ops s.sl o = some true ∧ run s) ∨ (awanted ops s.sl o = some false ∧ skip s) := by
  obtain ⟨sl, hp, tch, an⟩ := s
  simp only [gd] at h
  split at h
  · rename_i hg
    exact .inl ⟨by simp [awanted, hg], h⟩
  · rename_i j want hg
    split at h
    · rename_i d hd
      split at h
      · rename_i b hb
        have hset : ∀ c, b = c → sl.set d (.v (.bool c)) = sl := by
          intro c hc
          subst hc
          have hlt := get_lt hb
          rw [List.getElem?_eq_getElem hlt] at hb; injection hb with hb
          rw [← hb, List.set_getElem_self]
        have hw : awanted ops sl o = some (b == want) := by simp only [awanted, hg, hd, Option.bind_some, hb]
        obtain ⟨h1, h2⟩ := (br_iff b _ _).1 h
        cases b with
        | true =>
          have h1 := h1 rfl
          rw [setK_eq, hset true rfl] at h1
          cases want with
          | true => exact .inl ⟨hw, h1⟩
          | false => exact .inr ⟨hw, h1⟩
        | false =>
          have h2 := h2 rfl
          rw [setK_eq, hset false rfl] at h2
          cases want with
          | true => exact .inr ⟨hw, h2⟩
          | false => exact .inl ⟨hw, h2⟩
      · rename_i vs hb
        exact .inr ⟨by simp only [awanted, hg, hd, Option.bind_some, hb], h⟩
      · exact h.elim
    · exact h.elim

/-- What a part of a function has left alone: the slots outside W, and objects. -/
structure FrW (W : List Nat) (s s' : Y) : Prop where
  fr : Fr s s'
  len : s'.sl.length = s.sl.length
  sl : ∀ i, ¬ i ∈ W → s'.sl[i]? = s.sl[i]?
theorem FrW.refl (W : List Nat) (s : Y) : FrW W s s := ⟨Fr.refl s, rfl, fun _ _ => rfl⟩
theorem FrW.trans {W : List Nat} {a b c : Y} (h1 : FrW W a b) (h2 : FrW W b c) : FrW W a c := ⟨h1.fr.trans h2.fr, h2.len.trans h1.len, fun i hi => (h2.sl i hi).trans (h1.sl i hi)⟩
theorem FrW.mono {W W' : List Nat} {a b : Y} (h : FrW W a b) (hw : ∀ i, i ∈ W → i ∈ W') : FrW W' a b := ⟨h.fr, h.len, fun i hi => h.sl i (fun q => hi (hw i q))⟩

theorem sput_len (sl : List V) (d : Option Tmp) (x : V) : (sput sl d x).length = sl.length := by cases d <;> simp [sput]
theorem sput_get {sl : List V} {d : Option Tmp} {x : V} {i : Nat} (h : ∀ k, d = some k → k ≠ i) : (sput sl d x)[i]? = sl[i]? := by
  cases d with
  | none => rfl
  | some k => exact List.getElem?_set_ne (h k rfl)

theorem POL.mono {P : Program} {ops : Array Oper} {l : List Oper} {s : St} {Q Q' : St → Prop} (h : POL P ops l s Q) (hq : ∀ s, Q s → Q' s) : POL P ops l s Q' := by
  intro k hk ι a w r
  refine wpOps_mono ?_ _ _ _ (h k hk ι a w r)
  rintro e a' w' ⟨s3, ι3, ⟨q1, q2⟩, r3, ev3⟩
  exact ⟨s3, ι3, ⟨q1, hq _ q2⟩, r3, ev3⟩

theorem awanted_set {ops : Array Oper} {sl : List V} {o : Oper} {d : Nat} {x z : V} (hd : sl[d]? = some z) (hz : isOL z = true) (hw : awanted ops sl o = some true) : awanted ops (sl.set d x) o = some true := by
  unfold awanted at hw ⊢
  split
  · rfl
  · rename_i j want hg
    simp only [hg] at hw
    cases hd0 : (ops[j]?).bind (·.dst) with
    | none => rw [hd0] at hw; cases hw
    | some d0 =>
      rw [hd0] at hw
      simp only [Option.bind_some] at hw ⊢
      by_cases q : d0 = d
      · subst q; rw [hd] at hw; cases z <;> first | (cases hz; done) | (cases hw; done)
      · rw [List.getElem?_set_ne (fun e => q e.symm)]; exact hw
theorem frO_ok {W : List Nat} {o : Op} {s : Y} {K : Y → Prop} (h : frO W o s K) : ∃ s' : Y, K s' ∧ FrW W s s' ∧ (∀ (ops : Array Oper) (o' : Oper), awanted ops s.sl o' = some true → awanted ops s'.sl o' = some true) ∧
    ∀ {ι : Iota} {a : Act} {w : World}, SR s.den ι a w → ∃ ι', SR s'.den ι' a w ∧ Evolve (dens s.h) ι w (dens s'.h) ι' w := by
  obtain ⟨sl, hp, tch, an⟩ := s
  simp only [frO] at h
  split at h
  · rename_i d x id c e
    obtain ⟨hc, h⟩ := (need_iff _ _).1 h
    rw [fV_eq, setK_eq, fH_eq] at h
    obtain ⟨h1, ⟨z, h2, hz⟩, h3⟩ := frOd_ok e hc
    refine ⟨_, h, ⟨⟨by simp, fun j hj => List.mem_cons_of_mem _ hj, fun j hj hn => List.getElem?_set_ne (fun q => hn (by rw [← q]; exact List.mem_cons_self ..))⟩, by simp, fun j hj => List.getElem?_set_ne (fun q => hj (by rw [← q]; exact h1))⟩, fun ops o' hw => awanted_set h2 hz hw, h3⟩
  · exact ⟨_, h, FrW.refl _ _, fun _ _ q => q, fun r => ⟨_, r, Evolve.refl _ _ _⟩⟩

theorem xops_ok {E : Env} (hT : TblOk E.P E.T) (hI : InlOk E) {ops : Array Oper} {rid : Nat} {W : List Nat} (hW0 : ∀ d, d ∈ wrOps ops.toList → d ∈ W) : ∀ (l : List Oper) (i : Nat) (s : Y) (K : Y → Prop), (∀ o, o ∈ l → ∀ d, o.dst = some d → d ∈ W) → xops E ops rid l i s K →
    POL E.P ops l s.den (fun st => ∃ s', st = s'.den ∧ K s' ∧ FrW W s s')
  | [], i, s, K, _, h => POL.nil ⟨s, rfl, h, FrW.refl _ _⟩
  | o :: l, i, s, K, hW, h => by
    rw [xops_cons] at h
    have hdst := hW o (by simp)
    have ih : ∀ s1 : Y, FrW W s s1 → xops E ops rid l (i + 1) s1 K → POL E.P ops l s1.den (fun st => ∃ s', st = s'.den ∧ K s' ∧ FrW W s s') := fun s1 hf hx =>
      (xops_ok hT hI hW0 l (i + 1) s1 K (fun o ho => hW o (by simp [ho])) hx).mono fun st ⟨s', q1, q2, q3⟩ => ⟨s', q1, q2, hf.trans q3⟩
    have put : ∀ (s0 s1 : Y) (x : V), FrW W s s0 → s1.sl = s0.sl → Fr s0 s1 → FrW W s ⟨sput s1.sl o.dst x, s1.h, s1.tch, s1.an⟩ := by
      intro s0 s1 x h0 h1 h2
      refine h0.trans ⟨⟨h2.len, h2.tch, h2.h⟩, by simp only [sput_len, h1], fun j hj => ?_⟩
      simp only [h1]
      exact sput_get (fun k hk q => hj (q ▸ hdst k hk))
    rcases gd_spec h with ⟨hw, hr⟩ | ⟨hw, hr⟩
    · obtain ⟨s0, hr, hf0, hw0, hsr⟩ := frO_ok hr
      have hw := hw0 ops o hw
      have hf0 : FrW W s s0 := hf0.mono hW0
      refine POL.post (s2 := s0.den) hsr ?_
      obtain ⟨sl, hp, tch, an⟩ := s0
      simp only [xstep] at hr
      split at hr
      · rename_i f args hcall
        have hcl : callable E.P f = true := by
          unfold callOf at hcall
          repeat' split at hcall
          all_goals first | (cases hcall; done) | skip
          injection hcall with hcall; injection hcall with q _; subst q; assumption
        refine POL.call hw hcall hcl (xcall_ok hT hI hr) ?_
        rintro x k ⟨⟨sl2, hp2, tch2, an2⟩, h1, rfl, h2, h3⟩
        simp only at h1 h3
        rw [putK_eq] at h3
        have := ih _ (put _ ⟨sl2, hp2, tch2, an2⟩ x hf0 h1 h2) h3
        subst h1
        exact this
      · have hs := stepN_fr hr
        refine stepN_ok (s := ⟨sl, hp⟩) hs hw ?_
        rintro x h' ⟨h1, h2, h3⟩
        rw [putK_eq, tchK_eq] at h1
        have hf : Fr ⟨sl, hp, tch, an⟩ ⟨sl, h', wids o.op (aev sl) hp.length ++ tch, an⟩ := ⟨h2, fun j hj => List.mem_append.2 (.inr hj), fun j hj hn => h3 j hj (fun q => hn (List.mem_append.2 (.inl q)))⟩
        exact ih _ (put _ ⟨sl, h', wids o.op (aev sl) hp.length ++ tch, an⟩ x hf0 rfl hf) h1
    · refine POL.no hw ?_
      simp only at hr
      rw [putK_eq] at hr
      exact ih _ (put s s _ (FrW.refl _ _) rfl (Fr.refl _)) hr

/- arriving at a loop's head, or at a join -/
def baseR (W : List Nat) : List V → Nat → List V
  | [], _ => []
  | a :: r, i => (match W.contains i with
    | true => .any
    | false => a) :: baseR W r (i + 1)
def baseS (W : List Nat) (sl : List V) : List V := baseR W sl 0
/-- The state at the head that the numbers of objects are taken from. -/
structure Bs where
  sl : List V
  h : List XO
def idC (c : V) : Nat := match c with
  | .oL id _ => id
  | .sO id _ _ => id
  | _ => 0
def idAt (b : Bs) (d : Nat) : Nat := match b.sl[d]? with
  | some c => idC c
  | none => 0
def rowB (b : Bs) (id : Nat) : List V := match b.h[id]? with
  | some (.raw (.live o)) => (match o.rows with
    | [r] => r
    | _ => [])
  | _ => []
def mkRow : (ks : List CK) → Tup (ckTys ks) → List V → List V
  | .same :: ks, y, c :: r => c :: mkRow ks y r
  | .val t :: ks, (a, y), _ :: r => t.val a :: mkRow ks y r
  | .own _ _ :: ks, (l, y), c :: r => .oL (idC c) l.length :: mkRow ks y r
  | .ows _ _ :: ks, (l, y), c :: r => .sO (idC c) 0 l.length :: mkRow ks y r
  | .osf i :: ks, (a, y), _ :: r => selfV i a :: mkRow ks y r
  | _, _, _ => []
def setOwn : (ks : List CK) → Tup (ckTys ks) → List V → List XO → List XO
  | .same :: ks, y, _ :: r, h => setOwn ks y r h
  | .val _ :: ks, (_, y), _ :: r, h => setOwn ks y r h
  | .osf _ :: ks, (_, y), _ :: r, h => setOwn ks y r h
  | .own t e :: ks, (l, y), c :: r, h => setOwn ks y r (h.set (idC c) (.opt t l e))
  | .ows t e :: ks, (l, y), c :: r, h => setOwn ks y r (h.set (idC c) (.tl t l e))
  | _, _, _, h => h
/-- An object with another row. -/
def reRow (b : Bs) (id : Nat) (r : List V) : XO := match b.h[id]? with
  | some (.raw (.live o)) => .raw (.live ⟨o.sz, [r], o.elem⟩)
  | _ => .raw .dead
def setS : (g : List GK) → Tup (gts g) → Bs → List V → List V
  | [], _, _, l => l
  | .sl d t :: g, (y, r), b, l => setS g r b (l.set d (t.val y))
  | .lst d t e :: g, (y, r), b, l => setS g r b (l.set d (.oL (idAt b d) y.length))
  | .nls d t e :: g, (y, r), b, l => setS g r b (l.set d (.sO (idAt b d) 0 y.length))
  | .ob _ _ _ :: g, (y, r), b, l => setS g r b l
  | .ar _ _ _ :: g, (y, r), b, l => setS g r b l
  | .op _ _ _ :: g, (y, r), b, l => setS g r b l
  | .row _ ks :: g, y, b, l => match splitT (ckTys ks) (gts g) y with
    | (_, q) => setS g q b l
def setO : (g : List GK) → Tup (gts g) → Bs → List XO → List XO
  | [], _, _, h => h
  | .sl _ _ :: g, (y, r), b, h => setO g r b h
  | .lst d t e :: g, (y, r), b, h => setO g r b (h.set (idAt b d) (.opt t y e))
  | .nls d t e :: g, (y, r), b, h => setO g r b (h.set (idAt b d) (.tl t y e))
  | .ob id t e :: g, (y, r), b, h => setO g r b (h.set id (.ob t y e))
  | .ar id t e :: g, (y, r), b, h => setO g r b (h.set id (.tl t y e))
  | .op id t e :: g, (y, r), b, h => setO g r b (h.set id (.opt t y e))
  | .row id ks :: g, y, b, h => match splitT (ckTys ks) (gts g) y with
    | (c, q) => setO g q b (setOwn ks c (rowB b id) (h.set id (reRow b id (mkRow ks c (rowB b id)))))

def rdK : (ks : List CK) → List V → List XO → Option (Tup (ckTys ks))
  | [], [], _ => some ()
  | .same :: ks, _ :: r, h => rdK ks r h
  | .val t :: ks, c :: r, h => match un (unPure 8) t [c], rdK ks r h with
    | some (a, []), some q => some (a, q)
    | _, _ => none
  | .osf i :: ks, c :: r, h => match rdSelf i c, rdK ks r h with
    | some a, some q => some (a, q)
    | _, _ => none
  | .own t e :: ks, c :: r, h => match c with
    | .oL id _ => match h[id]? with
      | some (.opt _ l e') => if e' = e then match castL (t' := t) l, rdK ks r h with
        | some l, some q => some (l, q)
        | _, _ => none
        else none
      | _ => none
    | _ => none
  | .ows t e :: ks, c :: r, h => match c with
    | .sO id 0 _ => match h[id]? with
      | some (.tl _ l e') => if e' = e then match castL (t' := t) l, rdK ks r h with
        | some l, some q => some (l, q)
        | _, _ => none
        else none
      | _ => none
    | _ => none
  | _, _, _ => none
def cdK : (ks : List CK) → List V → List XO → List Bool
  | .own _ _ :: ks, c :: r, h => lensV h c ++ cdK ks r h
  | .ows _ _ :: ks, c :: r, h => lensV h c ++ cdK ks r h
  | _ :: ks, _ :: r, h => cdK ks r h
  | _, _, _ => []
def sameK : (ks : List CK) → List V → List V → Prop → Prop
  | .same :: ks, c' :: r', c :: r, A => c' = c ∧ sameK ks r' r A
  | .val _ :: ks, _ :: r', _ :: r, A => sameK ks r' r A
  | .own _ _ :: ks, _ :: r', _ :: r, A => sameK ks r' r A
  | .ows _ _ :: ks, _ :: r', _ :: r, A => sameK ks r' r A
  | .osf _ :: ks, _ :: r', _ :: r, A => sameK ks r' r A
  | [], _, _, A => A
  | _, _, _, _ => False
def ownIds : (ks : List CK) → List V → List Nat
  | .own _ _ :: ks, c :: r => idC c :: ownIds ks r
  | .ows _ _ :: ks, c :: r => idC c :: ownIds ks r
  | _ :: ks, _ :: r => ownIds ks r
  | _, _ => []
def sigK : (ks : List CK) → List V → List V → List Nat → List Nat
  | .own _ _ :: ks, c :: r, c' :: r', σ => sigK ks r r' (σ.set (idC c) (idC c'))
  | .ows _ _ :: ks, c :: r, c' :: r', σ => sigK ks r r' (σ.set (idC c) (idC c'))
  | _ :: ks, _ :: r, _ :: r', σ => sigK ks r r' σ
  | _, _, _, σ => σ
def sigOkK (σ : List Nat) : (ks : List CK) → List V → List V → Bool
  | .own _ _ :: ks, c :: r, c' :: r' => (σ[idC c]? == some (idC c')) && sigOkK σ ks r r'
  | .ows _ _ :: ks, c :: r, c' :: r' => (σ[idC c]? == some (idC c')) && sigOkK σ ks r r'
  | _ :: ks, _ :: r, _ :: r' => sigOkK σ ks r r'
  | _, _, _ => true

def rdG : (g : List GK) → List V → List XO → Option (Tup (gts g))
  | [], _, _ => some ()
  | .sl d t :: g, sl, h => match sl[d]? with
    | some v => match un (unPure 8) t (argCells t v), rdG g sl h with
      | some (a, []), some r => some (a, r)
      | _, _ => none
    | none => none
  | .lst d t e :: g, sl, h => match sl[d]? with
    | some (.oL id _) => match h[id]? with
      | some (.opt _ l e') => if e' = e then match castL (t' := t) l, rdG g sl h with
        | some l, some r => some (l, r)
        | _, _ => none
        else none
      | _ => none
    | _ => none
  | .nls d t e :: g, sl, h => match sl[d]? with
    | some (.sO id 0 _) => match h[id]? with
      | some (.tl _ l e') => if e' = e then match castL (t' := t) l, rdG g sl h with
        | some l, some r => some (l, r)
        | _, _ => none
        else none
      | _ => none
    | _ => none
  | .ob id t e :: g, sl, h => match h[id]? with
    | some o => (match rdOb t e o, rdG g sl h with
      | some a, some q => some (a, q)
      | _, _ => none)
    | _ => none
  | .ar id t e :: g, sl, h => match h[id]? with
    | some (.tl _ l e') => if e' = e then match castL (t' := t) l, rdG g sl h with
      | some l, some r => some (l, r)
      | _, _ => none
      else none
    | _ => none
  | .op id t e :: g, sl, h => match h[id]? with
    | some (.opt _ l e') => if e' = e then match castL (t' := t) l, rdG g sl h with
      | some l, some r => some (l, r)
      | _, _ => none
      else none
    | _ => none
  | .row id ks :: g, sl, h => match rdK ks (rowB ⟨sl, h⟩ id) h, rdG g sl h with
    | some c, some q => some (joinT (ckTys ks) (gts g) c q)
    | _, _ => none
def cdG (h : List XO) (sl : List V) : List GK → List Bool
  | [] => []
  | .lst d _ _ :: g => (match sl[d]? with
    | some v => lensV h v
    | none => []) ++ cdG h sl g
  | .nls d _ _ :: g => (match sl[d]? with
    | some v => lensV h v
    | none => []) ++ cdG h sl g
  | .row id ks :: g => cdK ks (rowB ⟨sl, h⟩ id) h ++ cdG h sl g
  | _ :: g => cdG h sl g
/-- Cells that are said to be as they were, are. -/
def sameG (b b' : Bs) : List GK → Prop → Prop
  | [], A => A
  | .row id ks :: g, A => sameK ks (rowB b' id) (rowB b id) (sameG b b' g A)
  | .sl _ _ :: g, A => sameG b b' g A
  | .lst _ _ _ :: g, A => sameG b b' g A
  | .nls _ _ _ :: g, A => sameG b b' g A
  | .ob _ _ _ :: g, A => sameG b b' g A
  | .ar _ _ _ :: g, A => sameG b b' g A
  | .op _ _ _ :: g, A => sameG b b' g A
def gslots : List GK → List Nat
  | [] => []
  | .sl d _ :: g => d :: gslots g
  | .lst d _ _ :: g => d :: gslots g
  | .nls d _ _ :: g => d :: gslots g
  | _ :: g => gslots g
def gids (b : Bs) : List GK → List Nat
  | [] => []
  | .sl _ _ :: g => gids b g
  | .lst d _ _ :: g => idAt b d :: gids b g
  | .nls d _ _ :: g => idAt b d :: gids b g
  | .ob id _ _ :: g => id :: gids b g
  | .ar id _ _ :: g => id :: gids b g
  | .op id _ _ :: g => id :: gids b g
  | .row id ks :: g => id :: (ownIds ks (rowB b id) ++ gids b g)
/-- The numbers that the objects had. -/
def sig (g : List GK) (b b' : Bs) (σ : List Nat) : List Nat := match g with
  | [] => σ
  | .lst d _ _ :: g => sig g b b' (σ.set (idAt b d) (idAt b' d))
  | .nls d _ _ :: g => sig g b b' (σ.set (idAt b d) (idAt b' d))
  | .row id ks :: g => sig g b b' (sigK ks (rowB b id) (rowB b' id) σ)
  | _ :: g => sig g b b' σ
/-- A value without objects. -/
def niV : Nat → V → Bool
  | 0, _ => false
  | n + 1, x => match x with
    | .v _ => true
    | .any => true
    | .sL _ _ => true
    | .pF row _ => row.all (niV n)
    | .sF _ rows => rows.all (·.all (niV n))
    | .agg xs => xs.all (niV n)
    | .tup xs => xs.all (niV n)
    | _ => false
theorem niV_ok : ∀ {n : Nat} {x : V}, niV n x = true → NI 0 x
  | 0, x, h => by simp [niV] at h
  | n + 1, x, h => by
    cases x with
    | v x => exact .v _
    | any => exact .any
    | sL t l => exact .sL _ _
    | pF row o => exact .pF o fun x hx => niV_ok (List.all_eq_true.1 h x hx)
    | sF sz rows => exact .sF sz fun r hr x hx => niV_ok (List.all_eq_true.1 (List.all_eq_true.1 h r hr) x hx)
    | agg xs => exact .agg fun x hx => niV_ok (List.all_eq_true.1 h x hx)
    | tup xs => exact .tup fun x hx => niV_ok (List.all_eq_true.1 h x hx)
    | _ => cases h
def fixI (σ : List Nat) (id : Nat) : Bool := σ[id]? == some id
def fixV (σ : List Nat) : Nat → V → Bool
  | 0, _ => false
  | n + 1, x => match x with
    | .v _ => true
    | .any => true
    | .pO id _ _ => fixI σ id
    | .sO id _ _ => fixI σ id
    | .oL id _ => fixI σ id
    | .sL _ _ => true
    | .agg xs => xs.all (fixV σ n)
    | .tup xs => xs.all (fixV σ n)
    | .fn _ a b => a.all (fixV σ n) && b.all (fixV σ n)
    | .ifc _ x => fixV σ n x
    | .pF row _ => row.all (niV 6)
    | .sF _ rows => rows.all (·.all (niV 6))
def fixK (σ : List Nat) : (ks : List CK) → List V → Bool
  | [], [] => true
  | .same :: ks, c :: r => fixV σ 6 c && fixK σ ks r
  | .val t :: ks, _ :: r => (match t with | .pair _ _ => false | _ => true) && fixK σ ks r
  | .own _ _ :: ks, _ :: r => fixK σ ks r
  | .ows _ _ :: ks, _ :: r => fixK σ ks r
  | .osf i :: ks, _ :: r => fixI σ i && fixK σ ks r
  | _, _ => false
def isObj (b : Bs) (id : Nat) : Option (Nat × El) := match b.h[id]? with
  | some (.raw (.live o)) => (match o.rows with
    | [_] => some (o.sz, o.elem)
    | _ => none)
  | _ => none
def sameObj (b b' : Bs) (id : Nat) : Bool := match isObj b id, isObj b' id with
  | some (s, e), some (s', e') => Nat.beq s s' && (Nat.beq e.t e'.t && Nat.beq e.fz e'.fz)
  | _, _ => false
def sigOk (σ : List Nat) (b b' : Bs) : List GK → Bool
  | [] => true
  | .sl _ _ :: g => sigOk σ b b' g
  | .lst d _ _ :: g => (σ[idAt b d]? == some (idAt b' d)) && sigOk σ b b' g
  | .nls d _ _ :: g => (σ[idAt b d]? == some (idAt b' d)) && sigOk σ b b' g
  | .ob id _ _ :: g => (σ[id]? == some id) && sigOk σ b b' g
  | .ar id _ _ :: g => (σ[id]? == some id) && sigOk σ b b' g
  | .op id _ _ :: g => (σ[id]? == some id) && sigOk σ b b' g
  | .row id ks :: g => (σ[id]? == some id) && (sigOkK σ ks (rowB b id) (rowB b' id) && (fixK σ ks (rowB b id) && (sameObj b b' id && sigOk σ b b' g)))
def fixX (σ : List Nat) : XO → Bool
  | .raw (.live o) => o.rows.all (·.all (fixV σ 6))
  | .raw .dead => true
  | .raw .free => false
  | _ => true
def nodupB : List Nat → Bool
  | [] => true
  | x :: xs => !xs.contains x && nodupB xs
def fixH (σ gi : List Nat) : List XO → Nat → Bool
  | [], _ => true
  | o :: r, j => (gi.contains j || (fixX σ o && (σ[j]? == some j))) && fixH σ gi r (j + 1)
def identB (n0 : Nat) (σ : List Nat) : Bool := (List.range n0).all fun j => σ[j]? == some j
def Y.bs (s : Y) : Bs := ⟨s.sl, s.h⟩
def okG (n0 : Nat) (W : List Nat) (g : List GK) (s1 s' : Y) (σ : List Nat) : Bool :=
  nodupB σ && identB n0 σ && σ.all (fun i => Nat.blt i s'.h.length) && sigOk σ s1.bs s'.bs g && (baseS W s1.sl).all (fixV σ 6) && fixH σ (gids s1.bs g) s1.h 0 &&
    s'.tch.all (fun j => (gids s1.bs g).contains j || Nat.ble s1.h.length j) && (gslots g).all (fun d => W.contains d)
def arrive (n0 : Nat) (W : List Nat) (g : List GK) (s1 s' : Y) (k : Tup (gts g) → Prop) : Prop :=
  match rdG g s'.sl s'.h with
  | some y => needs (cdG s'.h s'.sl g) (sameG s1.bs s'.bs g (Kern (okG n0 W g s1 s' (sig g s1.bs s'.bs (List.range s1.h.length))) ∧ k y))
  | none => False

/-- Lists that are still nil get an object: in slots. -/
def prepL : List GK → List V → List XO → (List V → List XO → Prop) → Prop
  | [], sl, h, K => K sl h
  | .lst d t e :: g, sl, h, K => match sl[d]? with
    | some (.v (.slice none 0 0)) => fN h.length fun n => setK sl d (.oL n 0) fun sl => fH (h ++ [XO.opt t [] e]) fun h => prepL g sl h K
    | _ => prepL g sl h K
  | _ :: g, sl, h, K => prepL g sl h K
def nilOwn (n : Nat) : List CK → List V → List V × List XO
  | .own t e :: ks, c :: r => match c with
    | .v (.slice none 0 0) => (.oL n 0 :: (nilOwn (n + 1) ks r).1, .opt t [] e :: (nilOwn (n + 1) ks r).2)
    | c => (c :: (nilOwn n ks r).1, (nilOwn n ks r).2)
  | _ :: ks, c :: r => (c :: (nilOwn n ks r).1, (nilOwn n ks r).2)
  | _, r => (r, [])
/-- The same in cells of objects. -/
def prepR : List GK → List XO → (List XO → Prop) → Prop
  | .row id ks :: g, h, K => match h[id]? with
    | some (.raw (.live o)) => (match o.rows with
      | [r] => match nilOwn h.length ks r with
        | (r', new) => fH ((h ++ new).set id (.raw (.live ⟨o.sz, [r'], o.elem⟩))) fun h => prepR g h K
      | _ => prepR g h K)
    | _ => prepR g h K
  | _ :: g, h, K => prepR g h K
  | [], h, K => K h
def rowIds : List GK → List Nat
  | [] => []
  | .row id _ :: g => id :: rowIds g
  | _ :: g => rowIds g
theorem rowIds_gids {b : Bs} : ∀ {g : List GK} {j : Nat}, j ∈ rowIds g → j ∈ gids b g
  | .sl _ _ :: g, j, h => rowIds_gids (g := g) h
  | .lst _ _ _ :: g, j, h => List.mem_cons_of_mem _ (rowIds_gids (g := g) h)
  | .nls _ _ _ :: g, j, h => List.mem_cons_of_mem _ (rowIds_gids (g := g) h)
  | .ob _ _ _ :: g, j, h => List.mem_cons_of_mem _ (rowIds_gids (g := g) h)
  | .ar _ _ _ :: g, j, h => List.mem_cons_of_mem _ (rowIds_gids (g := g) h)
  | .op _ _ _ :: g, j, h => List.mem_cons_of_mem _ (rowIds_gids (g := g) h)
  | .row id ks :: g, j, h => by
    simp only [rowIds, List.mem_cons] at h
    simp only [gids, List.mem_cons, List.mem_append]
    exact h.imp (fun q => q) fun q => .inr (rowIds_gids (g := g) q)
def prepG (g : List GK) (sl : List V) (h : List XO) (K : List V → List XO → Prop) : Prop := prepL g sl h fun sl h => prepR g h fun h => K sl h

theorem SR.dead {sl : List V} {h : Heap} {ι : Iota} {a : Act} {w : World} (r : SR ⟨sl, h⟩ ι a w) : SR ⟨sl, h ++ [.dead]⟩ ι a w ∧ Evolve h ι w (h ++ [.dead]) ι w := by
  obtain ⟨r1, ev1⟩ := r.reserve 1
  have hf : (h ++ List.replicate 1 HS.free)[h.length]? = some .free := by simp
  obtain ⟨h2, ev2⟩ := r1.heap.fill hf
  have hd : (h ++ List.replicate 1 HS.free).set h.length .dead = h ++ [.dead] := by simp
  simp only [hd] at h2 ev2
  exact ⟨⟨r1.defers, r1.slots.mono ev2, h2⟩, ev1.trans ev2⟩
theorem SR.deads {sl : List V} {ι : Iota} {a : Act} {w : World} : ∀ (n : Nat) {h : Heap}, SR ⟨sl, h⟩ ι a w → SR ⟨sl, h ++ List.replicate n .dead⟩ ι a w ∧ Evolve h ι w (h ++ List.replicate n .dead) ι w
  | 0, h, r => by simp only [List.replicate_zero, List.append_nil]; exact ⟨r, Evolve.refl _ _ _⟩
  | n + 1, h, r => by
    obtain ⟨r1, ev1⟩ := r.dead
    obtain ⟨r2, ev2⟩ := SR.deads n r1
    have e : h ++ [HS.dead] ++ List.replicate n HS.dead = h ++ List.replicate (n + 1) .dead := by rw [List.append_assoc]; rfl
    rw [e] at r2 ev2
    exact ⟨r2, ev1.trans ev2⟩
theorem LE.oL0 (n : Nat) : LE (.v (.slice none 0 0)) (.oL n 0) := fun r => .oL _ _ _ (by rw [if_pos rfl]; exact r)

theorem prepL_ok : ∀ (g : List GK) (sl : List V) (h : List XO) (K : List V → List XO → Prop), prepL g sl h K →
    ∃ sl' h', K sl' h' ∧ sl'.length = sl.length ∧ (∀ i, ¬ i ∈ gslots g → sl'[i]? = sl[i]?) ∧ h.length ≤ h'.length ∧ (∀ j, j < h.length → h'[j]? = h[j]?) ∧
      ∀ {ι : Iota} {a : Act} {w : World}, SR ⟨sl, dens h⟩ ι a w → SR ⟨sl', dens h'⟩ ι a w ∧ Evolve (dens h) ι w (dens h') ι w
  | [], sl, h, K, q => ⟨sl, h, q, rfl, fun _ _ => rfl, Nat.le_refl _, fun _ _ => rfl, fun r => ⟨r, Evolve.refl _ _ _⟩⟩
  | .sl d _ :: g, sl, h, K, q => by
    obtain ⟨sl', h', q1, q2, q3, q4⟩ := prepL_ok g sl h K q
    exact ⟨sl', h', q1, q2, fun i hi => q3 i (fun q => hi (by simp [gslots, q])), q4⟩
  | .nls d _ _ :: g, sl, h, K, q => by
    obtain ⟨sl', h', q1, q2, q3, q4⟩ := prepL_ok g sl h K q
    exact ⟨sl', h', q1, q2, fun i hi => q3 i (fun q => hi (by simp [gslots, q])), q4⟩
  | .ob _ _ _ :: g, sl, h, K, q => prepL_ok g sl h K q
  | .ar _ _ _ :: g, sl, h, K, q => prepL_ok g sl h K q
  | .op _ _ _ :: g, sl, h, K, q => prepL_ok g sl h K q
  | .row _ _ :: g, sl, h, K, q => prepL_ok g sl h K q
  | .lst d t e :: g, sl, h, K, q => by
    have skip : prepL g sl h K → ∃ sl' h', K sl' h' ∧ sl'.length = sl.length ∧ (∀ i, ¬ i ∈ gslots (.lst d t e :: g) → sl'[i]? = sl[i]?) ∧ h.length ≤ h'.length ∧ (∀ j, j < h.length → h'[j]? = h[j]?) ∧
        ∀ {ι : Iota} {a : Act} {w : World}, SR ⟨sl, dens h⟩ ι a w → SR ⟨sl', dens h'⟩ ι a w ∧ Evolve (dens h) ι w (dens h') ι w := fun q => by
      obtain ⟨sl', h', q1, q2, q3, q4⟩ := prepL_ok g sl h K q
      exact ⟨sl', h', q1, q2, fun i hi => q3 i (fun q => hi (by simp [gslots, q])), q4⟩
    simp only [prepL] at q
    split at q
    · rename_i hd
      rw [fN_eq, setK_eq, fH_eq] at q
      obtain ⟨sl', h', q1, q2, q3, q4, q5, q6⟩ := prepL_ok g _ _ K q
      refine ⟨sl', h', q1, by simpa using q2, fun i hi => ?_, by simp at q4; omega, fun j hj => ?_, fun {ι a w} r => ?_⟩
      · simp only [gslots, List.mem_cons, not_or] at hi
        rw [q3 i hi.2, List.getElem?_set_ne (Ne.symm hi.1)]
      · rw [q5 j (by simp; omega), List.getElem?_append_left hj]
      · obtain ⟨r1, ev1⟩ := r.dead
        have hden : dens h ++ [HS.dead] = dens (h ++ [XO.opt t [] e]) := by simp [dens, XO.den]
        rw [hden] at r1 ev1
        obtain ⟨r2, ev2⟩ := q6 (r1.setLE hd (LE.oL0 h.length))
        exact ⟨r2, ev1.trans ev2⟩
    · exact skip q
theorem nilOwn_ok : ∀ (ks : List CK) (r : List V) (n : Nat), (nilOwn n ks r).1.length = r.length ∧ dens (nilOwn n ks r).2 = List.replicate (nilOwn n ks r).2.length .dead ∧ ∀ (i : Nat) (x y : V), r[i]? = some x → (nilOwn n ks r).1[i]? = some y → LE x y
  | [], r, n => ⟨by cases r <;> rfl, by cases r <;> rfl, fun i x y h1 h2 => by cases r <;> (simp [nilOwn] at h2 h1; try (rw [h1] at h2; injection h2 with h2; subst h2; exact LE.refl _))⟩
  | .same :: _, [], n => ⟨rfl, rfl, fun i x y h => by simp at h⟩
  | .osf _ :: _, [], n => ⟨rfl, rfl, fun i x y h => by simp at h⟩
  | .val _ :: _, [], n => ⟨rfl, rfl, fun i x y h => by simp at h⟩
  | .own _ _ :: _, [], n => ⟨rfl, rfl, fun i x y h => by simp at h⟩
  | .ows _ _ :: _, [], n => ⟨rfl, rfl, fun i x y h => by simp at h⟩
  | .same :: ks, c :: r, n => by
    obtain ⟨q1, q2, q3⟩ := nilOwn_ok ks r n
    exact ⟨by simp [nilOwn, q1], q2, fun i x y h1 h2 => by
      cases i with
      | zero => simp [nilOwn] at h1 h2; rw [← h1, ← h2]; exact LE.refl _
      | succ i => exact q3 i x y (by simpa using h1) (by simpa [nilOwn] using h2)⟩
  | .val _ :: ks, c :: r, n => by
    obtain ⟨q1, q2, q3⟩ := nilOwn_ok ks r n
    exact ⟨by simp [nilOwn, q1], q2, fun i x y h1 h2 => by
      cases i with
      | zero => simp [nilOwn] at h1 h2; rw [← h1, ← h2]; exact LE.refl _
      | succ i => exact q3 i x y (by simpa using h1) (by simpa [nilOwn] using h2)⟩
  | .osf _ :: ks, c :: r, n => by
    obtain ⟨q1, q2, q3⟩ := nilOwn_ok ks r n
    exact ⟨by simp [nilOwn, q1], q2, fun i x y h1 h2 => by
      cases i with
      | zero => simp [nilOwn] at h1 h2; rw [← h1, ← h2]; exact LE.refl _
      | succ i => exact q3 i x y (by simpa using h1) (by simpa [nilOwn] using h2)⟩
  | .own t e :: ks, c :: r, n => by
    obtain ⟨p1, p2, p3⟩ := nilOwn_ok ks r (n + 1)
    obtain ⟨q1, q2, q3⟩ := nilOwn_ok ks r n
    simp only [nilOwn]
    split
    · refine ⟨by simp [p1], by simp only [List.length_cons, List.replicate_succ, ← p2]; rfl, fun i x y h1 h2 => ?_⟩
      cases i with
      | zero => simp at h1 h2; rw [← h1, ← h2]; exact LE.oL0 _
      | succ i => exact p3 i x y (by simpa using h1) (by simpa using h2)
    · refine ⟨by simp [q1], q2, fun i x y h1 h2 => ?_⟩
      cases i with
      | zero => simp at h1 h2; rw [← h1, ← h2]; exact LE.refl _
      | succ i => exact q3 i x y (by simpa using h1) (by simpa using h2)
  | .ows _ _ :: ks, c :: r, n => by
    obtain ⟨q1, q2, q3⟩ := nilOwn_ok ks r n
    exact ⟨by simp [nilOwn, q1], q2, fun i x y h1 h2 => by
      cases i with
      | zero => simp [nilOwn] at h1 h2; rw [← h1, ← h2]; exact LE.refl _
      | succ i => exact q3 i x y (by simpa using h1) (by simpa [nilOwn] using h2)⟩
theorem prepR_ok : ∀ (g : List GK) (h : List XO) (K : List XO → Prop), prepR g h K →
    ∃ h', K h' ∧ h.length ≤ h'.length ∧ (∀ j, j < h.length → ¬ j ∈ rowIds g → h'[j]? = h[j]?) ∧
      ∀ {sl : List V} {ι : Iota} {a : Act} {w : World}, SR ⟨sl, dens h⟩ ι a w → SR ⟨sl, dens h'⟩ ι a w ∧ Evolve (dens h) ι w (dens h') ι w
  | [], h, K, q => ⟨h, q, Nat.le_refl _, fun _ _ _ => rfl, fun r => ⟨r, Evolve.refl _ _ _⟩⟩
  | .sl _ _ :: g, h, K, q => prepR_ok g h K q
  | .lst _ _ _ :: g, h, K, q => prepR_ok g h K q
  | .nls _ _ _ :: g, h, K, q => prepR_ok g h K q
  | .ob _ _ _ :: g, h, K, q => prepR_ok g h K q
  | .ar _ _ _ :: g, h, K, q => prepR_ok g h K q
  | .op _ _ _ :: g, h, K, q => prepR_ok g h K q
  | .row id ks :: g, h, K, q => by
    have skip : prepR g h K → ∃ h', K h' ∧ h.length ≤ h'.length ∧ (∀ j, j < h.length → ¬ j ∈ rowIds (.row id ks :: g) → h'[j]? = h[j]?) ∧
        ∀ {sl : List V} {ι : Iota} {a : Act} {w : World}, SR ⟨sl, dens h⟩ ι a w → SR ⟨sl, dens h'⟩ ι a w ∧ Evolve (dens h) ι w (dens h') ι w := fun q => by
      obtain ⟨h', q1, q2, q3, q4⟩ := prepR_ok g h K q
      exact ⟨h', q1, q2, fun j hj hn => q3 j hj (fun hb => hn (by simp [rowIds, hb])), q4⟩
    simp only [prepR] at q
    split at q
    · rename_i o ho
      split at q
      · rename_i r hr
        rw [fH_eq] at q
        obtain ⟨n1, n2, n3⟩ := nilOwn_ok ks r h.length
        generalize hr' : (nilOwn h.length ks r).1 = r' at n1 n3 q
        generalize hnew : (nilOwn h.length ks r).2 = new at n2 q
        obtain ⟨h', q1, q2, q3, q4⟩ := prepR_ok g _ K q
        have hid := get_lt ho
        refine ⟨h', q1, by simp at q2; omega, fun j hj hn => ?_, fun {sl ι a w} r0 => ?_⟩
        · rw [q3 j (by simp; omega) (fun hb => hn (by simp [rowIds, hb])), List.getElem?_set_ne (fun q => hn (by simp [rowIds, q])), List.getElem?_append_left hj]
        · obtain ⟨r1, ev1⟩ := SR.deads new.length r0
          rw [← n2, ← dens_app] at r1 ev1
          have hd : (dens (h ++ new))[id]? = some (.live o) := by rw [dens_get, List.getElem?_append_left hid, ho]; rfl
          obtain ⟨H2, ev2⟩ := r1.heap.weakObj (o' := ⟨o.sz, [r'], o.elem⟩) hd rfl rfl (by rw [hr]; rfl) (fun i r1 r2 h1 h2 => by
            rw [hr] at h1
            cases i with
            | zero => simp at h1 h2; subst h1 h2; exact ⟨n1.symm, n3⟩
            | succ i => simp at h1)
          have e : (dens (h ++ new)).set id (.live ⟨o.sz, [r'], o.elem⟩) = dens ((h ++ new).set id (.raw (.live ⟨o.sz, [r'], o.elem⟩))) := by rw [dens_set]; rfl
          simp only [e] at H2 ev2
          obtain ⟨r3, ev3⟩ := q4 (sl := sl) (ι := ι) (a := a) (w := w) ⟨r1.defers, r1.slots.mono ev2, H2⟩
          exact ⟨r3, (ev1.trans ev2).trans ev3⟩
      · exact skip q
    · exact skip q

theorem prepG_ok {g : List GK} {sl : List V} {h : List XO} {K : List V → List XO → Prop} (q : prepG g sl h K) :
    ∃ sl' h', K sl' h' ∧ sl'.length = sl.length ∧ (∀ i, ¬ i ∈ gslots g → sl'[i]? = sl[i]?) ∧ h.length ≤ h'.length ∧ (∀ j, j < h.length → ¬ j ∈ rowIds g → h'[j]? = h[j]?) ∧
      ∀ {ι : Iota} {a : Act} {w : World}, SR ⟨sl, dens h⟩ ι a w → SR ⟨sl', dens h'⟩ ι a w ∧ Evolve (dens h) ι w (dens h') ι w := by
  obtain ⟨sl', h1, q1, q2, q3, q4, q5, q6⟩ := prepL_ok g sl h _ q
  obtain ⟨h', r1, r2, r3, r4⟩ := prepR_ok g h1 _ q1
  refine ⟨sl', h', r1, q2, q3, Nat.le_trans q4 r2, fun j hj hn => (r3 j (Nat.lt_of_lt_of_le hj q4) hn).trans (q5 j hj), fun {ι a w} r => ?_⟩
  obtain ⟨s1, e1⟩ := q6 r
  obtain ⟨s2, e2⟩ := r4 s1
  exact ⟨s2, e1.trans e2⟩

end Go.Abs
