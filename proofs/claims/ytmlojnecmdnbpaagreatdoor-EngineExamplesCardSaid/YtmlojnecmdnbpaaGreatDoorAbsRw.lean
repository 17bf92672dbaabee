/- A run of closed code in the kernel. Part 3: the whole run is sound. -/
import Derived.Test.YtmlojnecmdnbpaaGreatDoorAbsRy
namespace Go.Abs
set_option linter.unusedVariables false
set_option linter.unusedSimpArgs false
noncomputable section

/-- Functions whose answer is known. -/
abbrev RD := FuncId → List V → RH → Option (V × RH)
def RDOk (P : Program) (D : RD) : Prop := ∀ f args H x H', D f args H = some (x, H') → PC P f args H.den (fun y k => y = x ∧ k = H'.den) ∧ Fr' H H'
/-- What a run takes as known: answers, functions that end in a range over slices.Chunk, iterators of slices.Chunk. -/
structure RE where
  d : RD
  l : FuncId → Bool
  c : FuncId → Nat
structure REOk (P : Program) (D : RE) : Prop where
  d : RDOk P D.d
  c : ∀ g, D.c g ≠ 0 → ChunkItK P g (D.c g) ∧ callable P g = true
def rAl : Op → Bool
  | .alloc _ => true
  | .box _ _ => true
  | .buildSlice _ _ _ => true
  | .makeSlice _ _ _ => true
  | .convert _ _ _ => true
  | .call ⟨.builtin _, _, _⟩ => true
  | _ => false
def rbump (op : Op) (n : Nat) : Nat := bif rAl op then n + 1 else n

def rstep (P : Program) (D : RE) (ih : RT → Option RR) : RT → Option RR
  | .code c s => match c with
    | .skip => some (.code .normal s)
    | .region _ ops d => (match d with
      | true => rreg P ih ops s
      | false => ih (.ops ops ops.toList s))
    | .seq a b => match ih (.code a s) with
      | some (.code .normal s') => ih (.code b s')
      | r => r
    | .cond c t e => match rev s.n s.sl c with
      | .v (.bool b) => ih (.code (if b then t else e) s)
      | _ => none
    | .block id c => match ih (.code c s) with
      | some (.code (.exit id') s') => if id' = id then some (.code .normal s') else some (.code (.exit id') s')
      | r => r
    | .loop b => match ih (.code b s) with
      | some (.code .normal s') => ih (.code (.loop b) s')
      | r => r
    | .exit id => some (.code (.exit id) s)
    | .ret => some (.code .ret s)
    | _ => none
  | .ops ops l s => match l with
    | [] => some (.code .normal s)
    | o :: r => match rwanted ops s.n s.sl o with
      | some true => match rcallOf P (rev s.n s.sl) o.op with
        | some (f, args) => match ih (.call f args s.h) with
          | some (.val x h') => ih (.ops ops r ⟨s.n, rputT s.sl o.dst x, h'⟩)
          | _ => none
        | none => match rop P o.op (rev s.n s.sl) s.h s.h.nx with
          | some (x, h') => bif Nat.blt s.h.nx s.h.m then ih (.ops ops r ⟨s.n, rputT s.sl o.dst x, ⟨h'.m, rbump o.op s.h.nx, h'.t, rwids P o.op (rev s.n s.sl) s.h.nx ++ s.h.lg⟩⟩) else none
          | none => none
      | some false => ih (.ops ops r ⟨s.n, rputT s.sl o.dst (.v undef), s.h⟩)
      | none => none
  | .call f args h => match D.d f args h with
    | some (x, h') => some (.val x h')
    | none => match P.funcs[f]? with
      | some fn => match fn.body with
        | some c => bif D.l f then (match rtail P D.c ih fn.results.toList 64 c (rstart fn.ntmps args h) with
          | some (x, h') => some (.val x h')
          | none => none) else match ih (.code c (rstart fn.ntmps args h)) with
          | some (.code e s') => match e with
            | .normal => (match rares P fn.results.toList s' with
              | some x => some (.val x s'.h)
              | none => none)
            | .ret => (match rares P fn.results.toList s' with
              | some x => some (.val x s'.h)
              | none => none)
            | _ => none
          | _ => none
        | none => none
      | none => none
def rrun (P : Program) (D : RE) (n : Nat) : RT → Option RR :=
  Nat.rec (motive := fun _ => RT → Option RR) (fun _ => none) (fun _ ih => rstep P D ih) n
theorem rrun_succ (P : Program) (D : RE) (n : Nat) (t : RT) : rrun P D (n + 1) t = rstep P D (rrun P D n) t := rfl

theorem rloop_fr {P : Program} {D : RE} {b : Code} (n : Nat) (hrec : ∀ m, m < n + 1 → RIH P (rrun P D m)) : ∀ (m : Nat) (s : RS) (e : Exit) (s' : RS), m ≤ n + 1 → rrun P D m (.code (.loop b) s) = some (.code e s') → Fr' s.h s'.h
  | 0, _, _, _, _, q => by cases q
  | m + 1, s, e, s', hm, q => by
    rw [rrun_succ] at q
    simp only [rstep] at q
    split at q
    · rename_i s2 h2
      exact (hrec m (by omega) _ _ h2).2.trans (rloop_fr n hrec m s2 e s' (by omega) q)
    · exact (hrec m (by omega) _ _ q).2
theorem rstep_sound {P : Program} {D : RE} (hm : P.follows .mixedOrders = true) (hD : REOk P D) (n : Nat) (hrec : ∀ m, m < n + 1 → RIH P (rrun P D m)) (t : RT) (r : RR) (e : rstep P D (rrun P D n) t = some r) : RTS P t r := by
  have hih : RIH P (rrun P D n) := hrec n (by omega)
  cases t with
  | code c s =>
    simp only [rstep] at e
    cases c with
    | skip => injection e with e; subst e; exact ⟨PW.skip ⟨rfl, rfl⟩, Fr'.refl _⟩
    | region id ops d =>
      simp only at e
      split at e
      · exact rreg_ok hm hih e
      · have := hih _ _ e
        cases r with
        | code e2 s2 =>
          obtain ⟨rfl, fr, q⟩ := this
          refine ⟨PW.region ?_, fr⟩
          have hr : List.range ops.size = List.range' 0 ops.toList.length := by rw [List.range_eq_range']; simp
          rw [hr]
          intro ι a w rr
          exact wpOps_mono (fun e a w ⟨s3, ι3, ⟨p1, p2⟩, p3⟩ => ⟨s3, ι3, ⟨p1, rfl, p2⟩, p3⟩) _ _ _ (q 0 (fun j o hj => by simpa using hj) ι a w rr)
        | val x h => exact this.elim
    | seq a b =>
      simp only at e
      split at e
      · rename_i s' ha
        have h1 := hih _ _ ha
        have h2 := hih _ _ e
        cases r with
        | code e2 s2 =>
          refine ⟨PW.seq (PW.mono h1.1 ?_), h1.2.trans h2.2⟩
          rintro e3 s3 ⟨rfl, rfl⟩
          exact h2.1
        | val x h => exact h2.elim
      · rename_i q hq
        have h1 := hih _ _ e
        cases r with
        | code e2 s2 =>
          refine ⟨PW.seq (PW.mono h1.1 ?_), h1.2⟩
          rintro e3 s3 ⟨rfl, rfl⟩
          cases e3 with
          | normal => exact absurd e (hq s2)
          | _ => exact ⟨rfl, rfl⟩
        | val x h => exact h1.elim
    | cond c x y =>
      simp only at e
      split at e
      · rename_i b hb
        rw [← rev_eq] at hb
        have h1 := hih _ _ e
        cases r with
        | code e2 s2 => exact ⟨PW.cond (s := s.den) hb h1.1, h1.2⟩
        | val x h => exact h1.elim
      · cases e
    | block id c =>
      simp only at e
      split at e
      · rename_i id' s' hc
        have h1 := hih _ _ hc
        split at e
        · rename_i hid
          injection e with e; subst e
          refine ⟨PW.block (PW.mono h1.1 ?_), h1.2⟩
          rintro e3 s3 ⟨rfl, rfl⟩
          simp only [inBlockA, if_pos hid]
          exact ⟨trivial, trivial⟩
        · rename_i hid
          injection e with e; subst e
          refine ⟨PW.block (PW.mono h1.1 ?_), h1.2⟩
          rintro e3 s3 ⟨rfl, rfl⟩
          simp only [inBlockA, if_neg hid]
          exact ⟨trivial, trivial⟩
      · rename_i q hq
        have h1 := hih _ _ e
        cases r with
        | code e2 s2 =>
          refine ⟨PW.block (PW.mono h1.1 ?_), h1.2⟩
          rintro e3 s3 ⟨rfl, rfl⟩
          cases e3 with
          | exit id' => exact absurd e (hq id' s2)
          | _ => exact ⟨rfl, rfl⟩
        | val x h => exact h1.elim
    | loop b =>
      have e0 : rrun P D (n + 1) (.code (.loop b) s) = some r := by rw [rrun_succ]; simp only [rstep]; exact e
      cases r with
      | val x h =>
        exfalso
        have none : ∀ m s', m ≤ n + 1 → rrun P D m (.code (.loop b) s') ≠ some (.val x h) := by
          intro m
          induction m with
          | zero => intro s' _ q; cases q
          | succ m ih =>
            intro s' hm' q
            rw [rrun_succ] at q
            simp only [rstep] at q
            split at q
            · rename_i s2 h2; exact ih s2 (by omega) q
            · exact hrec m (by omega) _ _ q
        exact none (n + 1) s (Nat.le_refl _) e0
      | code er sr =>
        refine ⟨?_, rloop_fr n hrec (n + 1) s er sr (Nat.le_refl _) e0⟩
        -- the rounds, by the fuel that is left
        have key : ∀ m, m ≤ n + 1 → ∀ s', rrun P D m (.code (.loop b) s') = some (.code er sr) → ∃ s2 e2, rrun P D (m - 1) (.code b s') = some (.code e2 s2) ∧ (e2 = .normal → rrun P D (m - 1) (.code (.loop b) s2) = some (.code er sr)) ∧ (e2 ≠ .normal → e2 = er ∧ s2 = sr) ∧ 0 < m := by
          intro m hm' s' q
          cases m with
          | zero => cases q
          | succ m =>
            rw [rrun_succ] at q
            simp only [rstep] at q
            split at q
            · rename_i s2 h2; exact ⟨s2, .normal, h2, fun _ => q, fun z => absurd rfl z, Nat.succ_pos _⟩
            · rename_i hq
              refine ⟨sr, er, q, fun z => ?_, fun _ => ⟨rfl, rfl⟩, Nat.succ_pos _⟩
              rw [z] at q
              exact absurd q (hq sr)
        let J : St → Nat → Prop := fun st m => m ≤ n + 1 ∧ ∃ s' : RS, st = s'.den ∧ rrun P D m (.code (.loop b) s') = some (.code er sr)
        have hch : ∃ μ : St → Nat, ∀ st, (∃ m, J st m) → J st (μ st) ∧ ∀ m, J st m → μ st ≤ m := by
          have least : ∀ st, ∃ m, (∃ m, J st m) → J st m ∧ ∀ m', J st m' → m ≤ m' := by
            intro st
            by_cases hx : ∃ m, J st m
            · obtain ⟨m, hm1⟩ := hx
              induction m using Nat.strongRecOn with
              | _ m ih =>
                by_cases hl : ∃ j, j < m ∧ J st j
                · obtain ⟨j, hj, hj2⟩ := hl
                  exact ih j hj hj2
                · refine ⟨m, fun _ => ⟨hm1, fun m' hm' => ?_⟩⟩
                  rcases Nat.lt_or_ge m' m with q | q
                  · exact absurd ⟨m', q, hm'⟩ hl
                  · exact q
            · exact ⟨0, fun q => absurd q hx⟩
          exact ⟨fun st => Classical.choose (least st), fun st => Classical.choose_spec (least st)⟩
        obtain ⟨μ, hμ⟩ := hch
        refine PW.loop (fun st => ∃ m, J st m) μ ⟨n + 1, Nat.le_refl _, s, rfl, e0⟩ ?_
        intro st hI
        obtain ⟨⟨g1, s1, g2, g3⟩, _⟩ := hμ st hI
        obtain ⟨s2, e2, k1, k2, k3, k4⟩ := key (μ st) g1 s1 g3
        subst g2
        refine PW.mono (hrec (μ s1.den - 1) (by omega) _ _ k1).1 ?_
        rintro e3 s3 ⟨rfl, rfl⟩
        cases e3 with
        | normal =>
          have hJ : J s2.den (μ s1.den - 1) := ⟨by omega, s2, rfl, k2 rfl⟩
          refine ⟨⟨_, hJ⟩, ?_⟩
          have := (hμ s2.den ⟨_, hJ⟩).2 _ hJ
          omega
        | _ =>
          obtain ⟨z1, z2⟩ := k3 (by simp)
          subst z1 z2
          exact ⟨rfl, rfl⟩
    | exit id => injection e with e; subst e; exact ⟨PW.exit ⟨rfl, rfl⟩, Fr'.refl _⟩
    | ret => injection e with e; subst e; exact ⟨PW.ret ⟨rfl, rfl⟩, Fr'.refl _⟩
    | _ => cases e
  | ops ops l s =>
    simp only [rstep] at e
    cases l with
    | nil => injection e with e; subst e; exact ⟨rfl, Fr'.refl _, fun k _ => PO.nil rfl⟩
    | cons o rest =>
      simp only at e
      have tail : ∀ s2 : RS, Fr' s.h s2.h → rrun P D n (.ops ops rest s2) = some r → ∃ s', r = .code .normal s' ∧ Fr' s.h s'.h ∧ ∀ k, (∀ (j : Nat) (o' : Oper), (o :: rest)[j]? = some o' → ops[k + j]? = some o') → PO P ops (List.range' (k + 1) rest.length) s2.den (fun s3 => s3 = s'.den) := by
        intro s2 f2 h2
        have := hih _ _ h2
        cases r with
        | code e2 s' =>
          obtain ⟨rfl, fr, q⟩ := this
          exact ⟨s', rfl, f2.trans fr, fun k hk => q (k + 1) (fun j o' hj => by have := hk (j + 1) o' (by simpa using hj); rwa [show k + 1 + j = k + (j + 1) by omega])⟩
        | val x h => exact this.elim
      have head : ∀ k, (∀ (j : Nat) (o' : Oper), (o :: rest)[j]? = some o' → ops[k + j]? = some o') → ops[k]? = some o := fun k hk => by simpa using hk 0 o (by simp)
      split at e
      · rename_i hw
        rw [← rwanted_ok] at hw
        split at e
        · rename_i f args hcall
          rw [← rcallOf_ok] at hcall
          have hcb : callable P f = true := by
            unfold callOf at hcall
            split at hcall
            · split at hcall
              · split at hcall
                · rename_i q; injection hcall with hcall; injection hcall with e1 e2; subst e1; exact q
                · cases hcall
              · cases hcall
            · cases hcall
          obtain ⟨fop, ars, tys, first, caps, hop, hf, rfl⟩ := callOf_spec hcall
          split at e
          · rename_i x h' hl
            obtain ⟨c1, c2⟩ := hih _ _ hl
            obtain ⟨s', rfl, fr, q⟩ := tail ⟨s.n, rputT s.sl o.dst x, h'⟩ c2 e
            refine ⟨rfl, fr, fun k hk => ?_⟩
            simp only [List.length_cons, List.range'_succ]
            refine PO.call (s := s.den) (head k hk) hw hop hf hcb c1 ?_
            rintro y k' ⟨rfl, rfl⟩
            have q2 := q k hk
            unfold RS.den at q2
            rw [rput_slots] at q2
            exact q2
          · cases e
        · split at e
          · rename_i x h' hx
            cases hb : Nat.blt s.h.nx s.h.m with
            | false => rw [hb] at e; cases e
            | true =>
              rw [hb] at e
              simp only [cond_true] at e
              obtain ⟨q1, q2⟩ := rop_fr (n2 := rbump o.op s.h.nx) hx (Nat.le_of_ble_eq_true hb)
              obtain ⟨s', rfl, fr, q⟩ := tail _ q2 e
              refine ⟨rfl, fr, fun k hk => ?_⟩
              simp only [List.length_cons, List.range'_succ]
              have q3 := q k hk
              unfold RS.den at q3
              rw [rput_slots] at q3
              rw [← rev_eq] at q1
              exact PO.op (s := s.den) s.h.nx (head k hk) hw q1 q3
          · cases e
      · rename_i hw
        rw [← rwanted_ok] at hw
        obtain ⟨s', rfl, fr, q⟩ := tail ⟨s.n, rputT s.sl o.dst (.v undef), s.h⟩ (Fr'.refl _) e
        refine ⟨rfl, fr, fun k hk => ?_⟩
        simp only [List.length_cons, List.range'_succ]
        have q3 := q k hk
        unfold RS.den at q3
        rw [rput_slots] at q3
        exact PO.no (s := s.den) (head k hk) hw q3
      · cases e
  | call f args h =>
    simp only [rstep] at e
    split at e
    · rename_i x h' hd
      injection e with e; subst e
      exact hD.d _ _ _ _ _ hd
    · split at e
      · rename_i fn hf
        split at e
        · rename_i c hb
          cases hl : D.l f with
          | true =>
            rw [hl] at e
            simp only [cond_true] at e
            split at e
            · rename_i x h' hx
              injection e with e; subst e
              exact rtail_call hm hih hD.c hf hb hx
            · cases e
          | false =>
          rw [hl] at e
          simp only [cond_false] at e
          split at e
          · rename_i e2 s' hc
            have h1 := hih _ _ hc
            have fin : (e2 = .normal ∨ e2 = .ret) → ∀ x, rares P fn.results.toList s' = some x → PC P f args h.den (fun y k => y = x ∧ k = s'.h.den) ∧ Fr' h s'.h := by
              intro he x hx
              refine ⟨PC.of_body hf hb ?_, h1.2⟩
              have h2 := h1.1
              unfold RS.den at h2
              rw [rstart_slots] at h2
              refine PW.mono h2 ?_
              rintro e3 s3 ⟨rfl, rfl⟩
              exact ⟨he, x, rares_ok hx, rfl, rfl⟩
            split at e
            · split at e
              · rename_i x hx
                injection e with e; subst e
                exact fin (.inl rfl) x hx
              · cases e
            · split at e
              · rename_i x hx
                injection e with e; subst e
                exact fin (.inr rfl) x hx
              · cases e
            · cases e
          · cases e
        · cases e
      · cases e

theorem rrun_sound {P : Program} {D : RE} (hm : P.follows .mixedOrders = true) (hD : REOk P D) (n : Nat) : RIH P (rrun P D n) := by
  induction n using Nat.strongRecOn with
  | _ n ih =>
    cases n with
    | zero => intro t r e; cases e
    | succ n => exact fun t r e => rstep_sound hm hD n (fun m hm' => ih m hm') t r (by rw [← rrun_succ]; exact e)
theorem reserve0 {k : Nat} {ι : Iota} {w : World} (H : HRel [] ι w) : HRel (List.replicate k .free) ι w ∧ Evolve [] ι w (List.replicate k .free) ι w := by
  have no : ∀ (id : Nat) (o : AObj), ¬ (List.replicate k HS.free)[id]? = some (.live o) := by
    intro id o h
    rw [List.getElem?_replicate] at h
    split at h <;> cases h
  have nob : ∀ b, ¬ Ob (List.replicate k HS.free) ι b := fun b ⟨id, o, l, h, _⟩ => no id o h
  have hout : ∀ id, ι id = none := fun id => H.out id (Nat.zero_le _)
  exact ⟨⟨fun id o h => (no id o h).elim, fun id _ => hout id, fun id _ => hout id, fun id o l id' o' l' h => (no id o h).elim, H.xlt, fun b _ => nob b⟩,
    ⟨rfl, rfl, rfl, Nat.le_refl _, fun _ _ q => q, rfl, fun b _ _ => ⟨rfl, nob b⟩, fun b c _ fr hb => ⟨c, fr, hb, rfl⟩⟩⟩
/-- A closed call, by one run. -/
theorem PC.of_rrun {P : Program} {D : RE} (hm : P.follows .mixedOrders = true) (hD : REOk P D) (n m : Nat) {f : FuncId} {args : List V} {x : V} {h' : RH} (e : rrun P D n (.call f args ⟨m, 0, .nil, []⟩) = some (.val x h')) :
    PC P f args [] (fun y k => y = x ∧ k = h'.den) := by
  have h1 := (rrun_sound hm hD n _ _ e).1
  have h2 : (RH.mk m 0 .nil []).den = List.replicate m .free := by
    unfold RH.den
    apply List.ext_getElem?
    intro i
    rw [List.getElem?_map, List.getElem?_replicate]
    by_cases q : i < m
    · rw [List.getElem?_range q, if_pos q]; rfl
    · rw [List.getElem?_eq_none (by simpa using Nat.le_of_not_lt q), if_neg q]; rfl
  rw [h2] at h1
  exact PC.pre (fun H => reserve0 H) h1
def rTrue : Option RR → Bool
  | some (.val x _) => (match x with
    | .v y => (match y with
      | .bool b => b
      | _ => false)
    | _ => false)
  | _ => false
theorem rTrue_val {x : V} {h : RH} (e : rTrue (some (.val x h)) = true) : x = .v (.bool true) := by
  cases x with
  | v y => cases y with
    | bool b => cases b with
      | true => rfl
      | false => cases e
    | _ => cases e
  | _ => cases e
theorem PC.of_rtrue {P : Program} {D : RE} (hm : P.follows .mixedOrders = true) (hD : REOk P D) (n m : Nat) {f : FuncId} {args : List V} (e : rTrue (rrun P D n (.call f args ⟨m, 0, .nil, []⟩)) = true) :
    PC P f args [] (fun y _ => y = .v (.bool true)) := by
  cases hr : rrun P D n (.call f args ⟨m, 0, .nil, []⟩) with
  | none => rw [hr] at e; cases e
  | some r =>
    rw [hr] at e
    cases r with
    | code e2 s => cases e
    | val x h' =>
      refine PC.mono (PC.of_rrun hm hD n m hr) ?_
      rintro y k ⟨rfl, rfl⟩
      exact rTrue_val e
end
end Go.Abs
