/- The run of a drawn region by a function, calls included. -/
import Derived.Test.YtinehkfcploeiaaAbsM
namespace Go.Abs
set_option linter.unusedVariables false

def callOf (P : Program) (sl : List V) (op : Op) : Option (FuncId × List V) :=
  match op with
  | .call ⟨.value fop, args, _⟩ => match aev sl fop with
    | .fn (.func f) first caps => if callable P f = true then some (f, first ++ args.toList.map (aev sl) ++ caps) else none
    | _ => none
  | _ => none

abbrev Orc := FuncId → List V → Heap → Option (V × List Nat × List (Nat × HS))

def OrcOk (P : Program) (orc : Orc) : Prop :=
  ∀ f args h x ids post, orc f args h = some (x, ids, post) → callable P f = true ∧ (∀ p, p ∈ post → p.1 ∈ ids) ∧
    ∀ k : Heap, (∀ id, id ∈ ids → k[id]? = h[id]?) → PC P f args k (fun y k' => y = x ∧ k' = setMany k post)

def drun (P : Program) (orc : Orc) (ops : Array Oper) (base : Nat) : List Oper → Nat → St → Option (St × List (List Nat × List Nat))
  | [], _, s => some (s, [])
  | o :: rest, i, s => match awanted ops s.sl o with
    | some true => match callOf P s.sl o.op with
      | some (f, args) => match orc f args s.h with
        | some (x, ids, post) => match drun P orc ops base rest (i + 1) ⟨sput s.sl o.dst x, setMany s.h post⟩ with
          | some (s', fs) => some (s', (ids, post.map (·.1)) :: fs)
          | none => none
        | none => none
      | none => match aop P o.op (aev s.sl) s.h (base + i) with
        | some (x, h') => match drun P orc ops base rest (i + 1) ⟨sput s.sl o.dst x, h'⟩ with
          | some (s', fs) => some (s', (foot o.op (aev s.sl) ++ [base + i], wids o.op (aev s.sl) (base + i)) :: fs)
          | none => none
        | none => none
    | some false => match drun P orc ops base rest (i + 1) ⟨sput s.sl o.dst (.v undef), s.h⟩ with
      | some (s', fs) => some (s', ([], []) :: fs)
      | none => none
    | none => none

section
variable {P : Program} {orc : Orc} {ops : Array Oper} {base : Nat}

theorem wo_no {i : Nat} {o : Oper} {s : St} (ho : ops[i]? = some o) (hw : awanted ops s.sl o = some false) : WO P ops i s ⟨sput s.sl o.dst (.v undef), s.h⟩ := by
  intro ι a w K Q r hk
  simp only [wpOp, ho]
  rw [if_neg (by rw [awanted_spec r hw]; simp)]
  exact hk ι _ w ⟨by rw [put_defers']; exact r.defers, r.slots.put o.dst (.v _), r.heap⟩ (Evolve.refl _ _ _)

theorem wo_op {i : Nat} {o : Oper} {s : St} {x : V} {h' : Heap} (new : Nat) (ho : ops[i]? = some o) (hw : awanted ops s.sl o = some true)
    (hx : aop P o.op (aev s.sl) s.h new = some (x, h')) : WO P ops i s ⟨sput s.sl o.dst x, h'⟩ := by
  intro ι a w K Q r hk
  simp only [wpOp, ho]
  rw [if_pos (awanted_spec r hw)]
  left
  unfold Oper.wp
  obtain ⟨y, w', ι', h1, h2, h3, ev⟩ := aop_sound (P := P) r.heap r.slots o new x h' hx
  have r' : SR ⟨sput s.sl o.dst x, h'⟩ ι' (a.put o.dst y) w' := ⟨by rw [put_defers']; exact r.defers, (r.slots.mono ev).put o.dst h2, h3⟩
  rcases h1 with h1 | ⟨h1, rfl⟩
  · rw [h1]; exact hk _ _ _ r' ev
  · rw [h1]; exact hk _ _ _ r' ev

theorem callOf_spec {P : Program} {sl : List V} {op : Op} {f : FuncId} {args : List V} (h : callOf P sl op = some (f, args)) :
    ∃ fop as tys first caps, op = .call ⟨.value fop, as, tys⟩ ∧ aev sl fop = .fn (.func f) first caps ∧ args = first ++ as.toList.map (aev sl) ++ caps := by
  unfold callOf at h
  split at h
  · rename_i fop as tys
    split at h
    · rename_i g first caps hf
      split at h
      · injection h with h
        injection h with h1 h2
        subst h1 h2
        exact ⟨fop, as, tys, first, caps, rfl, hf, rfl⟩
      · cases h
    · cases h
  · cases h

theorem wo_call {i : Nat} {o : Oper} {s : St} {f : FuncId} {args : List V} {x : V} {h' : Heap} (ho : ops[i]? = some o) (hw : awanted ops s.sl o = some true)
    (hop : callOf P s.sl o.op = some (f, args)) (hcall : callable P f = true) (hc : PC P f args s.h (fun y k => y = x ∧ k = h')) : WO P ops i s ⟨sput s.sl o.dst x, h'⟩ := by
  intro ι a w K Q r hk
  simp only [wpOp, ho]
  rw [if_pos (awanted_spec r hw)]
  left
  obtain ⟨fop, ars, tys, first, caps, hop2, hf, rfl⟩ := callOf_spec hop
  have rf := aev_rep r.slots fop
  rw [hf] at rf
  generalize hfv : a.eval fop = fv at rf
  cases rf with
  | fn _ _ _ vs us l1 l2 r1 r2 =>
    have m := map_rep (fun x => aev_rep r.slots x) ars
    have hrep := ((PW2.of_dep l1 r1).append (PW2.of_dep m.1 m.2)).append (PW2.of_dep l2 r2)
    unfold Oper.wp
    have hrun : (execOp a.eval o).run P w = .ok (.enter f (vs ++ ars.map a.eval ++ us)) w := by
      simp only [execOp, hop2, resolve, hfv, Deferred.ofValue, Sem.run_bind, Sem.run_pure, Result.andThen_ok, invoke]
      rw [run_callFunc hcall]
    rw [hrun]
    refine (hc ι w _ hrep r.heap).mono ?_
    rintro e w' ⟨y, x, h', ι', rfl, ⟨rfl, rfl⟩, ry, hh, ev⟩
    exact hk ι' _ w' ⟨by rw [put_defers']; exact r.defers, (r.slots.mono ev).put o.dst ry, hh⟩ ev

theorem agreeS_eval {o : Oper} {sl sl' : List V} (h : agreeS ops o sl sl') : ∀ x, x ∈ o.op.operands → aev sl' x = aev sl x := by
  intro x hx
  cases x with
  | tmp t =>
    have : t ∈ o.looksAt ops := by
      simp only [Oper.looksAt, List.mem_append, List.mem_filterMap]
      exact .inl ⟨.tmp t, by simpa using hx, rfl⟩
    simp only [aev, List.getD, h t this]
  | _ => rfl

theorem agreeS_wanted {o : Oper} {sl sl' : List V} (h : agreeS ops o sl sl') : awanted ops sl' o = awanted ops sl o := by
  unfold awanted
  cases hg : o.guard with
  | none => rfl
  | some g =>
    obtain ⟨j, want⟩ := g
    simp only
    cases hd : (ops[j]?).bind (·.dst) with
    | none => rfl
    | some d =>
      have : d ∈ o.looksAt ops := by
        simp only [Oper.looksAt, hg, List.mem_append]
        right
        simp [hd]
      simp only [Option.bind_some, h d this]

theorem aop_congr {P : Program} {op : Op} {ρ ρ' : Operand → V} (h : ∀ x, x ∈ op.operands → ρ' x = ρ x) (k : Heap) (new : Nat) : aop P op ρ' k new = aop P op ρ k new := by
  have pairs : ∀ ps : Array (Nat × Operand), (∀ x, x ∈ ps.toList.map (·.2) → ρ' x = ρ x) → (ps.toList.map fun p => (p.1, ρ' p.2)) = (ps.toList.map fun p => (p.1, ρ p.2)) := fun ps hp =>
    List.map_congr_left fun p hm => by rw [hp p.2 (List.mem_map_of_mem hm)]
  cases op <;> simp only [Op.operands] at h <;> simp only [aop]
  case build t ps => rw [pairs ps fun x hx => h x (by simpa using hx)]
  case buildSlice t n ps => rw [pairs ps fun x hx => h x (by simpa using hx)]
  case makeFunc fn first captured =>
    rw [List.map_congr_left (l := first.toList) fun x hx => h x (by simp at hx; simp [hx]), List.map_congr_left (l := captured.toList) fun x hx => h x (by simp at hx; simp [hx])]
  case call c =>
    obtain ⟨callee, args, tys⟩ := c
    cases callee with
    | builtin b => simp only; rw [List.map_congr_left (l := args.toList) fun x hx => h x (by simp at hx; simp [Call.operands, hx])]
    | value f => simp only; rw [List.map_congr_left (l := args.toList) fun x hx => h x (by simp at hx; simp [Call.operands, hx]), h f (by simp [Call.operands])]
    | _ => rfl
  case slice t x lo hi mx =>
    cases mx with
    | some m => rfl
    | none =>
      have e1 : ρ' x = ρ x := h x (by simp)
      have e2 : lo.map ρ' = lo.map ρ := by cases lo <;> simp_all
      have e3 : hi.map ρ' = hi.map ρ := by cases hi <;> simp_all
      simp only [e1, e2, e3]
  all_goals (first | rfl | (simp_all; done))

theorem callOf_congr {P : Program} {o : Oper} {sl sl' : List V} (h : ∀ x, x ∈ o.op.operands → aev sl' x = aev sl x) : callOf P sl' o.op = callOf P sl o.op := by
  unfold callOf
  cases ho : o.op with
  | call c =>
    obtain ⟨callee, args, tys⟩ := c
    cases callee with
    | value fop =>
      rw [ho] at h
      have e1 : aev sl' fop = aev sl fop := h fop (by simp [Op.operands, Call.operands])
      have e2 : args.toList.map (aev sl') = args.toList.map (aev sl) := List.map_congr_left fun x hx => h x (by simp at hx; simp [Op.operands, Call.operands, hx])
      simp only [e1, e2]
    | _ => rfl
  | _ => rfl

theorem drun_run (hok : OrcOk P orc) : ∀ (rest : List Oper) (k : Nat) (s s' : St) (fs : List (List Nat × List Nat)), (∀ (j : Nat) (o : Oper), rest[j]? = some o → ops[k + j]? = some o) → base + k + rest.length ≤ s.h.length →
    drun P orc ops base rest k s = some (s', fs) → ∃ Ds : List Dat, Ds.length = rest.length ∧ fs.length = rest.length ∧
      (∀ (j : Nat) (d : Dat) (f : List Nat × List Nat), Ds[j]? = some d → fs[j]? = some f → (∀ q, q ∈ d.pre.map (·.1) → q ∈ f.1) ∧ (∀ q, q ∈ d.post.map (·.1) → q ∈ f.2)) ∧
      ∀ D : Nat → Dat, (∀ (j : Nat) (d : Dat), Ds[j]? = some d → D (k + j) = d) → Run P ops D (List.range' k rest.length) s s'
  | [], k, s, s', fs, _, _, h => by
    simp [drun] at h
    obtain ⟨rfl, rfl⟩ := h
    exact ⟨[], rfl, rfl, fun j d f hd => by simp at hd, fun D _ => rfl⟩
  | o :: rest, k, s, s', fs, hops, hlen, h => by
    have ho : ops[k]? = some o := by simpa using hops 0 o (by simp)
    simp only [List.length_cons] at hlen
    have fin : ∀ (d : Dat) (f : List Nat × List Nat) (fs' : List (List Nat × List Nat)), d.sl = s.sl → agreeH d.pre s.h → LS P ops k o d → (∀ q, q ∈ d.pre.map (·.1) → q ∈ f.1) → (∀ q, q ∈ d.post.map (·.1) → q ∈ f.2) →
        drun P orc ops base rest (k + 1) ⟨sput s.sl o.dst d.x, setMany s.h d.post⟩ = some (s', fs') → fs = f :: fs' →
        ∃ Ds : List Dat, Ds.length = (o :: rest).length ∧ fs.length = (o :: rest).length ∧
      (∀ (j : Nat) (d : Dat) (f : List Nat × List Nat), Ds[j]? = some d → fs[j]? = some f → (∀ q, q ∈ d.pre.map (·.1) → q ∈ f.1) ∧ (∀ q, q ∈ d.post.map (·.1) → q ∈ f.2)) ∧
      ∀ D : Nat → Dat, (∀ (j : Nat) (d : Dat), Ds[j]? = some d → D (k + j) = d) → Run P ops D (List.range' k (o :: rest).length) s s' := by
      intro d f fs' hsl hpre hls hf1 hf2 hrun hfs
      obtain ⟨Ds, l1, l2, l3, l4⟩ := drun_run hok rest (k + 1) _ s' fs' (fun j o' hj => by have := hops (j + 1) o' (by simpa using hj); rwa [show k + 1 + j = k + (j + 1) by omega]) (by simp only [setMany_length]; omega) hrun
      refine ⟨d :: Ds, by simp [l1], by rw [hfs]; simp [l2], fun j d' f' hd hf => ?_, fun D hD => ?_⟩
      · rw [hfs] at hf
        cases j with
        | zero =>
          simp at hd hf
          subst hd hf
          exact ⟨hf1, hf2⟩
        | succ j => exact l3 j d' f' (by simpa using hd) (by simpa using hf)
      · have hD0 : D k = d := by simpa using hD 0 d (by simp)
        simp only [List.length_cons, List.range'_succ]
        refine ⟨_, ⟨o, ho, ?_, ?_, rfl, ?_⟩, ?_⟩
        · rw [hD0, hsl]; exact fun _ _ => rfl
        · rw [hD0]; exact hpre
        · rw [hD0]; exact hls
        · rw [hD0]
          exact l4 D (fun j d' hd => by have := hD (j + 1) d' (by simpa using hd); rwa [show k + 1 + j = k + (j + 1) by omega])
    simp only [drun] at h
    split at h
    · rename_i hw
      split at h
      · rename_i f args hcall
        split at h
        · rename_i x ids post horc
          split at h
          · rename_i s2 fs2 hrun
            injection h with h
            injection h with h1 h2
            subst h1
            obtain ⟨o1, o2, o3⟩ := hok f args s.h x ids post horc
            refine fin ⟨s.sl, ids.map fun id => (id, s.h[id]?), x, post⟩ (ids, post.map (·.1)) fs2 rfl (fun p hp => ?_) ?_ (fun q hq => ?_) (fun q hq => hq) hrun h2.symm
            · obtain ⟨id, _, rfl⟩ := List.mem_map.1 hp; rfl
            · intro t ag ah
              have hcong := agreeS_eval ag
              refine wo_call ho (by rw [agreeS_wanted ag]; exact hw) (by rw [callOf_congr hcong]; exact hcall) o1 ?_
              exact o3 t.h (fun id hid => ah (id, s.h[id]?) (List.mem_map_of_mem (f := fun id => (id, s.h[id]?)) hid))
            · simpa using hq
          · cases h
        · cases h
      · rename_i hcall
        split at h
        · rename_i x h2 hx
          split at h
          · rename_i s2 fs2 hrun
            injection h with h
            injection h with h1 h3
            subst h1
            obtain ⟨post, p1, p2⟩ := aop_loc (new := base + k) s.h x h2 hx (by omega)
            have hself := p2 s.h (fun _ _ => rfl)
            simp only [hx, Option.some.injEq, Prod.mk.injEq, true_and] at hself
            rw [hself] at hrun
            refine fin ⟨s.sl, (foot o.op (aev s.sl) ++ [base + k]).map fun id => (id, s.h[id]?), x, post⟩ _ fs2 rfl (fun p hp => ?_) ?_ (fun q hq => ?_) (fun q hq => ?_) hrun h3.symm
            · obtain ⟨id, _, rfl⟩ := List.mem_map.1 hp; rfl
            · intro t ag ah
              have hcong := agreeS_eval ag
              refine wo_op (base + k) ho (by rw [agreeS_wanted ag]; exact hw) ?_
              rw [aop_congr hcong]
              exact p2 t.h (fun id hid => ah (id, s.h[id]?) (List.mem_map_of_mem (f := fun id => (id, s.h[id]?)) hid))
            · simpa using hq
            · obtain ⟨p, hp, rfl⟩ := List.mem_map.1 hq
              exact p1 p hp
          · cases h
        · cases h
    · rename_i hw
      split at h
      · rename_i s2 fs2 hrun
        injection h with h
        injection h with h1 h3
        subst h1
        refine fin ⟨s.sl, [], .v undef, []⟩ ([], []) fs2 rfl (fun p hp => by cases hp) ?_ (fun q hq => hq) (fun q hq => hq) hrun h3.symm
        intro t ag ah
        exact wo_no ho (by rw [agreeS_wanted ag]; exact hw)
      · cases h
    · cases h

/-- Are two footprints apart? -/
def fdis (a b : List Nat × List Nat) : Bool :=
  a.2.all (fun p => b.1.all (fun q => p != q) && b.2.all (fun q => p != q)) && b.2.all (fun p => a.1.all (fun q => p != q) && a.2.all (fun q => p != q))

def pairOk (ops : Array Oper) (fs : List (List Nat × List Nat)) (i j : Nat) : Bool :=
  dep ops ops.size i j || ((match ops[i]?, ops[j]? with | some oi, some oj => oj.apart ops oi | _, _ => true) && (match fs[i]?, fs[j]? with | some a, some b => fdis a b | _, _ => false))

def drawOk (ops : Array Oper) (fs : List (List Nat × List Nat)) : Bool :=
  (List.range ops.size).all fun i => (List.range i).all fun j => pairOk ops fs i j

def edgesOk (ops : Array Oper) : Bool :=
  (List.range ops.size).all fun i => match ops[i]? with
    | some o => o.after.toList.all fun e => !Region.binds .any e || decide (e.on < i)
    | none => true

theorem SR.reserve {s : St} {ι a w} (r : SR s ι a w) (n : Nat) : SR ⟨s.sl, s.h ++ List.replicate n .free⟩ ι a w ∧ Evolve s.h ι w (s.h ++ List.replicate n .free) ι w := by
  have get : ∀ (id : Nat) (o : AObj), (s.h ++ List.replicate n .free)[id]? = some (.live o) → s.h[id]? = some (.live o) := by
    intro id o h
    rw [List.getElem?_append] at h
    split at h
    · exact h
    · rw [List.getElem?_replicate] at h
      split at h <;> cases h
  have get' : ∀ (id : Nat) (c : HS), s.h[id]? = some c → (s.h ++ List.replicate n .free)[id]? = some c := by
    intro id c h
    rw [List.getElem?_append_left (get_lt h)]; exact h
  have ev : Evolve s.h ι w (s.h ++ List.replicate n .free) ι w := ⟨rfl, rfl, rfl, Nat.le_refl _, fun _ _ q => q, rfl, fun b _ hb => ⟨rfl, fun ⟨id, o, l, h1, h2, h3⟩ => hb ⟨id, o, l, get id o h1, h2, h3⟩⟩, fun b c _ fr hb => ⟨c, fr, hb, rfl⟩⟩
  refine ⟨⟨r.defers, r.slots.mono ev, ⟨fun id o h => ?_, fun id h => ?_, fun id h => ?_, fun id o l id' o' l' h1 h2 h3 h4 => r.heap.apart id o l id' o' l' (get _ _ h1) h2 (get _ _ h3) h4, r.heap.xlt, fun b hb => (ev.frame b (r.heap.xlt b hb) (r.heap.xob b hb)).2⟩⟩, ev⟩
  · obtain ⟨l, c, fr, h1, la⟩ := r.heap.live id o (get id o h)
    exact ⟨l, c, fr, h1, ⟨la.blk, la.unfrozen, la.sz, la.rows, la.fits, fun i hi j hj => let ⟨y, q1, q2⟩ := la.reads i hi j hj; ⟨y, q1, q2.mono ev⟩⟩⟩
  · rw [List.getElem?_append] at h
    split at h
    · exact r.heap.free id h
    · exact r.heap.out id (by omega)
  · exact r.heap.out id (by simp at h; omega)

/-- A drawn region, by one run in the order of the text. -/
theorem PW.drawn {id : Nat} {Q : Exit → St → Prop} {s s' : St} {fs : List (List Nat × List Nat)} (hm : P.follows .mixedOrders = true) (hok : OrcOk P orc) (he : edgesOk ops = true)
    (hrun : drun P orc ops s.h.length ops.toList 0 ⟨s.sl, s.h ++ List.replicate ops.size .free⟩ = some (s', fs)) (hd : drawOk ops fs = true) (hq : Q .normal s') : PW P (.region id ops true) s Q := by
  obtain ⟨Ds, l1, l2, l3, l4⟩ := drun_run hok ops.toList 0 _ s' fs (fun j o hj => by simpa using hj) (by simp) hrun
  have hl := l4 (fun i => (Ds[i]?).getD default) (fun j d hd => by simp [hd])
  have hr : List.range' 0 ops.toList.length = List.range ops.size := by rw [List.range_eq_range']; simp
  rw [hr] at hl
  have main : PW P (.region id ops true) ⟨s.sl, s.h ++ List.replicate ops.size .free⟩ Q := by
    refine PW.draw hm (fun i o ho e hee hb => ?_) (fun i j hji hi => ?_) hl hq
    · have hi : i < ops.size := by
        rcases Nat.lt_or_ge i ops.size with q | q
        · exact q
        · rw [Array.getElem?_eq_none q] at ho; cases ho
      have := List.all_eq_true.1 he i (by simp [hi])
      simp only [ho] at this
      have := List.all_eq_true.1 this e (by simpa using hee)
      simpa [hb] using this
    · have h1 := List.all_eq_true.1 hd i (by simp [hi])
      have h2 := List.all_eq_true.1 h1 j (by simp [hji])
      rcases Bool.or_eq_true_iff.1 h2 with q | q
      · exact .inl ⟨_, q⟩
      · right
        obtain ⟨q1, q2⟩ := Bool.and_eq_true_iff.1 q
        intro oi oj hoi hoj
        simp only [hoi, hoj] at q1
        refine ⟨q1, ?_⟩
        have hil : i < Ds.length := by rw [l1]; simpa using hi
        have hjl : j < Ds.length := by omega
        have hif : i < fs.length := by omega
        have hjf : j < fs.length := by omega
        simp only [List.getElem?_eq_getElem hif, List.getElem?_eq_getElem hjf] at q2
        obtain ⟨a1, a2⟩ := l3 i _ _ (List.getElem?_eq_getElem hil) (List.getElem?_eq_getElem hif)
        obtain ⟨b1, b2⟩ := l3 j _ _ (List.getElem?_eq_getElem hjl) (List.getElem?_eq_getElem hjf)
        obtain ⟨f1, f2⟩ := Bool.and_eq_true_iff.1 q2
        simp only [List.getElem?_eq_getElem hil, List.getElem?_eq_getElem hjl, Option.getD_some]
        refine ⟨fun p hp q hq => ?_, fun p hp q hq => ?_⟩
        · have g := List.all_eq_true.1 f1 p.1 (a2 _ (List.mem_map_of_mem hp))
          obtain ⟨g1, g2⟩ := Bool.and_eq_true_iff.1 g
          rcases List.mem_append.1 hq with z | z
          · simpa using List.all_eq_true.1 g1 q (b1 _ z)
          · simpa using List.all_eq_true.1 g2 q (b2 _ z)
        · have g := List.all_eq_true.1 f2 p.1 (b2 _ (List.mem_map_of_mem hp))
          obtain ⟨g1, g2⟩ := Bool.and_eq_true_iff.1 g
          rcases List.mem_append.1 hq with z | z
          · simpa using List.all_eq_true.1 g1 q (a1 _ z)
          · simpa using List.all_eq_true.1 g2 q (a2 _ z)
  intro ι a w r
  obtain ⟨r', ev⟩ := r.reserve ops.size
  refine wp_mono (main ι a w r') ?_
  rintro e a' w' ⟨s2, ι2, q, r2, ev2⟩
  exact ⟨s2, ι2, q, r2, ev.trans ev2⟩

end
end Go.Abs
