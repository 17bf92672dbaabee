/- The run of a drawn region by a function, calls included. -/
import Derived.Test.YtmlojnecmdnbpaaGreatDoorAbsM
namespace Go.Abs
set_option linter.unusedVariables false

def callOf (P : Program) (sl : List V) (op : Op) : Option (FuncId × List V) :=
  match op with
  | .call ⟨.value fop, args, _⟩ => match aev sl fop with
    | .fn (.func f) first caps => if callable P f = true then some (f, first ++ args.toList.map (aev sl) ++ caps) else none
    | _ => none
  | _ => none

section
variable {P : Program} {ops : Array Oper} {base : Nat}

theorem wo_no {i : Nat} {o : Oper} {s : St} (ho : ops[i]? = some o) (hw : awanted ops s.sl o = some false) : WO P ops i s ⟨sput s.sl o.dst (.v undef), s.h⟩ := by
  intro ι a w K Q r hk
  simp only [wpOp, ho]
  rw [if_neg (by rw [awanted_spec r hw]; simp)]
  exact hk ι _ w ⟨by rw [put_defers']; exact r.defers, r.slots.put o.dst (.v _), r.heap⟩ (Evolve.refl _ _ _)

theorem wo_op {i : Nat} {o : Oper} {s : St} {x : V} {h' : Heap} (new : Nat) (ho : ops[i]? = some o) (hw : awanted ops s.sl o = some true)
    (hx : aop P o.op (aev s.sl) s.h new = some (x, h')) : WO P ops i s ⟨sput s.sl o.dst x, h'⟩ := by
  intro ι a w K Q r hk
  simp only [wpOp, ho]
  rw [if_pos (awanted_spec r hw)]
  left
  unfold Oper.wp
  obtain ⟨y, w', ι', h1, h2, h3, ev⟩ := aop_sound (P := P) r.heap r.slots o new x h' hx
  have r' : SR ⟨sput s.sl o.dst x, h'⟩ ι' (a.put o.dst y) w' := ⟨by rw [put_defers']; exact r.defers, (r.slots.mono ev).put o.dst h2, h3⟩
  rcases h1 with h1 | ⟨h1, rfl⟩
  · rw [h1]; exact hk _ _ _ r' ev
  · rw [h1]; exact hk _ _ _ r' ev

theorem callOf_spec {P : Program} {sl : List V} {op : Op} {f : FuncId} {args : List V} (h : callOf P sl op = some (f, args)) :
    ∃ fop as tys first caps, op = .call ⟨.value fop, as, tys⟩ ∧ aev sl fop = .fn (.func f) first caps ∧ args = first ++ as.toList.map (aev sl) ++ caps := by
  unfold callOf at h
  split at h
  · rename_i fop as tys
    split at h
    · rename_i g first caps hf
      split at h
      · injection h with h
        injection h with h1 h2
        subst h1 h2
        exact ⟨fop, as, tys, first, caps, rfl, hf, rfl⟩
      · cases h
    · cases h
  · cases h

theorem wo_call {i : Nat} {o : Oper} {s : St} {f : FuncId} {args : List V} {x : V} {h' : Heap} (ho : ops[i]? = some o) (hw : awanted ops s.sl o = some true)
    (hop : callOf P s.sl o.op = some (f, args)) (hcall : callable P f = true) (hc : PC P f args s.h (fun y k => y = x ∧ k = h')) : WO P ops i s ⟨sput s.sl o.dst x, h'⟩ := by
  intro ι a w K Q r hk
  simp only [wpOp, ho]
  rw [if_pos (awanted_spec r hw)]
  left
  obtain ⟨fop, ars, tys, first, caps, hop2, hf, rfl⟩ := callOf_spec hop
  have rf := aev_rep r.slots fop
  rw [hf] at rf
  generalize hfv : a.eval fop = fv at rf
  cases rf with
  | fn _ _ _ vs us l1 l2 r1 r2 =>
    have m := map_rep (fun x => aev_rep r.slots x) ars
    have hrep := ((PW2.of_dep l1 r1).append (PW2.of_dep m.1 m.2)).append (PW2.of_dep l2 r2)
    unfold Oper.wp
    have hrun : (execOp a.eval o).run P w = .ok (.enter f (vs ++ ars.map a.eval ++ us)) w := by
      simp only [execOp, hop2, resolve, hfv, Deferred.ofValue, Sem.run_bind, Sem.run_pure, Result.andThen_ok, invoke]
      rw [run_callFunc hcall]
    rw [hrun]
    refine (hc ι w _ hrep r.heap).mono ?_
    rintro e w' ⟨y, x, h', ι', rfl, ⟨rfl, rfl⟩, ry, hh, ev⟩
    exact hk ι' _ w' ⟨by rw [put_defers']; exact r.defers, (r.slots.mono ev).put o.dst ry, hh⟩ ev

theorem agreeS_eval {o : Oper} {sl sl' : List V} (h : agreeS ops o sl sl') : ∀ x, x ∈ o.op.operands → aev sl' x = aev sl x := by
  intro x hx
  cases x with
  | tmp t =>
    have : t ∈ o.looksAt ops := by
      simp only [Oper.looksAt, List.mem_append, List.mem_filterMap]
      exact .inl ⟨.tmp t, by simpa using hx, rfl⟩
    simp only [aev, List.getD, h t this]
  | _ => rfl

theorem agreeS_wanted {o : Oper} {sl sl' : List V} (h : agreeS ops o sl sl') : awanted ops sl' o = awanted ops sl o := by
  unfold awanted
  cases hg : o.guard with
  | none => rfl
  | some g =>
    obtain ⟨j, want⟩ := g
    simp only
    cases hd : (ops[j]?).bind (·.dst) with
    | none => rfl
    | some d =>
      have : d ∈ o.looksAt ops := by
        simp only [Oper.looksAt, hg, List.mem_append]
        right
        simp [hd]
      simp only [Option.bind_some, h d this]

theorem aop_congr {P : Program} {op : Op} {ρ ρ' : Operand → V} (h : ∀ x, x ∈ op.operands → ρ' x = ρ x) (k : Heap) (new : Nat) : aop P op ρ' k new = aop P op ρ k new := by
  have pairs : ∀ ps : Array (Nat × Operand), (∀ x, x ∈ ps.toList.map (·.2) → ρ' x = ρ x) → (ps.toList.map fun p => (p.1, ρ' p.2)) = (ps.toList.map fun p => (p.1, ρ p.2)) := fun ps hp =>
    List.map_congr_left fun p hm => by rw [hp p.2 (List.mem_map_of_mem hm)]
  cases op <;> simp only [Op.operands] at h <;> simp only [aop]
  case build t ps => rw [pairs ps fun x hx => h x (by simpa using hx)]
  case buildSlice t n ps => rw [pairs ps fun x hx => h x (by simpa using hx)]
  case makeFunc fn first captured =>
    rw [List.map_congr_left (l := first.toList) fun x hx => h x (by simp at hx; simp [hx]), List.map_congr_left (l := captured.toList) fun x hx => h x (by simp at hx; simp [hx])]
  case call c =>
    obtain ⟨callee, args, tys⟩ := c
    cases callee with
    | builtin b => simp only; rw [List.map_congr_left (l := args.toList) fun x hx => h x (by simp at hx; simp [Call.operands, hx])]
    | value f => simp only; rw [List.map_congr_left (l := args.toList) fun x hx => h x (by simp at hx; simp [Call.operands, hx]), h f (by simp [Call.operands])]
    | _ => rfl
  case slice t x lo hi mx =>
    cases mx with
    | some m => rfl
    | none =>
      have e1 : ρ' x = ρ x := h x (by simp)
      have e2 : lo.map ρ' = lo.map ρ := by cases lo <;> simp_all
      have e3 : hi.map ρ' = hi.map ρ := by cases hi <;> simp_all
      simp only [e1, e2, e3]
  all_goals (first | rfl | (simp_all; done))

theorem callOf_congr {P : Program} {o : Oper} {sl sl' : List V} (h : ∀ x, x ∈ o.op.operands → aev sl' x = aev sl x) : callOf P sl' o.op = callOf P sl o.op := by
  unfold callOf
  cases ho : o.op with
  | call c =>
    obtain ⟨callee, args, tys⟩ := c
    cases callee with
    | value fop =>
      rw [ho] at h
      have e1 : aev sl' fop = aev sl fop := h fop (by simp [Op.operands, Call.operands])
      have e2 : args.toList.map (aev sl') = args.toList.map (aev sl) := List.map_congr_left fun x hx => h x (by simp at hx; simp [Op.operands, Call.operands, hx])
      simp only [e1, e2]
    | _ => rfl
  | _ => rfl

theorem SR.reserve {s : St} {ι a w} (r : SR s ι a w) (n : Nat) : SR ⟨s.sl, s.h ++ List.replicate n .free⟩ ι a w ∧ Evolve s.h ι w (s.h ++ List.replicate n .free) ι w := by
  have get : ∀ (id : Nat) (o : AObj), (s.h ++ List.replicate n .free)[id]? = some (.live o) → s.h[id]? = some (.live o) := by
    intro id o h
    rw [List.getElem?_append] at h
    split at h
    · exact h
    · rw [List.getElem?_replicate] at h
      split at h <;> cases h
  have get' : ∀ (id : Nat) (c : HS), s.h[id]? = some c → (s.h ++ List.replicate n .free)[id]? = some c := by
    intro id c h
    rw [List.getElem?_append_left (get_lt h)]; exact h
  have ev : Evolve s.h ι w (s.h ++ List.replicate n .free) ι w := ⟨rfl, rfl, rfl, Nat.le_refl _, fun _ _ q => q, rfl, fun b _ hb => ⟨rfl, fun ⟨id, o, l, h1, h2, h3⟩ => hb ⟨id, o, l, get id o h1, h2, h3⟩⟩, fun b c _ fr hb => ⟨c, fr, hb, rfl⟩⟩
  refine ⟨⟨r.defers, r.slots.mono ev, ⟨fun id o h => ?_, fun id h => ?_, fun id h => ?_, fun id o l id' o' l' h1 h2 h3 h4 => r.heap.apart id o l id' o' l' (get _ _ h1) h2 (get _ _ h3) h4, r.heap.xlt, fun b hb => (ev.frame b (r.heap.xlt b hb) (r.heap.xob b hb)).2⟩⟩, ev⟩
  · obtain ⟨l, c, fr, h1, la⟩ := r.heap.live id o (get id o h)
    exact ⟨l, c, fr, h1, ⟨la.blk, la.unfrozen, la.sz, la.rows, la.fits, fun i hi j hj => let ⟨y, q1, q2⟩ := la.reads i hi j hj; ⟨y, q1, q2.mono ev⟩⟩⟩
  · rw [List.getElem?_append] at h
    split at h
    · exact r.heap.free id h
    · exact r.heap.out id (by omega)
  · exact r.heap.out id (by simp at h; omega)

end
end Go.Abs
