/- Steps of a walk that a program writes: the kernel checks each. -/
import Derived.Test.YtinehkfcploeiaaAbsS
namespace Go.Abs
set_option linter.unusedVariables false

/-- Operations from place k on. -/
def PON (P : Program) (ops : Array Oper) (k : Nat) (s : St) (Q : St → Prop) : Prop := PO P ops (List.range' k (ops.size - k)) s Q

def opsAt (ops : Array Oper) (k m : Nat) : List Oper := (ops.toList.drop k).take m

def opAt (P : Program) (ops : Array Oper) (k new : Nat) (s : St) : Option St :=
  match ops[k]? with
  | some o => match awanted ops s.sl o with
    | some true => match aop P o.op (aev s.sl) s.h new with
      | some (x, h') => some ⟨sput s.sl o.dst x, h'⟩
      | none => none
    | some false => some ⟨sput s.sl o.dst (.v undef), s.h⟩
    | none => none
  | none => none

def runAt (P : Program) (ops : Array Oper) : Nat → Nat → St → Option St
  | 0, _, s => some s
  | m + 1, k, s => match opAt P ops k s.h.length s with
    | some s' => runAt P ops m (k + 1) s'
    | none => none

def callAt (P : Program) (ops : Array Oper) (k : Nat) (s : St) : Option (FuncId × List V × Option Tmp) :=
  match ops[k]? with
  | some o => match awanted ops s.sl o with
    | some true => match callOf P s.sl o.op with
      | some (f, args) => if callable P f then some (f, args, o.dst) else none
      | none => none
    | _ => none
  | none => none

/-- A contract with its footprint: it needs 'pre', it leaves 'post', its result is x. -/
def PCX (P : Program) (f : FuncId) (args : List V) (pre post : List (Nat × HS)) (x : V) : Prop :=
  (∀ p, p ∈ post → p.1 ∈ pre.map (·.1)) ∧ ∀ k : Heap, (∀ p, p ∈ pre → k[p.1]? = some p.2) → PC P f args k (fun y k' => y = x ∧ k' = setMany k post)

def hasAll (h : Heap) : List (Nat × HS) → Prop
  | [] => True
  | p :: r => h[p.1]? = some p.2 ∧ hasAll h r

theorem hasAll_spec {h : Heap} : ∀ {l : List (Nat × HS)}, hasAll h l → ∀ p, p ∈ l → h[p.1]? = some p.2
  | [], _, p, hp => by simp at hp
  | q :: r, hh, p, hp => by
    rcases List.mem_cons.1 hp with rfl | hp
    · exact hh.1
    · exact hasAll_spec hh.2 p hp

theorem PCX.pure {P : Program} {f : FuncId} {args : List V} {x : V} (h : ∀ k, PC P f args k (fun y k' => y = x ∧ k' = k)) : PCX P f args [] [] x :=
  ⟨fun p hp => by simp at hp, fun k _ => h k⟩

theorem PCX.use {P : Program} {f : FuncId} {args : List V} {x : V} (h : PCX P f args [] [] x) (k : Heap) : PC P f args k (fun y k' => y = x ∧ k' = k) :=
  h.2 k (fun p (hp : p ∈ []) => by simp at hp)

theorem PCX.args_le {P : Program} {f : FuncId} {args args' : List V} {pre post : List (Nat × HS)} {x : V} (hl : leVs args args') (h : PCX P f args' pre post x) : PCX P f args pre post x :=
  ⟨h.1, fun k hk => PC.args_le hl (h.2 k hk)⟩

section
variable {P : Program} {ops : Array Oper} {Q : St → Prop} {s : St}

theorem PON.fin {k : Nat} (hk' : Nat.ble ops.size k = true) (h : Q s) : PON P ops k s Q := by
  have hk := Nat.le_of_ble_eq_true hk'
  unfold PON
  rw [show ops.size - k = 0 by omega]
  exact PO.nil h

theorem opAt_lt {k new : Nat} {s s' : St} (e : opAt P ops k new s = some s') : k < ops.size := by
  unfold opAt at e
  split at e
  · rename_i o ho
    rcases Nat.lt_or_ge k ops.size with q | q
    · exact q
    · rw [Array.getElem?_eq_none q] at ho; cases ho
  · cases e

theorem PON.one {k : Nat} {s' : St} (e : opAt P ops k s.h.length s = some s') (hr : PON P ops (k + 1) s' Q) : PON P ops k s Q := by
  have hk := opAt_lt e
  unfold PON at *
  rw [show ops.size - k = (ops.size - (k + 1)) + 1 by omega, List.range'_succ]
  unfold opAt at e
  split at e
  · rename_i o ho
    split at e
    · rename_i hw
      split at e
      · rename_i x h' hx
        injection e with e; subst e
        exact PO.op s.h.length ho hw hx hr
      · cases e
    · rename_i hw
      injection e with e; subst e
      exact PO.no ho hw hr
    · cases e
  · cases e

theorem PON.run (m : Nat) {k : Nat} (s' : St) (e : runAt P ops m k s = some s') (hr : PON P ops (k + m) s' Q) : PON P ops k s Q := by
  induction m generalizing k s with
  | zero => simp [runAt] at e; subst e; exact hr
  | succ m ih =>
    simp only [runAt] at e
    split at e
    · rename_i s1 h1
      exact PON.one h1 (ih e (by rwa [show k + 1 + m = k + (m + 1) by omega]))
    · cases e

theorem callAt_spec {k : Nat} {f : FuncId} {args : List V} {d : Option Tmp} (e : callAt P ops k s = some (f, args, d)) :
    ∃ o, ops[k]? = some o ∧ awanted ops s.sl o = some true ∧ callOf P s.sl o.op = some (f, args) ∧ callable P f = true ∧ o.dst = d := by
  unfold callAt at e
  split at e
  · rename_i o ho
    split at e
    · rename_i hw
      split at e
      · rename_i f' args' hc
        split at e
        · rename_i hcall
          injection e with e
          injection e with e1 e2
          injection e2 with e2 e3
          subst e1 e2 e3
          exact ⟨o, ho, hw, hc, hcall, rfl⟩
        · cases e
      · cases e
    · cases e
  · cases e

theorem PON.callR {k : Nat} {f : FuncId} {args : List V} {d : Option Tmp} {R : V → Heap → Prop} (e : callAt P ops k s = some (f, args, d)) (hc : PC P f args s.h R)
    (hr : ∀ x h', R x h' → PON P ops (k + 1) ⟨sput s.sl d x, h'⟩ Q) : PON P ops k s Q := by
  obtain ⟨o, ho, hw, hop, hcall, rfl⟩ := callAt_spec e
  have hk : k < ops.size := by
    rcases Nat.lt_or_ge k ops.size with q | q
    · exact q
    · rw [Array.getElem?_eq_none q] at ho; cases ho
  unfold PON at *
  rw [show ops.size - k = (ops.size - (k + 1)) + 1 by omega, List.range'_succ]
  obtain ⟨fop, ars, tys, first, caps, hop2, hf, rfl⟩ := callOf_spec hop
  exact PO.call ho hw hop2 hf hcall hc (fun x h' hR => hr x h' hR)

theorem PON.call {k : Nat} (f : FuncId) (args : List V) (d : Option Tmp) {pre post : List (Nat × HS)} {x : V} (s' : St) (e : callAt P ops k s = some (f, args, d)) (hc : PCX P f args pre post x) (hp : hasAll s.h pre)
    (e' : (⟨sput s.sl d x, setMany s.h post⟩ : St) = s') (hr : PON P ops (k + 1) s' Q) : PON P ops k s Q := by
  refine PON.callR e (hc.2 s.h (hasAll_spec hp)) ?_
  rintro _ _ ⟨rfl, rfl⟩
  rw [e']; exact hr

theorem PON.weaken {k : Nat} (s' : St) (hl : leT s s') (hr : PON P ops k s' Q) : PON P ops k s Q := by
  intro ι a w r
  have r1 := r.weaken hl.sl
  obtain ⟨H, ev⟩ := HRel.weaken [] hl.h r1.heap
  refine wpOps_mono ?_ _ _ _ (hr ι a w ⟨r1.defers, r1.slots.mono ev, H⟩)
  rintro e a' w' ⟨s2, ι2, q, r2, ev2⟩
  exact ⟨s2, ι2, q, r2, Evolve.trans ev ev2⟩

theorem PW.regionN {id : Nat} {Q : Exit → St → Prop} (h : PON P ops 0 s (Q .normal)) : PW P (.region id ops false) s Q := by
  refine PW.region ?_
  rw [List.range_eq_range']
  exact h

end

/- drawn regions -/
def DRG (P : Program) (ops : Array Oper) (base k : Nat) (s : St) (Q : St → List (List Nat × List Nat) → Prop) : Prop :=
  base + ops.size ≤ s.h.length → k ≤ ops.size → ∃ (s' : St) (fs : List (List Nat × List Nat)) (Ds : List Dat), Ds.length = ops.size - k ∧ fs.length = ops.size - k ∧
    (∀ (j : Nat) (d : Dat) (f : List Nat × List Nat), Ds[j]? = some d → fs[j]? = some f → (∀ q, q ∈ d.pre.map (·.1) → q ∈ f.1) ∧ (∀ q, q ∈ d.post.map (·.1) → q ∈ f.2)) ∧
    (∀ D : Nat → Dat, (∀ (j : Nat) (d : Dat), Ds[j]? = some d → D (k + j) = d) → Run P ops D (List.range' k (ops.size - k)) s s') ∧ Q s' fs

/-- The footprint of an operation that is no call. -/
def footAt (ops : Array Oper) (base k : Nat) (s : St) : List Nat × List Nat :=
  match ops[k]? with
  | some o => match awanted ops s.sl o with
    | some true => (foot o.op (aev s.sl) ++ [base + k], wids o.op (aev s.sl) (base + k))
    | _ => ([], [])
  | none => ([], [])

def drawAt (P : Program) (ops : Array Oper) (base : Nat) : Nat → Nat → St → Option St
  | 0, _, s => some s
  | m + 1, k, s => match opAt P ops k (base + k) s with
    | some s' => drawAt P ops base m (k + 1) s'
    | none => none

def footsAt (P : Program) (ops : Array Oper) (base : Nat) : Nat → Nat → St → List (List Nat × List Nat)
  | 0, _, s => []
  | m + 1, k, s => match opAt P ops k (base + k) s with
    | some s' => footAt ops base k s :: footsAt P ops base m (k + 1) s'
    | none => []

section
variable {P : Program} {ops : Array Oper} {base : Nat} {s : St} {Q : St → List (List Nat × List Nat) → Prop}

theorem DRG.fin {k : Nat} (hk' : Nat.ble ops.size k = true) (h : Q s []) : DRG P ops base k s Q := by
  have hk := Nat.le_of_ble_eq_true hk'
  intro hb hk2
  have e : ops.size - k = 0 := by omega
  rw [e]
  exact ⟨s, [], [], rfl, rfl, fun j d f hd => by simp at hd, fun D _ => rfl, h⟩

theorem DRG.step {k : Nat} {o : Oper} (ho : ops[k]? = some o) (d : Dat) (f : List Nat × List Nat) (hsl : d.sl = s.sl) (hpre : agreeH d.pre s.h) (hls : LS P ops k o d)
    (hf1 : ∀ q, q ∈ d.pre.map (·.1) → q ∈ f.1) (hf2 : ∀ q, q ∈ d.post.map (·.1) → q ∈ f.2)
    (hr : DRG P ops base (k + 1) ⟨sput s.sl o.dst d.x, setMany s.h d.post⟩ (fun s' fs => Q s' (f :: fs))) : DRG P ops base k s Q := by
  intro hb hk
  have hlt : k < ops.size := by
    rcases Nat.lt_or_ge k ops.size with q | q
    · exact q
    · rw [Array.getElem?_eq_none q] at ho; cases ho
  obtain ⟨s', fs, Ds, l1, l2, l3, l4, hq⟩ := hr (by simpa [setMany_length] using hb) hlt
  have e : ops.size - k = (ops.size - (k + 1)) + 1 := by omega
  rw [e]
  refine ⟨s', f :: fs, d :: Ds, by simp [l1], by simp [l2], fun j d' f' hd hf => ?_, fun D hD => ?_, hq⟩
  · cases j with
    | zero => simp at hd hf; subst hd hf; exact ⟨hf1, hf2⟩
    | succ j => exact l3 j d' f' (by simpa using hd) (by simpa using hf)
  · have hD0 : D k = d := by simpa using hD 0 d (by simp)
    simp only [List.range'_succ]
    refine ⟨_, ⟨o, ho, ?_, ?_, rfl, ?_⟩, ?_⟩
    · rw [hD0, hsl]; exact fun _ _ => rfl
    · rw [hD0]; exact hpre
    · rw [hD0]; exact hls
    · rw [hD0]
      exact l4 D (fun j d' hd => by have := hD (j + 1) d' (by simpa using hd); rwa [show k + 1 + j = k + (j + 1) by omega])

theorem DRG.one {k : Nat} {s' : St} (e : opAt P ops k (base + k) s = some s') (hr : DRG P ops base (k + 1) s' (fun s' fs => Q s' (footAt ops base k s :: fs))) : DRG P ops base k s Q := by
  intro hb hk
  revert hb hk
  have hlt := opAt_lt e
  have hfa : ∀ o, ops[k]? = some o → footAt ops base k s = match awanted ops s.sl o with
    | some true => (foot o.op (aev s.sl) ++ [base + k], wids o.op (aev s.sl) (base + k))
    | _ => ([], []) := fun o ho => by simp only [footAt, ho]
  unfold opAt at e
  split at e
  · rename_i o ho
    split at e
    · rename_i hw
      split at e
      · rename_i x h' hx
        injection e with e; subst e
        intro hb hk
        obtain ⟨post, p1, p2⟩ := aop_loc (new := base + k) s.h x h' hx (by omega)
        have hself := p2 s.h (fun _ _ => rfl)
        simp only [hx, Option.some.injEq, Prod.mk.injEq, true_and] at hself
        rw [hself] at hr
        refine DRG.step ho ⟨s.sl, (foot o.op (aev s.sl) ++ [base + k]).map fun id => (id, s.h[id]?), x, post⟩ (footAt ops base k s) rfl (fun p hp => ?_) ?_ (fun q hq => ?_) (fun q hq => ?_) hr hb hk
        · obtain ⟨id, _, rfl⟩ := List.mem_map.1 hp; rfl
        · intro t ag ah
          have hcong := agreeS_eval ag
          refine wo_op (base + k) ho (by rw [agreeS_wanted ag]; exact hw) ?_
          rw [aop_congr hcong]
          exact p2 t.h (fun id hid => ah (id, s.h[id]?) (List.mem_map_of_mem (f := fun id => (id, s.h[id]?)) hid))
        · rw [hfa o ho, hw]; simpa using hq
        · obtain ⟨p, hp, rfl⟩ := List.mem_map.1 hq
          rw [hfa o ho, hw]; exact p1 p hp
      · cases e
    · rename_i hw
      injection e with e; subst e
      intro hb hk
      refine DRG.step ho ⟨s.sl, [], .v undef, []⟩ (footAt ops base k s) rfl (fun p hp => by cases hp) ?_ (fun q hq => by simp at hq) (fun q hq => by simp at hq) hr hb hk
      intro t ag ah
      exact wo_no ho (by rw [agreeS_wanted ag]; exact hw)
    · cases e
  · cases e

theorem DRG.mono {k : Nat} {Q' : St → List (List Nat × List Nat) → Prop} (h : DRG P ops base k s Q) (hq : ∀ s fs, Q s fs → Q' s fs) : DRG P ops base k s Q' := by
  intro hb hk
  obtain ⟨s', fs, Ds, l1, l2, l3, l4, q⟩ := h hb hk
  exact ⟨s', fs, Ds, l1, l2, l3, l4, hq _ _ q⟩

theorem DRG.run (m : Nat) {k : Nat} (s' : St) (e : drawAt P ops base m k s = some s') (hr : DRG P ops base (k + m) s' (fun s2 fs => Q s2 (footsAt P ops base m k s ++ fs))) : DRG P ops base k s Q := by
  induction m generalizing k s Q with
  | zero => simp [drawAt] at e; subst e; exact hr.mono fun s fs q => by simpa [footsAt] using q
  | succ m ih =>
    simp only [drawAt] at e
    split at e
    · rename_i s1 h1
      refine DRG.one h1 (ih e ?_)
      rw [show k + 1 + m = k + (m + 1) by omega]
      refine hr.mono fun s2 fs q => ?_
      simp only [footsAt, h1] at q
      simpa using q
    · cases e

theorem DRG.call {k : Nat} (f : FuncId) (args : List V) (d : Option Tmp) {pre post : List (Nat × HS)} {x : V} (s' : St) (e : callAt P ops k s = some (f, args, d)) (hc : PCX P f args pre post x) (hp : hasAll s.h pre)
    (e' : (⟨sput s.sl d x, setMany s.h post⟩ : St) = s') (hr : DRG P ops base (k + 1) s' (fun s2 fs => Q s2 ((pre.map (·.1), pre.map (·.1)) :: fs))) : DRG P ops base k s Q := by
  obtain ⟨o, ho, hw, hop, hcall, rfl⟩ := callAt_spec e
  subst e'
  refine DRG.step ho ⟨s.sl, pre.map fun p => (p.1, some p.2), x, post⟩ (pre.map (·.1), pre.map (·.1)) rfl (fun p hp' => ?_) ?_ (fun q hq => ?_) (fun q hq => ?_) hr
  · obtain ⟨q, hq, rfl⟩ := List.mem_map.1 hp'
    exact hasAll_spec hp q hq
  · intro t ag ah
    have hcong := agreeS_eval ag
    refine wo_call ho (by rw [agreeS_wanted ag]; exact hw) (by rw [callOf_congr hcong]; exact hop) hcall ?_
    exact hc.2 t.h (fun p hp' => ah (p.1, some p.2) (List.mem_map_of_mem (f := fun p : Nat × HS => (p.1, some p.2)) hp'))
  · simpa using hq
  · obtain ⟨p, hp', rfl⟩ := List.mem_map.1 hq
    exact hc.1 p hp'

end

theorem PW.drawnG {P : Program} {ops : Array Oper} {id : Nat} {Q : Exit → St → Prop} {s : St} (hm : P.follows .mixedOrders = true) (he : edgesOk ops = true)
    (hrun : DRG P ops s.h.length 0 ⟨s.sl, s.h ++ List.replicate ops.size .free⟩ (fun s' fs => drawOk ops fs = true ∧ Q .normal s')) : PW P (.region id ops true) s Q := by
  obtain ⟨s', fs, Ds, l1, l2, l3, l4, hd, hq⟩ := hrun (by simp) (by omega)
  simp only [Nat.sub_zero] at l1 l2 l4
  have hl := l4 (fun i => (Ds[i]?).getD default) (fun j d hd => by simp [hd])
  have hr : List.range' 0 ops.size = List.range ops.size := by rw [List.range_eq_range']
  rw [hr] at hl
  have main : PW P (.region id ops true) ⟨s.sl, s.h ++ List.replicate ops.size .free⟩ Q := by
    refine PW.draw hm (fun i o ho e hee hb => ?_) (fun i j hji hi => ?_) hl hq
    · have hi : i < ops.size := by
        rcases Nat.lt_or_ge i ops.size with q | q
        · exact q
        · rw [Array.getElem?_eq_none q] at ho; cases ho
      have := List.all_eq_true.1 he i (by simp [hi])
      simp only [ho] at this
      have := List.all_eq_true.1 this e (by simpa using hee)
      simpa [hb] using this
    · have h1 := List.all_eq_true.1 hd i (by simp [hi])
      have h2 := List.all_eq_true.1 h1 j (by simp [hji])
      rcases Bool.or_eq_true_iff.1 h2 with q | q
      · exact .inl ⟨_, q⟩
      · right
        obtain ⟨q1, q2⟩ := Bool.and_eq_true_iff.1 q
        intro oi oj hoi hoj
        simp only [hoi, hoj] at q1
        refine ⟨q1, ?_⟩
        have hil : i < Ds.length := by omega
        have hjl : j < Ds.length := by omega
        have hif : i < fs.length := by omega
        have hjf : j < fs.length := by omega
        simp only [List.getElem?_eq_getElem hif, List.getElem?_eq_getElem hjf] at q2
        obtain ⟨a1, a2⟩ := l3 i _ _ (List.getElem?_eq_getElem hil) (List.getElem?_eq_getElem hif)
        obtain ⟨b1, b2⟩ := l3 j _ _ (List.getElem?_eq_getElem hjl) (List.getElem?_eq_getElem hjf)
        obtain ⟨f1, f2⟩ := Bool.and_eq_true_iff.1 q2
        simp only [List.getElem?_eq_getElem hil, List.getElem?_eq_getElem hjl, Option.getD_some]
        refine ⟨fun p hp q hq => ?_, fun p hp q hq => ?_⟩
        · have g := List.all_eq_true.1 f1 p.1 (a2 _ (List.mem_map_of_mem hp))
          obtain ⟨g1, g2⟩ := Bool.and_eq_true_iff.1 g
          rcases List.mem_append.1 hq with z | z
          · simpa using List.all_eq_true.1 g1 q (b1 _ z)
          · simpa using List.all_eq_true.1 g2 q (b2 _ z)
        · have g := List.all_eq_true.1 f2 p.1 (b2 _ (List.mem_map_of_mem hp))
          obtain ⟨g1, g2⟩ := Bool.and_eq_true_iff.1 g
          rcases List.mem_append.1 hq with z | z
          · simpa using List.all_eq_true.1 g1 q (a1 _ z)
          · simpa using List.all_eq_true.1 g2 q (a2 _ z)
  intro ι a w r
  obtain ⟨r', ev⟩ := r.reserve ops.size
  refine wp_mono (main ι a w r') ?_
  rintro e a' w' ⟨s2, ι2, q, r2, ev2⟩
  exact ⟨s2, ι2, q, r2, ev.trans ev2⟩

/- unknown truth values -/
theorem bool_split {A : Prop} (p : Prop) [Decidable p] (h1 : p → A) (h2 : ¬p → A) : A := if h : p then h1 h else h2 h

/-- Slot d holds the truth value of p: from here on it is known. -/
theorem PON.split {P : Program} {ops : Array Oper} {Q : St → Prop} {k : Nat} {sl : List V} {h : Heap} (p : Prop) [Decidable p] (s1 s2 : List V)
    (e1 : p → sl = s1) (e2 : ¬p → sl = s2) (h1 : p → PON P ops k ⟨s1, h⟩ Q) (h2 : ¬p → PON P ops k ⟨s2, h⟩ Q) : PON P ops k ⟨sl, h⟩ Q := by
  by_cases q : p
  · rw [e1 q]; exact h1 q
  · rw [e2 q]; exact h2 q
theorem DRG.split {P : Program} {ops : Array Oper} {Q : St → List (List Nat × List Nat) → Prop} {base k : Nat} {sl : List V} {h : Heap} (p : Prop) [Decidable p] (s1 s2 : List V)
    (e1 : p → sl = s1) (e2 : ¬p → sl = s2) (h1 : p → DRG P ops base k ⟨s1, h⟩ Q) (h2 : ¬p → DRG P ops base k ⟨s2, h⟩ Q) : DRG P ops base k ⟨sl, h⟩ Q := by
  by_cases q : p
  · rw [e1 q]; exact h1 q
  · rw [e2 q]; exact h2 q

theorem PW.cond_prop {P : Program} {Q : Exit → St → Prop} {s : St} {c : Operand} {x y : Code} (p : Prop) [Decidable p] (hc : aev s.sl c = .v (.bool (decide p))) (h1 : p → PW P x s Q) (h2 : ¬p → PW P y s Q) : PW P (.cond c x y) s Q := by
  by_cases q : p
  · exact PW.cond (t := true) (by rw [hc, decide_eq_true q]) (h1 q)
  · exact PW.cond (t := false) (by rw [hc, decide_eq_false q]) (h2 q)

theorem thenA_ret {K : St → Prop} {Q : Exit → St → Prop} {s : St} (h : Q .ret s) : thenA K Q .ret s := h
theorem thenA_exit {K : St → Prop} {Q : Exit → St → Prop} {s : St} {id : Nat} (h : Q (.exit id) s) : thenA K Q (.exit id) s := h
theorem thenA_normal {K : St → Prop} {Q : Exit → St → Prop} {s : St} (h : K s) : thenA K Q .normal s := h
theorem inBlockA_ret {id : Nat} {Q : Exit → St → Prop} {s : St} (h : Q .ret s) : inBlockA id Q .ret s := h
theorem inBlockA_normal {id : Nat} {Q : Exit → St → Prop} {s : St} (h : Q .normal s) : inBlockA id Q .normal s := h
theorem inBlockA_hit {id : Nat} {Q : Exit → St → Prop} {s : St} (h : Q .normal s) : inBlockA id Q (.exit id) s := by simp only [inBlockA, if_pos]; exact h
theorem inBlockA_miss {id id' : Nat} {Q : Exit → St → Prop} {s : St} (hne : (id' == id) = false) (h : Q (.exit id') s) : inBlockA id Q (.exit id') s := by
  have : id' ≠ id := by simpa using hne
  simp only [inBlockA, if_neg this]; exact h

/-- The end of a step, with what is known behind it given: cut at n. -/
theorem cut_end {Q : St → Prop} {s : St} (n0 : Nat) (s' : St) (n : Nat) (hn : n0 ≤ n) (hc : Cut n s s') (h : Q s') : ∃ s2 n, n0 ≤ n ∧ Cut n s s2 ∧ Q s2 := ⟨s', n, hn, hc, h⟩

/-- A step of a sequence, with what is known behind it given. -/
theorem PW.seqC {P : Program} {x y : Code} {s : St} {Q : Exit → St → Prop} (s2 : St) (n : Nat) (hn : s.h.length ≤ n)
    (h1 : PW P x s (thenA (fun s1 => Cut n s1 s2) Q)) (h2 : PW P y s2 Q) : PW P (.seq x y) s Q := by
  refine PW.seq ?_
  have : PW P x s (thenA (fun s' => s' = s2) Q) := by
    intro ι a w r
    refine wp_mono (h1 ι a w r) ?_
    rintro e a' w' ⟨s1, ι1, q, r1, ev1⟩
    cases e with
    | normal =>
      have hc : Cut n s1 s2 := q
      have r2 := r1.weaken hc.le.sl
      obtain ⟨H, ev⟩ := HRel.weaken [] hc.le.h r2.heap
      have r3 : SR ⟨s2.sl, s2.h ++ s1.h.drop n⟩ ι1 a' w' := ⟨r2.defers, r2.slots.mono ev, H⟩
      have e0 : (s2.h ++ s1.h.drop n).take n = s2.h := by rw [← hc.len]; simp
      obtain ⟨r4, ev4⟩ := cut_heap (n := n) r3 (ev1.trans ev) r.heap hn hc.sl (by simp only [e0]; exact hc.h)
      simp only [e0] at r4 ev4
      exact ⟨s2, ι1.cut n, rfl, r4, ev4⟩
    | _ => exact ⟨s1, ι1, q, r1, ev1⟩
  refine PW.mono this ?_
  intro e s' h
  cases e with
  | normal => rw [show s' = s2 from h]; exact h2
  | _ => exact h

/-- A loop: the states at its head by a pattern; what a round has made is forgotten. -/
theorem PW.loopC {P : Program} {c : Code} {s : St} {Q : Exit → St → Prop} {α : Type} (S : α → St) (J : α → Prop) (μ : α → Nat) (n : Nat) (x0 : α)
    (h0 : Cut n s (S x0)) (hn : s.h.length ≤ n) (h3 : J x0)
    (round : ∀ x, J x → PW P c (S x) (thenA (fun s' => ∃ y, Cut n s' (S y) ∧ J y ∧ μ y < μ x) Q)) : PW P (.loop c) s Q := by
  have hlen : ∀ x, J x → (∃ s', Cut n s' (S x)) → (S x).h.length = n := fun x _ ⟨s', h⟩ => h.len
  let I : Nat → St → Prop := fun m s' => ∃ x, μ x = m ∧ s' = S x ∧ J x ∧ (S x).h.length = n
  have hw : PW P (.loop c) (S x0) Q := by
    have dec : ∀ s', ∃ m, ((∃ n, I n s') → I m s' ∧ ∀ n, I n s' → m ≤ n) := by
      intro s'
      by_cases hx : ∃ n, I n s'
      · obtain ⟨n, hn⟩ := hx
        induction n using Nat.strongRecOn with
        | _ n ih =>
          by_cases hlt : ∃ k, k < n ∧ I k s'
          · obtain ⟨k, hk, hj⟩ := hlt
            exact ih k hk hj
          · refine ⟨n, fun _ => ⟨hn, fun k hk => ?_⟩⟩
            rcases Nat.lt_or_ge k n with q | q
            · exact absurd ⟨k, q, hk⟩ hlt
            · exact q
      · exact ⟨0, fun q => absurd q hx⟩
    have hf : ∃ f : St → Nat, ∀ s', (∃ n, I n s') → I (f s') s' ∧ ∀ n, I n s' → f s' ≤ n := ⟨fun s' => Classical.choose (dec s'), fun s' => Classical.choose_spec (dec s')⟩
    obtain ⟨f, hf⟩ := hf
    refine PW.loop (fun s' => ∃ n, I n s') f ⟨_, x0, rfl, rfl, h3, h0.len⟩ ?_
    intro s' hs'
    obtain ⟨⟨x, e1, e2, e4, e5⟩, _⟩ := hf s' hs'
    have hr := round x e4
    subst e2
    have : PW P c (S x) (thenA (fun s2 => ∃ y, s2 = S y ∧ J y ∧ μ y < μ x ∧ (S y).h.length = n) Q) := by
      intro ι a w r
      refine wp_mono (hr ι a w r) ?_
      rintro e a' w' ⟨s1, ι1, q, r1, ev1⟩
      cases e with
      | normal =>
        obtain ⟨y, hc, hj, hm⟩ := q
        have r2 := r1.weaken hc.le.sl
        obtain ⟨H, ev⟩ := HRel.weaken [] hc.le.h r2.heap
        have r3 : SR ⟨(S y).sl, (S y).h ++ s1.h.drop n⟩ ι1 a' w' := ⟨r2.defers, r2.slots.mono ev, H⟩
        have e0 : ((S y).h ++ s1.h.drop n).take n = (S y).h := by rw [← hc.len]; simp
        obtain ⟨r4, ev4⟩ := cut_heap (n := n) r3 (ev1.trans ev) r.heap (Nat.le_of_eq e5) hc.sl (by simp only [e0]; exact hc.h)
        simp only [e0] at r4 ev4
        exact ⟨S y, ι1.cut n, ⟨y, rfl, hj, hm, hc.len⟩, r4, ev4⟩
      | _ => exact ⟨s1, ι1, q, r1, ev1⟩
    refine PW.mono this ?_
    intro e s2 hq
    cases e with
    | normal =>
      obtain ⟨y, q1, q2, q3, q4⟩ := hq
      have hI : I (μ y) s2 := ⟨y, rfl, q1, q2, q4⟩
      refine ⟨⟨_, hI⟩, ?_⟩
      have := (hf s2 ⟨_, hI⟩).2 _ hI
      omega
    | _ => exact hq
  intro ι a w r
  have r2 := r.weaken h0.le.sl
  obtain ⟨H, ev⟩ := HRel.weaken [] h0.le.h r2.heap
  have r3 : SR ⟨(S x0).sl, (S x0).h ++ s.h.drop n⟩ ι a w := ⟨r2.defers, r2.slots.mono ev, H⟩
  have e0 : ((S x0).h ++ s.h.drop n).take n = (S x0).h := by rw [← h0.len]; simp
  obtain ⟨r4, ev4⟩ := cut_heap (n := n) r3 ev r.heap hn h0.sl (by simp only [e0]; exact h0.h)
  simp only [e0] at r4 ev4
  refine wp_mono (hw _ a w r4) ?_
  rintro e a' w' ⟨s', ι', q, r', ev'⟩
  exact ⟨s', ι', q, r', ev4.trans ev'⟩

end Go.Abs
