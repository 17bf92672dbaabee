/- Regions that draw their order: one run in the order of the text serves every order. -/
import Derived.Test.YtmlojnecmdnbpaaGreatDoorAbsJ
namespace Go.Abs
set_option linter.unusedVariables false

structure Dat where
  sl : List V
  pre : List (Nat × Option HS)
  x : V
  post : List (Nat × HS)
  deriving Inhabited

def setMany (h : Heap) : List (Nat × HS) → Heap
  | [] => h
  | p :: r => setMany (h.set p.1 p.2) r

theorem setMany_length : ∀ (l : List (Nat × HS)) (h : Heap), (setMany h l).length = h.length
  | [], _ => rfl
  | p :: r, h => by rw [setMany, setMany_length r]; simp

theorem setMany_other {id : Nat} : ∀ (l : List (Nat × HS)) (h : Heap), (∀ p, p ∈ l → p.1 ≠ id) → (setMany h l)[id]? = h[id]?
  | [], _, _ => rfl
  | p :: r, h, hn => by
    rw [setMany, setMany_other r _ (fun q hq => hn q (List.mem_cons_of_mem _ hq)), List.getElem?_set_ne (hn p (List.mem_cons_self ..))]

theorem setMany_set {i : Nat} {c : HS} : ∀ (l : List (Nat × HS)) (h : Heap), (∀ p, p ∈ l → p.1 ≠ i) → setMany (h.set i c) l = (setMany h l).set i c
  | [], _, _ => rfl
  | p :: r, h, hn => by
    rw [setMany, List.set_comm _ _ (Ne.symm (hn p (List.mem_cons_self ..))), setMany_set r _ (fun q hq => hn q (List.mem_cons_of_mem _ hq))]
    rfl

theorem setMany_comm : ∀ (l m : List (Nat × HS)) (h : Heap), (∀ p, p ∈ l → ∀ q, q ∈ m → p.1 ≠ q.1) → setMany (setMany h l) m = setMany (setMany h m) l
  | [], _, _, _ => rfl
  | p :: r, m, h, hn => by
    rw [setMany, setMany_comm r m _ (fun a ha b hb => hn a (List.mem_cons_of_mem _ ha) b hb), setMany]
    rw [setMany_set m h (fun q hq => Ne.symm (hn p (List.mem_cons_self ..) q hq))]

def agreeS (ops : Array Oper) (o : Oper) (sl sl' : List V) : Prop := ∀ t, t ∈ o.looksAt ops → sl'[t]? = sl[t]?
def agreeH (pre : List (Nat × Option HS)) (h : Heap) : Prop := ∀ p, p ∈ pre → h[p.1]? = p.2

def WO (P : Program) (ops : Array Oper) (i : Nat) (s s' : St) : Prop :=
  ∀ ι a w (K : Act → World → Prop) (Q : Exit → Act → World → Prop), SR s ι a w → (∀ ι' a' w', SR s' ι' a' w' → Evolve s.h ι w s'.h ι' w' → K a' w') → wpOp P ops Q i K a w

def LS (P : Program) (ops : Array Oper) (i : Nat) (o : Oper) (d : Dat) : Prop :=
  ∀ s, agreeS ops o d.sl s.sl → agreeH d.pre s.h → WO P ops i s ⟨sput s.sl o.dst d.x, setMany s.h d.post⟩

section
variable (P : Program) (ops : Array Oper) (D : Nat → Dat)

def AS (i : Nat) (s s' : St) : Prop :=
  ∃ o, ops[i]? = some o ∧ agreeS ops o (D i).sl s.sl ∧ agreeH (D i).pre s.h ∧ s' = ⟨sput s.sl o.dst (D i).x, setMany s.h (D i).post⟩ ∧ LS P ops i o (D i)

def Run : List Nat → St → St → Prop
  | [], s, s' => s = s'
  | i :: l, s, s' => ∃ s1, AS P ops D i s s1 ∧ Run l s1 s'

def hdis (a b : Dat) : Prop := (∀ p, p ∈ a.post → ∀ q, q ∈ b.pre.map (·.1) ++ b.post.map (·.1) → p.1 ≠ q) ∧ (∀ p, p ∈ b.post → ∀ q, q ∈ a.pre.map (·.1) ++ a.post.map (·.1) → p.1 ≠ q)

def Indep (i j : Nat) : Prop := ∀ oi oj, ops[i]? = some oi → ops[j]? = some oj → oj.apart ops oi = true ∧ hdis (D i) (D j)
end

section
variable {P : Program} {ops : Array Oper} {D : Nat → Dat}

theorem sput_other {sl : List V} {dst : Option Tmp} {x : V} {t : Nat} (h : ∀ d, dst = some d → d ≠ t) : (sput sl dst x)[t]? = sl[t]? := by
  cases dst with
  | none => rfl
  | some d => exact List.getElem?_set_ne (h d rfl)

theorem sput_comm {sl : List V} {a b : Option Tmp} {x y : V} (h : ∀ d, a = some d → b ≠ some d) : sput (sput sl a x) b y = sput (sput sl b y) a x := by
  cases a with
  | none => rfl
  | some d => cases b with
    | none => rfl
    | some e => exact List.set_comm _ _ (by intro q; subst q; exact h d rfl rfl)

theorem AS.swap {i j : Nat} {s s1 s2 : St} (ind : Indep ops D i j) (h1 : AS P ops D j s s1) (h2 : AS P ops D i s1 s2) : ∃ s1', AS P ops D i s s1' ∧ AS P ops D j s1' s2 := by
  obtain ⟨oj, hj, aj, bj, rfl, lj⟩ := h1
  obtain ⟨oi, hi, ai, bi, rfl, li⟩ := h2
  obtain ⟨hap, hd1, hd2⟩ := ind oi oj hi hj
  obtain ⟨p1, p2, p3⟩ := Oper.apart_spec hap
  refine ⟨⟨sput s.sl oi.dst (D i).x, setMany s.h (D i).post⟩, ⟨oi, hi, fun t ht => ?_, fun p hp => ?_, rfl, li⟩, ⟨oj, hj, fun t ht => ?_, fun p hp => ?_, ?_, lj⟩⟩
  · rw [← ai t ht, sput_other]
    intro d hd e; subst e; exact p1 d hd ht
  · rw [← bi p hp, setMany_other]
    intro q hq e
    exact hd2 q hq p.1 (List.mem_append_left _ (List.mem_map_of_mem hp)) e
  · rw [← aj t ht, sput_other]
    intro d hd e; subst e; exact p3 d hd ht
  · rw [← bj p hp, setMany_other]
    intro q hq e
    exact hd1 q hq p.1 (List.mem_append_left _ (List.mem_map_of_mem hp)) e
  · rw [sput_comm (fun d hd e => p2 d hd e), setMany_comm _ _ _ (fun p hp q hq => ?_)]
    exact hd2 p hp q.1 (List.mem_append_right _ (List.mem_map_of_mem hq))

theorem Run.front {i : Nat} : ∀ (l1 l2 : List Nat) (s s' : St), (∀ j, j ∈ l1 → Indep ops D i j) → Run P ops D (l1 ++ i :: l2) s s' → Run P ops D (i :: (l1 ++ l2)) s s'
  | [], _, _, _, _, h => h
  | j :: l1, l2, s, s', hind, h => by
    obtain ⟨s1, h1, h2⟩ := h
    obtain ⟨s2, h3, h4⟩ := Run.front l1 l2 s1 s' (fun k hk => hind k (List.mem_cons_of_mem _ hk)) h2
    obtain ⟨s1', q1, q2⟩ := AS.swap (hind j (List.mem_cons_self ..)) h1 h3
    exact ⟨s1', q1, s2, q2, h4⟩

def dep (ops : Array Oper) : Nat → Nat → Nat → Bool
  | 0, _, _ => false
  | n + 1, i, j => match ops[i]? with
    | some o => o.after.toList.any fun e => Region.binds .any e && (e.on == j || dep ops n e.on j)
    | none => false

def closed (ops : Array Oper) (listed : Array Bool) : Prop :=
  ∀ i o, ops[i]? = some o → listed.getD i false = true → ∀ e ∈ o.after, Region.binds .any e = true → listed.getD e.on false = true

theorem dep_listed {listed : Array Bool} (hc : closed ops listed) : ∀ (n i j : Nat), (∀ o, ops[i]? = some o → ∀ e ∈ o.after, Region.binds .any e = true → listed.getD e.on false = true) → dep ops n i j = true → listed.getD j false = true
  | 0, _, _, _, h => by simp [dep] at h
  | n + 1, i, j, hi, h => by
    simp only [dep] at h
    split at h
    · rename_i o ho
      obtain ⟨e, he, hb⟩ := List.any_eq_true.1 h
      obtain ⟨hb1, hb2⟩ := Bool.and_eq_true_iff.1 hb
      have hl := hi o ho e (by simpa using he) hb1
      rcases Bool.or_eq_true_iff.1 hb2 with q | q
      · have : e.on = j := by simpa using q
        rw [← this]; exact hl
      · exact dep_listed hc n e.on j (fun o' ho' => hc e.on o' ho' hl) q
    · cases h

def rem (ops : Array Oper) (listed : Array Bool) : List Nat := (List.range ops.size).filter fun i => !listed.getD i true

theorem filter_split {p : Nat → Bool} {i : Nat} : ∀ (l : List Nat), i ∈ l → l.Pairwise (· < ·) → p i = true →
    ∃ l1 l2, l.filter p = l1 ++ i :: l2 ∧ l.filter (fun k => p k && k != i) = l1 ++ l2 ∧ ∀ j ∈ l1, j < i ∧ p j = true
  | [], h, _, _ => by cases h
  | k :: l, h, hs, hp => by
    rw [List.pairwise_cons] at hs
    by_cases hk : k = i
    · subst hk
      refine ⟨[], l.filter p, by simp [hp], ?_, by simp⟩
      have : ∀ x ∈ l, (p x && x != k) = p x := by
        intro x hx
        have := hs.1 x hx
        have hne : (x != k) = true := by simp; omega
        simp [hne]
      simp only [List.filter_cons, bne_self_eq_false, Bool.and_false, Bool.false_eq_true, if_false, List.nil_append]
      exact List.filter_congr this
    · have hmem : i ∈ l := by
        rcases List.mem_cons.1 h with q | q
        · exact absurd q.symm hk
        · exact q
      obtain ⟨l1, l2, e1, e2, e3⟩ := filter_split l hmem hs.2 hp
      have hki : k < i := hs.1 i hmem
      by_cases hpk : p k = true
      · refine ⟨k :: l1, l2, by simp [hpk, e1], by simp [hpk, hk, e2], fun j hj => ?_⟩
        rcases List.mem_cons.1 hj with q | q
        · subst q; exact ⟨hki, hpk⟩
        · exact e3 j q
      · refine ⟨l1, l2, by simp [hpk, e1], by simp [hpk, e2], e3⟩

theorem rem_set {listed : Array Bool} {i : Nat} (hs : listed.size = ops.size) (hi : i < ops.size) (hn : listed.getD i true = false) :
    ∃ l1 l2, rem ops listed = l1 ++ i :: l2 ∧ rem ops (listed.setIfInBounds i true) = l1 ++ l2 ∧ ∀ j ∈ l1, j < i ∧ listed.getD j true = false := by
  obtain ⟨l1, l2, e1, e2, e3⟩ := filter_split (p := fun k => !listed.getD k true) (i := i) (List.range ops.size) (by simp [hi]) List.pairwise_lt_range (by simp [hn])
  refine ⟨l1, l2, e1, ?_, fun j hj => ⟨(e3 j hj).1, by simpa using (e3 j hj).2⟩⟩
  rw [← e2]
  unfold rem
  apply List.filter_congr
  intro k hk
  by_cases hki : k = i
  · subst hki
    have : (listed.setIfInBounds k true).getD k true = true := by
      simp [Array.getD]
    simp [this]
  · rw [getD_set_ne true (Ne.symm hki)]
    simp [hki]

theorem any_of_run {Q : Exit → Act → World → Prop} {s1 : St} (hedge : ∀ (i : Nat) (o : Oper), ops[i]? = some o → ∀ e ∈ o.after, Region.binds .any e = true → e.on < i)
    (hind : ∀ i j, j < i → i < ops.size → (∃ n, dep ops n i j = true) ∨ Indep ops D i j) :
    ∀ (fuel : Nat) (listed : Array Bool) (s : St) (ι : Iota) (a : Act) (w : World), listed.size = ops.size → closed ops listed → (rem ops listed).length ≤ fuel → Run P ops D (rem ops listed) s s1 →
      SR s ι a w → (∀ ι' a' w', SR s1 ι' a' w' → Evolve s.h ι w s1.h ι' w' → Q .normal a' w') → wpAny P .any ops Q fuel listed a w := by
  have done : ∀ (listed : Array Bool), listed.size = ops.size → Region.ready .any ops listed = [] → rem ops listed = [] := by
    intro listed hs hr
    apply List.eq_nil_iff_forall_not_mem.2
    intro i
    induction i using Nat.strongRecOn with
    | _ i ih =>
      intro hi
      have hmem : i < ops.size ∧ listed.getD i true = false := by simpa [rem] using hi
      have : i ∈ Region.ready .any ops listed := by
        refine mem_ready.2 ?_
        refine ⟨hmem.2, ops[i]'hmem.1, Array.getElem?_eq_getElem hmem.1, fun e he hb => ?_⟩
        have hlt := hedge i _ (Array.getElem?_eq_getElem hmem.1) e he hb
        have hnot := ih e.on hlt
        have h1 : listed.getD e.on true = true := by
          by_cases q : listed.getD e.on true = true
          · exact q
          · exfalso
            apply hnot
            simp only [rem, List.mem_filter, List.mem_range]
            exact ⟨by omega, by simpa using q⟩
        have hlt2 : e.on < listed.size := by omega
        simpa [Array.getD, hlt2] using h1
      rw [hr] at this
      cases this
  intro fuel
  induction fuel with
  | zero =>
    intro listed s ι a w hs hc hl hrun hsr hq
    have hrem : rem ops listed = [] := List.eq_nil_of_length_eq_zero (by omega)
    have hready : Region.ready .any ops listed = [] := by
      apply List.eq_nil_iff_forall_not_mem.2
      intro i hi
      obtain ⟨h1, o, ho, _⟩ := mem_ready.1 hi
      have hio : i < ops.size := by
        rcases Nat.lt_or_ge i ops.size with q | q
        · exact q
        · rw [Array.getElem?_eq_none q] at ho; cases ho
      have : i ∈ rem ops listed := by simp only [rem, List.mem_filter, List.mem_range]; exact ⟨hio, by simp [h1]⟩
      rw [hrem] at this; cases this
    rw [hrem] at hrun
    have hrun : s = s1 := hrun
    subst hrun
    exact ⟨hready, hq ι a w hsr (Evolve.refl _ _ _)⟩
  | succ fuel ih =>
    intro listed s ι a w hs hc hl hrun hsr hq
    refine ⟨fun hready => ?_, fun i hi => ?_⟩
    · have hrem := done listed hs hready
      rw [hrem] at hrun
      have hrun : s = s1 := hrun
      subst hrun
      exact hq ι a w hsr (Evolve.refl _ _ _)
    · obtain ⟨h1, o, ho, hall⟩ := mem_ready.1 hi
      have hio : i < ops.size := by
        rcases Nat.lt_or_ge i ops.size with q | q
        · exact q
        · rw [Array.getElem?_eq_none q] at ho; cases ho
      obtain ⟨l1, l2, e1, e2, e3⟩ := rem_set hs hio h1
      rw [e1] at hrun
      have hfront := Run.front l1 l2 s s1 (fun j hj => by
        obtain ⟨hji, hjl⟩ := e3 j hj
        rcases hind i j hji hio with ⟨n, hd⟩ | hd
        · exfalso
          have := dep_listed hc n i j (fun o' ho' e he hb => by rw [ho] at ho'; injection ho' with ho'; subst ho'; exact hall e he hb) hd
          have hjs : j < listed.size := by omega
          simp [Array.getD, hjs] at this hjl
          rw [this] at hjl; cases hjl
        · exact hd) hrun
      obtain ⟨s', ⟨o', ho', ag, ah, es, ls⟩, hrest⟩ := hfront
      rw [ho] at ho'; injection ho' with ho'; subst ho'
      refine ls s ag ah ι a w _ Q hsr (fun ι' a' w' hsr' ev => ?_)
      rw [← es] at hsr' ev
      refine ih (listed.setIfInBounds i true) s' ι' a' w' (by simpa using hs) ?_ ?_ (by rw [e2]; exact hrest) hsr' (fun ι2 a2 w2 r2 ev2 => hq ι2 a2 w2 r2 (ev.trans ev2))
      · intro k ok hok hk e he hb
        by_cases hki : k = i
        · subst hki
          rw [ho] at hok; injection hok with hok; subst hok
          exact getD_set_true (hall e he hb)
        · rw [getD_set_ne false (Ne.symm hki)] at hk
          exact getD_set_true (hc k ok hok hk e he hb)
      · rw [e2]
        rw [e1] at hl
        simp at hl ⊢
        omega

theorem rem_start : rem ops (Array.replicate ops.size false) = List.range ops.size := by
  unfold rem
  apply List.filter_eq_self.2
  intro i hi
  have : i < ops.size := by simpa using hi
  simp [Array.getD, this]

theorem draw_ops {Q : Exit → St → Prop} {s s1 : St} (hm : P.follows .mixedOrders = true) (hedge : ∀ (i : Nat) (o : Oper), ops[i]? = some o → ∀ e ∈ o.after, Region.binds .any e = true → e.on < i)
    (hind : ∀ i j, j < i → i < ops.size → (∃ n, dep ops n i j = true) ∨ Indep ops D i j) (hrun : Run P ops D (List.range ops.size) s s1) (h : Q .normal s1) : ∀ ι a w, SR s ι a w → ∀ t, wpOps P ops (Post s ι w Q) (Region.schedule (P.follows .mixedOrders) ops t) a { w with drawn := w.drawn + 1 } := by
  intro ι a w r t
  simp only [Region.schedule, hm, Bool.true_or, if_true]
  refine wpAny_sound ops.size t _ a _ ?_
  have hd := r.heap.drawn (w.drawn + 1)
  have r' : SR s ι a { w with drawn := w.drawn + 1 } := ⟨r.defers, r.slots.mono hd.2, hd.1⟩
  refine any_of_run (P := P) (D := D) (s1 := s1) hedge hind ops.size _ s ι a _ (by simp) ?_ (by rw [rem_start]; simp) (by rw [rem_start]; exact hrun) r' ?_
  · intro i o ho hl
    have hio : i < ops.size := by
      rcases Nat.lt_or_ge i ops.size with q | q
      · exact q
      · rw [Array.getElem?_eq_none q] at ho; cases ho
    simp [Array.getD, hio] at hl
  · intro ι' a' w' r1 ev
    exact ⟨s1, ι', h, r1, hd.2.trans ev⟩
theorem PW.draw {id : Nat} {Q : Exit → St → Prop} {s s1 : St} (hm : P.follows .mixedOrders = true) (hedge : ∀ (i : Nat) (o : Oper), ops[i]? = some o → ∀ e ∈ o.after, Region.binds .any e = true → e.on < i)
    (hind : ∀ i j, j < i → i < ops.size → (∃ n, dep ops n i j = true) ∨ Indep ops D i j) (hrun : Run P ops D (List.range ops.size) s s1) (h : Q .normal s1) : PW P (.region id ops true) s Q :=
  fun ι a w r => wp_region_draw (draw_ops hm hedge hind hrun h ι a w r)

/- How the facts come about: an operation's footprint. -/
def topIds : V → List Nat
  | .pO id _ _ => [id]
  | .sO id _ _ => [id]
  | .oL id _ => [id]
  | _ => []

def foot (op : Op) (ρ : Operand → V) : List Nat :=
  match op with
  | .load _ p => topIds (ρ p)
  | .store _ p _ => topIds (ρ p)
  | .indexAddr _ x _ => topIds (ρ x)
  | .slice _ x _ _ _ => topIds (ρ x)
  | .convert _ _ x => topIds (ρ x)
  | .call c => c.args.toList.flatMap fun x => topIds (ρ x)
  | _ => []

end

end Go.Abs
