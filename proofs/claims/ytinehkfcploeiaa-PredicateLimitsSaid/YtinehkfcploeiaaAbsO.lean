/- A run of a whole program on abstract values, by a function with fuel. -/
import Derived.Test.YtinehkfcploeiaaAbsN
namespace Go.Abs
set_option linter.unusedVariables false

inductive Task where
  | code (c : Code) (s : St)
  | ops (ops : Array Oper) (l : List Oper) (s : St)
  | call (f : FuncId) (args : List V) (h : Heap)

inductive Res where
  | code (e : Exit) (s : St)
  | val (x : V) (h : Heap)

def idsL {α : Type} (f : α → List Nat) : List α → List Nat
  | [] => []
  | x :: xs => f x ++ idsL f xs

/-- The references in a value. -/
def idsV : Nat → V → List Nat
  | 0, _ => []
  | n + 1, x => match x with
    | .pO id _ _ => [id]
    | .sO id _ _ => [id]
    | .pF row _ => idsL (idsV n) row
    | .sF _ rows => idsL (idsL (idsV n)) rows
    | .agg xs => idsL (idsV n) xs
    | .tup xs => idsL (idsV n) xs
    | .fn _ a b => idsL (idsV n) a ++ idsL (idsV n) b
    | .ifc _ x => idsV n x
    | _ => []

def addNew : List Nat → List Nat → List Nat
  | S, [] => S
  | S, x :: xs => if S.contains x then addNew S xs else addNew (S ++ [x]) xs

def idsH (h : Heap) (id : Nat) : List Nat :=
  match h[id]? with
  | some (.live o) => idsL (idsL (idsV 16)) o.rows
  | _ => []

def reach (h : Heap) : Nat → List Nat → List Nat
  | 0, S => S
  | n + 1, S =>
    let S' := addNew S (idsL (idsH h) S)
    if S'.length == S.length then S else reach h n S'

def liveDown (S : List Nat) (h : Heap) (id : Nat) : Option HS :=
  match h[id]? with
  | some (.live o) => frzHS (down S) [] 16 (.live o)
  | _ => none

def liveUp (S : List Nat) (h' : Heap) (i : Nat) : Option HS :=
  match h'[i]? with
  | some (.live o) => frzHS (up S) h' 16 (.live o)
  | some .dead => some .dead
  | _ => none

def nodupB : List Nat → Bool
  | [] => true
  | x :: xs => !xs.contains x && nodupB xs

def beqVal : Value → Value → Bool
  | .int k a, .int k' b => decide (k = k') && decide (a = b)
  | .bool a, .bool b => decide (a = b)
  | .string a, .string b => decide (a.data.toList = b.data.toList)
  | .pointer none, .pointer none => true
  | .slice none a b, .slice none c d => decide (a = c) && decide (b = d)
  | .nilFunc, .nilFunc => true
  | .nilIface, .nilIface => true
  | _, _ => false

theorem beqVal_eq {x y : Value} (h : beqVal x y = true) : x = y := by
  unfold beqVal at h
  split at h <;> simp_all
  apply ByteArray.ext
  first | exact h | exact Array.toList_inj.1 h

def beqL {α : Type} (f : α → α → Bool) : List α → List α → Bool
  | [], [] => true
  | x :: xs, y :: ys => f x y && beqL f xs ys
  | _, _ => false

theorem beqL_eq {α : Type} {f : α → α → Bool} (hf : ∀ x y, f x y = true → x = y) : ∀ {xs ys : List α}, beqL f xs ys = true → xs = ys
  | [], [], _ => rfl
  | x :: xs, y :: ys, h => by
    obtain ⟨h1, h2⟩ := Bool.and_eq_true_iff.1 h
    rw [hf x y h1, beqL_eq hf h2]
  | [], _ :: _, h => by cases h
  | _ :: _, [], h => by cases h

def beqV : Nat → V → V → Bool
  | 0, _, _ => false
  | n + 1, x, y => match x, y with
    | .v a, .v b => beqVal a b
    | .any, .any => true
    | .pF r o, .pF r' o' => beqL (beqV n) r r' && decide (o = o')
    | .pO a b c, .pO a' b' c' => decide (a = a') && decide (b = b') && decide (c = c')
    | .sF s r, .sF s' r' => decide (s = s') && beqL (beqL (beqV n)) r r'
    | .sO a b c, .sO a' b' c' => decide (a = a') && decide (b = b') && decide (c = c')
    | .agg a, .agg b => beqL (beqV n) a b
    | _, _ => false

theorem beqV_eq : ∀ (n : Nat) (x y : V), beqV n x y = true → x = y
  | 0, _, _, h => by cases h
  | n + 1, x, y, h => by
    have ih := beqV_eq n
    have ihl := fun (a b : List V) => beqL_eq (f := beqV n) ih (xs := a) (ys := b)
    simp only [beqV] at h
    split at h
    · rw [beqVal_eq h]
    · rfl
    · obtain ⟨h1, h2⟩ := Bool.and_eq_true_iff.1 h
      rw [ihl _ _ h1, of_decide_eq_true h2]
    · simp only [Bool.and_eq_true, decide_eq_true_eq] at h
      obtain ⟨⟨rfl, rfl⟩, rfl⟩ := h; rfl
    · obtain ⟨h1, h2⟩ := Bool.and_eq_true_iff.1 h
      rw [of_decide_eq_true h1, beqL_eq ihl h2]
    · simp only [Bool.and_eq_true, decide_eq_true_eq] at h
      obtain ⟨⟨rfl, rfl⟩, rfl⟩ := h; rfl
    · rw [ihl _ _ h]
    · cases h

/-- Is the object as it was? -/
def same (h : Heap) (p : Nat × HS) : Bool :=
  match h[p.1]?, p.2 with
  | some (.live o), .live o' => decide (o.sz = o'.sz) && decide (o.elem = o'.elem) && beqL (beqL (beqV 16)) o.rows o'.rows
  | _, _ => false

theorem same_eq {h : Heap} {p : Nat × HS} (e : same h p = true) : h[p.1]? = some p.2 := by
  unfold same at e
  split at e
  · rename_i o o' h1 h2
    simp only [Bool.and_eq_true, decide_eq_true_eq] at e
    obtain ⟨⟨e1, e2⟩, e3⟩ := e
    have e4 := beqL_eq (fun a b => beqL_eq (beqV_eq 16)) e3
    rw [h1, h2]
    congr 1
    cases o; cases o'; simp_all
  · cases e

theorem setMany_filter {q : Nat × HS → Bool} : ∀ (l : List (Nat × HS)) (k : Heap), (l.map (·.1)).Nodup → (∀ p, p ∈ l → q p = false → k[p.1]? = some p.2) → setMany k l = setMany k (l.filter q)
  | [], _, _, _ => rfl
  | p :: r, k, hn, hq => by
    simp only [List.map_cons, List.nodup_cons] at hn
    by_cases hp : q p = true
    · rw [List.filter_cons_of_pos hp, setMany, setMany]
      refine setMany_filter r _ hn.2 (fun x hx hxq => ?_)
      rw [List.getElem?_set_ne (fun e => hn.1 (by rw [e]; exact List.mem_map_of_mem hx))]
      exact hq x (List.mem_cons_of_mem _ hx) hxq
    · rw [List.filter_cons_of_neg hp, setMany]
      have h1 := hq p (List.mem_cons_self ..) (by simpa using hp)
      have h2 : k.set p.1 p.2 = k := by
        have hlt := get_lt h1
        rw [List.getElem?_eq_getElem hlt] at h1
        injection h1 with h1
        rw [← h1, List.set_getElem_self]
      rw [h2]
      exact setMany_filter r k hn.2 (fun x hx hxq => hq x (List.mem_cons_of_mem _ hx) hxq)

def lifted (ih : Task → Option Res) (f : FuncId) (args : List V) (h : Heap) : Option (V × List Nat × List (Nat × HS)) :=
  let S := reach h 16 (addNew [] (idsL (idsV 16) args))
  match mapOpt (frz (down S) [] 16) args, mapOpt (liveDown S h) S with
  | some args0, some h0 => match ih (.call f args0 h0) with
    | some (.val x h') => match frz (up S) h' 16 x, mapOpt (liveUp S h') (List.range S.length) with
      | some x0, some post => if nodupB S then some (x0, S, (S.zip post).filter fun p => !same h p) else none
      | _, _ => none
    | _ => none
  | _, _ => none

def orcOf (P : Program) (ih : Task → Option Res) : Orc := fun f args h => if callable P f then lifted ih f args h else none

def isNR : Exit → Bool
  | .normal => true
  | .ret => true
  | _ => false

def step (P : Program) (pol : FuncId → Bool) (ih : Task → Option Res) : Task → Option Res
  | .code c s => match c with
    | .skip => some (.code .normal s)
    | .region _ ops d => if d then
        match drun P (orcOf P ih) ops s.h.length ops.toList 0 ⟨s.sl, s.h ++ List.replicate ops.size .free⟩ with
        | some (s', fs) => if edgesOk ops && drawOk ops fs then some (.code .normal s') else none
        | none => none
      else ih (.ops ops ops.toList s)
    | .seq a b => match ih (.code a s) with
      | some (.code .normal s') => ih (.code b s')
      | r => r
    | .cond c t e => match aev s.sl c with
      | .v (.bool b) => ih (.code (if b then t else e) s)
      | _ => none
    | .block id c => match ih (.code c s) with
      | some (.code (.exit id') s') => if id' = id then some (.code .normal s') else some (.code (.exit id') s')
      | r => r
    | .loop b => match ih (.code b s) with
      | some (.code .normal s') => ih (.code (.loop b) s')
      | r => r
    | .exit id => some (.code (.exit id) s)
    | .ret => some (.code .ret s)
    | _ => none
  | .ops ops l s => match l with
    | [] => some (.code .normal s)
    | o :: r => match awanted ops s.sl o with
      | some true => match callOf P s.sl o.op with
        | some (f, args) => if callable P f then
            (if pol f then match lifted ih f args s.h with
              | some (x, _, post) => ih (.ops ops r ⟨sput s.sl o.dst x, setMany s.h post⟩)
              | none => none
            else match ih (.call f args s.h) with
              | some (.val x h') => ih (.ops ops r ⟨sput s.sl o.dst x, h'⟩)
              | _ => none)
          else none
        | none => match aop P o.op (aev s.sl) s.h s.h.length with
          | some (x, h') => ih (.ops ops r ⟨sput s.sl o.dst x, h'⟩)
          | none => none
      | some false => ih (.ops ops r ⟨sput s.sl o.dst (.v undef), s.h⟩)
      | none => none
  | .call f args h => match P.funcs[f]? with
    | some fn => match fn.body with
      | some c => match ih (.code c ⟨args ++ List.replicate (fn.ntmps - args.length) (.v undef), h⟩) with
        | some (.code e s') => if isNR e then match ares P fn.results.toList s'.sl s'.h with
            | some x => some (.val x s'.h)
            | none => none
          else none
        | _ => none
      | none => none
    | none => none

def run (P : Program) (pol : FuncId → Bool) : Nat → Task → Option Res :=
  fun n => Nat.rec (motive := fun _ => Task → Option Res) (fun _ => none) (fun _ ih => step P pol ih) n

theorem run_succ (P : Program) (pol : FuncId → Bool) (n : Nat) (t : Task) : run P pol (n + 1) t = step P pol (run P pol n) t := rfl

def TS (P : Program) : Task → Res → Prop
  | .code c s, .code e s' => PW P c s (fun e2 s2 => e2 = e ∧ s2 = s')
  | .ops ops l s, .code e s' => e = .normal ∧ ∀ k, (∀ (j : Nat) (o : Oper), l[j]? = some o → ops[k + j]? = some o) → PO P ops (List.range' k l.length) s (fun s2 => s2 = s')
  | .call f args h, .val x h' => PC P f args h (fun y k => y = x ∧ k = h')
  | _, _ => False

def IH (P : Program) (ih : Task → Option Res) : Prop := ∀ t r, ih t = some r → TS P t r

theorem nodupB_spec : ∀ {S : List Nat}, nodupB S = true → S.Nodup
  | [], _ => List.nodup_nil
  | x :: xs, h => by
    obtain ⟨h1, h2⟩ := Bool.and_eq_true_iff.1 h
    exact List.nodup_cons.2 ⟨by simpa using h1, nodupB_spec h2⟩

theorem idsV_agree : True := trivial

theorem lifted_sound {P : Program} {ih : Task → Option Res} (hih : IH P ih) {f : FuncId} {args : List V} {h : Heap} {x : V} {ids : List Nat} {post : List (Nat × HS)} (e : lifted ih f args h = some (x, ids, post)) :
    (∀ p, p ∈ post → p.1 ∈ ids) ∧ ∀ k : Heap, (∀ id, id ∈ ids → k[id]? = h[id]?) → PC P f args k (fun y k' => y = x ∧ k' = setMany k post) := by
  unfold lifted at e
  generalize reach h 16 (addNew [] (idsL (idsV 16) args)) = S at e
  simp only at e
  split at e
  · rename_i args0 h0 ha hh
    split at e
    · rename_i y h' hc
      split at e
      · rename_i x0 ps hx hp
        split at e
        · rename_i hn
          injection e with e
          injection e with e1 e2
          injection e2 with e2 e3
          subst e1 e2 e3
          obtain ⟨l1, l2⟩ := mapOpt_get hh
          obtain ⟨p1, p2⟩ := mapOpt_get hp
          simp only [List.length_range] at p1
          refine ⟨fun p hp => List.of_mem_zip (List.mem_filter.1 hp).1 |>.1, fun k hk => ?_⟩
          have hcall := hih _ _ hc
          have zmap : (S.zip ps).map (·.1) = S := by rw [List.map_fst_zip]; omega
          rw [← setMany_filter (S.zip ps) k (by rw [zmap]; exact nodupB_spec hn) (fun p hp hq => by
            rw [hk p.1 (List.of_mem_zip hp).1]; exact same_eq (by simpa using hq))]
          refine PC.lift 16 (nodupB_spec hn) l1.symm p1.symm (fun i id hi => ?_) ha (PC.mono hcall ?_)
          · have hil : i < h0.length := by rw [← l1]; exact get_lt hi
            obtain ⟨id', q1, q2⟩ := l2 i h0[i] (List.getElem?_eq_getElem hil)
            rw [hi] at q1; injection q1 with q1; subst q1
            unfold liveDown at q2
            split at q2
            · rename_i o ho
              exact ⟨o, h0[i], by rw [hk id (get_mem hi)]; exact ho, List.getElem?_eq_getElem hil, q2⟩
            · cases q2
          · rintro z h2 ⟨rfl, rfl⟩
            refine ⟨16, hx, fun i c hi => ?_⟩
            obtain ⟨j, q1, q2⟩ := p2 i c hi
            have hj : j = i := by
              have := get_lt q1
              rw [List.getElem?_range (by simpa using this)] at q1
              injection q1 with q1; exact q1.symm
            subst hj
            unfold liveUp at q2
            split at q2
            · rename_i o ho
              exact ⟨_, ho, by simp, q2⟩
            · rename_i ho
              injection q2 with q2
              subst q2
              exact ⟨_, ho, by simp, rfl⟩
            · cases q2
        · cases e
      · cases e
    · cases e
  · cases e

theorem orcOf_ok {P : Program} {ih : Task → Option Res} (hih : IH P ih) : OrcOk P (orcOf P ih) := by
  intro f args h x ids post e
  unfold orcOf at e
  split at e
  · rename_i hc
    exact ⟨hc, lifted_sound hih e⟩
  · cases e

theorem step_sound {P : Program} {pol : FuncId → Bool} (hm : P.follows .mixedOrders = true) (n : Nat) (hrec : ∀ m, m < n + 1 → IH P (run P pol m)) (t : Task) (r : Res) (e : step P pol (run P pol n) t = some r) : TS P t r := by
  have hih : IH P (run P pol n) := hrec n (by omega)
  cases t with
  | code c s =>
    simp only [step] at e
    cases c with
    | skip => injection e with e; subst e; exact PW.skip ⟨rfl, rfl⟩
    | region id ops d =>
      simp only at e
      split at e
      · rename_i hd
        subst hd
        split at e
        · rename_i s' fs hr
          split at e
          · rename_i hc
            injection e with e; subst e
            obtain ⟨c1, c2⟩ := Bool.and_eq_true_iff.1 hc
            exact PW.drawn hm (orcOf_ok hih) c1 hr c2 ⟨rfl, rfl⟩
          · cases e
        · cases e
      · rename_i hd
        have hd' : d = false := by simpa using hd
        subst hd'
        have := hih _ _ e
        cases r with
        | code e2 s2 =>
          obtain ⟨rfl, q⟩ := this
          refine PW.region ?_
          have hr : List.range ops.size = List.range' 0 ops.toList.length := by rw [List.range_eq_range']; simp
          rw [hr]
          intro ι a w rr
          exact wpOps_mono (fun e a w ⟨s3, ι3, ⟨p1, p2⟩, p3⟩ => ⟨s3, ι3, ⟨p1, rfl, p2⟩, p3⟩) _ _ _ (q 0 (fun j o hj => by simpa using hj) ι a w rr)
        | val x h => exact this.elim
    | seq a b =>
      simp only at e
      split at e
      · rename_i s' ha
        have h1 := hih _ _ ha
        have h2 := hih _ _ e
        cases r with
        | code e2 s2 =>
          refine PW.seq (PW.mono h1 ?_)
          rintro e3 s3 ⟨rfl, rfl⟩
          exact h2
        | val x h => exact h2.elim
      · rename_i q hq
        have h1 := hih _ _ e
        cases r with
        | code e2 s2 =>
          refine PW.seq (PW.mono h1 ?_)
          rintro e3 s3 ⟨rfl, rfl⟩
          cases e3 with
          | normal => exact absurd e (hq s3)
          | _ => exact ⟨rfl, rfl⟩
        | val x h => exact h1.elim
    | cond c x y =>
      simp only at e
      split at e
      · rename_i b hb
        have h1 := hih _ _ e
        cases r with
        | code e2 s2 => exact PW.cond hb h1
        | val x h => exact h1.elim
      · cases e
    | block id c =>
      simp only at e
      split at e
      · rename_i id' s' hc
        have h1 := hih _ _ hc
        split at e
        · rename_i hid
          injection e with e; subst e
          refine PW.block (PW.mono h1 ?_)
          rintro e3 s3 ⟨rfl, rfl⟩
          simp only [inBlockA, if_pos hid]
          exact ⟨trivial, trivial⟩
        · rename_i hid
          injection e with e; subst e
          refine PW.block (PW.mono h1 ?_)
          rintro e3 s3 ⟨rfl, rfl⟩
          simp only [inBlockA, if_neg hid]
          exact ⟨trivial, trivial⟩
      · rename_i q hq
        have h1 := hih _ _ e
        cases r with
        | code e2 s2 =>
          refine PW.block (PW.mono h1 ?_)
          rintro e3 s3 ⟨rfl, rfl⟩
          cases e3 with
          | exit id' => exact absurd e (hq id' s3)
          | _ => exact ⟨rfl, rfl⟩
        | val x h => exact h1.elim
    | loop b =>
      -- the chain of rounds, from the fuel that is left
      have e0 : run P pol (n + 1) (.code (.loop b) s) = some r := by rw [run_succ]; simp only [step]; exact e
      cases r with
      | val x h =>
        exfalso
        have none : ∀ m s', m ≤ n + 1 → run P pol m (.code (.loop b) s') ≠ some (.val x h) := by
          intro m
          induction m with
          | zero => intro s' _ q; cases q
          | succ m ih =>
            intro s' hm' q
            rw [run_succ] at q
            simp only [step] at q
            split at q
            · rename_i s2 h2; exact ih s2 (by omega) q
            · exact hrec m (by omega) _ _ q
        exact none (n + 1) s (Nat.le_refl _) e0
      | code er sr =>
        have least : ∀ s', (∃ m, m ≤ n + 1 ∧ run P pol m (.code (.loop b) s') = some (.code er sr)) → ∃ m, m ≤ n + 1 ∧ run P pol m (.code (.loop b) s') = some (.code er sr) ∧ ∀ m', run P pol m' (.code (.loop b) s') = some (.code er sr) → m ≤ m' := by
          rintro s' ⟨m, h1, h2⟩
          induction m using Nat.strongRecOn with
          | _ m ih =>
            by_cases hl : ∃ j, j < m ∧ run P pol j (.code (.loop b) s') = some (.code er sr)
            · obtain ⟨j, hj, hj2⟩ := hl
              exact ih j hj (by omega) hj2
            · refine ⟨m, h1, h2, fun m' hm' => ?_⟩
              rcases Nat.lt_or_ge m' m with q | q
              · exact absurd ⟨m', q, hm'⟩ hl
              · exact q
        have hch : ∃ μ : St → Nat, ∀ s', (∃ m, m ≤ n + 1 ∧ run P pol m (.code (.loop b) s') = some (.code er sr)) → μ s' ≤ n + 1 ∧ run P pol (μ s') (.code (.loop b) s') = some (.code er sr) ∧ ∀ m', run P pol m' (.code (.loop b) s') = some (.code er sr) → μ s' ≤ m' := by
          have : ∀ s', ∃ m, (∃ m, m ≤ n + 1 ∧ run P pol m (.code (.loop b) s') = some (.code er sr)) → m ≤ n + 1 ∧ run P pol m (.code (.loop b) s') = some (.code er sr) ∧ ∀ m', run P pol m' (.code (.loop b) s') = some (.code er sr) → m ≤ m' := by
            intro s'
            by_cases hx : ∃ m, m ≤ n + 1 ∧ run P pol m (.code (.loop b) s') = some (.code er sr)
            · obtain ⟨m, hm'⟩ := least s' hx
              exact ⟨m, fun _ => hm'⟩
            · exact ⟨0, fun q => absurd q hx⟩
          exact ⟨fun s' => Classical.choose (this s'), fun s' => Classical.choose_spec (this s')⟩
        obtain ⟨μ, hμ⟩ := hch
        refine PW.loop (fun s' => ∃ m, m ≤ n + 1 ∧ run P pol m (.code (.loop b) s') = some (.code er sr)) μ ⟨n + 1, Nat.le_refl _, e0⟩ ?_
        intro s' hI
        obtain ⟨g1, g2, _⟩ := hμ s' hI
        generalize hg : μ s' = m at *
        cases m with
        | zero => cases g2
        | succ m =>
          rw [run_succ] at g2
          simp only [step] at g2
          split at g2
          · rename_i s2 h2
            refine PW.mono (hrec m (by omega) _ _ h2) ?_
            rintro e3 s3 ⟨rfl, rfl⟩
            have hI2 : ∃ m, m ≤ n + 1 ∧ run P pol m (.code (.loop b) s3) = some (.code er sr) := ⟨m, by omega, g2⟩
            refine ⟨hI2, ?_⟩
            have := (hμ s3 hI2).2.2 m g2
            show μ s3 < m + 1
            omega
          · rename_i q hq
            refine PW.mono (hrec m (by omega) _ _ g2) ?_
            rintro e3 s3 ⟨rfl, rfl⟩
            cases e3 with
            | normal => exact absurd g2 (hq s3)
            | _ => exact ⟨rfl, rfl⟩
    | exit id => injection e with e; subst e; exact PW.exit ⟨rfl, rfl⟩
    | ret => injection e with e; subst e; exact PW.ret ⟨rfl, rfl⟩
    | _ => cases e
  | ops ops l s =>
    simp only [step] at e
    cases l with
    | nil => injection e with e; subst e; exact ⟨rfl, fun k _ => PO.nil rfl⟩
    | cons o rest =>
      simp only at e
      have tail : ∀ s2, run P pol n (.ops ops rest s2) = some r → ∃ s', r = .code .normal s' ∧ ∀ k, (∀ (j : Nat) (o' : Oper), (o :: rest)[j]? = some o' → ops[k + j]? = some o') → PO P ops (List.range' (k + 1) rest.length) s2 (fun s3 => s3 = s') := by
        intro s2 h2
        have := hih _ _ h2
        cases r with
        | code e2 s' =>
          obtain ⟨rfl, q⟩ := this
          exact ⟨s', rfl, fun k hk => q (k + 1) (fun j o' hj => by have := hk (j + 1) o' (by simpa using hj); rwa [show k + 1 + j = k + (j + 1) by omega])⟩
        | val x h => exact this.elim
      have head : ∀ k, (∀ (j : Nat) (o' : Oper), (o :: rest)[j]? = some o' → ops[k + j]? = some o') → ops[k]? = some o := fun k hk => by simpa using hk 0 o (by simp)
      split at e
      · rename_i hw
        split at e
        · rename_i f args hcall
          obtain ⟨fop, ars, tys, first, caps, hop, hf, rfl⟩ := callOf_spec hcall
          split at e
          · rename_i hcb
            split at e
            · split at e
              · rename_i x ids post hl
                obtain ⟨s', rfl, q⟩ := tail _ e
                refine ⟨rfl, fun k hk => ?_⟩
                simp only [List.length_cons, List.range'_succ]
                refine PO.call (head k hk) hw hop hf hcb ((lifted_sound hih hl).2 s.h (fun _ _ => rfl)) ?_
                rintro y k' ⟨rfl, rfl⟩
                exact q k hk
              · cases e
            · split at e
              · rename_i x h' hl
                obtain ⟨s', rfl, q⟩ := tail _ e
                refine ⟨rfl, fun k hk => ?_⟩
                simp only [List.length_cons, List.range'_succ]
                refine PO.call (head k hk) hw hop hf hcb (hih _ _ hl) ?_
                rintro y k' ⟨rfl, rfl⟩
                exact q k hk
              · cases e
          · cases e
        · split at e
          · rename_i x h' hx
            obtain ⟨s', rfl, q⟩ := tail _ e
            refine ⟨rfl, fun k hk => ?_⟩
            simp only [List.length_cons, List.range'_succ]
            exact PO.op s.h.length (head k hk) hw hx (q k hk)
          · cases e
      · rename_i hw
        obtain ⟨s', rfl, q⟩ := tail _ e
        refine ⟨rfl, fun k hk => ?_⟩
        simp only [List.length_cons, List.range'_succ]
        exact PO.no (head k hk) hw (q k hk)
      · cases e
  | call f args h =>
    simp only [step] at e
    split at e
    · rename_i fn hf
      split at e
      · rename_i c hb
        split at e
        · rename_i e2 s' hc
          split at e
          · rename_i hnr
            split at e
            · rename_i x hx
              injection e with e; subst e
              refine PC.of_body hf hb (PW.mono (hih _ _ hc) ?_)
              rintro e3 s3 ⟨rfl, rfl⟩
              refine ⟨?_, x, hx, rfl, rfl⟩
              cases e3 <;> simp [isNR] at hnr <;> simp
            · cases e
          · cases e
        · cases e
      · cases e
    · cases e

theorem run_sound {P : Program} {pol : FuncId → Bool} (hm : P.follows .mixedOrders = true) (n : Nat) : IH P (run P pol n) := by
  induction n using Nat.strongRecOn with
  | _ n ih =>
    cases n with
    | zero => intro t r e; cases e
    | succ n => exact fun t r e => step_sound hm n (fun m hm' => ih m hm') t r (by rw [← run_succ]; exact e)

/-- A closed call, by one run. -/
theorem PC.of_run {P : Program} {pol : FuncId → Bool} (hm : P.follows .mixedOrders = true) (n : Nat) {f : FuncId} {args : List V} {h : Heap} {x : V} {h' : Heap} (e : run P pol n (.call f args h) = some (.val x h')) :
    PC P f args h (fun y k => y = x ∧ k = h') := run_sound hm n _ _ e

def isTrueRes : Option Res → Bool
  | some (.val (.v (.bool true)) _) => true
  | _ => false

theorem PC.of_true {P : Program} {pol : FuncId → Bool} (hm : P.follows .mixedOrders = true) (n : Nat) {f : FuncId} {args : List V} {h : Heap} (e : isTrueRes (run P pol n (.call f args h)) = true) :
    PC P f args h (fun y _ => y = .v (.bool true)) := by
  cases hr : run P pol n (.call f args h) with
  | none => rw [hr] at e; cases e
  | some r =>
    rw [hr] at e
    cases r with
    | code e2 s => cases e
    | val x h' =>
      refine PC.mono (PC.of_run hm n hr) ?_
      rintro y k ⟨rfl, rfl⟩
      unfold isTrueRes at e
      split at e
      · rename_i q; injection q with q; injection q
      · cases e

end Go.Abs
