/- Symbolic walking: simp lemmas for operations, guards, cuts. -/
import Derived.Test.YtinehkfcploeiaaAbsQ
namespace Go.Abs
set_option linter.unusedVariables false
theorem aLoad_pF1 (P : Program) (h : Heap) (t : TypeId) (x : V) (hs : sizeT P t = some 1) (ha : isAggT P t = some false) : aLoad P h t (.pF [x] 0) = some (x, h) := by
  simp [aLoad, rowAt, readAt, hs, ha]

theorem rows_at (k : IntKind) (l : List Int) (i : Nat) (h : i < (l.map fun n => [V.v (.int k n)]).length) : (l.map fun n => [V.v (.int k n)])[i] = [.v (.int k (l.getD i 0))] := by
  rw [List.length_map] at h
  rw [List.getElem_map, List.getD_eq_getElem?_getD, List.getElem?_eq_getElem h, Option.getD_some]

theorem aIndexAddr_ints (P : Program) (h : Heap) (t e : TypeId) (ht : P.underlying t = some (.slice e)) (hs : sizeT P e = some 1) (k : IntKind) (l : List Int) (q : IntKind) (i : Int) (h0 : 0 ≤ i ∧ i < l.length) :
    aIndexAddr P h t (ints k l) (.v (.int q i)) = some (.pF [.v (.int k (l.getD i.toNat 0))] 0, h) := by
  have := aIndexAddr_sF P h t e ht 1 hs (l.map fun n => [V.v (.int k n)]) q i h0.1 (by simpa using h0.2)
  rw [rows_at] at this
  exact this

theorem aLen_ints' (P : Program) (h : Heap) (t e : TypeId) (ht : P.underlying t = some (.slice e)) (k : IntKind) (l : List Int) : aLen P h t (ints k l) = some (.v (.int .i64 l.length), h) := by
  simp [ints, aLen, ht]
theorem undef_v : (V.v undef) = V.v (.tuple #[]) := rfl
section
variable (P : Program) (ρ : Operand → V) (h : Heap) (new : Nat)
theorem aop_move (x : Operand) : aop P (.move x) ρ h new = some (ρ x, h) := rfl
theorem aop_assign (x : Operand) : aop P (.assign x) ρ h new = some (ρ x, h) := rfl
theorem aop_pick (c a b : Operand) : aop P (.pick c a b) ρ h new = aPick h (ρ c) (ρ a) (ρ b) := rfl
theorem aop_alloc (e : TypeId) : aop P (.alloc e) ρ h new = aAlloc P h new e := rfl
theorem aop_load (t : TypeId) (p : Operand) : aop P (.load t p) ρ h new = aLoad P h t (ρ p) := rfl
theorem aop_store (t : TypeId) (p x : Operand) : aop P (.store t p x) ρ h new = aStore P h t (ρ p) (ρ x) := rfl
theorem aop_bin (o : BinOp) (t : TypeId) (X Y : Operand) (u : TypeId) : aop P (.binOp o t X Y u) ρ h new = aBin P h o t X Y (ρ X) (ρ Y) := rfl
theorem aop_indexAddr (t : TypeId) (x i : Operand) : aop P (.indexAddr t x i) ρ h new = aIndexAddr P h t (ρ x) (ρ i) := rfl
theorem aop_convert (s d : TypeId) (x : Operand) : aop P (.convert s d x) ρ h new = aConvert P h new s d (ρ x) := rfl
theorem aop_index (t : TypeId) (x i : Operand) : aop P (.index t x i) ρ h new = aIndex P h t (ρ x) (ρ i) := rfl
theorem aop_fieldAddr (t : TypeId) (x : Operand) (f : Nat) : aop P (.fieldAddr t x f) ρ h new = aFieldAddr P h t (ρ x) f := rfl
theorem aop_field (t : TypeId) (x : Operand) (f : Nat) : aop P (.field t x f) ρ h new = aField P h t (ρ x) f := rfl
theorem aop_extract (x : Operand) (i : Nat) : aop P (.extract x i) ρ h new = aExtract h (ρ x) i := rfl
theorem aop_len (t : TypeId) (x : Operand) : aop P (.call ⟨.builtin .len, #[x], #[t]⟩) ρ h new = aLen P h t (ρ x) := rfl
theorem aop_append (a b : TypeId) (x y : Operand) : aop P (.call ⟨.builtin .append, #[x, y], #[a, b]⟩) ρ h new = aAppend P h new #[a, b] (ρ x) (ρ y) := rfl
end
theorem aev_t (sl : List V) (t : Nat) : aev sl (.tmp t) = sl.getD t .any := rfl
def gd : List Oper → Nat → Nat → Nat
  | [], n, _ => n
  | o :: r, n, 0 => match o.dst with
    | some d => d
    | none => n
  | o :: r, n, j + 1 => gd r n j
def gdst (ops : Array Oper) (n : Nat) (j : Nat) : Nat := gd ops.toList n j
theorem gdst_mk (l : List Oper) (n j : Nat) : gdst l.toArray n j = gd l n j := rfl
theorem gd_zero (d : Tmp) (op : Op) (t : TypeId) (p : String) (a : Array Edge) (g : Option (Nat × Bool)) (r : List Oper) (n : Nat) : gd (⟨some d, op, t, p, a, g⟩ :: r) n 0 = d := rfl
theorem gd_succ (o : Oper) (r : List Oper) (n j : Nat) : gd (o :: r) n (j + 1) = gd r n j := rfl
theorem gd_none : ∀ (l : List Oper) (n j : Nat), l[j]? = none → gd l n j = n
  | [], _, _, _ => rfl
  | o :: r, n, 0, h => by simp at h
  | o :: r, n, j + 1, h => gd_none r n j (by simpa using h)
theorem gd_some : ∀ (l : List Oper) (n j : Nat) (o : Oper), l[j]? = some o → gd l n j = match o.dst with | some d => d | none => n
  | [], _, _, _, h => by simp at h
  | o :: r, n, 0, _, h => by simp at h; subst h; rfl
  | o :: r, n, j + 1, _, h => gd_some r n j _ (by simpa using h)
def gwant (x : V) (want : Bool) : Option Bool := match x with
  | .v (.bool b) => some (b == want)
  | .v (.tuple _) => some false
  | _ => none
theorem gwant_b (b want : Bool) : gwant (.v (.bool b)) want = some (b == want) := rfl
theorem gwant_u (want : Bool) : gwant (.v undef) want = some false := rfl
theorem gwant_tt : gwant (.v (.bool true)) true = some true := rfl
theorem gwant_tf : gwant (.v (.bool true)) false = some false := rfl
theorem gwant_ft : gwant (.v (.bool false)) true = some false := rfl
theorem gwant_ff : gwant (.v (.bool false)) false = some true := rfl
theorem aPick_t (h : Heap) (x y : V) : aPick h (.v (.bool true)) x y = some (x, h) := rfl
theorem aPick_f (h : Heap) (x y : V) : aPick h (.v (.bool false)) x y = some (y, h) := rfl
theorem awanted_g (ops : Array Oper) (d : Option Tmp) (op : Op) (t : TypeId) (p : String) (a : Array Edge) (j : Nat) (want : Bool) (sl : List V) :
    awanted ops sl ⟨d, op, t, p, a, some (j, want)⟩ = gwant (sl.getD (gdst ops sl.length j) .any) want := by
  simp only [awanted, gdst]
  cases h1 : ops[j]? with
  | none => rw [gd_none _ _ _ (by simpa using h1)]; simp [List.getD, gwant]
  | some o =>
    rw [gd_some _ _ _ o (by simpa using h1)]
    cases h2 : o.dst with
    | none => simp [List.getD, gwant, h2]
    | some d =>
      simp only [Option.bind_some, h2, List.getD]
      cases h3 : sl[d]? with
      | none => simp [gwant]
      | some x =>
        simp only [Option.getD_some]
        cases x with
        | v y => cases y <;> rfl
        | _ => rfl
theorem opsRun_g (P : Program) (ops : Array Oper) (d : Option Tmp) (op : Op) (t : TypeId) (p : String) (a : Array Edge) (j : Nat) (want : Bool) (r : List Oper) (sl : List V) (h : Heap) :
    opsRun P ops (⟨d, op, t, p, a, some (j, want)⟩ :: r) ⟨sl, h⟩ = match gwant (sl.getD (gdst ops sl.length j) .any) want with
      | some true => (match aop P op (aev sl) h h.length with | some (x, h') => opsRun P ops r ⟨sput sl d x, h'⟩ | none => none)
      | some false => opsRun P ops r ⟨sput sl d (.v undef), h⟩
      | none => none := by
  rw [← awanted_g ops d op t p a]
  rfl
/-- a step of a sequence, with the state after it given -/
theorem PW.seqS {P : Program} {x y : Code} {s : St} {Q : Exit → St → Prop} (S : List V) (H : Heap) (h1 : PW P x s (thenA (fun s' => leS s'.sl S ∧ s'.h = H) Q)) (h2 : PW P y ⟨S, H⟩ Q) : PW P (.seq x y) s Q := by
  refine PW.seq (PW.mono h1 ?_)
  intro e s' h
  cases e with
  | normal =>
    obtain ⟨sl', h'⟩ := s'
    obtain ⟨q1, q2⟩ := h
    simp only at q2
    subst q2
    exact PW.forget (s := ⟨sl', h'⟩) q1 h2
  | _ => exact h
theorem aPick_b (h : Heap) (b : Bool) (x y : V) : aPick h (.v (.bool b)) x y = some (if b then x else y, h) := by cases b <;> rfl
end Go.Abs
namespace Go.Abs

theorem POL.runs {P : Program} {ops : Array Oper} {Q : St → Prop} : ∀ (n : Nat) (l : List Oper) (s : St), onSome (fun s' => POL P ops (l.drop n) s' Q) (opsRun P ops (l.take n) s) → POL P ops l s Q
  | 0, l, s, h => by simpa [opsRun, onSome] using h
  | n + 1, [], s, h => by simpa [opsRun, onSome] using h
  | n + 1, o :: l, s, h => by
    simp only [List.take_succ_cons, List.drop_succ_cons, opsRun] at h
    split at h
    · rename_i hw
      split at h
      · rename_i x h' hx
        exact POL.op hw hx (POL.runs n l _ h)
      · exact h.elim
    · rename_i hw
      exact POL.no hw (POL.runs n l _ h)
    · exact h.elim

theorem aConvert_int (P : Program) (h : Heap) (new : Nat) (s d : TypeId) (k k' : IntKind) (q : IntKind) (n : Int) (hs : P.underlying s = some (.int k)) (hd : P.underlying d = some (.int k')) :
    aConvert P h new s d (.v (.int q n)) = some (.v (.int k' (k'.wrap n)), h) := by
  have e : pureRun P (convert s d (.int q n)) = some (.int k' (k'.wrap n)) := by
    simp [convert, Go.underlying, hs, hd, pureRun, bind, pure, program, Sem.bind, Conv.intToInt]
  simp only [aConvert, hd, e]
  rfl

theorem aBin_rem (P : Program) (h : Heap) (t : TypeId) (X Y : Operand) (k : IntKind) (a b : Int) (hb : b ≠ 0) : aBin P h .rem t X Y (.v (.int k a)) (.v (.int k b)) = some (.v (.int k (a.tmod b)), h) := by
  have e : pureRun P (do eqGuard .rem t X Y (.int k a) (.int k b); binOp .rem t (.int k a) (.int k b)) = some (.int k (a.tmod b)) := by
    cases k <;> simp [eqGuard, binOp, Op.intDiv, hb, pureRun, bind, pure, Sem.bind]
  simp only [aBin, toValue, e]
  rfl

/-- the end of a law by one run of its rest -/
def endsTrue (P : Program) (rs : List ResultVar) : Option Res → Bool
  | some (.code e s) => isNR e && match ares P rs s.sl s.h with
    | some (.v (.bool true)) => true
    | _ => false
  | _ => false

theorem PW.ends {P : Program} {pol : FuncId → Bool} (hm : P.follows .mixedOrders = true) (n : Nat) {c : Code} {s : St} {rs : List ResultVar} (e : endsTrue P rs (Go.Abs.run P pol n (.code c s)) = true) :
    PW P c s (fun e s' => (e = .normal ∨ e = .ret) ∧ ∃ x, ares P rs s'.sl s'.h = some x ∧ x = .v (.bool true)) := by
  cases hr : Go.Abs.run P pol n (.code c s) with
  | none => rw [hr] at e; cases e
  | some r =>
    rw [hr] at e
    cases r with
    | val x h' => cases e
    | code e2 s2 =>
      obtain ⟨h1, h2⟩ := Bool.and_eq_true_iff.1 e
      refine PW.mono (run_sound hm n _ _ hr) ?_
      rintro e3 s3 ⟨rfl, rfl⟩
      refine ⟨?_, ?_⟩
      · cases e3 <;> simp [isNR] at h1 <;> simp
      · split at h2
        · rename_i q; exact ⟨_, q, rfl⟩
        · cases h2

/-- what follows the first two steps of a function's body -/
def restOf (P : Program) (f : Nat) : Code := match P.funcs[f]? with
  | some fn => match fn.body with
    | some (.seq _ (.seq _ r)) => r
    | _ => .skip
  | none => .skip
theorem restOf_eq {P : Program} {f : Nat} {fn : Func} {a b r : Code} (hf : P.funcs[f]? = some fn) (hb : fn.body = some (.seq a (.seq b r))) : restOf P f = r := by
  simp only [restOf, hf, hb]

/-- Fewer objects known. -/
def leH : Heap → Heap → Prop
  | [], [] => True
  | x :: xs, y :: ys => (x = y ∨ (y = .dead ∧ ∃ o, x = .live o)) ∧ leH xs ys
  | _, _ => False

theorem leH.refl : ∀ h : Heap, leH h h
  | [] => trivial
  | _ :: r => ⟨.inl rfl, leH.refl r⟩

theorem HRel.forget {ι : Iota} {w : World} : ∀ {h h' : Heap} (p : Heap), leH h h' → HRel (p ++ h) ι w → HRel (p ++ h') ι w ∧ Evolve (p ++ h) ι w (p ++ h') ι w
  | [], [], p, _, H => ⟨H, Evolve.refl _ _ _⟩
  | x :: xs, y :: ys, p, hl, H => by
    obtain ⟨h1, h2⟩ := hl
    rcases h1 with rfl | ⟨rfl, o, rfl⟩
    · have := HRel.forget (p ++ [x]) h2 (by simpa using H)
      simpa using this
    · obtain ⟨H1, e1⟩ := HRel.kill H (id := p.length) (o := o) (by simp)
      have e : (p ++ HS.live o :: xs).set p.length .dead = (p ++ [.dead]) ++ xs := by simp
      rw [e] at H1 e1
      obtain ⟨H2, e2⟩ := HRel.forget (p ++ [.dead]) h2 H1
      exact ⟨by simpa using H2, by simpa using e1.trans e2⟩
  | [], _ :: _, _, hl, _ => hl.elim
  | _ :: _, [], _, hl, _ => hl.elim

theorem PW.forgetH {P : Program} {c : Code} {s : St} {Q : Exit → St → Prop} {h : Heap} (hl : leH s.h h) (hp : PW P c ⟨s.sl, h⟩ Q) : PW P c s Q := by
  intro ι a w r
  obtain ⟨H, ev⟩ := HRel.forget [] hl r.heap
  refine wp_mono (hp ι a w ⟨r.defers, r.slots.mono ev, H⟩) ?_
  rintro e a' w' ⟨s', ι', q, r', ev'⟩
  exact ⟨s', ι', q, r', Evolve.trans ev ev'⟩

/-- Fewer slots and objects known. -/
def leSt (s : St) (sl : List V) (h : Heap) : Prop := leS s.sl sl ∧ leH s.h h

theorem PW.less {P : Program} {c : Code} {s : St} {Q : Exit → St → Prop} {sl : List V} {h : Heap} (hl : leSt s sl h) (hp : PW P c ⟨sl, h⟩ Q) : PW P c s Q :=
  PW.forget hl.1 (PW.forgetH (s := ⟨sl, s.h⟩) hl.2 hp)

/-- a step of a sequence, with the state after it given -/
theorem PW.seqL {P : Program} {x y : Code} {s : St} {Q : Exit → St → Prop} (S : List V) (H : Heap) (h1 : PW P x s (thenA (fun s' => leSt s' S H) Q)) (h2 : PW P y ⟨S, H⟩ Q) : PW P (.seq x y) s Q := by
  refine PW.seq (PW.mono h1 ?_)
  intro e s' h
  cases e with
  | normal => exact PW.less h h2
  | _ => exact h

/-- A loop, its head's states given by a pattern. -/
theorem PW.loopL {P : Program} {c : Code} {s : St} {Q : Exit → St → Prop} {α : Type} (S : α → List V) (H : α → Heap) (J : α → Prop) (μ : α → Nat) (x0 : α)
    (h1 : leSt s (S x0) (H x0)) (h3 : J x0)
    (round : ∀ x, J x → PW P c ⟨S x, H x⟩ (thenA (fun s' => ∃ y, leSt s' (S y) (H y) ∧ J y ∧ μ y < μ x) Q)) : PW P (.loop c) s Q := by
  let I : Nat → St → Prop := fun n s' => ∃ x, μ x = n ∧ leSt s' (S x) (H x) ∧ J x
  have dec : ∀ s', ∃ m, ((∃ n, I n s') → I m s' ∧ ∀ n, I n s' → m ≤ n) := by
    intro s'
    by_cases hx : ∃ n, I n s'
    · obtain ⟨n, hn⟩ := hx
      induction n using Nat.strongRecOn with
      | _ n ih =>
        by_cases hlt : ∃ k, k < n ∧ I k s'
        · obtain ⟨k, hk, hj⟩ := hlt
          exact ih k hk hj
        · refine ⟨n, fun _ => ⟨hn, fun k hk => ?_⟩⟩
          rcases Nat.lt_or_ge k n with q | q
          · exact absurd ⟨k, q, hk⟩ hlt
          · exact q
    · exact ⟨0, fun q => absurd q hx⟩
  have hf : ∃ f : St → Nat, ∀ s', (∃ n, I n s') → I (f s') s' ∧ ∀ n, I n s' → f s' ≤ n := ⟨fun s' => Classical.choose (dec s'), fun s' => Classical.choose_spec (dec s')⟩
  obtain ⟨f, hf⟩ := hf
  refine PW.loop (fun s' => ∃ n, I n s') f ⟨_, x0, rfl, h1, h3⟩ ?_
  intro s' hs'
  obtain ⟨⟨x, e1, e2, e4⟩, _⟩ := hf s' hs'
  refine PW.mono (PW.less e2 (round x e4)) ?_
  intro e s2 hq
  cases e with
  | normal =>
    obtain ⟨y, q1, q3, q4⟩ := hq
    have hI : I (μ y) s2 := ⟨y, rfl, q1, q3⟩
    refine ⟨⟨_, hI⟩, ?_⟩
    have := (hf s2 ⟨_, hI⟩).2 _ hI
    omega
  | _ => exact hq

/-- a case split on a truth value in a slot -/
theorem POL.split {P : Program} {ops : Array Oper} {l : List Oper} {s : St} {Q : St → Prop} (d : Nat) (b : Bool) (hs : aev s.sl (.tmp d) = .v (.bool b)) (h1 : b = true → POL P ops l s Q) (h2 : b = false → POL P ops l s Q) : POL P ops l s Q := by
  cases b
  · exact h2 rfl
  · exact h1 rfl

/- objects of one row -/
theorem aop_box (P : Program) (ρ : Operand → V) (h : Heap) (new : Nat) (e : TypeId) (x : Operand) : aop P (.box e x) ρ h new = aBox h new e (ρ x) := rfl

theorem aBox_agg (h : Heap) (e : TypeId) (xs : List V) : aBox h h.length e (.agg xs) = some (.pO h.length 0 0, h ++ [.live ⟨xs.length, [xs], e⟩]) := by
  simp [aBox, leaves, norm, halloc]

theorem aAlloc_agg (P : Program) (h : Heap) (e : TypeId) (xs : List V) (hz : zeroV P e = some (.agg xs)) : aAlloc P h h.length e = some (.pO h.length 0 0, h ++ [.live ⟨xs.length, [xs], e⟩]) := by
  simp only [aAlloc, hz, aBox_agg]

theorem aLoad_obj (P : Program) (h : Heap) (t : TypeId) (id n : Nat) (xs : List V) (e : TypeId) (ho : h[id]? = some (.live ⟨n, [xs], e⟩)) (ha : isAggT P t = some true) (hs : sizeT P t = some xs.length) : aLoad P h t (.pO id 0 0) = some (.agg xs, h) := by
  simp [aLoad, rowAt, ho, readAt, ha, hs]

theorem aLoad_row (P : Program) (h : Heap) (t : TypeId) (xs : List V) (ha : isAggT P t = some true) (hs : sizeT P t = some xs.length) : aLoad P h t (.pF xs 0) = some (.agg xs, h) := by
  simp [aLoad, rowAt, readAt, ha, hs]

theorem aStore_last (P : Program) (h : Heap) (t : TypeId) (n : Nat) (r0 xs : List V) (e : TypeId) (hs : sizeT P t = some xs.length) (h0 : r0.length = xs.length) (hk : xs.all leafOk = true) :
    aStore P (h ++ [.live ⟨n, [r0], e⟩]) t (.pO h.length 0 0) (.agg xs) = some (.any, h ++ [.live ⟨n, [xs], e⟩]) := by
  simp only [List.all_eq_true] at hk
  simp [aStore, leaves, norm, hs, h0]
  exact hk

theorem leH_snoc : ∀ (h : Heap) (o : AObj), leH (h ++ [.live o]) (h ++ [.dead])
  | [], o => ⟨.inr ⟨rfl, o, rfl⟩, trivial⟩
  | _ :: r, o => ⟨.inl rfl, leH_snoc r o⟩

/-- A contract over trees serves a call whose arguments are objects of the caller: the callee reads them and writes none of them. -/
theorem PC.read {P : Program} {f : FuncId} {args args0 : List V} {z : Value} {k : Heap} (n : Nat) (hargs : mapOpt (frz noTau k n) args = some args0) (hc : PC P f args0 [] (fun x _ => x = .v z)) :
    PC P f args k (fun x k' => x = .v z ∧ k' = k) := by
  intro ι w vals hp H
  let ι0 : Iota := { at' := fun _ => none, X := ι.X }
  have hob0 : ∀ b, ¬ Ob [] ι0 b := by rintro b ⟨id, o, l, q, _⟩; simp at q
  have H0 : HRel [] ι0 w := ⟨fun id o h => by simp at h, fun id h => by simp at h, fun id _ => rfl, fun id o l id' o' l' h => by simp at h, H.xlt, fun b _ => hob0 b⟩
  have nm : ∀ b, ¬ ι.X b → ¬ Mt [] ι0 b := fun b hb q => by
    rcases q with q | q
    · exact hb q
    · exact hob0 b q
  have cv0 : Conv noTau k w ι (Mt k ι) ι0 (Mt [] ι0) := ⟨fun id j l h => by simp [noTau] at h, fun b hb q => nm b (fun x => hb (.inl x)) q, fun id o _ ho => by
    obtain ⟨l, c, fr, h1, la⟩ := H.live id o ho
    exact ⟨l, c, fr, h1, la, H.blk_lt ⟨id, o, l, ho, h1, rfl⟩, nm _ fun x => H.xob _ x ⟨id, o, l, ho, h1, rfl⟩⟩⟩
  have hp0 : PW2 w ι0 (Mt [] ι0) args0 vals := by
    obtain ⟨e1, e2⟩ := mapOpt_get hargs
    refine ⟨by rw [← hp.1]; exact e1.symm, fun i x hx => ?_⟩
    obtain ⟨x1, h1, h2⟩ := e2 i x hx
    obtain ⟨y, y1, y2⟩ := hp.2 i x1 h1
    exact ⟨y, y1, frz_rep cv0 n _ _ _ y2 h2⟩
  refine (hc ι0 w vals hp0 H0).mono ?_
  rintro e w' ⟨y, x, h', ι', rfl, rfl, ry, H', ev⟩
  have ev' : Evolve k ι w k ι w' := ⟨ev.os, ev.tape, ev.output, ev.size, fun _ _ q => q, rfl, fun b hb q => ⟨(ev.frame b hb (hob0 b)).1, q⟩, ev.sizes⟩
  refine ⟨y, .v z, k, ι, rfl, ⟨rfl, rfl⟩, ?_, ?_, ev'⟩
  · cases ry; exact .v _
  · refine ⟨fun id o ho => ?_, H.free, H.out, H.apart, fun b hb => Nat.lt_of_lt_of_le (H.xlt b hb) ev.size, H.xob⟩
    obtain ⟨l, c, fr, h1, la⟩ := H.live id o ho
    have hb := H.blk_lt ⟨id, o, l, ho, h1, rfl⟩
    exact ⟨l, c, fr, h1, ⟨((ev.frame _ hb (hob0 _)).1).trans la.blk, la.unfrozen, la.sz, la.rows, la.fits, fun i hi j hj => let ⟨u, u1, u2⟩ := la.reads i hi j hj; ⟨u, u1, u2.mono ev'⟩⟩⟩

def frzIs (n : Nat) (x0 : V) : Option Res → Bool
  | some (.val x h) => match frz noTau h n x with
    | some y => beqV n y x0
    | none => false
  | _ => false

/-- A closed call, by one run, in every heap. -/
theorem PC.closed {P : Program} {pol : FuncId → Bool} (hm : P.follows .mixedOrders = true) (n m : Nat) {f : FuncId} {args : List V} {x0 : V} (hargs : mapOpt (frz noTau [] m) args = some args)
    (e : frzIs m x0 (Go.Abs.run P pol n (.call f args [])) = true) (k : Heap) : PC P f args k (fun x k' => x = x0 ∧ k' = k) := by
  refine PC.frame m hargs ?_ k
  cases hr : Go.Abs.run P pol n (.call f args []) with
  | none => rw [hr] at e; cases e
  | some r =>
    rw [hr] at e
    cases r with
    | code e2 s => cases e
    | val x h' =>
      refine PC.mono (PC.of_run hm n hr) ?_
      rintro y k ⟨rfl, rfl⟩
      simp only [frzIs] at e
      split at e
      · rename_i z hz
        rw [beqV_eq _ _ _ e] at hz
        exact ⟨m, hz⟩
      · cases e

end Go.Abs
