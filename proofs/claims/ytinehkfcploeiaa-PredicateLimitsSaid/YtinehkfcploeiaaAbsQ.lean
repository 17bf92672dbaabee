/- Runs of operations without calls by one function; forms that a symbolic walk meets. -/
import Derived.Test.YtinehkfcploeiaaAbsP
namespace Go.Abs
set_option linter.unusedVariables false

def opsRun (P : Program) (ops : Array Oper) : List Oper → St → Option St
  | [], s => some s
  | o :: r, s => match awanted ops s.sl o with
    | some true => match aop P o.op (aev s.sl) s.h s.h.length with
      | some (x, h') => opsRun P ops r ⟨sput s.sl o.dst x, h'⟩
      | none => none
    | some false => opsRun P ops r ⟨sput s.sl o.dst (.v undef), s.h⟩
    | none => none

def onSome (Q : St → Prop) : Option St → Prop
  | some s => Q s
  | none => False

/-- Operations by list: 'l' is the rest of 'ops' from some place on. -/
def POL (P : Program) (ops : Array Oper) (l : List Oper) (s : St) (Q : St → Prop) : Prop :=
  ∀ k, (∀ (j : Nat) (o : Oper), l[j]? = some o → ops[k + j]? = some o) → PO P ops (List.range' k l.length) s Q

section
variable {P : Program} {ops : Array Oper} {Q : St → Prop} {s : St}

theorem tail_al {k : Nat} {o : Oper} {l : List Oper} (h : ∀ (j : Nat) (o' : Oper), (o :: l)[j]? = some o' → ops[k + j]? = some o') :
    ops[k]? = some o ∧ ∀ (j : Nat) (o' : Oper), l[j]? = some o' → ops[k + 1 + j]? = some o' :=
  ⟨by simpa using h 0 o (by simp), fun j o' hj => by have := h (j + 1) o' (by simpa using hj); rwa [show k + 1 + j = k + (j + 1) by omega]⟩

theorem POL.nil (h : Q s) : POL P ops [] s Q := fun _ _ => PO.nil h

theorem POL.op {o : Oper} {l : List Oper} {x : V} {h' : Heap} (hw : awanted ops s.sl o = some true) (hx : aop P o.op (aev s.sl) s.h s.h.length = some (x, h')) (hr : POL P ops l ⟨sput s.sl o.dst x, h'⟩ Q) : POL P ops (o :: l) s Q := by
  intro k hk
  obtain ⟨h1, h2⟩ := tail_al hk
  simp only [List.length_cons, List.range'_succ]
  exact PO.op s.h.length h1 hw hx (hr (k + 1) h2)

theorem POL.no {o : Oper} {l : List Oper} (hw : awanted ops s.sl o = some false) (hr : POL P ops l ⟨sput s.sl o.dst (.v undef), s.h⟩ Q) : POL P ops (o :: l) s Q := by
  intro k hk
  obtain ⟨h1, h2⟩ := tail_al hk
  simp only [List.length_cons, List.range'_succ]
  exact PO.no h1 hw (hr (k + 1) h2)

theorem POL.call {o : Oper} {l : List Oper} {f : FuncId} {args : List V} {R : V → Heap → Prop} (hw : awanted ops s.sl o = some true) (hop : callOf P s.sl o.op = some (f, args)) (hcall : callable P f = true)
    (hc : PC P f args s.h R) (hr : ∀ x h', R x h' → POL P ops l ⟨sput s.sl o.dst x, h'⟩ Q) : POL P ops (o :: l) s Q := by
  intro k hk
  obtain ⟨h1, h2⟩ := tail_al hk
  simp only [List.length_cons, List.range'_succ]
  obtain ⟨fop, ars, tys, first, caps, hop2, hf, rfl⟩ := callOf_spec hop
  exact PO.call h1 hw hop2 hf hcall hc (fun x h' hR => hr x h' hR (k + 1) h2)

theorem opsRun_sound : ∀ (l : List Oper) (s : St), onSome Q (opsRun P ops l s) → POL P ops l s Q
  | [], s, h => POL.nil h
  | o :: l, s, h => by
    simp only [opsRun] at h
    split at h
    · rename_i hw
      split at h
      · rename_i x h' hx
        exact POL.op hw hx (opsRun_sound l _ h)
      · exact h.elim
    · rename_i hw
      exact POL.no hw (opsRun_sound l _ h)
    · exact h.elim

theorem PW.regionL {id : Nat} {Q : Exit → St → Prop} (h : POL P ops ops.toList s (Q .normal)) : PW P (.region id ops false) s Q := by
  refine PW.region ?_
  have hr : List.range ops.size = List.range' 0 ops.toList.length := by rw [List.range_eq_range']; simp
  rw [hr]
  exact h 0 (fun j o hj => by simpa using hj)

theorem PW.run {id : Nat} {Q : Exit → St → Prop} (h : onSome (Q .normal) (opsRun P ops ops.toList s)) : PW P (.region id ops false) s Q :=
  PW.regionL (opsRun_sound _ _ h)

end

theorem PW.cond_dec {P : Program} {Q : Exit → St → Prop} {s : St} {c : Operand} {x y : Code} {t : Bool} (hc : aev s.sl c = .v (.bool t)) (h1 : t = true → PW P x s Q) (h2 : t = false → PW P y s Q) : PW P (.cond c x y) s Q := by
  cases t
  · exact PW.cond hc (h2 rfl)
  · exact PW.cond hc (h1 rfl)

/- integers -/
theorem wrap64 {n : Int} (h1 : -9223372036854775808 ≤ n) (h2 : n ≤ 9223372036854775807) : IntKind.i64.wrap n = n := IntWalk.i64_in n (by omega)

theorem aBin_lss (P : Program) (h : Heap) (t : TypeId) (X Y : Operand) (k : IntKind) (a b : Int) : aBin P h .lss t X Y (.v (.int k a)) (.v (.int k b)) = some (.v (.bool (decide (a < b))), h) := by cases k <;> rfl
theorem aBin_leq (P : Program) (h : Heap) (t : TypeId) (X Y : Operand) (k : IntKind) (a b : Int) : aBin P h .leq t X Y (.v (.int k a)) (.v (.int k b)) = some (.v (.bool (decide (a ≤ b))), h) := by cases k <;> rfl
theorem aBin_gtr (P : Program) (h : Heap) (t : TypeId) (X Y : Operand) (k : IntKind) (a b : Int) : aBin P h .gtr t X Y (.v (.int k a)) (.v (.int k b)) = some (.v (.bool (decide (a > b))), h) := by cases k <;> rfl
theorem aBin_geq (P : Program) (h : Heap) (t : TypeId) (X Y : Operand) (k : IntKind) (a b : Int) : aBin P h .geq t X Y (.v (.int k a)) (.v (.int k b)) = some (.v (.bool (decide (a ≥ b))), h) := by cases k <;> rfl
theorem aBin_eql (P : Program) (h : Heap) (t : TypeId) (X Y : Operand) (k : IntKind) (a b : Int) : aBin P h .eql t X Y (.v (.int k a)) (.v (.int k b)) = some (.v (.bool (a == b)), h) := by cases k <;> rfl
theorem aBin_neq (P : Program) (h : Heap) (t : TypeId) (X Y : Operand) (k : IntKind) (a b : Int) : aBin P h .neq t X Y (.v (.int k a)) (.v (.int k b)) = some (.v (.bool (a != b)), h) := by cases k <;> rfl
theorem aBin_add (P : Program) (h : Heap) (t : TypeId) (X Y : Operand) (k : IntKind) (a b : Int) : aBin P h .add t X Y (.v (.int k a)) (.v (.int k b)) = some (.v (.int k (k.wrap (a + b))), h) := by cases k <;> rfl
theorem aBin_sub (P : Program) (h : Heap) (t : TypeId) (X Y : Operand) (k : IntKind) (a b : Int) : aBin P h .sub t X Y (.v (.int k a)) (.v (.int k b)) = some (.v (.int k (k.wrap (a - b))), h) := by cases k <;> rfl
theorem aBin_mul (P : Program) (h : Heap) (t : TypeId) (X Y : Operand) (k : IntKind) (a b : Int) : aBin P h .mul t X Y (.v (.int k a)) (.v (.int k b)) = some (.v (.int k (k.wrap (a * b))), h) := by cases k <;> rfl

theorem aBuiltin_len (P : Program) (h : Heap) (new : Nat) (t : TypeId) (x : V) : aBuiltin P h new .len #[t] [x] = aLen P h t x := rfl
theorem aBuiltin_append (P : Program) (h : Heap) (new : Nat) (a b : TypeId) (x y : V) : aBuiltin P h new .append #[a, b] [x, y] = aAppend P h new #[a, b] x y := rfl
theorem opsRun_nil (P : Program) (ops : Array Oper) (s : St) : opsRun P ops [] s = some s := rfl
theorem opsRun_plain (P : Program) (ops : Array Oper) (d : Option Tmp) (op : Op) (t : TypeId) (p : String) (a : Array Edge) (r : List Oper) (sl : List V) (h : Heap) :
    opsRun P ops (⟨d, op, t, p, a, none⟩ :: r) ⟨sl, h⟩ = match aop P op (aev sl) h h.length with | some (x, h') => opsRun P ops r ⟨sput sl d x, h'⟩ | none => none := rfl
theorem opsRun_yes (P : Program) (ops : Array Oper) (d : Option Tmp) (op : Op) (t : TypeId) (p : String) (a : Array Edge) (g : Nat × Bool) (r : List Oper) (sl : List V) (h : Heap) (hw : awanted ops sl ⟨d, op, t, p, a, some g⟩ = some true) :
    opsRun P ops (⟨d, op, t, p, a, some g⟩ :: r) ⟨sl, h⟩ = match aop P op (aev sl) h h.length with | some (x, h') => opsRun P ops r ⟨sput sl d x, h'⟩ | none => none := by simp only [opsRun, hw]
theorem opsRun_no (P : Program) (ops : Array Oper) (d : Option Tmp) (op : Op) (t : TypeId) (p : String) (a : Array Edge) (g : Nat × Bool) (r : List Oper) (sl : List V) (h : Heap) (hw : awanted ops sl ⟨d, op, t, p, a, some g⟩ = some false) :
    opsRun P ops (⟨d, op, t, p, a, some g⟩ :: r) ⟨sl, h⟩ = opsRun P ops r ⟨sput sl d (.v undef), h⟩ := by simp only [opsRun, hw]
theorem aev_tmp (sl : List V) (t : Nat) (x : V) (h : sl[t]? = some x) : aev sl (.tmp t) = x := by simp [aev, List.getD, h]
theorem aev_int (sl : List V) (k : IntKind) (n : Int) : aev sl (.const (.int k n)) = .v (.int k n) := rfl
theorem aev_bool (sl : List V) (b : Bool) : aev sl (.const (.bool b)) = .v (.bool b) := rfl
theorem aev_str (sl : List V) (b : ByteArray) : aev sl (.const (.string b)) = .v (.string b) := rfl
theorem aev_nil (sl : List V) : aev sl (.const (.slice none 0 0)) = .v (.slice none 0 0) := rfl
theorem sput_some (sl : List V) (d : Nat) (x : V) : sput sl (some d) x = sl.set d x := rfl
theorem sput_none (sl : List V) (x : V) : sput sl none x = sl := rfl

theorem aLen_ints (P : Program) (h : Heap) (t e : TypeId) (ht : P.underlying t = some (.slice e)) (s : Nat) (rows : List (List V)) : aLen P h t (.sF s rows) = some (.v (.int .i64 rows.length), h) := by
  simp [aLen, ht]

theorem aIndexAddr_sF (P : Program) (h : Heap) (t e : TypeId) (ht : P.underlying t = some (.slice e)) (s : Nat) (hs : sizeT P e = some s) (rows : List (List V)) (k : IntKind) (i : Int) (h0 : 0 ≤ i) (h1 : i < rows.length) :
    aIndexAddr P h t (.sF s rows) (.v (.int k i)) = some (.pF (rows[i.toNat]'(by omega)) 0, h) := by
  simp only [aIndexAddr, asIdx, ht, hs]
  rw [if_pos ⟨trivial, h0⟩, List.getElem?_eq_getElem (by omega)]


/-- A loop, its head's states given by a pattern. -/
theorem PW.loopS {P : Program} {c : Code} {s : St} {Q : Exit → St → Prop} {α : Type} (S : α → List V) (H : α → Heap) (J : α → Prop) (μ : α → Nat) (x0 : α)
    (h1 : leS s.sl (S x0)) (h2 : s.h = H x0) (h3 : J x0)
    (round : ∀ x, J x → PW P c ⟨S x, H x⟩ (thenA (fun s' => ∃ y, leS s'.sl (S y) ∧ s'.h = H y ∧ J y ∧ μ y < μ x) Q)) : PW P (.loop c) s Q := by
  let I : Nat → St → Prop := fun n s' => ∃ x, μ x = n ∧ leS s'.sl (S x) ∧ s'.h = H x ∧ J x
  have dec : ∀ s', ∃ m, ((∃ n, I n s') → I m s' ∧ ∀ n, I n s' → m ≤ n) := by
    intro s'
    by_cases hx : ∃ n, I n s'
    · obtain ⟨n, hn⟩ := hx
      induction n using Nat.strongRecOn with
      | _ n ih =>
        by_cases hlt : ∃ k, k < n ∧ I k s'
        · obtain ⟨k, hk, hj⟩ := hlt
          exact ih k hk hj
        · refine ⟨n, fun _ => ⟨hn, fun k hk => ?_⟩⟩
          rcases Nat.lt_or_ge k n with q | q
          · exact absurd ⟨k, q, hk⟩ hlt
          · exact q
    · exact ⟨0, fun q => absurd q hx⟩
  have hf : ∃ f : St → Nat, ∀ s', (∃ n, I n s') → I (f s') s' ∧ ∀ n, I n s' → f s' ≤ n := ⟨fun s' => Classical.choose (dec s'), fun s' => Classical.choose_spec (dec s')⟩
  obtain ⟨f, hf⟩ := hf
  refine PW.loop (fun s' => ∃ n, I n s') f ⟨_, x0, rfl, h1, h2, h3⟩ ?_
  intro s' hs'
  obtain ⟨⟨x, e1, e2, e3, e4⟩, _⟩ := hf s' hs'
  have hr := round x e4
  obtain ⟨sl', h'⟩ := s'
  simp only at e2 e3
  subst e3
  refine PW.mono (PW.forget (s := ⟨sl', H x⟩) e2 hr) ?_
  intro e s2 hq
  cases e with
  | normal =>
    obtain ⟨y, q1, q2, q3, q4⟩ := hq
    have hI : I (μ y) s2 := ⟨y, rfl, q1, q2, q3⟩
    refine ⟨⟨_, hI⟩, ?_⟩
    have := (hf s2 ⟨_, hI⟩).2 _ hI
    omega
  | _ => exact hq

theorem PW.seq_k {P : Program} {x y : Code} {s : St} {Q : Exit → St → Prop} (h : ∀ K : St → Prop, (∀ s', PW P y s' Q → K s') → PW P x s (thenA K Q)) : PW P (.seq x y) s Q :=
  PW.seq (h _ fun _ q => q)

theorem PW.block_k {P : Program} {id : Nat} {c : Code} {s : St} {Q : Exit → St → Prop} (h : PW P c s (inBlockA id Q)) : PW P (.block id c) s Q := PW.block h

end Go.Abs
