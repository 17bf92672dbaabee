/- Walks by program: typed cells, unknown truth values, operations at unknown places. -/
import Derived.Test.YtinehkfcploeiaaAbsT
namespace Go.Abs
set_option linter.unusedVariables false

/- short names -/
abbrev U : V := .v undef
abbrev A : V := .any
abbrev iv (n : Int) : V := .v (.int .i64 n)
abbrev bv (b : Bool) : V := .v (.bool b)
abbrev sv (b : ByteArray) : V := .v (.string b)
abbrev nl : V := .v (.slice none 0 0)
abbrev po (i : Nat) : V := .pO i 0 0
abbrev A4 (l : List V) : List V := A :: A :: A :: A :: l
abbrev A9 (l : List V) : List V := A :: A :: A :: A :: A :: A :: A :: A :: A :: l
abbrev U9 (l : List V) : List V := U :: U :: U :: U :: U :: U :: U :: U :: U :: l

/-- The state that a run has given. -/
def getS : Option St → St
  | some s => s
  | none => ⟨[], []⟩
theorem PON.runs {P : Program} {ops : Array Oper} {Q : St → Prop} {s : St} {k : Nat} (m : Nat) (e : (runAt P ops m k s).isSome = true) (hr : PON P ops (k + m) (getS (runAt P ops m k s)) Q) : PON P ops k s Q := by
  cases h : runAt P ops m k s with
  | none => rw [h] at e; cases e
  | some s' => rw [h] at hr; exact PON.run m s' h hr
theorem DRG.runs {P : Program} {ops : Array Oper} {base : Nat} {Q : St → List (List Nat × List Nat) → Prop} {s : St} {k : Nat} (m : Nat) (e : (drawAt P ops base m k s).isSome = true)
    (hr : DRG P ops base (k + m) (getS (drawAt P ops base m k s)) (fun s2 fs => Q s2 (footsAt P ops base m k s ++ fs))) : DRG P ops base k s Q := by
  cases h : drawAt P ops base m k s with
  | none => rw [h] at e; cases e
  | some s' => rw [h] at hr; exact DRG.run m s' h hr
theorem DRG.norm {P : Program} {ops : Array Oper} {base : Nat} {Q : St → List (List Nat × List Nat) → Prop} {s : St} {k : Nat} (s' : St) (e : s = s') (h : DRG P ops base k s' Q) : DRG P ops base k s Q := by rw [e]; exact h

/- typed cells -/
def icells (k : IntKind) (n : Int) : List V := [.v (.int k n)]
def bcells (b : Bool) : List V := [.v (.bool b)]
def scells (b : ByteArray) : List V := [.v (.string b)]
def lcells {α : Type} (sz : Nat) (f : α → List V) (l : List α) : List V := [.sF sz (l.map f)]
theorem NIs_icells (n : Nat) (k : IntKind) (x : Int) : NIs n (icells k x) := by simp [icells, NIs_cons, NIs_nil, NI_v]
theorem NIs_scells (n : Nat) (x : ByteArray) : NIs n (scells x) := by simp [scells, NIs_cons, NIs_nil, NI_v]
theorem NIs_bcells (n : Nat) (x : Bool) : NIs n (bcells x) := by simp [bcells, NIs_cons, NIs_nil, NI_v]
theorem NIs_lcells {α : Type} (n sz : Nat) (f : α → List V) (hf : ∀ x, NIs n (f x)) (l : List α) : NIs n (lcells sz f l) := by
  simp [lcells, NIs_cons, NIs_nil, NI_sF, NIr_map _ _ _ hf]

theorem ints_eq (k : IntKind) (l : List Int) : ints k l = .sF 1 (l.map (icells k)) := rfl

/- truth values -/
theorem bool_ff {b : Bool} (h : ¬ b = true) : b = false := by simpa using h
theorem bnot_t {b : Bool} (h : b = true) : (!b) = false := by rw [h]; rfl
theorem bnot_f {b : Bool} (h : b = false) : (!b) = true := by rw [h]; rfl
theorem beq_tt {a b : Bool} (h : a = b) : (a == b) = true := by rw [h]; simp
theorem beq_ff {a b : Bool} (h : ¬ a = b) : (a == b) = false := by cases a <;> cases b <;> simp_all

theorem dataLen (b : ByteArray) : b.data.toList.length = b.size := rfl
theorem toListLoop (b : ByteArray) : ∀ (n i : Nat) (r : List UInt8), b.size - i = n → i ≤ b.size → ByteArray.toList.loop b i r = r.reverse ++ b.data.toList.drop i
  | 0, i, r, h, hi => by
    rw [ByteArray.toList.loop, if_neg (by omega)]
    rw [List.drop_eq_nil_of_le (by rw [dataLen]; omega)]
    simp
  | n + 1, i, r, h, hi => by
    have hlt : i < b.size := by omega
    rw [ByteArray.toList.loop, if_pos hlt, toListLoop b n (i + 1) _ (by omega) (by omega)]
    have hd : i < b.data.toList.length := by rw [dataLen]; exact hlt
    rw [List.drop_eq_getElem_cons hd]
    have hd2 : i < b.data.size := hlt
    simp [ByteArray.get!]
    exact getElem!_pos b.data i hd2
theorem toList_eq (b : ByteArray) : b.toList = b.data.toList := by
  unfold ByteArray.toList
  rw [toListLoop b b.size 0 [] (by omega) (by omega)]
  simp
theorem str_inj {a b : ByteArray} (h : a.toList = b.toList) : a = b := by
  rw [toList_eq, toList_eq] at h
  exact ByteArray.ext (Array.toList_inj.1 h)
def strEq (a b : ByteArray) : Bool := a.toList == b.toList
def strLt (a b : ByteArray) : Bool := Op.bytesLess a.toList b.toList
theorem str_tt {a b : ByteArray} (h : a = b) : strEq a b = true := by rw [h]; simp [strEq]
theorem str_ff {a b : ByteArray} (h : ¬ a = b) : strEq a b = false := by
  rw [strEq, beq_eq_false_iff_ne]
  exact fun q => h (str_inj q)

theorem strEq_dec (a b : ByteArray) : strEq a b = decide (a = b) := by
  by_cases h : a = b
  · rw [str_tt h, decide_eq_true h]
  · rw [str_ff h, decide_eq_false h]

theorem PW.condP {P : Program} {Q : Exit → St → Prop} {s : St} {c : Operand} {x y : Code} (p : Prop) [Decidable p] (e : Bool) (hc : aev s.sl c = .v (.bool e)) (ht : p → e = true) (hf : ¬p → e = false)
    (h1 : p → PW P x s Q) (h2 : ¬p → PW P y s Q) : PW P (.cond c x y) s Q := by
  by_cases q : p
  · exact PW.cond (t := true) (by rw [hc, ht q]) (h1 q)
  · exact PW.cond (t := false) (by rw [hc, hf q]) (h2 q)
theorem PW.condN {P : Program} {Q : Exit → St → Prop} {s : St} {c : Operand} {x y : Code} (p : Prop) [Decidable p] (e : Bool) (hc : aev s.sl c = .v (.bool e)) (ht : p → e = false) (hf : ¬p → e = true)
    (h1 : ¬p → PW P x s Q) (h2 : p → PW P y s Q) : PW P (.cond c x y) s Q := by
  by_cases q : p
  · exact PW.cond (t := false) (by rw [hc, ht q]) (h2 q)
  · exact PW.cond (t := true) (by rw [hc, hf q]) (h1 q)

def setB (sl : List V) (d : Nat) (b : Bool) : List V := sl.set d (.v (.bool b))
theorem PON.splitP {P : Program} {ops : Array Oper} {Q : St → Prop} {k : Nat} {sl : List V} {h : Heap} (p : Prop) [Decidable p] (d : Nat) (e : Bool) (s1 s2 : List V)
    (e0 : sl = setB sl d e) (ht : p → e = true) (hf : ¬p → e = false) (e1 : setB sl d true = s1) (e2 : setB sl d false = s2) (h1 : p → PON P ops k ⟨s1, h⟩ Q) (h2 : ¬p → PON P ops k ⟨s2, h⟩ Q) : PON P ops k ⟨sl, h⟩ Q := by
  by_cases q : p
  · rw [e0, ht q, e1]; exact h1 q
  · rw [e0, hf q, e2]; exact h2 q
theorem PON.splitN {P : Program} {ops : Array Oper} {Q : St → Prop} {k : Nat} {sl : List V} {h : Heap} (p : Prop) [Decidable p] (d : Nat) (e : Bool) (s1 s2 : List V)
    (e0 : sl = setB sl d e) (ht : p → e = false) (hf : ¬p → e = true) (e1 : setB sl d false = s1) (e2 : setB sl d true = s2) (h1 : p → PON P ops k ⟨s1, h⟩ Q) (h2 : ¬p → PON P ops k ⟨s2, h⟩ Q) : PON P ops k ⟨sl, h⟩ Q := by
  by_cases q : p
  · rw [e0, ht q, e1]; exact h1 q
  · rw [e0, hf q, e2]; exact h2 q
theorem DRG.splitP {P : Program} {ops : Array Oper} {Q : St → List (List Nat × List Nat) → Prop} {base k : Nat} {sl : List V} {h : Heap} (p : Prop) [Decidable p] (d : Nat) (e : Bool) (s1 s2 : List V)
    (e0 : sl = setB sl d e) (ht : p → e = true) (hf : ¬p → e = false) (e1 : setB sl d true = s1) (e2 : setB sl d false = s2) (h1 : p → DRG P ops base k ⟨s1, h⟩ Q) (h2 : ¬p → DRG P ops base k ⟨s2, h⟩ Q) : DRG P ops base k ⟨sl, h⟩ Q := by
  by_cases q : p
  · rw [e0, ht q, e1]; exact h1 q
  · rw [e0, hf q, e2]; exact h2 q
theorem DRG.splitN {P : Program} {ops : Array Oper} {Q : St → List (List Nat × List Nat) → Prop} {base k : Nat} {sl : List V} {h : Heap} (p : Prop) [Decidable p] (d : Nat) (e : Bool) (s1 s2 : List V)
    (e0 : sl = setB sl d e) (ht : p → e = false) (hf : ¬p → e = true) (e1 : setB sl d false = s1) (e2 : setB sl d true = s2) (h1 : p → DRG P ops base k ⟨s1, h⟩ Q) (h2 : ¬p → DRG P ops base k ⟨s2, h⟩ Q) : DRG P ops base k ⟨sl, h⟩ Q := by
  by_cases q : p
  · rw [e0, ht q, e1]; exact h1 q
  · rw [e0, hf q, e2]; exact h2 q

theorem PON.norm {P : Program} {ops : Array Oper} {Q : St → Prop} {k : Nat} {s : St} (s' : St) (e : s = s') (h : PON P ops k s' Q) : PON P ops k s Q := by rw [e]; exact h

theorem v_bool {a b : Bool} (h : a = b) : V.v (.bool a) = .v (.bool b) := h ▸ rfl
theorem v_int {k : IntKind} {a b : Int} (h : a = b) : V.v (.int k a) = .v (.int k b) := h ▸ rfl
theorem v_str {a b : ByteArray} (h : a = b) : V.v (.string a) = .v (.string b) := h ▸ rfl
theorem leV_bool {a b : Bool} (h : a = b) : leV (.v (.bool a)) (.v (.bool b)) := h ▸ .refl _
theorem leV_int {k : IntKind} {a b : Int} (h : a = b) : leV (.v (.int k a)) (.v (.int k b)) := h ▸ .refl _
theorem leV_str {a b : ByteArray} (h : a = b) : leV (.v (.string a)) (.v (.string b)) := h ▸ .refl _

/-- An operation by a lemma. -/
def opPut (ops : Array Oper) (k : Nat) (sl : List V) (r : Option (V × Heap)) : Option St :=
  match ops[k]? with
  | some o => match r with
    | some (x, h') => some ⟨sput sl o.dst x, h'⟩
    | none => none
  | none => none
theorem PON.ops {P : Program} {ops : Array Oper} {Q : St → Prop} {k : Nat} {s : St} {G : Option (V × Heap)} {x : V} {h' : Heap} (hx : G = some (x, h'))
    (e : opAt P ops k s.h.length s = opPut ops k s.sl G) (e2 : (opPut ops k s.sl (some (x, h'))).isSome = true) (hr : PON P ops (k + 1) (getS (opPut ops k s.sl (some (x, h')))) Q) : PON P ops k s Q := by
  cases h : opPut ops k s.sl (some (x, h')) with
  | none => rw [h] at e2; cases e2
  | some s' => rw [h] at hr; exact PON.one (e.trans (by rw [hx, h]; rfl)) hr
theorem DRG.ops {P : Program} {ops : Array Oper} {Q : St → List (List Nat × List Nat) → Prop} {base k : Nat} {s : St} {G : Option (V × Heap)} {x : V} {h' : Heap} (hx : G = some (x, h'))
    (e : opAt P ops k (base + k) s = opPut ops k s.sl G) (e2 : (opPut ops k s.sl (some (x, h'))).isSome = true) (hr : DRG P ops base (k + 1) (getS (opPut ops k s.sl (some (x, h')))) (fun s' fs => Q s' (footAt ops base k s :: fs))) : DRG P ops base k s Q := by
  cases h : opPut ops k s.sl (some (x, h')) with
  | none => rw [h] at e2; cases e2
  | some s' => rw [h] at hr; exact DRG.one (e.trans (by rw [hx, h]; rfl)) hr
theorem PON.op {P : Program} {ops : Array Oper} {Q : St → Prop} {k : Nat} {s : St} {G : Option (V × Heap)} {x : V} {h' : Heap} (hx : G = some (x, h')) (s' : St)
    (e : opAt P ops k s.h.length s = opPut ops k s.sl G) (e2 : opPut ops k s.sl (some (x, h')) = some s') (hr : PON P ops (k + 1) s' Q) : PON P ops k s Q :=
  PON.one (e.trans (by rw [hx, e2])) hr
theorem DRG.op {P : Program} {ops : Array Oper} {Q : St → List (List Nat × List Nat) → Prop} {base k : Nat} {s : St} {G : Option (V × Heap)} {x : V} {h' : Heap} (hx : G = some (x, h')) (s' : St)
    (e : opAt P ops k (base + k) s = opPut ops k s.sl G) (e2 : opPut ops k s.sl (some (x, h')) = some s') (hr : DRG P ops base (k + 1) s' (fun s' fs => Q s' (footAt ops base k s :: fs))) : DRG P ops base k s Q :=
  DRG.one (e.trans (by rw [hx, e2])) hr

theorem PC.of_bodyK {P : Program} {f : FuncId} {fn : Func} {c : Code} {args : List V} {h : Heap} {R : V → Heap → Prop} (hf : P.funcs[f]? = some fn) (hb : fn.body = some c) (sl : List V)
    (e0 : args ++ List.replicate (fn.ntmps - args.length) (.v undef) = sl)
    (hp : ∀ K : Exit → St → Prop, (∀ (e : Exit) (s' : St) (x : V), (e = .normal ∨ e = .ret) → ares P fn.results.toList s'.sl s'.h = some x → R x s'.h → K e s') → PW P c ⟨sl, h⟩ K) : PC P f args h R := by
  subst e0
  exact PC.of_body hf hb (hp _ fun e s' x h1 h2 h3 => ⟨h1, x, h2, h3⟩)

/- operations -/
section
variable (P : Program) (h : Heap)

theorem aIndexAddr_map {α : Type} [Inhabited α] (t e : TypeId) (s : Nat) (f : α → List V) (ht : P.underlying t = some (.slice e)) (hs : sizeT P e = some s) (l : List α) (k : IntKind) (i : Int) (hi : 0 ≤ i ∧ i < l.length) :
    aIndexAddr P h t (.sF s (l.map f)) (.v (.int k i)) = some (.pF (f (l[i.toNat]!)) 0, h) := by
  have hlt : i.toNat < l.length := by omega
  have := aIndexAddr_sF P h t e ht s hs (l.map f) k i hi.1 (by simpa using hi.2)
  rw [this]
  simp [getElem!_pos, hlt]

theorem aIndexAddr_sO0 (t e : TypeId) (s : Nat) (ht : P.underlying t = some (.slice e)) (hs : sizeT P e = some s) (id len : Nat) (k : IntKind) (i : Int) (o : AObj) (ho : h[id]? = some (.live o)) (hz : o.sz = s) (hi : 0 ≤ i ∧ i < len) :
    aIndexAddr P h t (.sO id 0 len) (.v (.int k i)) = some (.pO id i.toNat 0, h) := by
  simp only [aIndexAddr, asIdx, ht, hs, ho]
  rw [if_pos ⟨hz, hi.1, hi.2⟩, Nat.zero_add]
theorem aIndexAddr_sO (t e : TypeId) (s : Nat) (ht : P.underlying t = some (.slice e)) (hs : sizeT P e = some s) (id off len : Nat) (k : IntKind) (i : Int) (o : AObj) (ho : h[id]? = some (.live o)) (hz : o.sz = s) (hi : 0 ≤ i ∧ i < len) :
    aIndexAddr P h t (.sO id off len) (.v (.int k i)) = some (.pO id (off + i.toNat) 0, h) := by
  simp only [aIndexAddr, asIdx, ht, hs, ho]
  rw [if_pos ⟨hz, hi.1, hi.2⟩]

theorem aLen_map {α : Type} (t e : TypeId) (ht : P.underlying t = some (.slice e)) (s : Nat) (f : α → List V) (l : List α) : aLen P h t (.sF s (l.map f)) = some (.v (.int .i64 (l.length : Int)), h) := by
  rw [aLen_ints P h t e ht, List.length_map]

theorem aConvert_in (new : Nat) (s d : TypeId) (k k' q : IntKind) (n : Int) (hs : P.underlying s = some (.int k)) (hd : P.underlying d = some (.int k')) (hw : k'.wrap n = n) :
    aConvert P h new s d (.v (.int q n)) = some (.v (.int k' n), h) := by
  rw [aConvert_int P h new s d k k' q n hs hd, hw]
theorem aBin_add_in (t : TypeId) (X Y : Operand) (k : IntKind) (a b : Int) (hw : k.wrap (a + b) = a + b) : aBin P h .add t X Y (.v (.int k a)) (.v (.int k b)) = some (.v (.int k (a + b)), h) := by rw [aBin_add, hw]
theorem aBin_sub_in (t : TypeId) (X Y : Operand) (k : IntKind) (a b : Int) (hw : k.wrap (a - b) = a - b) : aBin P h .sub t X Y (.v (.int k a)) (.v (.int k b)) = some (.v (.int k (a - b)), h) := by rw [aBin_sub, hw]
theorem aBin_mul_in (t : TypeId) (X Y : Operand) (k : IntKind) (a b : Int) (hw : k.wrap (a * b) = a * b) : aBin P h .mul t X Y (.v (.int k a)) (.v (.int k b)) = some (.v (.int k (a * b)), h) := by rw [aBin_mul, hw]

theorem aLoad_rows {α : Type} [Inhabited α] (t : TypeId) (id : Nat) (r : Nat) (off : Nat) (s : Nat) (l : List α) (f : α → List V) (e : TypeId) (ho : h[id]? = some (.live ⟨s, l.map f, e⟩)) (hr : r < l.length) (x : V) (hx : readAt P t (f (l[r]!)) off = some x) :
    aLoad P h t (.pO id r off) = some (x, h) := by
  have : (l.map f)[r]? = some (f (l[r]!)) := by simp [hr, getElem!_pos]
  simp only [aLoad, rowAt, ho, this, hx]

theorem aStore_rows {α : Type} (t : TypeId) (id : Nat) (r : Nat) (s : Nat) (l : List α) (f : α → List V) (e : TypeId) (x : V) (y : α) (ho : h[id]? = some (.live ⟨s, l.map f, e⟩)) (hr : r < l.length)
    (hl : leaves x = some (f y)) (hs : sizeT P t = some s) (hy : (f y).length = s) (hk : (f y).all leafOk = true) (hz : ∀ z, (f z).length = s) :
    aStore P h t (.pO id r 0) x = some (.any, h.set id (.live ⟨s, (l.set r y).map f, e⟩)) := by
  have h1 : (l.map f)[r]? = some (f l[r]) := by simp [hr]
  simp only [aStore, hl, hs, ho, h1]
  rw [if_pos ⟨hy, hk⟩]
  simp only [hz, Nat.zero_add, List.take_zero, List.nil_append]
  rw [if_pos (Nat.le_refl _)]
  have hn : List.drop s (f l[r]) = [] := List.drop_eq_nil_of_le (by rw [hz]; exact Nat.le_refl _)
  simp [List.map_set, hn]

theorem aMakeSlice_map {α : Type} (t e : TypeId) (s : Nat) (f : α → List V) (d : α) (b : Nat) (ht : P.underlying t = some (.slice e)) (hs : sizeT P e = some s) (hz : zeroCellsV P e = some (f d)) (hl : (f d).length = s) (hb : bytesT P e = some b)
    (k : IntKind) (n : Int) (hn : 0 ≤ n ∧ n ≤ 2 ^ 48 ∧ b * n ≤ 2 ^ 48) : aMakeSlice P h h.length t (.v (.int k n)) (.v (.int k n)) = some (.sO h.length 0 n.toNat, h ++ [.live ⟨s, (List.replicate n.toNat d).map f, e⟩]) := by
  simp only [aMakeSlice, ht, asIdx, hs, hz, hb, hl]
  rw [if_pos ⟨trivial, hn.1, Int.le_refl _, hn.2.1, hn.2.2⟩]
  simp [halloc]

def byteAt (b : ByteArray) (i : Nat) : Int := ((b.get! i).toNat : Int)
theorem byteAt_lt (b : ByteArray) (i : Nat) : 0 ≤ byteAt b i ∧ byteAt b i ≤ 255 := by
  have := (b.get! i).toNat_lt
  unfold byteAt; omega
theorem aIndex_str (t : TypeId) (b : ByteArray) (k : IntKind) (i : Int) (ht : P.underlying t = some .string) (hi : 0 ≤ i ∧ i < b.size) :
    aIndex P h t (.v (.string b)) (.v (.int k i)) = some (.v (.int .u8 (byteAt b i.toNat)), h) := by
  unfold byteAt
  have hlt : i.toNat < b.size := by omega
  have e : pureRun P (Instr.index t (.string b) (.int k i)) = some (.int .u8 (b.get! i.toNat).toNat) := by
    have hg : (if 0 ≤ i then b[i.toNat]? else none) = some (b.get! i.toNat) := by
      rw [if_pos hi.1, getElem?_pos b i.toNat hlt]
      have hd : i.toNat < b.data.size := hlt
      simp only [ByteArray.get!, Option.some.injEq]
      exact (getElem!_pos b.data i.toNat hd).symm
    simp [Instr.index, Go.asIntOf, Go.underlying, ht, pureRun, bind, pure, program, Sem.bind, hg]
  simp only [aIndex, e]
  rfl

theorem aSlice_hi {α : Type} (t e : TypeId) (s : Nat) (f : α → List V) (ht : P.underlying t = some (.slice e)) (hs : sizeT P e = some s) (l : List α) (k : IntKind) (u : Int) (hu : 0 ≤ u ∧ u ≤ l.length) :
    aSlice P h t (.sF s (l.map f)) none (some (.v (.int k u))) = some (.sF s ((l.take u.toNat).map f), h) := by
  simp only [aSlice, ht, bound, hs, if_pos hu.1]
  rw [if_pos ⟨trivial, Nat.zero_le _, by rw [List.length_map]; omega⟩]
  simp
theorem aSlice_lo {α : Type} (t e : TypeId) (s : Nat) (f : α → List V) (ht : P.underlying t = some (.slice e)) (hs : sizeT P e = some s) (l : List α) (k : IntKind) (u : Int) (hu : 0 ≤ u ∧ u ≤ l.length) :
    aSlice P h t (.sF s (l.map f)) (some (.v (.int k u))) none = some (.sF s ((l.drop u.toNat).map f), h) := by
  simp only [aSlice, ht, bound, hs, if_pos hu.1]
  rw [if_pos ⟨trivial, by rw [List.length_map]; omega, Nat.le_refl _⟩]
  rw [List.take_of_length_le (Nat.le_refl _)]
  simp
theorem aSlice_both {α : Type} (t e : TypeId) (s : Nat) (f : α → List V) (ht : P.underlying t = some (.slice e)) (hs : sizeT P e = some s) (l : List α) (k k' : IntKind) (a u : Int) (hu : 0 ≤ a ∧ a ≤ u ∧ u ≤ l.length) :
    aSlice P h t (.sF s (l.map f)) (some (.v (.int k a))) (some (.v (.int k' u))) = some (.sF s (((l.take u.toNat).drop a.toNat).map f), h) := by
  have hu0 : 0 ≤ u := by omega
  simp only [aSlice, ht, bound, hs, if_pos hu.1, if_pos hu0]
  rw [if_pos ⟨trivial, by omega, by rw [List.length_map]; omega⟩]
  simp

theorem aBin_quo (t : TypeId) (X Y : Operand) (k : IntKind) (a b : Int) (hb : b ≠ 0) : aBin P h .quo t X Y (.v (.int k a)) (.v (.int k b)) = some (.v (.int k (k.wrap (a.tdiv b))), h) := by
  have e : pureRun P (do eqGuard .quo t X Y (.int k a) (.int k b); binOp .quo t (.int k a) (.int k b)) = some (.int k (k.wrap (a.tdiv b))) := by
    cases k <;> simp [eqGuard, binOp, Op.intDiv, hb, pureRun, bind, pure, Sem.bind]
  simp only [aBin, toValue, e]
  rfl

end

theorem aBin_cat (P : Program) (h : Heap) (t : TypeId) (X Y : Operand) (a b : ByteArray) (hs : ((a.size + b.size : Nat) : Int) ≤ 9223372036854775807) : aBin P h .add t X Y (.v (.string a)) (.v (.string b)) = some (.v (.string (a ++ b)), h) := by
  have hm : ¬ ((a.size + b.size : Nat) : Int) > IntKind.i64.max := by
    have : IntKind.i64.max = 9223372036854775807 := by decide
    omega
  have e : pureRun P (do eqGuard .add t X Y (.string a) (.string b); binOp .add t (.string a) (.string b)) = some (.string (a ++ b)) := by
    simp only [eqGuard, binOp, Op.stringOp, if_neg hm]
    rfl
  simp only [aBin, toValue, e]
  rfl

/- lists -/
theorem drop_step {α : Type} [Inhabited α] (l : List α) (k : Int) (h : 0 ≤ k ∧ k < l.length) : l.drop k.toNat = l[k.toNat]! :: l.drop (k + 1).toNat := by
  have h1 : k.toNat < l.length := by omega
  rw [List.drop_eq_getElem_cons h1, show (k + 1).toNat = k.toNat + 1 by omega]
  simp [getElem!_pos, h1]
theorem drop_end {α : Type} (l : List α) (k : Int) (h : ¬ k < l.length) : l.drop k.toNat = [] := List.drop_eq_nil_of_le (by omega)
theorem take_step {α : Type} [Inhabited α] (l : List α) (k : Int) (h : 0 ≤ k ∧ k < l.length) : l.take (k + 1).toNat = l.take k.toNat ++ [l[k.toNat]!] := by
  have h1 : k.toNat < l.length := by omega
  rw [show (k + 1).toNat = k.toNat + 1 by omega, List.take_succ_eq_append_getElem h1]
  simp [getElem!_pos, h1]
theorem take_end {α : Type} (l : List α) (k : Int) (h : ¬ k < l.length) : l.take k.toNat = l := List.take_of_length_le (by omega)

theorem get!_set {α : Type} [Inhabited α] (l : List α) (k : Nat) (x : α) (h : k < l.length) : (l.set k x)[k]! = x := by
  rw [getElem!_pos _ _ (by simpa using h)]; simp
theorem take_set_succ {α : Type} (l : List α) (k : Nat) (x : α) (h : k < l.length) : (l.set k x).take (k + 1) = l.take k ++ [x] := by
  rw [List.take_succ_eq_append_getElem (by simpa using h), List.take_set_of_le (Nat.le_refl _)]
  simp

/-- The number of the first element with p, or -1, from k on. -/
def idxFrom {α : Type} (p : α → Bool) : Int → List α → Int
  | _, [] => -1
  | k, x :: xs => if p x = true then k else idxFrom p (k + 1) xs
/-- The first error of a list, with numbers from k on. -/
def errFrom {α : Type} (f : Int → α → Int) : Int → List α → Int
  | _, [] => 0
  | k, x :: xs => if f k x = 0 then errFrom f (k + 1) xs else f k x

theorem errFrom_zero {α : Type} [Inhabited α] (f : Int → α → Int) : ∀ (l : List α) (k : Int), errFrom f k l = 0 → ∀ i : Nat, i < l.length → f (k + i) l[i]! = 0
  | [], k, _, i, hi => by simp at hi
  | x :: xs, k, h, i, hi => by
    by_cases hx : f k x = 0
    · rw [errFrom, if_pos hx] at h
      cases i with
      | zero => simpa using hx
      | succ i =>
        have := errFrom_zero f xs (k + 1) h i (by simpa using hi)
        rw [show k + ((i + 1 : Nat) : Int) = k + 1 + i by omega]
        simpa using this
    · rw [errFrom, if_neg hx] at h; exact absurd h hx
theorem errFrom_zero_int {α : Type} [Inhabited α] {f : Int → α → Int} {l : List α} (h : errFrom f 0 l = 0) (k : Int) (hk : 0 ≤ k ∧ k < l.length) : f k l[k.toNat]! = 0 := by
  have := errFrom_zero f l 0 h k.toNat (by omega)
  rwa [show (0 : Int) + (k.toNat : Int) = k by omega] at this
theorem idxFrom_spec {α : Type} [Inhabited α] (p : α → Bool) : ∀ (l : List α) (k : Int), (idxFrom p k l = -1 ∧ ∀ i : Nat, i < l.length → p l[i]! = false) ∨ (∃ i : Nat, i < l.length ∧ idxFrom p k l = k + i ∧ p l[i]! = true ∧ ∀ j : Nat, j < i → p l[j]! = false)
  | [], k => .inl ⟨rfl, fun i hi => by simp at hi⟩
  | x :: xs, k => by
    rcases hx : p x with _ | _
    · rcases idxFrom_spec p xs (k + 1) with ⟨h1, h2⟩ | ⟨i, h1, h2, h3, h4⟩
      · refine .inl ⟨by simp [idxFrom, hx, h1], fun i hi => ?_⟩
        cases i with
        | zero => simpa using hx
        | succ i => simpa using h2 i (by simpa using hi)
      · refine .inr ⟨i + 1, by simpa using h1, by simp [idxFrom, hx, h2]; omega, by simpa using h3, fun j hj => ?_⟩
        cases j with
        | zero => simpa using hx
        | succ j => simpa using h4 j (by omega)
    · exact .inr ⟨0, by simp, by simp [idxFrom, hx], by simpa using hx, fun j hj => by omega⟩
theorem getElem!_take {α : Type} [Inhabited α] (l : List α) (n i : Nat) (h : i < n) : (l.take n)[i]! = l[i]! := by
  by_cases hl : i < l.length
  · rw [getElem!_pos _ _ (by simp; omega), getElem!_pos l i hl]; simp
  · rw [getElem!_neg _ _ (by simp; omega), getElem!_neg l i hl]


end Go.Abs
