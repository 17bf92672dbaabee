/- One operation on typed data: what is to be shown, what it gives. -/
import Derived.Test.YtmlojnecmdnbpaaGreatDoorAbsEq
namespace Go.Abs
set_option linter.unusedVariables false

abbrev DR := Option (List Bool × V × List XO)
abbrev DV := Option (List Bool × V)
def allT (cs : List Bool) : Prop := ∀ c, c ∈ cs → c = true
theorem allT_cons {c : Bool} {cs : List Bool} (h : allT (c :: cs)) : c = true ∧ allT cs := ⟨h c (by simp), fun d hd => h d (by simp [hd])⟩

def loK : IntKind → Int
  | .i8 => -128
  | .i16 => -32768
  | .i32 => -2147483648
  | .i64 => -9223372036854775808
  | _ => 0
def hiK : IntKind → Int
  | .i8 => 127
  | .i16 => 32767
  | .i32 => 2147483647
  | .i64 => 9223372036854775807
  | .u8 => 255
  | .u16 => 65535
  | .u32 => 4294967295
  | .u64 => 18446744073709551615
def inR (k : IntKind) (n : Int) : Bool := decide (loK k ≤ n ∧ n ≤ hiK k)
theorem inR_wrap {k : IntKind} {n : Int} (h : inR k n = true) : k.wrap n = n := by
  have h := of_decide_eq_true h
  cases k <;> simp only [loK, hiK] at h <;> simp [IntKind.wrap, IntKind.bits, IntKind.signed] <;> omega

/-- An integer result: wrapped, or shown to be in its range. -/
def ar (k : IntKind) (fl : Bool) (n : Int) : List Bool × V := match (match k with | .i64 => fl | _ => !fl) with
  | true => ([], .v (.int k (k.wrap n)))
  | false => ([inR k n], .v (.int k n))
theorem ar_ok {k : IntKind} {wr : Bool} {n : Int} (h : allT (ar k wr n).1) : (ar k wr n).2 = .v (.int k (k.wrap n)) := by
  unfold ar at h ⊢
  generalize (match k with | .i64 => wr | _ => !wr) = q at h ⊢
  cases q with
  | true => rfl
  | false => rw [inR_wrap (h _ (by simp))]

/- bits and shifts -/
def bAnd (k : IntKind) (a b : Int) : Int := k.wrap ((BitVec.ofInt k.bits a &&& BitVec.ofInt k.bits b).toNat : Int)
def bOr (k : IntKind) (a b : Int) : Int := k.wrap ((BitVec.ofInt k.bits a ||| BitVec.ofInt k.bits b).toNat : Int)
def bXor (k : IntKind) (a b : Int) : Int := k.wrap ((BitVec.ofInt k.bits a ^^^ BitVec.ofInt k.bits b).toNat : Int)
def bAndN (k : IntKind) (a b : Int) : Int := k.wrap ((BitVec.ofInt k.bits a &&& ~~~ (BitVec.ofInt k.bits b)).toNat : Int)
def shlI (k : IntKind) (a b : Int) : Int := k.wrap (a * 2 ^ (min b.toNat k.bits))
def shrI (k : IntKind) (a b : Int) : Int := a.fdiv (2 ^ (min b.toNat k.bits))
theorem aBin_bits (P : Program) (h : Heap) (t : TypeId) (X Y : Operand) (k : IntKind) (a b : Int) :
    aBin P h .and t X Y (.v (.int k a)) (.v (.int k b)) = some (.v (.int k (bAnd k a b)), h) ∧ aBin P h .or t X Y (.v (.int k a)) (.v (.int k b)) = some (.v (.int k (bOr k a b)), h) ∧
    aBin P h .xor t X Y (.v (.int k a)) (.v (.int k b)) = some (.v (.int k (bXor k a b)), h) ∧ aBin P h .andNot t X Y (.v (.int k a)) (.v (.int k b)) = some (.v (.int k (bAndN k a b)), h) := by
  cases k <;> exact ⟨rfl, rfl, rfl, rfl⟩
theorem aBin_shl (P : Program) (h : Heap) (t : TypeId) (X Y : Operand) (k k' : IntKind) (a b : Int) (hb : 0 ≤ b) : aBin P h .shl t X Y (.v (.int k a)) (.v (.int k' b)) = some (.v (.int k (shlI k a b)), h) := by
  have e : pureRun P (do eqGuard .shl t X Y (.int k a) (.int k' b); binOp .shl t (.int k a) (.int k' b)) = some (.int k (shlI k a b)) := by
    have hb : ¬ b < 0 := by omega
    cases k <;> simp [eqGuard, binOp, Op.shift, hb, pureRun, bind, pure, Sem.bind, shlI]
  simp only [aBin, toValue, e]
  rfl
theorem aBin_shr (P : Program) (h : Heap) (t : TypeId) (X Y : Operand) (k k' : IntKind) (a b : Int) (hb : 0 ≤ b) : aBin P h .shr t X Y (.v (.int k a)) (.v (.int k' b)) = some (.v (.int k (shrI k a b)), h) := by
  have e : pureRun P (do eqGuard .shr t X Y (.int k a) (.int k' b); binOp .shr t (.int k a) (.int k' b)) = some (.int k (shrI k a b)) := by
    have hb : ¬ b < 0 := by omega
    cases k <;> simp [eqGuard, binOp, Op.shift, hb, pureRun, bind, pure, Sem.bind, shrI]
  simp only [aBin, toValue, e]
  rfl

def dint (wr : Bool) (op : BinOp) (k : IntKind) (a b : Int) : DV :=
  match op with
  | .add => some (ar k wr (a + b))
  | .sub => some (ar k wr (a - b))
  | .mul => some (ar k wr (a * b))
  | .lss => some ([], .v (.bool (decide (a < b))))
  | .leq => some ([], .v (.bool (decide (a ≤ b))))
  | .gtr => some ([], .v (.bool (decide (a > b))))
  | .geq => some ([], .v (.bool (decide (a ≥ b))))
  | .eql => some ([], .v (.bool (decide (a = b))))
  | .neq => some ([], .v (.bool (!decide (a = b))))
  | .quo => some (decide (b ≠ 0) :: (ar k wr (a.tdiv b)).1, (ar k wr (a.tdiv b)).2)
  | .rem => some ([decide (b ≠ 0)], .v (.int k (a.tmod b)))
  | .and => some ([], .v (.int k (bAnd k a b)))
  | .or => some ([], .v (.int k (bOr k a b)))
  | .xor => some ([], .v (.int k (bXor k a b)))
  | .andNot => some ([], .v (.int k (bAndN k a b)))
  | _ => none
def dstr (op : BinOp) (a b : ByteArray) : DV :=
  match op with
  | .eql => some ([], .v (.bool (decide (a = b))))
  | .neq => some ([], .v (.bool (!decide (a = b))))
  | .lss => some ([], .v (.bool (strLt a b)))
  | .geq => some ([], .v (.bool (!strLt a b)))
  | .leq => some ([], .v (.bool (strLt a b || decide (a = b))))
  | .gtr => some ([], .v (.bool (!(strLt a b || decide (a = b)))))
  | .add => some ([decide (a.size + b.size ≤ 9223372036854775807)], .v (.string (a ++ b)))
  | _ => none
def dbin (wr : Bool) (op : BinOp) (x y : V) : DV :=
  match x, y with
  | .v (.int k a), .v (.int k' b) => match op with
    | .shl => some ([decide (0 ≤ b)], .v (.int k (shlI k a b)))
    | .shr => some ([decide (0 ≤ b)], .v (.int k (shrI k a b)))
    | op => if k' = k then dint wr op k a b else none
  | .v (.string a), .v (.string b) => dstr op a b
  | _, _ => none
def isB (r : Option (V × Heap)) (want : Bool) : Bool := match r with
  | some (.v (.bool b), _) => b == want
  | _ => false
def boolTab (P : Program) (h : Heap) (op : BinOp) (t : TypeId) (X Y : Operand) (f : Bool → Bool → Bool) : Bool :=
  isB (aBin P h op t X Y (.v (.bool true)) (.v (.bool true))) (f true true) && isB (aBin P h op t X Y (.v (.bool true)) (.v (.bool false))) (f true false) &&
  isB (aBin P h op t X Y (.v (.bool false)) (.v (.bool true))) (f false true) && isB (aBin P h op t X Y (.v (.bool false)) (.v (.bool false))) (f false false)
def dbool (P : Program) (h : Heap) (op : BinOp) (t : TypeId) (X Y : Operand) (a b : Bool) : DV :=
  match op with
  | .eql => if boolTab P h .eql t X Y (fun a b => a == b) then some ([], .v (.bool (a == b))) else none
  | .neq => if boolTab P h .neq t X Y (fun a b => !(a == b)) then some ([], .v (.bool (!(a == b)))) else none
  | _ => none
theorem aBin_heap {P : Program} {h h' : Heap} {op : BinOp} {t : TypeId} {X Y : Operand} {x y z : V} (e : aBin P h op t X Y x y = some (z, h')) : h' = h := by
  unfold aBin at e
  repeat' split at e
  all_goals first | (injection e with e; injection e with e1 e2; exact e2.symm) | cases e
theorem isB_eq {P : Program} {h : Heap} {op : BinOp} {t : TypeId} {X Y : Operand} {x y : V} {b : Bool} (e : isB (aBin P h op t X Y x y) b = true) : aBin P h op t X Y x y = some (.v (.bool b), h) := by
  unfold isB at e
  split at e
  · rename_i c k hk
    rw [hk, aBin_heap hk]
    rw [eq_of_beq e]
  · cases e
theorem boolTab_eq {P : Program} {h : Heap} {op : BinOp} {t : TypeId} {X Y : Operand} {f : Bool → Bool → Bool} (e : boolTab P h op t X Y f = true) (a b : Bool) : aBin P h op t X Y (.v (.bool a)) (.v (.bool b)) = some (.v (.bool (f a b)), h) := by
  simp only [boolTab, Bool.and_eq_true] at e
  obtain ⟨⟨⟨h1, h2⟩, h3⟩, h4⟩ := e
  cases a <;> cases b
  · exact isB_eq h4
  · exact isB_eq h3
  · exact isB_eq h2
  · exact isB_eq h1
theorem dbool_ok {P : Program} {h : Heap} {op : BinOp} {t : TypeId} {X Y : Operand} {a b : Bool} {z : V} {cs : List Bool} (e : dbool P h op t X Y a b = some (cs, z)) : aBin P h op t X Y (.v (.bool a)) (.v (.bool b)) = some (z, h) := by
  unfold dbool at e
  repeat' split at e
  all_goals first | cases e | skip
  · rename_i ht
    exact boolTab_eq (f := fun a b => a == b) ht a b
  · rename_i ht
    exact boolTab_eq (f := fun a b => !(a == b)) ht a b

theorem dint_ok {P : Program} {h : Heap} {wr : Bool} {op : BinOp} {t : TypeId} {X Y : Operand} {k : IntKind} {a b : Int} {cs : List Bool} {x : V} (e : dint wr op k a b = some (cs, x)) (hc : allT cs) :
    aBin P h op t X Y (.v (.int k a)) (.v (.int k b)) = some (x, h) := by
  have ar' : ∀ {n : Int}, ar k wr n = (cs, x) → x = .v (.int k (k.wrap n)) := fun {n} q => by
    have h1 : allT (ar k wr n).1 := by rw [q]; exact hc
    have h2 := ar_ok h1
    rw [q] at h2; exact h2
  cases op <;> simp only [dint] at e <;> first | (cases e; done) | skip
  · injection e with e; rw [ar' e]; exact aBin_add P h t X Y k a b
  · injection e with e; rw [ar' e]; exact aBin_sub P h t X Y k a b
  · injection e with e; rw [ar' e]; exact aBin_mul P h t X Y k a b
  · injection e with e; injection e with e1 e2
    subst e1
    obtain ⟨h1, h2⟩ := allT_cons hc
    rw [← e2, ar_ok h2]
    exact aBin_quo P h t X Y k a b (of_decide_eq_true h1)
  · injection e with e; injection e with e1 e2
    subst e1
    rw [← e2]
    exact aBin_rem P h t X Y k a b (of_decide_eq_true (allT_cons hc).1)
  · injection e with e; injection e with e1 e2; rw [← e2]; exact (aBin_bits P h t X Y k a b).1
  · injection e with e; injection e with e1 e2; rw [← e2]; exact (aBin_bits P h t X Y k a b).2.1
  · injection e with e; injection e with e1 e2; rw [← e2]; exact (aBin_bits P h t X Y k a b).2.2.1
  · injection e with e; injection e with e1 e2; rw [← e2]; exact (aBin_bits P h t X Y k a b).2.2.2
  · injection e with e; injection e with e1 e2; rw [← e2]; exact aBin_eql P h t X Y k a b
  · injection e with e; injection e with e1 e2; rw [← e2]; exact aBin_neq P h t X Y k a b
  · injection e with e; injection e with e1 e2; rw [← e2]; exact aBin_lss P h t X Y k a b
  · injection e with e; injection e with e1 e2; rw [← e2]; exact aBin_leq P h t X Y k a b
  · injection e with e; injection e with e1 e2; rw [← e2]; exact aBin_gtr P h t X Y k a b
  · injection e with e; injection e with e1 e2; rw [← e2]; exact aBin_geq P h t X Y k a b

theorem aBin_str (P : Program) (h : Heap) (op : BinOp) (t : TypeId) (X Y : Operand) (a b : ByteArray) :
    aBin P h .eql t X Y (.v (.string a)) (.v (.string b)) = some (.v (.bool (strEq a b)), h) ∧ aBin P h .neq t X Y (.v (.string a)) (.v (.string b)) = some (.v (.bool (!strEq a b)), h) ∧
    aBin P h .lss t X Y (.v (.string a)) (.v (.string b)) = some (.v (.bool (strLt a b)), h) ∧ aBin P h .geq t X Y (.v (.string a)) (.v (.string b)) = some (.v (.bool (!strLt a b)), h) ∧
    aBin P h .leq t X Y (.v (.string a)) (.v (.string b)) = some (.v (.bool (strLt a b || strEq a b)), h) ∧ aBin P h .gtr t X Y (.v (.string a)) (.v (.string b)) = some (.v (.bool (!(strLt a b || strEq a b))), h) :=
  ⟨rfl, rfl, rfl, rfl, rfl, rfl⟩

theorem dbin_ok {P : Program} {h : Heap} {wr : Bool} {op : BinOp} {t : TypeId} {X Y : Operand} {x y z : V} {cs : List Bool} (e : dbin wr op x y = some (cs, z)) (hc : allT cs) : aBin P h op t X Y x y = some (z, h) := by
  unfold dbin at e
  split at e
  · split at e
    · injection e with e; injection e with e1 e2; subst e1; rw [← e2]
      exact aBin_shl P h t X Y _ _ _ _ (of_decide_eq_true (allT_cons hc).1)
    · injection e with e; injection e with e1 e2; subst e1; rw [← e2]
      exact aBin_shr P h t X Y _ _ _ _ (of_decide_eq_true (allT_cons hc).1)
    · split at e
      · rename_i hk; subst hk; exact dint_ok e hc
      · cases e
  · rename_i a b
    obtain ⟨q1, q2, q3, q4, q5, q6⟩ := aBin_str P h op t X Y a b
    simp only [strEq_dec] at q1 q2 q3 q4 q5 q6
    cases op <;> simp only [dstr] at e <;> first | (cases e; done) | skip
    all_goals (injection e with e; injection e with e1 e2; subst e2)
    · subst e1
      exact aBin_cat P h t X Y a b (by have := of_decide_eq_true (allT_cons hc).1; omega)
    all_goals assumption
  · cases e

/- reading through the heap -/
def XO.rowsz : XO → Option Nat
  | .raw (.live o) => some o.sz
  | .tl t _ _ => some t.size
  | .opt t _ _ => some t.size
  | .ob t _ _ => some t.size
  | _ => none
def XO.room : XO → Nat → List Bool
  | .opt _ l _, i => [decide (i < l.length)]
  | _, _ => []

def ofInts (l : List Int) : ByteArray := ⟨(l.map fun n => UInt8.ofNat n.toNat).toArray⟩
def toInts (b : ByteArray) : List Int := b.data.toList.map fun u => (u.toNat : Int)

/-- The typed content of an object from 'off' on, 'len' rows. -/
def subL {α : Type} (l : List α) (off len : Nat) : List α := match off with
  | 0 => l.take len
  | _ => (l.drop off).take len
/-- The bytes of a slice. -/
def dbytes (h : List XO) (x : V) : Option (List Bool × List Int) :=
  match x with
  | .sL (.int .u8) l => some ([], l)
  | .v (.slice none 0 0) => some ([], [])
  | .sO id off len => match h[id]? with
    | some (.tl (.int .u8) l _) => match off with
      | 0 => some ([decide (len = l.length)], l)
      | _ => some ([decide (off + len ≤ l.length)], (l.drop off).take len)
    | _ => none
  | .oL id n => match h[id]? with
    | some (.opt (.int .u8) l _) => some ([decide (n = l.length)], l)
    | _ => none
  | _ => none

theorem dbytes_shape {h : List XO} {x : V} {r : List Bool × List Int} (e : dbytes h x = some r) : x.nf = .v (.slice none 0 0) ∨ (∃ a b, x.nf = .sF a b) ∨ (∃ a b c, x.nf = .sO a b c) := by
  unfold dbytes at e
  split at e
  · exact .inr (.inl ⟨_, _, rfl⟩)
  · exact .inl rfl
  · exact .inr (.inr ⟨_, _, _, rfl⟩)
  · rename_i id n
    by_cases hn : n = 0
    · exact .inl (by simp [V.nf, hn])
    · exact .inr (.inr ⟨_, _, _, by simp [V.nf, hn]; exact ⟨rfl, rfl, rfl⟩⟩)
  · cases e

def dlen (P : Program) (t : TypeId) (x : V) : DV :=
  match P.underlying t, x with
  | some (.slice _), .sL _ l => some ([], .v (.int .i64 (l.length : Int)))
  | some (.slice _), .oL _ n => some ([], .v (.int .i64 (n : Int)))
  | some .string, .v (.string s) => some ([], .v (.int .i64 (s.size : Int)))
  | _, _ => none

def dindexAddr (P : Program) (h : List XO) (t : TypeId) (x : V) (i : Int) : DV :=
  match P.underlying t with
  | some (.slice e) => match sizeT P e with
    | none => none
    | some s => match x with
      | .sL ty l => if ty.size = s then some ([decide (0 ≤ i), decide (i < l.length)], .pF (ty.row (l[i.toNat]!)) 0) else none
      | .sO id off len => match h[id]? with
        | some o => if o.rowsz = some s then (match off with | 0 => some (decide (0 ≤ i) :: decide (i < len) :: o.room (off + i.toNat), .pO id i.toNat 0) | _ => some (decide (0 ≤ i) :: decide (i < len) :: o.room (off + i.toNat), .pO id (off + i.toNat) 0)) else none
        | none => none
      | .oL id n => match h[id]? with
        | some o => if o.rowsz = some s then some (decide (0 ≤ i) :: decide (i < n) :: o.room i.toNat, .pO id i.toNat 0) else none
        | none => none
      | _ => none
  | _ => none

def dindex (P : Program) (t : TypeId) (x : V) (i : Int) : DV :=
  match P.underlying t, x with
  | some .string, .v (.string s) => some ([decide (0 ≤ i), decide (i < s.size)], .v (.int .u8 (byteAt s i.toNat)))
  | _, _ => none

def dload (P : Program) (h : List XO) (t : TypeId) (p : V) : DV :=
  match p with
  | .pO id r off => match h[id]? with
    | some (.tl ty l _) => match readAt P t (ty.row (l[r]!)) off with
      | some x => some ([decide (r < l.length)], x)
      | none => none
    | some (.ob ty a _) => (match r with
      | 0 => (match readAt P t (ty.row a) off with
        | some x => some ([], x)
        | none => none)
      | _ => none)
    | some (.opt ty l _) => match readAt P t (ty.row (l[r]!)) off with
      | some x => some ([decide (r < l.length)], x)
      | none => none
    | _ => none
  | _ => none

def dslice (P : Program) (t : TypeId) (x : V) (lo hi : Option Int) : DV :=
  match P.underlying t, x with
  | some (.slice e), .sL ty l => if sizeT P e = some ty.size then match lo, hi with
      | none, none => some ([], .sL ty l)
      | none, some u => some ([decide (0 ≤ u), decide (u ≤ l.length)], .sL ty (l.take u.toNat))
      | some a, none => some ([decide (0 ≤ a), decide (a ≤ l.length)], .sL ty (l.drop a.toNat))
      | some a, some u => some ([decide (0 ≤ a), decide (a ≤ u), decide (u ≤ l.length)], .sL ty ((l.take u.toNat).drop a.toNat))
    else none
  | some .string, .v (.string s) => match lo, hi with
      | none, none => some ([], .v (.string s))
      | none, some u => some ([decide (0 ≤ u), decide (u ≤ s.size)], .v (.string (s.extract 0 u.toNat)))
      | some a, none => some ([decide (0 ≤ a), decide (a ≤ s.size)], .v (.string (s.extract a.toNat s.size)))
      | some a, some u => some ([decide (0 ≤ a), decide (a ≤ u), decide (u ≤ s.size)], .v (.string (s.extract a.toNat u.toNat)))
  | _, _ => none

def dpick (b : Bool) (x y : V) : DV :=
  match x, y with
  | .v (.bool p), .v (.bool q) => some ([], .v (.bool (bif b then p else q)))
  | .v (.int k p), .v (.int k' q) => if k' = k then some ([], .v (.int k (bif b then p else q))) else none
  | .v (.string p), .v (.string q) => some ([], .v (.string (bif b then p else q)))
  | _, _ => none

def minI (a b : Int) : Int := if b < a then b else a
def maxI (a b : Int) : Int := if b > a then b else a

/-- Operations that leave the heap as it is. -/
def dpure (P : Program) (wr : Bool) (o : Op) (ev : Operand → V) (h : List XO) : DV :=
  match o with
  | .binOp op t X Y _ => match ev X, ev Y with
    | .v (.bool a), .v (.bool b) => dbool P (dens h) op t X Y a b
    | .agg xs, .agg ys => dagg P op t xs ys
    | x, y => dbin wr op x y
  | .unOp .not _ x => match ev x with
    | .v (.bool b) => some ([], .v (.bool (!b)))
    | _ => none
  | .pick c x y => match ev c with
    | .v (.bool b) => dpick b (ev x) (ev y)
    | _ => none
  | .convert s d x => match ev x, P.underlying s, P.underlying d with
    | .v (.int q n), some (.int _), some (.int k') => some (ar k' wr n)
    | x, some (.slice e), some .string => match P.underlying e, dbytes h x with
      | some (.int .u8), some (cs, l) => some (cs, .v (.string (ofInts l)))
      | _, _ => none
    | _, _, _ => none
  | .load t p => dload P h t (ev p)
  | .indexAddr t x i => match ev i with
    | .v (.int _ n) => dindexAddr P h t (ev x) n
    | _ => none
  | .index t x i => match ev i with
    | .v (.int _ n) => dindex P t (ev x) n
    | _ => none
  | .slice t x lo hi none => match lo.map ev, hi.map ev with
    | none, none => dslice P t (ev x) none none
    | some (.v (.int _ a)), none => dslice P t (ev x) (some a) none
    | none, some (.v (.int _ b)) => dslice P t (ev x) none (some b)
    | some (.v (.int _ a)), some (.v (.int _ b)) => dslice P t (ev x) (some a) (some b)
    | _, _ => none
  | .call c => match c.callee, c.args.toList, c.argTypes with
    | .builtin .len, [x], ⟨[t]⟩ => dlen P t (ev x)
    | .builtin .min, [x, y], _ => match ev x, ev y with
      | .v (.int k a), .v (.int k' b) => if k' = k then some ([], .v (.int k (minI a b))) else none
      | _, _ => none
    | .builtin .max, [x, y], _ => match ev x, ev y with
      | .v (.int k a), .v (.int k' b) => if k' = k then some ([], .v (.int k (maxI a b))) else none
      | _, _ => none
    | _, _, _ => none
  | _ => none

/- that it is right -/
theorem toList_map_ofInts (l : List Int) : bytesOf (l.map (Ty.row (.int .u8))) = some (l.map fun n => UInt8.ofNat n.toNat) := by
  induction l with
  | nil => rfl
  | cons a l ih =>
    have : byteOf (Ty.row (.int .u8) a) = some (UInt8.ofNat a.toNat) := rfl
    simp only [List.map_cons, bytesOf, this, ih]

theorem dbytes_ok {h : List XO} {x : V} {cs : List Bool} {l : List Int} (e : dbytes h x = some (cs, l)) (hc : allT cs) : aToString (dens h) x.nf = some (.v (.string (ofInts l)), dens h) := by
  have fin : ∀ (y : V) (rows : List (List V)), rowsOf (dens h) 1 y = some rows → rows = l.map (Ty.row (.int .u8)) → aToString (dens h) y = some (.v (.string (ofInts l)), dens h) := by
    intro y rows h1 h2
    subst h2
    simp only [aToString, h1]
    split
    · rename_i bs hb
      have := hb.symm.trans (toList_map_ofInts l)
      injection this with this
      rw [this]; rfl
    · rename_i hb
      have := hb.symm.trans (toList_map_ofInts l)
      cases this
  unfold dbytes at e
  split at e
  · injection e with e; injection e with e1 e2; subst e1 e2
    exact fin _ _ (by simp [V.nf, rowsOf, Ty.size]) rfl
  · injection e with e; injection e with e1 e2; subst e1 e2
    exact fin _ [] rfl rfl
  · rename_i id off len
    split at e
    · rename_i l0 el ho
      have hd : (dens h)[id]? = some (.live ⟨1, l0.map (Ty.row (.int .u8)), el⟩) := by rw [dens_get, ho]; rfl
      split at e
      · injection e with e; injection e with e1 e2; subst e1 e2
        have hl := of_decide_eq_true (allT_cons hc).1
        refine fin _ (l0.map (Ty.row (.int .u8))) ?_ rfl
        simp only [V.nf, rowsOf, hd]
        rw [if_pos (by simp; exact Nat.le_of_eq hl)]
        simp only [hl, List.drop_zero]
        rw [List.take_of_length_le (by simp)]
      · rename_i hoff
        injection e with e; injection e with e1 e2; subst e1 e2
        have hf := of_decide_eq_true (allT_cons hc).1
        refine fin _ (((l0.drop off).take len).map (Ty.row (.int .u8))) ?_ rfl
        simp only [V.nf, rowsOf, hd]
        rw [if_pos (by simp; omega)]
        simp [List.map_take, List.map_drop]
    · cases e
  · rename_i id n
    split at e
    · rename_i l0 el ho
      injection e with e; injection e with e1 e2; subst e1 e2
      have hl := of_decide_eq_true (allT_cons hc).1
      subst hl
      by_cases hn : l0 = []
      · subst hn
        exact fin _ [] rfl rfl
      · have hd : (dens h)[id]? = some (.live ⟨1, l0.map (Ty.row (.int .u8)), el⟩) := by
          rw [dens_get, ho]; simp [XO.den, hn, Ty.size]
        have hn' : ¬ l0.length = 0 := fun q => hn (List.length_eq_zero_iff.1 q)
        refine fin _ (l0.map (Ty.row (.int .u8))) ?_ rfl
        simp only [V.nf, if_neg hn', rowsOf, hd]
        rw [if_pos (by simp)]
        simp only [List.drop_zero]
        rw [List.take_of_length_le (by simp)]
    · cases e
  · cases e

theorem dlen_ok {P : Program} {h : Heap} {t : TypeId} {x z : V} {cs : List Bool} (e : dlen P t x = some (cs, z)) : aLen P h t x.nf = some (z, h) := by
  unfold dlen at e
  repeat' split at e
  all_goals first | (cases e; done) | skip
  all_goals (injection e with e; injection e with e1 e2; subst e2)
  · rename_i el ty l ht
    exact aLen_map P h t el ht ty.size ty.row l
  · rename_i el id n ht
    by_cases hn : n = 0
    · subst hn
      have e2 : pureRun P (Builtin.len_ #[t] 0 #[.slice none 0 0]) = some (.int .i64 0) := by
        simp [Builtin.len_, Go.underlying, ht, pureRun, bind, pure, program, Sem.bind, goInt]
      simp only [V.nf, if_pos, aLen, e2]
      rfl
    · simp only [V.nf, if_neg hn, aLen, ht]
  · rename_i s ht
    have e2 : pureRun P (Builtin.len_ #[t] 0 #[.string s]) = some (.int .i64 s.size) := by
      simp [Builtin.len_, Go.underlying, ht, pureRun, bind, pure, program, Sem.bind, goInt]
    simp only [V.nf, aLen, e2]
    rfl

theorem XO.live_of {o : XO} {s i : Nat} (hs : o.rowsz = some s) (hr : allT (o.room i)) : ∃ a : AObj, o.den = .live a ∧ a.sz = s := by
  cases o with
  | raw x => cases x with
    | live a => injection hs with hs; exact ⟨a, rfl, hs⟩
    | _ => cases hs
  | tl t l e => injection hs with hs; exact ⟨_, rfl, hs⟩
  | ob t a e => injection hs with hs; exact ⟨_, rfl, hs⟩
  | opt t l e =>
    injection hs with hs
    have hi := of_decide_eq_true (hr (decide (i < l.length)) (by simp [XO.room]))
    have hn : ¬ l.isEmpty = true := by intro q; rw [List.isEmpty_iff] at q; subst q; simp at hi
    exact ⟨⟨t.size, l.map t.row, e⟩, by simp [XO.den, hn], hs⟩

theorem dindexAddr_ok {P : Program} {h : List XO} {t : TypeId} {x z : V} {k : IntKind} {i : Int} {cs : List Bool} (e : dindexAddr P h t x i = some (cs, z)) (hc : allT cs) :
    aIndexAddr P (dens h) t x.nf (.v (.int k i)) = some (z, dens h) := by
  unfold dindexAddr at e
  split at e
  · rename_i el ht
    split at e
    · cases e
    · rename_i s hs
      split at e
      · rename_i ty l
        split at e
        · rename_i hsz
          injection e with e; injection e with e1 e2; subst e1 e2
          have h1 := of_decide_eq_true (allT_cons hc).1
          have h2 := of_decide_eq_true (allT_cons (allT_cons hc).2).1
          subst hsz
          exact aIndexAddr_map P (dens h) t el ty.size ty.row ht hs l k i ⟨h1, h2⟩
        · cases e
      · rename_i id off len
        split at e
        · rename_i o ho
          split at e
          · rename_i hsz
            have hz : ∃ p, z = .pO id p 0 ∧ p = off + i.toNat ∧ cs = decide (0 ≤ i) :: decide (i < len) :: o.room (off + i.toNat) := by
              split at e
              · injection e with e; injection e with e1 e2; exact ⟨_, e2.symm, (Nat.zero_add _).symm, e1.symm⟩
              · injection e with e; injection e with e1 e2; exact ⟨_, e2.symm, rfl, e1.symm⟩
            obtain ⟨p, rfl, rfl, rfl⟩ := hz
            obtain ⟨q1, hc⟩ := allT_cons hc
            obtain ⟨q2, hc⟩ := allT_cons hc
            obtain ⟨a, a1, a2⟩ := XO.live_of hsz hc
            have hd : (dens h)[id]? = some (.live a) := by rw [dens_get, ho]; simp [a1]
            exact aIndexAddr_sO P (dens h) t el s ht hs id off len k i a hd a2 ⟨of_decide_eq_true q1, of_decide_eq_true q2⟩
          · cases e
        · cases e
      · rename_i id n
        split at e
        · rename_i o ho
          split at e
          · rename_i hsz
            injection e with e; injection e with e1 e2; subst e1 e2
            obtain ⟨q1, hc⟩ := allT_cons hc
            obtain ⟨q2, hc⟩ := allT_cons hc
            obtain ⟨a, a1, a2⟩ := XO.live_of hsz hc
            have hd : (dens h)[id]? = some (.live a) := by rw [dens_get, ho]; simp [a1]
            have h1 := of_decide_eq_true q1
            have h2 := of_decide_eq_true q2
            have hn : ¬ n = 0 := by omega
            simp only [V.nf, if_neg hn]
            exact aIndexAddr_sO0 P (dens h) t el s ht hs id n k i a hd a2 ⟨h1, h2⟩
          · cases e
        · cases e
      · cases e
  · cases e

theorem dindex_ok {P : Program} {h : Heap} {t : TypeId} {x z : V} {k : IntKind} {i : Int} {cs : List Bool} (e : dindex P t x i = some (cs, z)) (hc : allT cs) : aIndex P h t x (.v (.int k i)) = some (z, h) := by
  unfold dindex at e
  split at e
  · rename_i s ht
    injection e with e; injection e with e1 e2; subst e1 e2
    exact aIndex_str P h t s k i ht ⟨of_decide_eq_true (allT_cons hc).1, of_decide_eq_true (allT_cons (allT_cons hc).2).1⟩
  · cases e

theorem dload_ok {P : Program} {h : List XO} {t : TypeId} {p z : V} {cs : List Bool} (e : dload P h t p = some (cs, z)) (hc : allT cs) : aLoad P (dens h) t p = some (z, dens h) := by
  unfold dload at e
  repeat' split at e
  all_goals first | (cases e; done) | skip
  all_goals (injection e with e; injection e with e1 e2; subst e1 e2)
  · have hr := of_decide_eq_true (allT_cons hc).1
    rename_i id r off _ ty l el ho _ x hx
    exact aLoad_rows P (dens h) t id r off ty.size l ty.row el (by rw [dens_get, ho]; rfl) hr _ hx
  · rename_i id off _ ty a el ho _ _ x hx
    exact aLoad_rows P (dens h) t id 0 off ty.size [a] ty.row el (by rw [dens_get, ho]; rfl) (by simp) _ hx
  · have hr := of_decide_eq_true (allT_cons hc).1
    rename_i id r off _ ty l el ho _ x hx
    have hn : ¬ l.isEmpty = true := by intro q; rw [List.isEmpty_iff] at q; subst q; simp at hr
    exact aLoad_rows P (dens h) t id r off ty.size l ty.row el (by rw [dens_get, ho]; simp [XO.den, hn]) hr _ hx

theorem dpick_ok {h : Heap} {b : Bool} {x y z : V} {cs : List Bool} (e : dpick b x y = some (cs, z)) : aPick h (.v (.bool b)) x y = some (z, h) := by
  unfold dpick at e
  repeat' split at e
  all_goals first | (cases e; done) | skip
  all_goals (injection e with e; injection e with e1 e2; subst e2)
  · cases b <;> rfl
  · rename_i hk; subst hk; cases b <;> rfl
  · cases b <;> rfl

theorem sliceBound_in (k : IntKind) (n : Int) (c : Nat) (o : BoundsCode) (h1 : 0 ≤ n) (h2 : n ≤ c) : Instr.sliceBound (.int k n) c o = pure n.toNat := by
  simp [Instr.sliceBound, asIntOf, bind, Sem.bind, pure, h1, h2]
theorem sliceV_ok {P : Program} {t : TypeId} {s : ByteArray} {lo hi : Option Int} {k k' : IntKind} {cs : List Bool} {z : V} (ht : P.underlying t = some .string) (e : dslice P t (.v (.string s)) lo hi = some (cs, z)) (hc : allT cs) :
    ∃ y, pureRun P (Instr.sliceAt t (.string s) (lo.map (.int k ·)) (hi.map (.int k' ·)) none) = some y ∧ ofValue y = z := by
  have H : ∀ (k : IntKind) (n : Int), 0 ≤ n → n ≤ s.size → Instr.sliceBound (.int k n) s.size .sliceAlen = pure n.toNat := fun k n => sliceBound_in k n _ _
  unfold dslice at e
  rw [ht] at e
  match lo, hi, e with
  | none, none, e =>
    injection e with e; injection e with e1 e2; subst e1 e2
    refine ⟨.string (s.extract 0 s.size), ?_, ?_⟩
    · simp [Instr.sliceAt, Instr.slice, Instr.sliceBounds, Go.underlying, ht, pureRun, bind, pure, program, Sem.bind]
    · simp [ofValue]
  | none, some u, e =>
    injection e with e; injection e with e1 e2; subst e1 e2
    have h1 := of_decide_eq_true (allT_cons hc).1
    have h2 := of_decide_eq_true (allT_cons (allT_cons hc).2).1
    refine ⟨.string (s.extract 0 u.toNat), ?_, rfl⟩
    simp [Instr.sliceAt, Instr.slice, Instr.sliceBounds, Go.underlying, ht, pureRun, bind, pure, program, Sem.bind, H k' u h1 h2]
  | some a, none, e =>
    injection e with e; injection e with e1 e2; subst e1 e2
    have h1 := of_decide_eq_true (allT_cons hc).1
    have h2 := of_decide_eq_true (allT_cons (allT_cons hc).2).1
    refine ⟨.string (s.extract a.toNat s.size), ?_, rfl⟩
    simp [Instr.sliceAt, Instr.slice, Instr.sliceBounds, Go.underlying, ht, pureRun, bind, pure, program, Sem.bind, sliceBound_in k a s.size .sliceB h1 h2]
  | some a, some u, e =>
    injection e with e; injection e with e1 e2; subst e1 e2
    have h1 := of_decide_eq_true (allT_cons hc).1
    have h2 := of_decide_eq_true (allT_cons (allT_cons hc).2).1
    have h3 := of_decide_eq_true (allT_cons (allT_cons (allT_cons hc).2).2).1
    refine ⟨.string (s.extract a.toNat u.toNat), ?_, rfl⟩
    simp [Instr.sliceAt, Instr.slice, Instr.sliceBounds, Go.underlying, ht, pureRun, bind, pure, program, Sem.bind, H k' u (by omega) h3, sliceBound_in k a u.toNat .sliceB h1 (by omega)]

theorem sliceL_ok {P : Program} {h : Heap} {t : TypeId} {z : V} {lo hi : Option Int} {k k' : IntKind} {cs : List Bool} {ty : Ty} {l : List ty.den} (e : dslice P t (.sL ty l) lo hi = some (cs, z)) (hc : allT cs) :
    aSlice P h t (.sF ty.size (l.map ty.row)) (lo.map fun n => .v (.int k n)) (hi.map fun n => .v (.int k' n)) = some (z.nf, h) := by
  unfold dslice at e
  split at e
  · rename_i el t2 l2 ht heq
    injection heq with q1 q2; subst q1; cases q2
    split at e
    · rename_i hs
      match lo, hi, e with
      | none, none, e =>
        injection e with e; injection e with e1 e2; subst e1 e2
        simp [aSlice, ht, bound, hs, V.nf]
        exact List.take_of_length_le (by simp)
      | none, some u, e =>
        injection e with e; injection e with e1 e2; subst e1 e2
        exact aSlice_hi P h t el _ _ ht hs l k' u ⟨of_decide_eq_true (allT_cons hc).1, of_decide_eq_true (allT_cons (allT_cons hc).2).1⟩
      | some a, none, e =>
        injection e with e; injection e with e1 e2; subst e1 e2
        exact aSlice_lo P h t el _ _ ht hs l k a ⟨of_decide_eq_true (allT_cons hc).1, of_decide_eq_true (allT_cons (allT_cons hc).2).1⟩
      | some a, some u, e =>
        injection e with e; injection e with e1 e2; subst e1 e2
        exact aSlice_both P h t el _ _ ht hs l k k' a u ⟨of_decide_eq_true (allT_cons hc).1, of_decide_eq_true (allT_cons (allT_cons hc).2).1, of_decide_eq_true (allT_cons (allT_cons (allT_cons hc).2).2).1⟩
    · cases e
  · rename_i heq; cases heq
  · cases e

theorem aUn_not (P : Program) (h : Heap) (b : Bool) : aUn P h .not (.v (.bool b)) = some (.v (.bool (!b)), h) := rfl

theorem aMin_int (P : Program) (h : Heap) (k : IntKind) (a b : Int) : aMinMax P h .min [.v (.int k a), .v (.int k b)] = some (.v (.int k (minI a b)), h) := rfl
theorem aMax_int (P : Program) (h : Heap) (k : IntKind) (a b : Int) : aMinMax P h .max [.v (.int k a), .v (.int k b)] = some (.v (.int k (maxI a b)), h) := rfl

theorem dpure_ok {P : Program} {wr : Bool} {o : Op} {ev : Operand → V} {h : List XO} {new : Nat} {cs : List Bool} {x : V} (e : dpure P wr o ev h = some (cs, x)) (hc : allT cs) : AO P o ev (dens h) new x (dens h) := by
  unfold dpure at e
  split at e
  · rename_i op t X Y u
    split at e
    · rename_i a b ha hb
      refine AO.of ?_
      show aBin P _ op t X Y (ev X) (ev Y) = _
      rw [ha, hb]; exact dbool_ok e
    · rename_i xs ys ha hb
      refine AO.of ?_
      show aBin P _ op t X Y (ev X) (ev Y) = _
      rw [ha, hb]; exact dagg_ok e hc
    · refine AO.of ?_
      show aBin P _ op t X Y (ev X) (ev Y) = _
      exact dbin_ok e hc
  · rename_i t X
    split at e
    · rename_i b hb
      injection e with e; injection e with e1 e2; subst e2
      refine AO.of ?_
      show aUn P _ .not (ev X) = _
      rw [hb]; rfl
    · cases e
  · rename_i c X Y
    split at e
    · rename_i b hb
      refine AO.of ?_
      show aPick _ (ev c) (ev X) (ev Y) = _
      rw [hb]; exact dpick_ok e
    · cases e
  · rename_i s d X
    split at e
    · rename_i q n ks kd hx hs hd
      injection e with e
      have hv := ar_ok (k := kd) (wr := wr) (n := n) (by rw [e]; exact hc)
      rw [e] at hv
      refine AO.of ?_
      show aConvert P _ new s d (ev X) = _
      rw [hx, aConvert_int P _ new s d ks kd q n hs hd, ← hv]
    · rename_i el hn hs hd
      split at e
      · rename_i cs0 l hel hb
        injection e with e; injection e with e1 e2; subst e1 e2
        have hd2 := dbytes_ok hb hc
        refine AO.nf (x' := .v (.string (ofInts l))) ?_ (LE.refl _)
        show aConvert P _ new s d (ev X).nf = _
        have hy := dbytes_shape hb
        generalize (ev X).nf = y at hd2 hy
        unfold aConvert
        rw [hd]
        rcases hy with rfl | ⟨a, b, rfl⟩ | ⟨a, b, c, rfl⟩
        · simp only [hs, hel]; exact hd2
        · simp only [hs, hel]; exact hd2
        · simp only [hs, hel]; exact hd2
      · cases e
    · cases e
  · rename_i t p
    refine AO.of ?_
    exact dload_ok e hc
  · rename_i t X i
    split at e
    · rename_i k n hi
      refine AO.nf (x' := x) ?_ (LE.refl _)
      show aIndexAddr P _ t (ev X).nf (ev i).nf = _
      rw [hi]; exact dindexAddr_ok e hc
    · cases e
  · rename_i t X i
    split at e
    · rename_i k n hi
      refine AO.of ?_
      show aIndex P _ t (ev X) (ev i) = _
      rw [hi]; exact dindex_ok e hc
    · cases e
  · rename_i t X lo hi
    have key : ∀ (a b : Option Int) (k k' : IntKind), lo.map ev = a.map (fun n => .v (.int k n)) → hi.map ev = b.map (fun n => .v (.int k' n)) → dslice P t (ev X) a b = some (cs, x) → AO P (.slice t X lo hi none) ev (dens h) new x (dens h) := by
      intro a b k k' hl hh e
      have hnf : ∀ (q : Option Operand) (c : Option Int) (kk : IntKind), q.map ev = c.map (fun n => .v (.int kk n)) → q.map (fun a => (ev a).nf) = c.map (fun n => .v (.int kk n)) := by
        intro q c kk hq
        cases q with
        | none => cases c with
          | none => rfl
          | some _ => cases hq
        | some q => cases c with
          | none => cases hq
          | some c => injection hq with hq; simp only [Option.map]; rw [hq]; rfl
      have e0 := e
      unfold dslice at e
      split at e
      · rename_i el ty l ht hx
        rw [hx] at e0
        refine AO.nf ?_ (LE.of_nf x)
        simp only [aop]
        rw [hx, hnf lo a k hl, hnf hi b k' hh]
        exact sliceL_ok e0 hc
      · rename_i s ht hx
        rw [hx] at e0
        obtain ⟨y, h1, h2⟩ := sliceV_ok (k := k) (k' := k') ht e0 hc
        refine AO.of ?_
        simp only [aop]
        rw [hx, hl, hh]
        cases a <;> cases b <;> simp only [Option.map] at h1 ⊢ <;> simp only [h1, h2]
      · cases e
    split at e
    · rename_i h1 h2
      exact key none none .i64 .i64 h1 h2 e
    · rename_i k a h1 h2
      exact key (some a) none k .i64 h1 h2 e
    · rename_i k b h1 h2
      exact key none (some b) .i64 k h1 h2 e
    · rename_i k a k' b h1 h2
      exact key (some a) (some b) k k' h1 h2 e
    · cases e
  · rename_i c
    obtain ⟨callee, args, tys⟩ := c
    simp only at e
    split at e
    · rename_i X t h1
      refine AO.nf (x' := x) ?_ (LE.refl _)
      simp only [aop, h1, List.map_cons, List.map_nil, aBuiltin]
      exact dlen_ok e
    · rename_i X Y _ h1
      split at e
      · rename_i k a k' b ha hb
        split at e
        · rename_i hk
          subst hk
          injection e with e; injection e with e1 e2; subst e2
          refine AO.of ?_
          simp only [aop, h1, List.map_cons, List.map_nil, aBuiltin, ha, hb]
          exact aMin_int _ _ _ _ _
        · cases e
      · cases e
    · rename_i X Y _ h1
      split at e
      · rename_i k a k' b ha hb
        split at e
        · rename_i hk
          subst hk
          injection e with e; injection e with e1 e2; subst e2
          refine AO.of ?_
          simp only [aop, h1, List.map_cons, List.map_nil, aBuiltin, ha, hb]
          exact aMax_int _ _ _ _ _
        · cases e
      · cases e
    · cases e
  · cases e

end Go.Abs
