/- Operations at unknown numbers, strings and lists. -/
import Derived.Test.YtmlojnecmdnbpaaGreatDoorAbsN
namespace Go.Abs
set_option linter.unusedVariables false

theorem wrap64 {n : Int} (h1 : -9223372036854775808 ≤ n) (h2 : n ≤ 9223372036854775807) : IntKind.i64.wrap n = n := IntWalk.i64_in n (by omega)

theorem aBin_lss (P : Program) (h : Heap) (t : TypeId) (X Y : Operand) (k : IntKind) (a b : Int) : aBin P h .lss t X Y (.v (.int k a)) (.v (.int k b)) = some (.v (.bool (decide (a < b))), h) := by cases k <;> rfl
theorem aBin_leq (P : Program) (h : Heap) (t : TypeId) (X Y : Operand) (k : IntKind) (a b : Int) : aBin P h .leq t X Y (.v (.int k a)) (.v (.int k b)) = some (.v (.bool (decide (a ≤ b))), h) := by cases k <;> rfl
theorem aBin_gtr (P : Program) (h : Heap) (t : TypeId) (X Y : Operand) (k : IntKind) (a b : Int) : aBin P h .gtr t X Y (.v (.int k a)) (.v (.int k b)) = some (.v (.bool (decide (a > b))), h) := by cases k <;> rfl
theorem aBin_geq (P : Program) (h : Heap) (t : TypeId) (X Y : Operand) (k : IntKind) (a b : Int) : aBin P h .geq t X Y (.v (.int k a)) (.v (.int k b)) = some (.v (.bool (decide (a ≥ b))), h) := by cases k <;> rfl
theorem aBin_eql (P : Program) (h : Heap) (t : TypeId) (X Y : Operand) (k : IntKind) (a b : Int) : aBin P h .eql t X Y (.v (.int k a)) (.v (.int k b)) = some (.v (.bool (a == b)), h) := by cases k <;> rfl
theorem aBin_neq (P : Program) (h : Heap) (t : TypeId) (X Y : Operand) (k : IntKind) (a b : Int) : aBin P h .neq t X Y (.v (.int k a)) (.v (.int k b)) = some (.v (.bool (a != b)), h) := by cases k <;> rfl
theorem aBin_add (P : Program) (h : Heap) (t : TypeId) (X Y : Operand) (k : IntKind) (a b : Int) : aBin P h .add t X Y (.v (.int k a)) (.v (.int k b)) = some (.v (.int k (k.wrap (a + b))), h) := by cases k <;> rfl
theorem aBin_sub (P : Program) (h : Heap) (t : TypeId) (X Y : Operand) (k : IntKind) (a b : Int) : aBin P h .sub t X Y (.v (.int k a)) (.v (.int k b)) = some (.v (.int k (k.wrap (a - b))), h) := by cases k <;> rfl
theorem aBin_mul (P : Program) (h : Heap) (t : TypeId) (X Y : Operand) (k : IntKind) (a b : Int) : aBin P h .mul t X Y (.v (.int k a)) (.v (.int k b)) = some (.v (.int k (k.wrap (a * b))), h) := by cases k <;> rfl

theorem aLen_ints (P : Program) (h : Heap) (t e : TypeId) (ht : P.underlying t = some (.slice e)) (s : Nat) (rows : List (List V)) : aLen P h t (.sF s rows) = some (.v (.int .i64 rows.length), h) := by
  simp [aLen, ht]

theorem aIndexAddr_sF (P : Program) (h : Heap) (t e : TypeId) (ht : P.underlying t = some (.slice e)) (s : Nat) (hs : sizeT P e = some s) (rows : List (List V)) (k : IntKind) (i : Int) (h0 : 0 ≤ i) (h1 : i < rows.length) :
    aIndexAddr P h t (.sF s rows) (.v (.int k i)) = some (.pF (rows[i.toNat]'(by omega)) 0, h) := by
  simp only [aIndexAddr, asIdx, ht, hs]
  rw [if_pos ⟨trivial, h0⟩, List.getElem?_eq_getElem (by omega)]


theorem dataLen (b : ByteArray) : b.data.toList.length = b.size := rfl
theorem toListLoop (b : ByteArray) : ∀ (n i : Nat) (r : List UInt8), b.size - i = n → i ≤ b.size → ByteArray.toList.loop b i r = r.reverse ++ b.data.toList.drop i
  | 0, i, r, h, hi => by
    rw [ByteArray.toList.loop, if_neg (by omega)]
    rw [List.drop_eq_nil_of_le (by rw [dataLen]; omega)]
    simp
  | n + 1, i, r, h, hi => by
    have hlt : i < b.size := by omega
    rw [ByteArray.toList.loop, if_pos hlt, toListLoop b n (i + 1) _ (by omega) (by omega)]
    have hd : i < b.data.toList.length := by rw [dataLen]; exact hlt
    rw [List.drop_eq_getElem_cons hd]
    have hd2 : i < b.data.size := hlt
    simp [ByteArray.get!]
    exact getElem!_pos b.data i hd2
theorem toList_eq (b : ByteArray) : b.toList = b.data.toList := by
  unfold ByteArray.toList
  rw [toListLoop b b.size 0 [] (by omega) (by omega)]
  simp
theorem str_inj {a b : ByteArray} (h : a.toList = b.toList) : a = b := by
  rw [toList_eq, toList_eq] at h
  exact ByteArray.ext (Array.toList_inj.1 h)
def strEq (a b : ByteArray) : Bool := a.toList == b.toList
def strLt (a b : ByteArray) : Bool := Op.bytesLess a.toList b.toList
theorem str_tt {a b : ByteArray} (h : a = b) : strEq a b = true := by rw [h]; simp [strEq]
theorem str_ff {a b : ByteArray} (h : ¬ a = b) : strEq a b = false := by
  rw [strEq, beq_eq_false_iff_ne]
  exact fun q => h (str_inj q)

theorem strEq_dec (a b : ByteArray) : strEq a b = decide (a = b) := by
  by_cases h : a = b
  · rw [str_tt h, decide_eq_true h]
  · rw [str_ff h, decide_eq_false h]

theorem aConvert_int (P : Program) (h : Heap) (new : Nat) (s d : TypeId) (k k' : IntKind) (q : IntKind) (n : Int) (hs : P.underlying s = some (.int k)) (hd : P.underlying d = some (.int k')) :
    aConvert P h new s d (.v (.int q n)) = some (.v (.int k' (k'.wrap n)), h) := by
  have e : pureRun P (convert s d (.int q n)) = some (.int k' (k'.wrap n)) := by
    simp [convert, Go.underlying, hs, hd, pureRun, bind, pure, program, Sem.bind, Conv.intToInt]
  simp only [aConvert, hd, e]
  rfl

theorem aBin_rem (P : Program) (h : Heap) (t : TypeId) (X Y : Operand) (k : IntKind) (a b : Int) (hb : b ≠ 0) : aBin P h .rem t X Y (.v (.int k a)) (.v (.int k b)) = some (.v (.int k (a.tmod b)), h) := by
  have e : pureRun P (do eqGuard .rem t X Y (.int k a) (.int k b); binOp .rem t (.int k a) (.int k b)) = some (.int k (a.tmod b)) := by
    cases k <;> simp [eqGuard, binOp, Op.intDiv, hb, pureRun, bind, pure, Sem.bind]
  simp only [aBin, toValue, e]
  rfl

/- operations -/
section
variable (P : Program) (h : Heap)

theorem aIndexAddr_map {α : Type} [Inhabited α] (t e : TypeId) (s : Nat) (f : α → List V) (ht : P.underlying t = some (.slice e)) (hs : sizeT P e = some s) (l : List α) (k : IntKind) (i : Int) (hi : 0 ≤ i ∧ i < l.length) :
    aIndexAddr P h t (.sF s (l.map f)) (.v (.int k i)) = some (.pF (f (l[i.toNat]!)) 0, h) := by
  have hlt : i.toNat < l.length := by omega
  have := aIndexAddr_sF P h t e ht s hs (l.map f) k i hi.1 (by simpa using hi.2)
  rw [this]
  simp [getElem!_pos, hlt]

theorem aIndexAddr_sO0 (t e : TypeId) (s : Nat) (ht : P.underlying t = some (.slice e)) (hs : sizeT P e = some s) (id len : Nat) (k : IntKind) (i : Int) (o : AObj) (ho : h[id]? = some (.live o)) (hz : o.sz = s) (hi : 0 ≤ i ∧ i < len) :
    aIndexAddr P h t (.sO id 0 len) (.v (.int k i)) = some (.pO id i.toNat 0, h) := by
  simp only [aIndexAddr, asIdx, ht, hs, ho]
  rw [if_pos ⟨hz, hi.1, hi.2⟩, Nat.zero_add]
theorem aIndexAddr_sO (t e : TypeId) (s : Nat) (ht : P.underlying t = some (.slice e)) (hs : sizeT P e = some s) (id off len : Nat) (k : IntKind) (i : Int) (o : AObj) (ho : h[id]? = some (.live o)) (hz : o.sz = s) (hi : 0 ≤ i ∧ i < len) :
    aIndexAddr P h t (.sO id off len) (.v (.int k i)) = some (.pO id (off + i.toNat) 0, h) := by
  simp only [aIndexAddr, asIdx, ht, hs, ho]
  rw [if_pos ⟨hz, hi.1, hi.2⟩]

theorem aLen_map {α : Type} (t e : TypeId) (ht : P.underlying t = some (.slice e)) (s : Nat) (f : α → List V) (l : List α) : aLen P h t (.sF s (l.map f)) = some (.v (.int .i64 (l.length : Int)), h) := by
  rw [aLen_ints P h t e ht, List.length_map]

theorem aConvert_in (new : Nat) (s d : TypeId) (k k' q : IntKind) (n : Int) (hs : P.underlying s = some (.int k)) (hd : P.underlying d = some (.int k')) (hw : k'.wrap n = n) :
    aConvert P h new s d (.v (.int q n)) = some (.v (.int k' n), h) := by
  rw [aConvert_int P h new s d k k' q n hs hd, hw]
theorem aBin_add_in (t : TypeId) (X Y : Operand) (k : IntKind) (a b : Int) (hw : k.wrap (a + b) = a + b) : aBin P h .add t X Y (.v (.int k a)) (.v (.int k b)) = some (.v (.int k (a + b)), h) := by rw [aBin_add, hw]
theorem aBin_sub_in (t : TypeId) (X Y : Operand) (k : IntKind) (a b : Int) (hw : k.wrap (a - b) = a - b) : aBin P h .sub t X Y (.v (.int k a)) (.v (.int k b)) = some (.v (.int k (a - b)), h) := by rw [aBin_sub, hw]
theorem aBin_mul_in (t : TypeId) (X Y : Operand) (k : IntKind) (a b : Int) (hw : k.wrap (a * b) = a * b) : aBin P h .mul t X Y (.v (.int k a)) (.v (.int k b)) = some (.v (.int k (a * b)), h) := by rw [aBin_mul, hw]

theorem aLoad_rows {α : Type} [Inhabited α] (t : TypeId) (id : Nat) (r : Nat) (off : Nat) (s : Nat) (l : List α) (f : α → List V) (e : TypeId) (ho : h[id]? = some (.live ⟨s, l.map f, e⟩)) (hr : r < l.length) (x : V) (hx : readAt P t (f (l[r]!)) off = some x) :
    aLoad P h t (.pO id r off) = some (x, h) := by
  have : (l.map f)[r]? = some (f (l[r]!)) := by simp [hr, getElem!_pos]
  simp only [aLoad, rowAt, ho, this, hx]

theorem aStore_rows {α : Type} (t : TypeId) (id : Nat) (r : Nat) (s : Nat) (l : List α) (f : α → List V) (e : TypeId) (x : V) (y : α) (ho : h[id]? = some (.live ⟨s, l.map f, e⟩)) (hr : r < l.length)
    (hl : leaves x = some (f y)) (hs : sizeT P t = some s) (hy : (f y).length = s) (hk : (f y).all leafOk = true) (hz : ∀ z, (f z).length = s) :
    aStore P h t (.pO id r 0) x = some (.any, h.set id (.live ⟨s, (l.set r y).map f, e⟩)) := by
  have h1 : (l.map f)[r]? = some (f l[r]) := by simp [hr]
  simp only [aStore, hl, hs, ho, h1]
  rw [if_pos ⟨hy, hk⟩]
  simp only [hz, Nat.zero_add, List.take_zero, List.nil_append]
  rw [if_pos ⟨Nat.le_refl _, by first | trivial | exact Nat.zero_le _⟩]
  have hn : List.drop s (f l[r]) = [] := List.drop_eq_nil_of_le (by rw [hz]; exact Nat.le_refl _)
  simp [List.map_set, hn]

theorem aMakeSlice_map {α : Type} (t e : TypeId) (s : Nat) (f : α → List V) (d : α) (b : Nat) (ht : P.underlying t = some (.slice e)) (hs : sizeT P e = some s) (hz : zeroCellsV P e = some (f d)) (hl : (f d).length = s) (hb : bytesT P e = some b)
    (k : IntKind) (n : Int) (hn : 0 ≤ n ∧ n ≤ 2 ^ 48 ∧ b * n ≤ 2 ^ 48) : aMakeSlice P h h.length t (.v (.int k n)) (.v (.int k n)) = some (.sO h.length 0 n.toNat, h ++ [.live ⟨s, (List.replicate n.toNat d).map f, e⟩]) := by
  simp only [aMakeSlice, ht, asIdx, hs, hz, hb, hl]
  rw [if_pos ⟨trivial, hn.1, Int.le_refl _, hn.2.1, hn.2.2⟩]
  simp [halloc]

def byteAt (b : ByteArray) (i : Nat) : Int := ((b.get! i).toNat : Int)
theorem byteAt_lt (b : ByteArray) (i : Nat) : 0 ≤ byteAt b i ∧ byteAt b i ≤ 255 := by
  have := (b.get! i).toNat_lt
  unfold byteAt; omega
theorem aIndex_str (t : TypeId) (b : ByteArray) (k : IntKind) (i : Int) (ht : P.underlying t = some .string) (hi : 0 ≤ i ∧ i < b.size) :
    aIndex P h t (.v (.string b)) (.v (.int k i)) = some (.v (.int .u8 (byteAt b i.toNat)), h) := by
  unfold byteAt
  have hlt : i.toNat < b.size := by omega
  have e : pureRun P (Instr.index t (.string b) (.int k i)) = some (.int .u8 (b.get! i.toNat).toNat) := by
    have hg : (if 0 ≤ i then b[i.toNat]? else none) = some (b.get! i.toNat) := by
      rw [if_pos hi.1, getElem?_pos b i.toNat hlt]
      have hd : i.toNat < b.data.size := hlt
      simp only [ByteArray.get!, Option.some.injEq]
      exact (getElem!_pos b.data i.toNat hd).symm
    simp [Instr.index, Go.asIntOf, Go.underlying, ht, pureRun, bind, pure, program, Sem.bind, hg]
  simp only [aIndex, e]
  rfl

theorem aSlice_hi {α : Type} (t e : TypeId) (s : Nat) (f : α → List V) (ht : P.underlying t = some (.slice e)) (hs : sizeT P e = some s) (l : List α) (k : IntKind) (u : Int) (hu : 0 ≤ u ∧ u ≤ l.length) :
    aSlice P h t (.sF s (l.map f)) none (some (.v (.int k u))) = some (.sF s ((l.take u.toNat).map f), h) := by
  simp only [aSlice, ht, bound, hs, if_pos hu.1]
  rw [if_pos ⟨trivial, Nat.zero_le _, by rw [List.length_map]; omega⟩]
  simp
theorem aSlice_lo {α : Type} (t e : TypeId) (s : Nat) (f : α → List V) (ht : P.underlying t = some (.slice e)) (hs : sizeT P e = some s) (l : List α) (k : IntKind) (u : Int) (hu : 0 ≤ u ∧ u ≤ l.length) :
    aSlice P h t (.sF s (l.map f)) (some (.v (.int k u))) none = some (.sF s ((l.drop u.toNat).map f), h) := by
  simp only [aSlice, ht, bound, hs, if_pos hu.1]
  rw [if_pos ⟨trivial, by rw [List.length_map]; omega, Nat.le_refl _⟩]
  rw [List.take_of_length_le (Nat.le_refl _)]
  simp
theorem aSlice_both {α : Type} (t e : TypeId) (s : Nat) (f : α → List V) (ht : P.underlying t = some (.slice e)) (hs : sizeT P e = some s) (l : List α) (k k' : IntKind) (a u : Int) (hu : 0 ≤ a ∧ a ≤ u ∧ u ≤ l.length) :
    aSlice P h t (.sF s (l.map f)) (some (.v (.int k a))) (some (.v (.int k' u))) = some (.sF s (((l.take u.toNat).drop a.toNat).map f), h) := by
  have hu0 : 0 ≤ u := by omega
  simp only [aSlice, ht, bound, hs, if_pos hu.1, if_pos hu0]
  rw [if_pos ⟨trivial, by omega, by rw [List.length_map]; omega⟩]
  simp

theorem aBin_quo (t : TypeId) (X Y : Operand) (k : IntKind) (a b : Int) (hb : b ≠ 0) : aBin P h .quo t X Y (.v (.int k a)) (.v (.int k b)) = some (.v (.int k (k.wrap (a.tdiv b))), h) := by
  have e : pureRun P (do eqGuard .quo t X Y (.int k a) (.int k b); binOp .quo t (.int k a) (.int k b)) = some (.int k (k.wrap (a.tdiv b))) := by
    cases k <;> simp [eqGuard, binOp, Op.intDiv, hb, pureRun, bind, pure, Sem.bind]
  simp only [aBin, toValue, e]
  rfl

end

theorem aBin_cat (P : Program) (h : Heap) (t : TypeId) (X Y : Operand) (a b : ByteArray) (hs : ((a.size + b.size : Nat) : Int) ≤ 9223372036854775807) : aBin P h .add t X Y (.v (.string a)) (.v (.string b)) = some (.v (.string (a ++ b)), h) := by
  have hm : ¬ ((a.size + b.size : Nat) : Int) > IntKind.i64.max := by
    have : IntKind.i64.max = 9223372036854775807 := by decide
    omega
  have e : pureRun P (do eqGuard .add t X Y (.string a) (.string b); binOp .add t (.string a) (.string b)) = some (.string (a ++ b)) := by
    simp only [eqGuard, binOp, Op.stringOp, if_neg hm]
    rfl
  simp only [aBin, toValue, e]
  rfl

/- lists -/
theorem drop_step {α : Type} [Inhabited α] (l : List α) (k : Int) (h : 0 ≤ k ∧ k < l.length) : l.drop k.toNat = l[k.toNat]! :: l.drop (k + 1).toNat := by
  have h1 : k.toNat < l.length := by omega
  rw [List.drop_eq_getElem_cons h1, show (k + 1).toNat = k.toNat + 1 by omega]
  simp [getElem!_pos, h1]
theorem drop_end {α : Type} (l : List α) (k : Int) (h : ¬ k < l.length) : l.drop k.toNat = [] := List.drop_eq_nil_of_le (by omega)
theorem take_step {α : Type} [Inhabited α] (l : List α) (k : Int) (h : 0 ≤ k ∧ k < l.length) : l.take (k + 1).toNat = l.take k.toNat ++ [l[k.toNat]!] := by
  have h1 : k.toNat < l.length := by omega
  rw [show (k + 1).toNat = k.toNat + 1 by omega, List.take_succ_eq_append_getElem h1]
  simp [getElem!_pos, h1]
theorem take_end {α : Type} (l : List α) (k : Int) (h : ¬ k < l.length) : l.take k.toNat = l := List.take_of_length_le (by omega)

theorem get!_set {α : Type} [Inhabited α] (l : List α) (k : Nat) (x : α) (h : k < l.length) : (l.set k x)[k]! = x := by
  rw [getElem!_pos _ _ (by simpa using h)]; simp
theorem take_set_succ {α : Type} (l : List α) (k : Nat) (x : α) (h : k < l.length) : (l.set k x).take (k + 1) = l.take k ++ [x] := by
  rw [List.take_succ_eq_append_getElem (by simpa using h), List.take_set_of_le (Nat.le_refl _)]
  simp

/-- The number of the first element with p, or -1, from k on. -/
def idxFrom {α : Type} (p : α → Bool) : Int → List α → Int
  | _, [] => -1
  | k, x :: xs => if p x = true then k else idxFrom p (k + 1) xs
/-- The first error of a list, with numbers from k on. -/
def errFrom {α : Type} (f : Int → α → Int) : Int → List α → Int
  | _, [] => 0
  | k, x :: xs => if f k x = 0 then errFrom f (k + 1) xs else f k x

theorem errFrom_zero {α : Type} [Inhabited α] (f : Int → α → Int) : ∀ (l : List α) (k : Int), errFrom f k l = 0 → ∀ i : Nat, i < l.length → f (k + i) l[i]! = 0
  | [], k, _, i, hi => by simp at hi
  | x :: xs, k, h, i, hi => by
    by_cases hx : f k x = 0
    · rw [errFrom, if_pos hx] at h
      cases i with
      | zero => simpa using hx
      | succ i =>
        have := errFrom_zero f xs (k + 1) h i (by simpa using hi)
        rw [show k + ((i + 1 : Nat) : Int) = k + 1 + i by omega]
        simpa using this
    · rw [errFrom, if_neg hx] at h; exact absurd h hx
theorem errFrom_zero_int {α : Type} [Inhabited α] {f : Int → α → Int} {l : List α} (h : errFrom f 0 l = 0) (k : Int) (hk : 0 ≤ k ∧ k < l.length) : f k l[k.toNat]! = 0 := by
  have := errFrom_zero f l 0 h k.toNat (by omega)
  rwa [show (0 : Int) + (k.toNat : Int) = k by omega] at this
theorem idxFrom_spec {α : Type} [Inhabited α] (p : α → Bool) : ∀ (l : List α) (k : Int), (idxFrom p k l = -1 ∧ ∀ i : Nat, i < l.length → p l[i]! = false) ∨ (∃ i : Nat, i < l.length ∧ idxFrom p k l = k + i ∧ p l[i]! = true ∧ ∀ j : Nat, j < i → p l[j]! = false)
  | [], k => .inl ⟨rfl, fun i hi => by simp at hi⟩
  | x :: xs, k => by
    rcases hx : p x with _ | _
    · rcases idxFrom_spec p xs (k + 1) with ⟨h1, h2⟩ | ⟨i, h1, h2, h3, h4⟩
      · refine .inl ⟨by simp [idxFrom, hx, h1], fun i hi => ?_⟩
        cases i with
        | zero => simpa using hx
        | succ i => simpa using h2 i (by simpa using hi)
      · refine .inr ⟨i + 1, by simpa using h1, by simp [idxFrom, hx, h2]; omega, by simpa using h3, fun j hj => ?_⟩
        cases j with
        | zero => simpa using hx
        | succ j => simpa using h4 j (by omega)
    · exact .inr ⟨0, by simp, by simp [idxFrom, hx], by simpa using hx, fun j hj => by omega⟩
theorem getElem!_take {α : Type} [Inhabited α] (l : List α) (n i : Nat) (h : i < n) : (l.take n)[i]! = l[i]! := by
  by_cases hl : i < l.length
  · rw [getElem!_pos _ _ (by simp; omega), getElem!_pos l i hl]; simp
  · rw [getElem!_neg _ _ (by simp; omega), getElem!_neg l i hl]


end Go.Abs
