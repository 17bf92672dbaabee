/- Objects, names, and what a store does. -/
import Derived.Test.YtpjgjkoajoiopaaRows
import Derived.Test.YtpjgjkoajoiopaaAbsZc
import Derived.Test.YtpjgjkoajoiopaaLays
import Derived.Test.YtpjgjkoajoiopaaDel
namespace Go.Proofs.Ytpjgjkoajoiopaa
open Go.Abs
set_option linter.unusedVariables false
set_option linter.unusedSimpArgs false


theorem mixed : Try.prog.follows .mixedOrders = true := by kernel_rfl
structure Tag (n : Nat) : Prop where
@[reducible] instance : Inhabited Int := instInhabitedDen (.int .i64)
@[reducible] instance : Inhabited Bool := instInhabitedDen .bool
@[reducible] instance : Inhabited ByteArray := instInhabitedDen .str
abbrev EMP : ByteArray := ⟨#[]⟩

abbrev tObj : Ty := .pair .str (.pair .str (.int .i64))
abbrev Obj : Type := ByteArray × ByteArray × Int
@[reducible] instance : Inhabited Obj := instInhabitedDen tObj


abbrev tRest : Ty := .pair .bool (.pair .bool (.pair (.int .i64) (.int .i64)))
abbrev tSt : Ty := .pair (.int .i64) (.pair (.list tObj) tRest)
abbrev Rest : Type := Bool × Bool × Int × Int
/-- A store: capacity, objects, crashed, armed, wait, keep. -/
abbrev St : Type := Int × List Obj × Bool × Bool × Int × Int
abbrev StA : Type := Int × (Bool × List Obj) × Bool × Bool × Int × Int
abbrev shA : Sh := .ptr 61 (.pair (.val (.int .i64)) (.pair (.own tObj 42) (.val tRest)))
abbrev shB : Sh := .ptr 76 (.pair (.val (.int .i64)) (.pair (.opt tObj 42) (.val tRest)))
abbrev shA0 : Sh := .pair (.val (.int .i64)) (.pair (.own tObj 42) (.val tRest))
abbrev shB0 : Sh := .pair (.val (.int .i64)) (.pair (.opt tObj 42) (.val tRest))
def capN (c : Int) : Int := if 1 ≤ c ∧ c ≤ 1073741824 then c else 0
abbrev toQ (a : StA) : St := (a.1, a.2.1.2, a.2.2)
abbrev mkA (b : Bool) (q : St) : StA := (q.1, (b, q.2.1), q.2.2)
abbrev wL (q : St) (l : List Obj) : St := (q.1, l, q.2.2)
def nmS (l : List Obj) : List ByteArray := l.map (fun o => o.1)
def posS (l : List Obj) (n : ByteArray) : Nat := plS (nmS l) n
def hasS (l : List Obj) (n : ByteArray) : Bool := decide (posS l n < l.length) && decide ((nmS l)[posS l n]! = n)
def permS (n : ByteArray) : Bool := decide (n.size ≠ 0) && (decide (n.size ≤ 16) && decide (∀ t : Nat, t < n.size → 33 ≤ byteAt n t ∧ byteAt n t ≤ 126))
def usedS (l : List Obj) : Int := (l.map (fun o => (o.2.1.size : Int))).sum
def cutD (k : Int) (o : Obj) : ByteArray := if k < o.2.1.size - o.2.2 then o.2.1.extract 0 (o.2.2 + k).toNat else o.2.1
def cutO (k : Int) (o : Obj) : Obj := (o.1, cutD k o, ((cutD k o).size : Int))
def goneO (o : Obj) : Bool := decide (o.2.1 = EMP)
def fallS (l : List Obj) (k : Int) : List Obj := (l.map (cutO k)).filter (fun o => !goneO o)
def fireB (q : St) : Bool := q.2.2.2.1 && decide (q.2.2.2.2.1 - 1 < 0)
def fireQ (q : St) : St := if q.2.2.2.1 = true then (q.1, q.2.1, q.2.2.1, q.2.2.2.1, q.2.2.2.2.1 - 1, q.2.2.2.2.2) else q
def fallQ (q : St) (k : Int) : St := (q.1, fallS q.2.1 k, true, false, q.2.2.2.2)
def okL (l : List Obj) : Prop := ascS (nmS l) ∧ l.length ≤ 4096 ∧ ∀ o, o ∈ l → 0 ≤ o.2.2 ∧ o.2.2 ≤ o.2.1.size ∧ o.2.1.size ≤ 1073741824
def okQ (q : St) : Prop := okL q.2.1 ∧ (1 ≤ q.1 ∧ q.1 ≤ 1073741824) ∧ usedS q.2.1 ≤ q.1 ∧ (q.2.2.2.1 = true → 0 ≤ q.2.2.2.2.1) ∧ (-1 ≤ q.2.2.2.2.1 ∧ q.2.2.2.2.1 ≤ 9223372036854775807) ∧ 0 ≤ q.2.2.2.2.2 ∧ q.2.2.2.2.2 ≤ 9223372036854775807
/-- What a change does: the store that it would leave, if no crash is due. -/
def doQ (q r : St) : St × Int := if fireB q = true then (fallQ (fireQ q) q.2.2.2.2.2, 15) else (fireQ r, 0)
def createQ (q : St) (n : ByteArray) : St × Int := if q.2.2.1 = true then (q, 15) else if permS n = false then (q, 3) else if hasS q.2.1 n = true then (q, 5) else if q.2.1.length ≥ 4096 then (q, 7)
  else doQ q (wL q (insL q.2.1 (posS q.2.1 n) (n, EMP, 0)))
def knownQ (q : St) (n : ByteArray) : Int := if q.2.2.1 = true then 15 else if hasS q.2.1 n = false then 6 else 0
def atQ (q : St) (n : ByteArray) : Obj := q.2.1[posS q.2.1 n]!
def putQ (q : St) (n : ByteArray) (o : Obj) : St := wL q (q.2.1.set (posS q.2.1 n) o)
def appQ (q : St) (n d : ByteArray) : St := putQ q n ((atQ q n).1, (atQ q n).2.1 ++ d, (atQ q n).2.2)
def appendQ (q : St) (n d : ByteArray) : St × Int := if knownQ q n ≠ 0 then (q, knownQ q n) else if (d.size : Int) > q.1 - usedS q.2.1 then (q, 14) else doQ (appQ q n d) (appQ q n d)
def syncQ (q : St) (n : ByteArray) : St × Int := if knownQ q n ≠ 0 then (q, knownQ q n) else doQ q (putQ q n ((atQ q n).1, (atQ q n).2.1, ((atQ q n).2.1.size : Int)))
def truncQ (q : St) (n : ByteArray) (m : Int) : St × Int := if knownQ q n ≠ 0 then (q, knownQ q n) else if m < 0 ∨ m > (q.2.1[posS q.2.1 n]!).2.1.size then (q, 4) else doQ q (putQ q n ((atQ q n).1, (atQ q n).2.1.extract 0 m.toNat, m))
def deleteQ (q : St) (n : ByteArray) : St × Int := if knownQ q n ≠ 0 then (q, knownQ q n) else doQ q (wL q (q.2.1.eraseIdx (posS q.2.1 n)))
def readQ (q : St) (n : ByteArray) : ByteArray × Int := if knownQ q n ≠ 0 then (EMP, knownQ q n) else ((atQ q n).2.1, 0)
def listQ (q : St) : List ByteArray := if q.2.2.1 = true then [] else nmS q.2.1
def armQ (q : St) (n k : Int) : St × Int := if q.2.2.1 = true then (q, 15) else if n < 0 ∨ k < 0 then (q, 4) else ((q.1, q.2.1, q.2.2.1, true, n, k), 0)
def crashQ (q : St) (k : Int) : St × Int := if q.2.2.1 = true then (q, 15) else if k < 0 then (q, 4) else (fallQ q k, 0)
def restartQ (q : St) : St := (q.1, q.2.1, false, q.2.2.2)
def flipD (d : ByteArray) (a b : Int) : ByteArray := ofInts ((toInts d).set a.toNat (bXor .u8 (toInts d)[a.toNat]! b))
def flipQ (q : St) (n : ByteArray) (a b : Int) : St × Int := if knownQ q n ≠ 0 then (q, knownQ q n) else if a < 0 ∨ a ≥ (q.2.1[posS q.2.1 n]!).2.1.size then (q, 4) else (putQ q n ((atQ q n).1, flipD (atQ q n).2.1 a b, (atQ q n).2.2), 0)
theorem nm_len (l : List Obj) : (nmS l).length = l.length := by simp [nmS]
theorem nm_get (l : List Obj) {i : Nat} (h : i < l.length) : (nmS l)[i]! = (l[i]!).1 := by
  rw [getElem!_pos (nmS l) i (by rw [nm_len]; exact h), getElem!_pos l i h]; simp [nmS]
theorem perm_no {n : ByteArray} {t : Nat} (h : t < n.size) (h2 : ¬ (33 ≤ byteAt n t ∧ byteAt n t ≤ 126)) : permS n = false := by
  have : ¬ (∀ t : Nat, t < n.size → 33 ≤ byteAt n t ∧ byteAt n t ≤ 126) := fun q => h2 (q t h)
  simp [permS]
  intros
  exact ⟨t, h, fun q => by omega⟩
theorem perm_size {n : ByteArray} (h : n.size < 1 ∨ n.size > 16) : false = permS n := by
  simp only [permS]
  rcases h with h | h
  · rw [decide_eq_false (show ¬ n.size ≠ 0 by omega)]; rfl
  · rw [decide_eq_false (show ¬ n.size ≤ 16 by omega)]; simp
theorem perm_yes {n : ByteArray} {k : Int} (hp : ∀ t : Nat, (t : Int) < k → 33 ≤ byteAt n t ∧ byteAt n t ≤ 126) (hk : (n.size : Int) ≤ k) (h : 1 ≤ n.size ∧ n.size ≤ 16) : true = permS n := by
  have h2 : ∀ t : Nat, t < n.size → 33 ≤ byteAt n t ∧ byteAt n t ≤ 126 := fun t ht => hp t (by omega)
  simp only [permS]
  rw [decide_eq_true h2, decide_eq_true (show n.size ≠ 0 by omega), decide_eq_true h.2]; rfl
theorem perm_end {n : ByteArray} {k : Int} (hp : ∀ t : Nat, (t : Int) < k → 33 ≤ byteAt n t ∧ byteAt n t ≤ 126) (hk : k = n.size) (h : ¬ n = ⟨#[]⟩) : decide ((n.size : Int) ≤ 16) = permS n := by
  have h1 : n.size ≠ 0 := fun q => h (ByteArray.ext (Array.eq_empty_of_size_eq_zero q))
  have h2 : ∀ t : Nat, t < n.size → 33 ≤ byteAt n t ∧ byteAt n t ≤ 126 := fun t ht => hp t (by omega)
  have e : permS n = (decide (n.size ≠ 0) && (decide (n.size ≤ 16) && true)) := by simp only [permS, decide_eq_true h2]
  rw [e, decide_eq_true h1, Bool.true_and, Bool.and_true]
  congr 1; simp; omega
theorem mid_eq {i j : Int} (h : 0 ≤ i ∧ i ≤ j ∧ j ≤ 4611686018427387904) : shrI .u64 (IntKind.u64.wrap (i + j)) 1 = (i + j) / 2 := by
  rw [IntWalk.u64_in _ (by omega)]
  unfold shrI
  have : min (1 : Int).toNat IntKind.u64.bits = 1 := by decide
  rw [this, Int.fdiv_eq_ediv_of_nonneg _ (by decide)]; rfl
theorem low_ok {l : List Obj} {n : ByteArray} (ha : ascS (nmS l)) {m : Nat} (hm : m < l.length) (h : cmpB (l[m]!).1 n < 0) (t : Nat) (ht : t < m + 1) : strLt (nmS l)[t]! n = true := by
  have h2 : strLt (nmS l)[m]! n = true := by rw [nm_get l hm]; exact (cmpB1_lt _ _).1 h
  rcases Nat.lt_or_ge t m with q | q
  · exact sLt_trans (ascS_get ha q (by rw [nm_len]; exact hm)) h2
  · rw [show t = m by omega]; exact h2
theorem high_ok {l : List Obj} {n : ByteArray} (ha : ascS (nmS l)) {m : Nat} (h : ¬ cmpB (l[m]!).1 n < 0) (t : Nat) (hm : m ≤ t) (ht : t < l.length) : ¬ strLt (nmS l)[t]! n = true := by
  have h2 : ¬ strLt (nmS l)[m]! n = true := by rw [nm_get l (by omega)]; exact fun q => h ((cmpB1_lt _ _).2 q)
  rcases Nat.lt_or_ge m t with q | q
  · exact fun p => h2 (sLt_trans (ascS_get ha q (by rw [nm_len]; exact ht)) p)
  · rw [show t = m by omega]; exact h2
theorem pos_of {l : List Obj} {n : ByteArray} {i j : Int} (hi : 0 ≤ i ∧ i ≤ j ∧ j ≤ l.length) (hj : ¬ i < j) (h1 : ∀ t : Nat, (t : Int) < i → strLt (nmS l)[t]! n = true) (h2 : ∀ t : Nat, j ≤ (t : Int) → t < l.length → ¬ strLt (nmS l)[t]! n = true) : i = (posS l n : Int) := by
  have : posS l n = i.toNat := plS_unique (fun t ht => h1 t (by omega)) (by rw [nm_len]; omega) (by
    rw [nm_len]
    rcases Nat.lt_or_ge i.toNat l.length with q | q
    · exact .inr (h2 _ (by omega) q)
    · exact .inl (by omega))
  omega
theorem has_of {l : List Obj} {n : ByteArray} {i : Int} (hi : 0 ≤ i) (e : i = (posS l n : Int)) (h : i < l.length) : decide (cmpB (l[i.toNat]!).1 n = 0) = hasS l n := by
  have e2 : posS l n = i.toNat := by omega
  have hl : i.toNat < l.length := by omega
  have : hasS l n = decide ((l[i.toNat]!).1 = n) := by
    rw [hasS, e2, decide_eq_true hl, Bool.true_and, nm_get l hl]
  rw [this]
  exact decide_eq_decide.2 (cmpB1_eq _ _)
theorem has_no {l : List Obj} {n : ByteArray} {i : Int} (e : i = (posS l n : Int)) (h : ¬ i < l.length) : false = hasS l n := by
  have : ¬ posS l n < l.length := by omega
  rw [hasS, decide_eq_false this, Bool.false_and]
theorem has_nil (n : ByteArray) : hasS [] n = false := by simp [hasS]
theorem pos_le (l : List Obj) (n : ByteArray) : posS l n ≤ l.length := by have := plS_le (nmS l) n; rw [nm_len] at this; exact this
theorem has_lt {l : List Obj} {n : ByteArray} (h : hasS l n = true) : posS l n < l.length ∧ (l[posS l n]!).1 = n := by
  simp only [hasS, Bool.and_eq_true, decide_eq_true_eq] at h
  exact ⟨h.1, by rw [← nm_get l h.1]; exact h.2⟩
theorem has_lt2 {l : List Obj} {n : ByteArray} (h : (!hasS l n) = false) : posS l n < l.length ∧ (l[posS l n]!).1 = n := has_lt (by simpa using h)

end Go.Proofs.Ytpjgjkoajoiopaa
