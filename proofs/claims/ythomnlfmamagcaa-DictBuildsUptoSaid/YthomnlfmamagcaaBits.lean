/- Bits, shifts, strings of bytes. -/
import Derived.Test.YthomnlfmamagcaaRows
import Derived.Test.YthomnlfmamagcaaAbsZc
import Derived.Test.YthomnlfmamagcaaLays
namespace Go.Proofs.Ythomnlfmamagcaa
open Go.Abs
set_option linter.unusedVariables false
set_option linter.unusedSimpArgs false

theorem mixed : Try.prog.follows .mixedOrders = true := by kernel_rfl
structure Tag (n : Nat) : Prop where
@[reducible] instance : Inhabited Int := instInhabitedDen (.int .i64)
@[reducible] instance : Inhabited Bool := instInhabitedDen .bool
@[reducible] instance : Inhabited ByteArray := instInhabitedDen .str


theorem u8_wrap (n : Int) : 0 ≤ IntKind.u8.wrap n ∧ IntKind.u8.wrap n < 256 := by simp [IntKind.wrap, IntKind.bits, IntKind.signed]; omega
theorem u32_wrap (n : Int) : 0 ≤ IntKind.u32.wrap n ∧ IntKind.u32.wrap n < 4294967296 := by simp [IntKind.wrap, IntKind.bits, IntKind.signed]; omega
theorem u64_wrap (n : Int) : 0 ≤ IntKind.u64.wrap n ∧ IntKind.u64.wrap n < 18446744073709551616 := by simp [IntKind.wrap, IntKind.bits, IntKind.signed]; omega
theorem u8_id {n : Int} (h : 0 ≤ n ∧ n < 256) : IntKind.u8.wrap n = n := by simp [IntKind.wrap, IntKind.bits, IntKind.signed]; omega
theorem u8_mod (n : Int) : IntKind.u8.wrap n = n % 256 := by simp [IntKind.wrap, IntKind.bits, IntKind.signed]
theorem u32_id {n : Int} (h : 0 ≤ n ∧ n < 4294967296) : IntKind.u32.wrap n = n := by simp [IntKind.wrap, IntKind.bits, IntKind.signed]; omega
theorem u64_id {n : Int} (h : 0 ≤ n ∧ n < 18446744073709551616) : IntKind.u64.wrap n = n := by simp [IntKind.wrap, IntKind.bits, IntKind.signed]; omega
theorem fdiv_pos' (a : Int) (n : Nat) : shrI .u64 a n = a.fdiv (2 ^ (min n 64)) := by simp [shrI, IntKind.bits]
theorem shr7 (a : Int) : shrI .u64 a 7 = a / 128 := by
  have : min (7 : Int).toNat IntKind.u64.bits = 7 := by decide
  unfold shrI; rw [this, Int.fdiv_eq_ediv_of_nonneg _ (by decide)]; rfl
theorem all256 {p : Nat → Bool} (h : (List.range 256).all p = true) {n : Int} (hn : 0 ≤ n ∧ n < 256) : p n.toNat = true :=
  List.all_eq_true.1 h _ (by simp; omega)
theorem or128 {a : Int} (h : 0 ≤ a ∧ a < 256) : bOr .u8 a 128 = a % 128 + 128 := by
  have := all256 (p := fun n => decide (bOr .u8 (n : Int) 128 = (n : Int) % 128 + 128)) (by kernel_rfl) h
  have := of_decide_eq_true this
  rwa [Int.toNat_of_nonneg h.1] at this
theorem and127 {a : Int} (h : 0 ≤ a ∧ a < 256) : bAnd .u8 a 127 = a % 128 := by
  have := all256 (p := fun n => decide (bAnd .u8 (n : Int) 127 = (n : Int) % 128)) (by kernel_rfl) h
  have := of_decide_eq_true this
  rwa [Int.toNat_of_nonneg h.1] at this
theorem andn128 {a : Int} (h : 0 ≤ a ∧ a < 256) : bAndN .u8 a 128 = a % 128 := by
  have := all256 (p := fun n => decide (bAndN .u8 (n : Int) 128 = (n : Int) % 128)) (by kernel_rfl) h
  have := of_decide_eq_true this
  rwa [Int.toNat_of_nonneg h.1] at this
theorem bXor_u8 (a b : Int) : 0 ≤ bXor .u8 a b ∧ bXor .u8 a b < 256 := u8_wrap _
theorem bXor_u32 (a b : Int) : 0 ≤ bXor .u32 a b ∧ bXor .u32 a b < 4294967296 := u32_wrap _
theorem bXor0 {a : Int} (h : 0 ≤ a ∧ a < 4294967296) : bXor .u32 a 0 = a := by
  unfold bXor
  rw [show BitVec.ofInt IntKind.u32.bits 0 = 0#IntKind.u32.bits from rfl, BitVec.xor_zero]
  rw [BitVec.toNat_ofInt]
  have : ((a % ((2 ^ IntKind.u32.bits : Nat) : Int)).toNat : Int) = a := by
    simp [IntKind.bits]; omega
  rw [this, u32_id h]
theorem bAnd1 {a : Int} (h : 0 ≤ a ∧ a < 4294967296) : bAnd .u32 a 1 = a % 2 := by
  unfold bAnd
  have e1 : (BitVec.ofInt IntKind.u32.bits a &&& BitVec.ofInt IntKind.u32.bits 1).toNat = (a % 2).toNat := by
    rw [BitVec.toNat_and, BitVec.toNat_ofInt, BitVec.toNat_ofInt]
    have : ((1 : Int) % ((2 ^ IntKind.u32.bits : Nat) : Int)).toNat = 1 := by decide
    rw [this, Nat.and_one_is_mod]
    simp [IntKind.bits]; omega
  rw [e1, u32_id (by omega)]; omega
theorem shr_u32 {a : Int} (h : 0 ≤ a ∧ a < 4294967296) (n : Nat) : 0 ≤ shrI .u32 a n ∧ shrI .u32 a n < 4294967296 := by
  unfold shrI
  have hp : (0 : Int) < 2 ^ (min ((n : Int)).toNat IntKind.u32.bits) := Int.pow_pos (by decide)
  rw [Int.fdiv_eq_ediv_of_nonneg _ (by omega)]
  exact ⟨Int.ediv_nonneg h.1 (by omega), Int.lt_of_le_of_lt (Int.ediv_le_self _ h.1) h.2⟩
theorem take_set {α : Type} (l : List α) (k : Nat) (v : α) (h : k < l.length) : (l.set k v).take (k + 1) = l.take k ++ [v] := by
  apply List.ext_getElem?
  intro i
  rw [List.getElem?_take, List.getElem?_append, List.getElem?_take]
  simp only [List.length_take, List.getElem?_set]
  by_cases h1 : i < k
  · rw [if_pos (by omega), if_neg (by omega), if_pos (by omega), if_pos h1]
  · by_cases h2 : i = k
    · subst h2
      rw [if_pos (by omega), if_pos rfl, if_pos h, if_neg (by omega)]
      simp [Nat.min_eq_left (Nat.le_of_lt h)]
    · rw [if_neg (by omega), if_neg (by omega)]
      simp; omega
theorem ofInts_app (a b : List Int) : ofInts (a ++ b) = ofInts a ++ ofInts b := by
  apply ByteArray.ext
  simp [ofInts]
theorem ofInts_len (l : List Int) : (ofInts l).size = l.length := by simp [ofInts, ByteArray.size]
theorem byteAt_rng (s : ByteArray) (i : Nat) : 0 ≤ byteAt s i ∧ byteAt s i < 256 := by
  unfold byteAt
  have := (s.get! i).toNat_lt
  omega

end Go.Proofs.Ythomnlfmamagcaa
