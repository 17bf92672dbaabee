/- Bits, shifts, strings of bytes; widths; packing. -/
import Derived.Test.YtlamfjhhjfgemaaGreatRows
import Derived.Test.YtlamfjhhjfgemaaGreatAbsZc
import Derived.Test.YtlamfjhhjfgemaaGreatLays
namespace Go.Proofs.YtlamfjhhjfgemaaGreat
open Go.Abs
set_option linter.unusedVariables false
set_option linter.unusedSimpArgs false

theorem mixed : Tryz.prog.follows .mixedOrders = true := by kernel_rfl
structure Tag (n : Nat) : Prop where
@[reducible] instance : Inhabited Int := instInhabitedDen (.int .i64)
@[reducible] instance : Inhabited Bool := instInhabitedDen .bool
@[reducible] instance : Inhabited ByteArray := instInhabitedDen .str


theorem u8_wrap (n : Int) : 0 ≤ IntKind.u8.wrap n ∧ IntKind.u8.wrap n < 256 := by simp [IntKind.wrap, IntKind.bits, IntKind.signed]; omega
theorem u32_wrap (n : Int) : 0 ≤ IntKind.u32.wrap n ∧ IntKind.u32.wrap n < 4294967296 := by simp [IntKind.wrap, IntKind.bits, IntKind.signed]; omega
theorem u64_wrap (n : Int) : 0 ≤ IntKind.u64.wrap n ∧ IntKind.u64.wrap n < 18446744073709551616 := by simp [IntKind.wrap, IntKind.bits, IntKind.signed]; omega
theorem u8_id {n : Int} (h : 0 ≤ n ∧ n < 256) : IntKind.u8.wrap n = n := by simp [IntKind.wrap, IntKind.bits, IntKind.signed]; omega
theorem u8_mod (n : Int) : IntKind.u8.wrap n = n % 256 := by simp [IntKind.wrap, IntKind.bits, IntKind.signed]
theorem u32_id {n : Int} (h : 0 ≤ n ∧ n < 4294967296) : IntKind.u32.wrap n = n := by simp [IntKind.wrap, IntKind.bits, IntKind.signed]; omega
theorem u64_id {n : Int} (h : 0 ≤ n ∧ n < 18446744073709551616) : IntKind.u64.wrap n = n := by simp [IntKind.wrap, IntKind.bits, IntKind.signed]; omega
theorem shr7 (a : Int) : shrI .u64 a 7 = a / 128 := by
  have : min (7 : Int).toNat IntKind.u64.bits = 7 := by decide
  unfold shrI; rw [this, Int.fdiv_eq_ediv_of_nonneg _ (by decide)]; rfl
theorem all256 {p : Nat → Bool} (h : (List.range 256).all p = true) {n : Int} (hn : 0 ≤ n ∧ n < 256) : p n.toNat = true :=
  List.all_eq_true.1 h _ (by simp; omega)
theorem or128 {a : Int} (h : 0 ≤ a ∧ a < 256) : bOr .u8 a 128 = a % 128 + 128 := by
  have := all256 (p := fun n => decide (bOr .u8 (n : Int) 128 = (n : Int) % 128 + 128)) (by kernel_rfl) h
  have := of_decide_eq_true this
  rwa [Int.toNat_of_nonneg h.1] at this
theorem andn128 {a : Int} (h : 0 ≤ a ∧ a < 256) : bAndN .u8 a 128 = a % 128 := by
  have := all256 (p := fun n => decide (bAndN .u8 (n : Int) 128 = (n : Int) % 128)) (by kernel_rfl) h
  have := of_decide_eq_true this
  rwa [Int.toNat_of_nonneg h.1] at this
theorem bXor_u8 (a b : Int) : 0 ≤ bXor .u8 a b ∧ bXor .u8 a b < 256 := u8_wrap _
theorem bXor_u32 (a b : Int) : 0 ≤ bXor .u32 a b ∧ bXor .u32 a b < 4294967296 := u32_wrap _
theorem bXor0 {a : Int} (h : 0 ≤ a ∧ a < 4294967296) : bXor .u32 a 0 = a := by
  unfold bXor
  rw [show BitVec.ofInt IntKind.u32.bits 0 = 0#IntKind.u32.bits from rfl, BitVec.xor_zero]
  rw [BitVec.toNat_ofInt]
  have : ((a % ((2 ^ IntKind.u32.bits : Nat) : Int)).toNat : Int) = a := by
    simp [IntKind.bits]; omega
  rw [this, u32_id h]
theorem bAnd1 {a : Int} (h : 0 ≤ a ∧ a < 4294967296) : bAnd .u32 a 1 = a % 2 := by
  unfold bAnd
  have e1 : (BitVec.ofInt IntKind.u32.bits a &&& BitVec.ofInt IntKind.u32.bits 1).toNat = (a % 2).toNat := by
    rw [BitVec.toNat_and, BitVec.toNat_ofInt, BitVec.toNat_ofInt]
    have : ((1 : Int) % ((2 ^ IntKind.u32.bits : Nat) : Int)).toNat = 1 := by decide
    rw [this, Nat.and_one_is_mod]
    simp [IntKind.bits]; omega
  rw [e1, u32_id (by omega)]; omega
theorem shr_u32 {a : Int} (h : 0 ≤ a ∧ a < 4294967296) (n : Nat) : 0 ≤ shrI .u32 a n ∧ shrI .u32 a n < 4294967296 := by
  unfold shrI
  have hp : (0 : Int) < 2 ^ (min ((n : Int)).toNat IntKind.u32.bits) := Int.pow_pos (by decide)
  rw [Int.fdiv_eq_ediv_of_nonneg _ (by omega)]
  exact ⟨Int.ediv_nonneg h.1 (by omega), Int.lt_of_le_of_lt (Int.ediv_le_self _ h.1) h.2⟩
theorem take_set {α : Type} (l : List α) (k : Nat) (v : α) (h : k < l.length) : (l.set k v).take (k + 1) = l.take k ++ [v] := by
  apply List.ext_getElem?
  intro i
  rw [List.getElem?_take, List.getElem?_append, List.getElem?_take]
  simp only [List.length_take, List.getElem?_set]
  by_cases h1 : i < k
  · rw [if_pos (by omega), if_neg (by omega), if_pos (by omega), if_pos h1]
  · by_cases h2 : i = k
    · subst h2
      rw [if_pos (by omega), if_pos rfl, if_pos h, if_neg (by omega)]
      simp [Nat.min_eq_left (Nat.le_of_lt h)]
    · rw [if_neg (by omega), if_neg (by omega)]
      simp; omega
theorem ofInts_app (a b : List Int) : ofInts (a ++ b) = ofInts a ++ ofInts b := by
  apply ByteArray.ext
  simp [ofInts]
theorem ofInts_len (l : List Int) : (ofInts l).size = l.length := by simp [ofInts, ByteArray.size]
theorem byteAt_rng (s : ByteArray) (i : Nat) : 0 ≤ byteAt s i ∧ byteAt s i < 256 := by
  unfold byteAt
  have := (s.get! i).toNat_lt
  omega

abbrev tVal : Ty := .pair .bool (.pair (.int .i64) .str)
abbrev Val : Type := Bool × Int × ByteArray
@[reducible] instance : Inhabited Val := instInhabitedDen tVal

abbrev tCol : Ty := .pair .str (.pair (.int .i64) (.pair (.int .i64) .bool))
abbrev Col : Type := ByteArray × Int × Int × Bool
@[reducible] instance : Inhabited Col := instInhabitedDen tCol


/- Groups of bits: the number whose bits are those of f from i * w on, as far as they lie before m. -/
def gs (f : Nat → Int) (m w i : Nat) : Nat → Int
  | 0 => 0
  | t + 1 => gs f m w i t + (if i * w + t < m then f (i * w + t) * 2 ^ t else 0)
def bit01 (f : Nat → Int) : Prop := ∀ q, f q = 0 ∨ f q = 1
theorem pow2_pos (t : Nat) : (0 : Int) < 2 ^ t := Int.pow_pos (by decide)
theorem pow2_succ (t : Nat) : (2 : Int) ^ (t + 1) = 2 * 2 ^ t := by rw [Int.pow_succ]; omega
theorem gs_lt {f : Nat → Int} (hf : bit01 f) (m w i : Nat) : ∀ t, 0 ≤ gs f m w i t ∧ gs f m w i t < 2 ^ t
  | 0 => by simp [gs]
  | t + 1 => by
    have h := gs_lt hf m w i t
    have hp := pow2_pos t
    rw [gs, pow2_succ]
    split
    · rcases hf (i * w + t) with q | q <;> rw [q] <;> omega
    · omega
theorem gs_stop {f : Nat → Int} {m w i : Nat} : ∀ {t t0 : Nat}, t0 ≤ t → (∀ u, t0 ≤ u → u < t → ¬ i * w + u < m) → gs f m w i t = gs f m w i t0
  | 0, t0, h, _ => by rw [show t0 = 0 by omega]
  | t + 1, t0, h, hu => by
    rcases Nat.eq_or_lt_of_le h with q | q
    · rw [q]
    · rw [gs, if_neg (hu t (by omega) (by omega)), gs_stop (t0 := t0) (by omega) (fun u h1 h2 => hu u h1 (by omega))]; omega
theorem div_mod_of {i w t m : Nat} (ht : t < w) (h : i * w + t = m) : i = m / w ∧ t = m % w := by
  subst h
  constructor
  · rw [Nat.add_comm, Nat.add_mul_div_right _ _ (by omega), Nat.div_eq_of_lt ht, Nat.zero_add]
  · rw [Nat.add_comm, Nat.add_mul_mod_self_right, Nat.mod_eq_of_lt ht]
theorem gs_step_t {f : Nat → Int} {m w i : Nat} (hw : 0 < w) : ∀ t, t ≤ w → gs f (m + 1) w i t = gs f m w i t + (if i = m / w ∧ m % w < t then f m * 2 ^ (m % w) else 0)
  | 0, _ => by simp [gs]
  | t + 1, ht => by
    rw [gs, gs, gs_step_t hw t (by omega)]
    by_cases q : i * w + t = m
    · obtain ⟨q1, q2⟩ := div_mod_of (by omega) q
      rw [if_neg (by omega), if_pos (by omega), if_neg (by omega), if_pos ⟨q1, by omega⟩, q, ← q2]; (try omega)
    · have q' : ¬ (i = m / w ∧ t = m % w) := fun h => q (by
        have := Nat.div_add_mod m w
        rw [h.1, h.2, Nat.mul_comm]; exact this)
      by_cases r : i * w + t < m
      · rw [if_pos (show i * w + t < m + 1 by omega), if_pos r]
        by_cases c : i = m / w ∧ m % w < t
        · rw [if_pos c, if_pos ⟨c.1, by omega⟩]; omega
        · rw [if_neg c, if_neg (fun h => c ⟨h.1, by omega⟩)]; omega
      · rw [if_neg (show ¬ i * w + t < m + 1 by omega), if_neg r]
        by_cases c : i = m / w ∧ m % w < t
        · rw [if_pos c, if_pos ⟨c.1, by omega⟩]; omega
        · rw [if_neg c, if_neg (fun h => c ⟨h.1, by omega⟩)]
theorem gs_step {f : Nat → Int} {m w : Nat} (hw : 0 < w) (i : Nat) : gs f (m + 1) w i w = gs f m w i w + (if i = m / w then f m * 2 ^ (m % w) else 0) := by
  rw [gs_step_t hw w (Nat.le_refl _)]
  have := Nat.mod_lt m hw
  by_cases c : i = m / w
  · rw [if_pos ⟨c, this⟩, if_pos c]
  · rw [if_neg (fun h => c h.1), if_neg c]
theorem gs_bound {f : Nat → Int} (hf : bit01 f) {m w : Nat} (hw : 0 < w) : 0 ≤ gs f m w (m / w) w ∧ gs f m w (m / w) w < 2 ^ (m % w) := by
  have h := Nat.mod_lt m hw
  rw [gs_stop (t := w) (t0 := m % w) (by omega) (fun u h1 h2 => by
    have := Nat.div_add_mod m w
    rw [Nat.mul_comm] at this; omega)]
  exact gs_lt hf _ _ _ _
/-- All groups. -/
def gL (f : Nat → Int) (m w n : Nat) : List Int := (List.range n).map fun i => gs f m w i w
theorem gL_len (f : Nat → Int) (m w n : Nat) : (gL f m w n).length = n := by simp [gL]
theorem gL_get {f : Nat → Int} {m w n i : Nat} (h : i < n) : (gL f m w n)[i]! = gs f m w i w := by
  rw [getElem!_pos _ i (by rw [gL_len]; exact h)]; simp [gL]
theorem gL_zero (f : Nat → Int) (w n : Nat) : gL f 0 w n = List.replicate n 0 := by
  have h0 : ∀ i t, gs f 0 w i t = 0 := by
    intro i t
    induction t with
    | zero => rfl
    | succ t ih => rw [gs, ih, if_neg (by omega)]; rfl
  unfold gL
  apply List.ext_getElem
  · simp
  · intro i h1 h2
    simp [h0]
theorem gL_step {f : Nat → Int} {m w n : Nat} (hw : 0 < w) (hm : m / w < n) : (gL f m w n).set (m / w) (gs f m w (m / w) w + f m * 2 ^ (m % w)) = gL f (m + 1) w n := by
  apply List.ext_getElem
  · simp [gL]
  · intro i h1 h2
    rw [List.getElem_set]
    simp only [gL, List.getElem_map, List.getElem_range]
    rw [gs_step hw]
    by_cases c : m / w = i
    · rw [if_pos c, if_pos c.symm, c]
    · rw [if_neg c, if_neg (fun h => c h.symm)]; omega
theorem gL_same {f : Nat → Int} {m w n : Nat} (hw : 0 < w) (h0 : f m = 0) : gL f m w n = gL f (m + 1) w n := by
  unfold gL
  refine List.map_congr_left fun i _ => ?_
  rw [gs_step hw, h0]
  split <;> omega
/-- A bit of a group. -/
theorem gs_bit {f : Nat → Int} (hf : bit01 f) {m w i : Nat} : ∀ {n t : Nat}, t < n → (gs f m w i n / 2 ^ t) % 2 = if i * w + t < m then f (i * w + t) else 0
  | 0, t, h => by omega
  | n + 1, t, h => by
    rw [gs]
    have hl := gs_lt hf m w i n
    have hp := pow2_pos t
    rcases Nat.eq_or_lt_of_le (Nat.lt_succ_iff.1 h) with q | q
    · subst q
      have key : ∀ b : Int, (gs f m w i t + b * 2 ^ t) / 2 ^ t = b := fun b => by
        rw [Int.add_mul_ediv_right _ _ (by omega), Int.ediv_eq_zero_of_lt hl.1 hl.2]; omega
      split
      · rw [key]
        rcases hf (i * w + t) with q | q <;> rw [q] <;> rfl
      · have := key 0
        rw [Int.zero_mul] at this
        rw [this]; rfl
    · have hs : ∀ b : Int, (gs f m w i n + b * 2 ^ n) / 2 ^ t % 2 = gs f m w i n / 2 ^ t % 2 := fun b => by
        obtain ⟨d, rfl⟩ : ∃ d, n = t + (d + 1) := ⟨n - t - 1, by omega⟩
        rw [Int.pow_add, show b * (2 ^ t * 2 ^ (d + 1)) = (b * 2 ^ (d + 1)) * 2 ^ t by rw [Int.mul_comm ((2 : Int) ^ t), Int.mul_assoc], Int.add_mul_ediv_right _ _ (by omega), pow2_succ]
        rw [show b * (2 * 2 ^ d) = 2 * (b * 2 ^ d) by rw [Int.mul_left_comm]]
        omega
      rw [← gs_bit hf (i := i) (m := m) (w := w) q]
      split
      · exact hs _
      · have := hs 0
        rw [Int.zero_mul] at this
        exact this
/-- A number is the sum of its bits. -/
theorem gs_self {v : Int} {f : Nat → Int} {m w i : Nat} (hv : 0 ≤ v) : ∀ t, (∀ u, u < t → i * w + u < m ∧ f (i * w + u) = v / 2 ^ u % 2) → gs f m w i t = v % 2 ^ t
  | 0, _ => by simp [gs]
  | t + 1, h => by
    rw [gs, gs_self hv t (fun u hu => h u (by omega)), if_pos (h t (by omega)).1, (h t (by omega)).2, pow2_succ]
    have hp := pow2_pos t
    have e1 := Int.emod_add_mul_ediv v (2 ^ t)
    have e2 := Int.emod_add_mul_ediv (v / 2 ^ t) 2
    have e3 := Int.emod_nonneg v (show (2 : Int) ^ t ≠ 0 by omega)
    have e4 := Int.emod_lt_of_pos v hp
    have e5 := Int.emod_nonneg (v / 2 ^ t) (show (2 : Int) ≠ 0 by decide)
    have e6 := Int.emod_lt_of_pos (v / 2 ^ t) (show (0 : Int) < 2 by decide)
    have e7 : v = (v % 2 ^ t + v / 2 ^ t % 2 * 2 ^ t) + (2 * 2 ^ t) * (v / 2 ^ t / 2) := by
      have a1 : (2 : Int) ^ t * (v / 2 ^ t) = v / 2 ^ t % 2 * 2 ^ t + 2 * 2 ^ t * (v / 2 ^ t / 2) := by
        conv => lhs; rw [← e2]
        rw [Int.mul_add, Int.mul_comm, ← Int.mul_assoc, Int.mul_comm (2 ^ t) 2]
      omega
    have e8 : 0 ≤ v % 2 ^ t + v / 2 ^ t % 2 * 2 ^ t ∧ v % 2 ^ t + v / 2 ^ t % 2 * 2 ^ t < 2 * 2 ^ t := by
      rcases (show v / 2 ^ t % 2 = 0 ∨ v / 2 ^ t % 2 = 1 by omega) with q | q <;> rw [q] <;> omega
    conv => rhs; rw [e7]
    rw [Int.add_mul_emod_self_left, Int.emod_eq_of_lt e8.1 e8.2]

theorem two_pow_cast (n : Nat) : ((2 ^ n : Nat) : Int) = (2 : Int) ^ n := by simp
theorem or_addk (k : IntKind) (hs : k.signed = false) {a b : Int} {s : Nat} (hb : b = 0 ∨ b = 1) (hk : s < k.bits) (ha : 0 ≤ a ∧ a < 2 ^ s) : bOr k a (b * 2 ^ s) = a + b * 2 ^ s := by
  have hp := pow2_pos s
  have hle : (2 : Int) ^ s * 2 ≤ 2 ^ k.bits := by
    obtain ⟨d, hd⟩ : ∃ d, k.bits = s + (d + 1) := ⟨k.bits - s - 1, by omega⟩
    rw [hd, Int.pow_add, pow2_succ]
    have := pow2_pos d
    have h1 : (2 : Int) ^ s * (2 * 1) ≤ 2 ^ s * (2 * 2 ^ d) := Int.mul_le_mul_of_nonneg_left (by omega) (by omega)
    simpa using h1
  have hbs : 0 ≤ b * 2 ^ s ∧ b * 2 ^ s ≤ 2 ^ s := by rcases hb with q | q <;> rw [q] <;> omega
  have hcast := two_pow_cast k.bits
  have hid : ∀ x : Int, 0 ≤ x → x < 2 ^ k.bits → (BitVec.ofInt k.bits x).toNat = x.toNat := fun x h1 h2 => by
    rw [BitVec.toNat_ofInt, hcast, Int.emod_eq_of_lt h1 h2]
  unfold bOr
  rw [BitVec.toNat_or, hid a ha.1 (by omega), hid _ hbs.1 (by omega)]
  have e : a.toNat ||| (b * 2 ^ s).toNat = a.toNat + (b * 2 ^ s).toNat := by
    have ha2 : a.toNat < 2 ^ s := by
      have := two_pow_cast s
      omega
    rcases hb with q | q
    · subst q; simp
    · subst q
      have h2 : ((1 : Int) * 2 ^ s).toNat = 2 ^ s * 1 := by
        rw [Int.one_mul, ← two_pow_cast, Int.toNat_natCast, Nat.mul_one]
      rw [h2, Nat.or_comm, ← Nat.two_pow_add_eq_or_of_lt ha2]; omega
  rw [e]
  have hsum : ((a.toNat + (b * 2 ^ s).toNat : Nat) : Int) = a + b * 2 ^ s := by omega
  rw [hsum]
  have hin : 0 ≤ a + b * 2 ^ s ∧ a + b * 2 ^ s < 2 ^ k.bits := by
    refine ⟨by omega, ?_⟩
    rcases hb with q | q <;> rw [q] <;> omega
  cases k <;> first | (simp [IntKind.signed] at hs; done) | (simp only [IntKind.wrap, IntKind.bits, IntKind.signed] at hin ⊢; simp at hin ⊢; omega)
theorem shr_div {v : Int} (hv : 0 ≤ v) {k : Int} (hk : 0 ≤ k ∧ k < 64) : shrI .u64 v k = v / 2 ^ k.toNat := by
  unfold shrI
  rw [Int.fdiv_eq_ediv_of_nonneg _ (by have := pow2_pos (min k.toNat IntKind.u64.bits); omega), Nat.min_eq_left (by simp [IntKind.bits]; omega)]
theorem shr_div8 {v : Int} {k : Int} (hk : 0 ≤ k ∧ k < 8) : shrI .u8 v k = v / 2 ^ k.toNat := by
  unfold shrI
  rw [Int.fdiv_eq_ediv_of_nonneg _ (by have := pow2_pos (min k.toNat IntKind.u8.bits); omega), Nat.min_eq_left (by simp [IntKind.bits]; omega)]
theorem and1_64 {a : Int} (h : 0 ≤ a ∧ a < 18446744073709551616) : bAnd .u64 a 1 = a % 2 := by
  unfold bAnd
  have e1 : (BitVec.ofInt IntKind.u64.bits a &&& BitVec.ofInt IntKind.u64.bits 1).toNat = (a % 2).toNat := by
    rw [BitVec.toNat_and, BitVec.toNat_ofInt, BitVec.toNat_ofInt]
    have : ((1 : Int) % ((2 ^ IntKind.u64.bits : Nat) : Int)).toNat = 1 := by decide
    rw [this, Nat.and_one_is_mod]
    simp [IntKind.bits]; omega
  rw [e1, u64_id (by omega)]; omega
theorem and1_8 {a : Int} (h : 0 ≤ a ∧ a < 256) : bAnd .u8 a 1 = a % 2 := by
  unfold bAnd
  have e1 : (BitVec.ofInt IntKind.u8.bits a &&& BitVec.ofInt IntKind.u8.bits 1).toNat = (a % 2).toNat := by
    rw [BitVec.toNat_and, BitVec.toNat_ofInt, BitVec.toNat_ofInt]
    have : ((1 : Int) % ((2 ^ IntKind.u8.bits : Nat) : Int)).toNat = 1 := by decide
    rw [this, Nat.and_one_is_mod]
    simp [IntKind.bits]; omega
  rw [e1, u8_id (by omega)]; omega
theorem shl_b8 {b : Int} (hb : b = 0 ∨ b = 1) {s : Int} (hs : 0 ≤ s ∧ s < 8) : shlI .u8 b s = b * 2 ^ s.toNat := by
  unfold shlI
  rw [Nat.min_eq_left (by simp [IntKind.bits]; omega)]
  refine u8_id ?_
  have h8 : (2 : Int) ^ s.toNat ≤ 128 := by
    have : s.toNat ≤ 7 := by omega
    have := Nat.pow_le_pow_right (show 0 < 2 by decide) this
    rw [← two_pow_cast]; omega
  have hp := pow2_pos s.toNat
  rcases hb with q | q <;> rw [q] <;> omega
theorem shl_b64 {b : Int} (hb : b = 0 ∨ b = 1) {s : Int} (hs : 0 ≤ s ∧ s < 64) : shlI .u64 b s = b * 2 ^ s.toNat := by
  unfold shlI
  rw [Nat.min_eq_left (by simp [IntKind.bits]; omega)]
  refine u64_id ?_
  have h8 : (2 : Int) ^ s.toNat ≤ 9223372036854775808 := by
    have : s.toNat ≤ 63 := by omega
    have := Nat.pow_le_pow_right (show 0 < 2 by decide) this
    rw [← two_pow_cast]; omega
  have hp := pow2_pos s.toNat
  rcases hb with q | q <;> rw [q] <;> omega

def lenI (v : Int) : Int := ((Lib.bitLen v.toNat : Nat) : Int)
def permB (n w : Int) : Bool := decide (0 ≤ n) && decide (n ≤ 4096) && decide (0 ≤ w) && decide (w ≤ 64)
def needR (n w : Int) : Int := if permB n w = true then (n * w + 7).tdiv 8 else 0
theorem permB_iff (n w : Int) : permB n w = true ↔ (0 ≤ n ∧ n ≤ 4096) ∧ 0 ≤ w ∧ w ≤ 64 := by simp [permB, and_assoc]
theorem nw_le {n w : Int} (h : (0 ≤ n ∧ n ≤ 4096) ∧ 0 ≤ w ∧ w ≤ 64) : 0 ≤ n * w ∧ n * w ≤ 262144 := by
  refine ⟨Int.mul_nonneg h.1.1 h.2.1, ?_⟩
  have h1 := Int.mul_le_mul_of_nonneg_right h.1.2 h.2.1
  omega
theorem need_eq {n w : Int} (h : (0 ≤ n ∧ n ≤ 4096) ∧ 0 ≤ w ∧ w ≤ 64) : needR n w = (n * w + 7) / 8 ∧ 0 ≤ n * w ∧ n * w ≤ 262144 := by
  have h1 := nw_le h
  rw [needR, if_pos ((permB_iff n w).2 h), Int.tdiv_eq_ediv_of_nonneg (by omega)]
  exact ⟨rfl, h1⟩
theorem idx_lt {i n k w : Int} (hi : i < n) (hk : k < w) (h0 : 0 ≤ w) : i * w + k < n * w := by
  have h1 : (i + 1) * w ≤ n * w := Int.mul_le_mul_of_nonneg_right (by omega) h0
  rw [Int.add_mul] at h1
  omega
theorem step_mul (i w : Int) : (i + 1) * w = i * w + w := by rw [Int.add_mul]; omega
/-- The bit q of values of w bits each; of a string. -/
def vbit (l : List Int) (w q : Nat) : Int := l[q / w]! / 2 ^ (q % w) % 2
def sbit (s : ByteArray) (q : Nat) : Int := byteAt s (q / 8) / 2 ^ (q % 8) % 2
theorem vbit01 (l : List Int) (w : Nat) : bit01 (vbit l w) := fun q => by unfold vbit; omega
theorem sbit01 (s : ByteArray) : bit01 (sbit s) := fun q => by unfold sbit; omega
theorem place_of {i w k : Int} (h : 0 ≤ i ∧ 0 ≤ k ∧ k < w) : (i * w + k).toNat / w.toNat = i.toNat ∧ (i * w + k).toNat % w.toNat = k.toNat := by
  have h1 : (i * w + k).toNat = i.toNat * w.toNat + k.toNat := by
    have : 0 ≤ i * w := Int.mul_nonneg h.1 (by omega)
    have e : ((i.toNat * w.toNat + k.toNat : Nat) : Int) = i * w + k := by
      push_cast
      rw [Int.toNat_of_nonneg h.1, Int.toNat_of_nonneg (show 0 ≤ w by omega), Int.toNat_of_nonneg h.2.1]
    omega
  obtain ⟨q1, q2⟩ := div_mod_of (i := i.toNat) (w := w.toNat) (t := k.toNat) (m := (i * w + k).toNat) (by omega) h1.symm
  exact ⟨q1.symm, q2.symm⟩
theorem g_set {kd : IntKind} (hs : kd.signed = false) {f : Nat → Int} (hf : bit01 f) {m W n : Nat} (hW : 0 < W) (hb : W ≤ kd.bits) (hm : m / W < n) :
    (gL f m W n).set (m / W) (bOr kd (gL f m W n)[m / W]! (f m * 2 ^ (m % W))) = gL f (m + 1) W n := by
  have hml := Nat.mod_lt m hW
  rw [gL_get hm, or_addk kd hs (hf m) (by omega) (gs_bound hf hW)]
  exact gL_step hW hm
/-- One bit more of a packed string. -/
theorem pack_set {f : Nat → Int} (hf : bit01 f) {N : Nat} {a b s q : Int} (ha : 0 ≤ a) (hN : a.toNat / 8 < N) (hb : b = f a.toNat) (hs : s = a.tmod 8) (hq : q = a.tdiv 8) :
    (gL f a.toNat 8 N).set q.toNat (bOr .u8 (gL f a.toNat 8 N)[q.toNat]! (shlI .u8 b s)) = gL f (a + 1).toNat 8 N := by
  have e1 : q.toNat = a.toNat / 8 := by rw [hq, Int.tdiv_eq_ediv_of_nonneg ha]; omega
  have e2 : s.toNat = a.toNat % 8 := by rw [hs, Int.tmod_eq_emod_of_nonneg ha]; omega
  have e3 : 0 ≤ s ∧ s < 8 := by rw [hs, Int.tmod_eq_emod_of_nonneg ha]; omega
  rw [shl_b8 (by rw [hb]; exact hf _) e3, e1, e2, hb, show (a + 1).toNat = a.toNat + 1 by omega]
  exact g_set rfl hf (by decide) (by decide) hN
theorem unpack_set {f : Nat → Int} (hf : bit01 f) {n W : Nat} {a b k i : Int} (ha : 0 ≤ a) (hW : 0 < W ∧ W ≤ 64) (hi : 0 ≤ i ∧ i.toNat < n) (hk : 0 ≤ k) (h1 : a.toNat / W = i.toNat) (h2 : a.toNat % W = k.toNat) (hb : b = f a.toNat) :
    (gL f a.toNat W n).set i.toNat (bOr .u64 (gL f a.toNat W n)[i.toNat]! (shlI .u64 b k)) = gL f (a + 1).toNat W n := by
  have h3 := Nat.mod_lt a.toNat hW.1
  rw [shl_b64 (by rw [hb]; exact hf _) (by omega), ← h1, ← h2, hb, show (a + 1).toNat = a.toNat + 1 by omega]
  exact g_set rfl hf hW.1 hW.2 (by omega)
theorem vbit_eq {l : List Int} {i k w : Int} (h : 0 ≤ i ∧ 0 ≤ k ∧ k < w) : vbit l w.toNat (i * w + k).toNat = l[i.toNat]! / 2 ^ k.toNat % 2 := by
  obtain ⟨q1, q2⟩ := place_of h
  unfold vbit; rw [q1, q2]
theorem bit_w8 {v k : Int} (hv : 0 ≤ v ∧ v < 18446744073709551616) (hk : 0 ≤ k ∧ k < 64) : bAnd .u64 (shrI .u64 v k) 1 = v / 2 ^ k.toNat % 2 ∧ (v / 2 ^ k.toNat % 2 = 0 ∨ v / 2 ^ k.toNat % 2 = 1) := by
  have hp := pow2_pos k.toNat
  have h0 : 0 ≤ v / 2 ^ k.toNat := Int.ediv_nonneg hv.1 (by omega)
  have h1 : v / 2 ^ k.toNat ≤ v := Int.ediv_le_self _ hv.1
  rw [shr_div hv.1 hk, and1_64 (by omega)]
  exact ⟨rfl, by omega⟩
theorem bit_s8 (s : ByteArray) {a : Int} (ha : 0 ≤ a) : bAnd .u8 (shrI .u8 (byteAt s (a.tdiv 8).toNat) (a.tmod 8)) 1 = sbit s a.toNat ∧ (sbit s a.toNat = 0 ∨ sbit s a.toNat = 1) := by
  have e1 : (a.tdiv 8).toNat = a.toNat / 8 := by rw [Int.tdiv_eq_ediv_of_nonneg ha]; omega
  have e2 : (a.tmod 8).toNat = a.toNat % 8 := by rw [Int.tmod_eq_emod_of_nonneg ha]; omega
  have e3 : 0 ≤ a.tmod 8 ∧ a.tmod 8 < 8 := by rw [Int.tmod_eq_emod_of_nonneg ha]; omega
  have hb := byteAt_rng s (a.toNat / 8)
  have hp := pow2_pos (a.toNat % 8)
  have h0 : 0 ≤ byteAt s (a.toNat / 8) / 2 ^ (a.toNat % 8) := Int.ediv_nonneg hb.1 (by omega)
  have h1 : byteAt s (a.toNat / 8) / 2 ^ (a.toNat % 8) ≤ byteAt s (a.toNat / 8) := Int.ediv_le_self _ hb.1
  rw [shr_div8 e3, e1, e2, and1_8 (by omega)]
  exact ⟨rfl, sbit01 s _⟩
def anyWide (l : List Int) (w : Int) : Bool := l.any fun v => decide (lenI v > w)
theorem wide_yes {l : List Int} {w i : Int} (hi : 0 ≤ i ∧ i < l.length) (h : lenI l[i.toNat]! > w) : anyWide l w = true := by
  unfold anyWide
  rw [List.any_eq_true]
  refine ⟨l[i.toNat]!, ?_, by simpa using h⟩
  rw [getElem!_pos l i.toNat (by omega)]; exact List.getElem_mem _
theorem wide_no {l : List Int} {w : Int} (h : ∀ j : Nat, j < l.length → lenI l[j]! ≤ w) : anyWide l w = false := by
  unfold anyWide
  rw [List.any_eq_false]
  intro v hv
  obtain ⟨j, hj, rfl⟩ := List.mem_iff_getElem.1 hv
  have := h j hj
  rw [getElem!_pos l j hj] at this
  simp; omega
def packR (l : List Int) (w : Int) : ByteArray × Int :=
  if w < 0 ∨ w > 64 then (⟨#[]⟩, 4) else if l.length > 4096 then (⟨#[]⟩, 7) else if anyWide l w = true then (⟨#[]⟩, 8)
  else (ofInts (gL (vbit l w.toNat) ((l.length : Int) * w).toNat 8 (needR l.length w).toNat), 0)

abbrev tb1 : Tbl := (86, c_len_ok) :: ([] : Tbl)
theorem tb1_ok : TblOk Tryz.prog tb1 := TblOk.cons len_ok TblOk.nil

abbrev c_width_ok : Ct := .fn [.int .u64] (some (fun (v : Int) => (0 ≤ v ∧ v < 18446744073709551616))) (fun (v : Int) => .d (.int .i64) (lenI v))
set_option maxRecDepth 100000 in
set_option maxHeartbeats 4000000 in
theorem width_ok : CtOk Tryz.prog 72 c_width_ok := by
  refine CtOk.fn tb1_ok mixed [] [] rfl rfl ?_
  rintro ⟨(v : Int), _⟩ hpre
  replace hpre := hpre _ rfl
  dsimp only [cu] at hpre
  have hv := hpre
  refine ⟨[], ?_⟩
  repeat' (first
    | (
 with_reducible refine Side.mk ?_
 (try dsimp only [cu, joinT, ckTys, gts, loK, hiK, Prod.eta, List.nil_append])
 first
 | (done)
 | (with_reducible rfl)
 | (omega)
 | (exact Eq.refl _)
 | (simp only [List.length_append, List.length_cons, List.length_nil]; omega)
 | (exact ⟨by omega, by omega⟩))
    | (conv => whnf
       first
        | done
        | exact trivial
        | with_reducible refine NilBr.mk (fun h => ?_) ?_
        | with_reducible first | refine w_andS ?_ ?_ | refine w_andL ?_ ?_ | refine w_kern (by kernel_rfl) ?_ | refine w_true ?_ | refine w_nd ?_ ?_ | refine w_in ?_ ?_ | refine w_and ?_ ?_
        | ((with_reducible first | refine w_brN (fun h => ?_) (fun h => ?_) | refine w_brD (fun h => ?_) (fun h => ?_) | refine w_br (fun h => ?_) (fun h => ?_)) <;> (try dsimp only [cu, Prod.eta, List.nil_append] at h) <;> (try (exfalso; omega; done)))))
  all_goals (
 with_reducible refine Leaf.mk ?_
 (try dsimp only [cu, joinT, ckTys, gts, Prod.eta, List.nil_append] at *)
 first
 | (done)
 | (rfl))
abbrev tb2 : Tbl := (72, c_width_ok) :: tb1
theorem tb2_ok : TblOk Tryz.prog tb2 := TblOk.cons width_ok tb1_ok


theorem lenI_step {v : Int} (h : 0 < v) (h2 : v < 18446744073709551616) : lenI v = 1 + lenI (v / 2) := by
  obtain ⟨n, rfl⟩ := Int.eq_ofNat_of_zero_le (show 0 ≤ v by omega)
  have hn : 0 < n := by omega
  have e : ((n : Int) / 2).toNat = n / 2 := by omega
  unfold lenI
  rw [e, Int.toNat_natCast]
  by_cases h1 : n / 2 = 0
  · have : n = 1 := by omega
    subst this; rfl
  · rw [Lib.bitLen_shift 1 n (by omega) (by omega)]
    simp
theorem lenI_zero {v : Int} (h : v ≤ 0) : lenI v = 0 := by
  unfold lenI
  rw [show v.toNat = 0 by omega]; rfl
theorem lenI_le {v : Int} (h : v < 18446744073709551616) : 0 ≤ lenI v ∧ lenI v ≤ 64 := by
  unfold lenI
  have := Lib.bitLen_le v.toNat 64 (by omega) (by omega)
  omega
theorem shr1 {v : Int} (h : 0 ≤ v) : shrI .u64 v 1 = v / 2 := by
  rw [shr_div h (by decide)]; rfl

abbrev c_rwidth_ok : Ct := .fn [.int .u64] (some (fun (v0 : Int) => (0 ≤ v0 ∧ v0 < 18446744073709551616))) (fun (v0 : Int) => .d (.int .i64) (lenI v0))
set_option maxRecDepth 100000 in
set_option maxHeartbeats 4000000 in
theorem rwidth_ok : CtOk Tryz.prog 85 c_rwidth_ok := by
  refine CtOk.fn tb2_ok mixed [] [] rfl rfl ?_
  rintro ⟨(v0 : Int), _⟩ hpre
  replace hpre := hpre _ rfl
  dsimp only [cu] at hpre
  have hv0 := hpre
  refine ⟨[(0, 4, LA.mk [.sl 0 (.int .u64), .sl 3 (.int .i64)] (fun y => Tag 1 ∧ cu [.int .u64, .int .i64] (fun (v : Int) (w : Int) => (0 ≤ v ∧ v < 18446744073709551616) ∧ (lenI v0 = w + lenI v) ∧ (0 ≤ w ∧ w ≤ 64)) y) (cu [.int .u64, .int .i64] (fun (v : Int) (w : Int) => v.toNat)) (cu [.int .u64, .int .i64] (fun (v : Int) (w : Int) => ([] : List (Nat × Nat × LA)))))], ?_⟩
  repeat' (first
    | (
 with_reducible refine Side.mk ⟨(⟨⟩ : Tag 1), ?_⟩
 dsimp only [cu, joinT, ckTys, gts, Prod.eta, List.nil_append]
 refine ⟨?_, ?_, ?_⟩
 · first
   | (omega)
   | (rw [shr1 (by omega)]; omega)
 · first
   | (omega)
   | (rw [hw, lenI_step (v := v) (by omega) (by omega), shr1 (by omega)]; omega)
 · first
   | (omega)
   | (
  have := lenI_le (v := v0) (by omega)
  have h2 := lenI_step (v := v) (by omega) (by omega)
  have := lenI_le (v := v / 2) (by omega)
  omega))
    | (
 with_reducible refine Side.mk ?_
 (try dsimp only [cu, joinT, ckTys, gts, loK, hiK, Prod.eta, List.nil_append])
 first
 | (done)
 | (with_reducible rfl)
 | (omega)
 | (exact Eq.refl _)
 | (simp only [List.length_append, List.length_cons, List.length_nil]; omega)
 | (rw [shr1 (by omega)]; omega))
    | (conv => whnf
       first
        | done
        | exact trivial
        | with_reducible refine NilBr.mk (fun h => ?_) ?_
        | with_reducible first | refine w_andS ?_ ?_ | refine w_andL ?_ ?_ | refine w_kern (by kernel_rfl) ?_ | refine w_true ?_ | refine w_nd ?_ ?_ | refine w_in ?_ ?_ | refine w_and ?_ ?_
        | ((with_reducible first | refine w_brN (fun h => ?_) (fun h => ?_) | refine w_brD (fun h => ?_) (fun h => ?_) | refine w_br (fun h => ?_) (fun h => ?_)) <;> (try dsimp only [cu, Prod.eta, List.nil_append] at h) <;> (try (exfalso; omega; done)))
        | (
 intro yy (hy : Tag 1 ∧ _)
 obtain ⟨(v : Int), (w : Int), _⟩ := yy
 replace hy := hy.2
 dsimp only [cu, joinT, ckTys, gts, Prod.eta, List.nil_append] at hy
 obtain ⟨hv, hw, hw0⟩ := hy)))
  all_goals (
 with_reducible refine Leaf.mk ?_
 (try dsimp only [cu, joinT, ckTys, gts, Prod.eta, List.nil_append] at *)
 first
 | (done)
 | (
  have e := lenI_zero (v := v) (by omega)
  rw [hw, e, Int.add_zero]))
abbrev tb3 : Tbl := (85, c_rwidth_ok) :: tb2
theorem tb3_ok : TblOk Tryz.prog tb3 := TblOk.cons rwidth_ok tb2_ok

abbrev c_perm_ok : Ct := .fn [.int .i64, .int .i64] (none) (fun (n : Int) (w : Int) => .d .bool (permB n w))
set_option maxRecDepth 100000 in
set_option maxHeartbeats 4000000 in
theorem perm_ok : CtOk Tryz.prog 91 c_perm_ok := by
  refine CtOk.fn tb3_ok mixed [] [] rfl rfl ?_
  rintro ⟨(n : Int), (w : Int), _⟩ -
  refine ⟨[], ?_⟩
  repeat' (first
    | (
 with_reducible refine Side.mk ?_
 (try dsimp only [cu, joinT, ckTys, gts, loK, hiK, Prod.eta, List.nil_append])
 first
 | (done)
 | (with_reducible rfl)
 | (omega)
 | (exact Eq.refl _)
 | (simp only [List.length_append, List.length_cons, List.length_nil]; omega))
    | (conv => whnf
       first
        | done
        | exact trivial
        | with_reducible refine NilBr.mk (fun h => ?_) ?_
        | with_reducible first | refine w_andS ?_ ?_ | refine w_andL ?_ ?_ | refine w_kern (by kernel_rfl) ?_ | refine w_true ?_ | refine w_nd ?_ ?_ | refine w_in ?_ ?_ | refine w_and ?_ ?_
        | ((with_reducible first | refine w_brN (fun h => ?_) (fun h => ?_) | refine w_brD (fun h => ?_) (fun h => ?_) | refine w_br (fun h => ?_) (fun h => ?_)) <;> (try dsimp only [cu, Prod.eta, List.nil_append] at h) <;> (try (exfalso; omega; done)))))
  all_goals (
 with_reducible refine Leaf.mk ?_
 (try dsimp only [cu, joinT, ckTys, gts, Prod.eta, List.nil_append] at *)
 first
 | (done)
 | (grind [permB])
 | (
  symm
  rw [Bool.eq_false_iff]
  intro q
  have := (permB_iff n w).1 q
  omega)
 | (
  rw [Bool.eq_false_iff]
  intro q
  have := (permB_iff n w).1 q
  omega))
abbrev tb4 : Tbl := (91, c_perm_ok) :: tb3
theorem tb4_ok : TblOk Tryz.prog tb4 := TblOk.cons perm_ok tb3_ok

abbrev c_need_ok : Ct := .fn [.int .i64, .int .i64] (none) (fun (n : Int) (w : Int) => .d (.int .i64) (needR n w))
set_option maxRecDepth 100000 in
set_option maxHeartbeats 4000000 in
theorem need_ok : CtOk Tryz.prog 77 c_need_ok := by
  refine CtOk.fn tb4_ok mixed [] [] rfl rfl ?_
  rintro ⟨(n : Int), (w : Int), _⟩ -
  refine ⟨[], ?_⟩
  repeat' (first
    | (
 with_reducible refine Side.mk ?_
 (try dsimp only [cu, joinT, ckTys, gts, loK, hiK, Prod.eta, List.nil_append])
 first
 | (done)
 | (with_reducible rfl)
 | (omega)
 | (exact Eq.refl _)
 | (simp only [List.length_append, List.length_cons, List.length_nil]; omega)
 | (
  have hnw := nw_le (n := n) (w := w) ((permB_iff n w).1 (by simp_all; done))
  first
  | (omega)
  | (
   rw [Int.tdiv_eq_ediv_of_nonneg (by omega)]
   omega)))
    | (conv => whnf
       first
        | done
        | exact trivial
        | with_reducible refine NilBr.mk (fun h => ?_) ?_
        | with_reducible first | refine w_andS ?_ ?_ | refine w_andL ?_ ?_ | refine w_kern (by kernel_rfl) ?_ | refine w_true ?_ | refine w_nd ?_ ?_ | refine w_in ?_ ?_ | refine w_and ?_ ?_
        | ((with_reducible first | refine w_brN (fun h => ?_) (fun h => ?_) | refine w_brD (fun h => ?_) (fun h => ?_) | refine w_br (fun h => ?_) (fun h => ?_)) <;> (try dsimp only [cu, Prod.eta, List.nil_append] at h) <;> (try (exfalso; omega; done)))))
  all_goals (
 with_reducible refine Leaf.mk ?_
 (try dsimp only [cu, joinT, ckTys, gts, Prod.eta, List.nil_append] at *)
 first
 | (done)
 | (
  have q : permB n w = true := by simp_all; done
  rw [needR, if_pos q])
 | (
  have q : ¬ permB n w = true := by simp_all; done
  rw [needR, if_neg q])
 | (
  have q : permB n w = true := (permB_iff n w).2 (by omega)
  rw [needR, if_pos q])
 | (
  have q : ¬ permB n w = true := fun q => by have := (permB_iff n w).1 q; omega
  rw [needR, if_neg q]))
abbrev tb5 : Tbl := (77, c_need_ok) :: tb4
theorem tb5_ok : TblOk Tryz.prog tb5 := TblOk.cons need_ok tb4_ok

abbrev c_rneed_ok : Ct := .fn [.int .i64, .int .i64] (none) (fun (n : Int) (w : Int) => .d (.int .i64) (needR n w))
set_option maxRecDepth 100000 in
set_option maxHeartbeats 4000000 in
theorem rneed_ok : CtOk Tryz.prog 96 c_rneed_ok := by
  refine CtOk.fn tb5_ok mixed [] [] rfl rfl ?_
  rintro ⟨(n : Int), (w : Int), _⟩ -
  refine ⟨[], ?_⟩
  repeat' (first
    | (
 with_reducible refine Side.mk ?_
 (try dsimp only [cu, joinT, ckTys, gts, loK, hiK, Prod.eta, List.nil_append])
 first
 | (done)
 | (with_reducible rfl)
 | (omega)
 | (exact Eq.refl _)
 | (simp only [List.length_append, List.length_cons, List.length_nil]; omega)
 | (
  have hnw := nw_le (n := n) (w := w) (by omega)
  first
  | (omega)
  | (
   rw [Int.tdiv_eq_ediv_of_nonneg (by omega)]
   omega)))
    | (conv => whnf
       first
        | done
        | exact trivial
        | with_reducible refine NilBr.mk (fun h => ?_) ?_
        | with_reducible first | refine w_andS ?_ ?_ | refine w_andL ?_ ?_ | refine w_kern (by kernel_rfl) ?_ | refine w_true ?_ | refine w_nd ?_ ?_ | refine w_in ?_ ?_ | refine w_and ?_ ?_
        | ((with_reducible first | refine w_brN (fun h => ?_) (fun h => ?_) | refine w_brD (fun h => ?_) (fun h => ?_) | refine w_br (fun h => ?_) (fun h => ?_)) <;> (try dsimp only [cu, Prod.eta, List.nil_append] at h) <;> (try (exfalso; omega; done)))))
  all_goals (
 with_reducible refine Leaf.mk ?_
 (try dsimp only [cu, joinT, ckTys, gts, Prod.eta, List.nil_append] at *)
 first
 | (done)
 | (
  have q : permB n w = true := by simp_all; done
  rw [needR, if_pos q])
 | (
  have q : ¬ permB n w = true := by simp_all; done
  rw [needR, if_neg q])
 | (
  have q : permB n w = true := (permB_iff n w).2 (by omega)
  rw [needR, if_pos q])
 | (
  have q : ¬ permB n w = true := fun q => by have := (permB_iff n w).1 q; omega
  rw [needR, if_neg q]))
abbrev tb6 : Tbl := (96, c_rneed_ok) :: tb5
theorem tb6_ok : TblOk Tryz.prog tb6 := TblOk.cons rneed_ok tb5_ok

abbrev c_pack_ok : Ct := .fn [.list (.int .u64), .int .i64] (some (fun (l : List Int) (w : Int) => (∀ i : Nat, 0 ≤ l[i]! ∧ l[i]! < 18446744073709551616) ∧ (l.length ≤ 4611686018427387904))) (fun (l : List Int) (w : Int) => .tup [.str, .int .i64] ((packR l w).1, (packR l w).2, ()))
set_option maxRecDepth 100000 in
set_option maxHeartbeats 4000000 in
theorem pack_ok : CtOk Tryz.prog 51 c_pack_ok := by
  refine CtOk.fn tb6_ok mixed [] [] rfl rfl ?_
  rintro ⟨(l : List Int), (w : Int), _⟩ hpre
  replace hpre := hpre _ rfl
  dsimp only [cu] at hpre
  obtain ⟨hlv, hll⟩ := hpre
  refine ⟨[(0, 16, LA.mk [.sl 29 (.int .i64), .sl 7 (.int .i64), .ar 0 (.int .u8) 5] (fun y => Tag 2 ∧ cu [.int .i64, .int .i64, .list (.int .u8)] (fun (i : Int) (a : Int) (M : List Int) => (0 ≤ i ∧ i ≤ l.length) ∧ (a = i * w) ∧ (M = gL (vbit l w.toNat) a.toNat 8 (needR l.length w).toNat) ∧ (∀ j : Nat, (j : Int) < i → lenI l[j]! ≤ w)) y) (cu [.int .i64, .int .i64, .list (.int .u8)] (fun (i : Int) (a : Int) (M : List Int) => ((l.length : Int) - i).toNat)) (cu [.int .i64, .int .i64, .list (.int .u8)] (fun (i : Int) (a : Int) (M : List Int) => ([(0, 26, LA.mk [.sl 38 (.int .i64), .sl 7 (.int .i64), .ar 0 (.int .u8) 5] (fun y => Tag 3 ∧ cu [.int .i64, .int .i64, .list (.int .u8)] (fun (k : Int) (b : Int) (O : List Int) => (0 ≤ k ∧ k ≤ w) ∧ (b = i * w + k) ∧ (O = gL (vbit l w.toNat) b.toNat 8 (needR l.length w).toNat)) y) (cu [.int .i64, .int .i64, .list (.int .u8)] (fun (k : Int) (b : Int) (O : List Int) => ((w : Int) - k).toNat)) (cu [.int .i64, .int .i64, .list (.int .u8)] (fun (k : Int) (b : Int) (O : List Int) => ([] : List (Nat × Nat × LA)))))] : List (Nat × Nat × LA)))))], ?_⟩
  repeat' (first
    | (
 with_reducible refine Side.mk ⟨(⟨⟩ : Tag 2), ?_⟩
 dsimp only [cu, joinT, ckTys, gts, Prod.eta, List.nil_append]
 refine ⟨?_, ?_, ?_, ?_⟩
 · omega
 · first
   | (omega)
   | (rw [step_mul]; omega)
 · first
   | (exact (gL_zero _ _ _).symm)
   | (rw [hO])
 · first
   | (intro j hj; omega)
   | (
  intro j hj
  rcases Int.lt_or_le (j : Int) i with q | q
  · exact hwd j q
  · rw [show j = i.toNat by omega]; exact Int.not_lt.1 (by assumption)))
    | (
 with_reducible refine Side.mk ⟨(⟨⟩ : Tag 3), ?_⟩
 dsimp only [cu, joinT, ckTys, gts, Prod.eta, List.nil_append]
 refine ⟨?_, ?_, ?_⟩
 · omega
 · first
   | (rw [ha]; omega)
   | (omega)
 · first
   | (exact hM)
   | (
  have hne := need_eq (n := l.length) (w := w) (by omega)
  have hix := idx_lt (i := i) (n := l.length) (k := k) (w := w) (by omega) (by omega) (by omega)
  have hi0 : 0 ≤ i * w := Int.mul_nonneg (by omega) (by omega)
  rw [hO]
  refine pack_set (vbit01 _ _) (by omega) (by omega) ?_ rfl rfl
  show IntKind.u8.wrap (bAnd .u64 (shrI .u64 l[i.toNat]! k) 1) = _
  obtain ⟨q1, q2⟩ := bit_w8 (hlv i.toNat) (k := k) (by omega)
  rw [q1, hb, vbit_eq (by omega)]
  exact u8_id (by omega)))
    | (
 with_reducible refine Side.mk ?_
 (try dsimp only [cu, joinT, ckTys, gts, loK, hiK, Prod.eta, List.nil_append])
 first
 | (done)
 | (with_reducible rfl)
 | (omega)
 | (exact Eq.refl _)
 | (simp only [List.length_append, List.length_cons, List.length_nil]; omega)
 | (
  have hne := need_eq (n := l.length) (w := w) (by omega)
  omega)
 | (exact hlv _)
 | (simp only [hM, gL_len]; done)
 | (simp only [hO, gL_len]; done)
 | (
  have hne := need_eq (n := l.length) (w := w) (by omega)
  have hix := idx_lt (i := i) (n := l.length) (k := k) (w := w) (by omega) (by omega) (by omega)
  have hi0 : 0 ≤ i * w := Int.mul_nonneg (by omega) (by omega)
  (try rw [Int.tdiv_eq_ediv_of_nonneg (by omega)])
  (try rw [Int.tmod_eq_emod_of_nonneg (by omega)])
  first
  | (
   (try simp only [hO, gL_len])
   omega)
  | (omega)))
    | (conv => whnf
       first
        | done
        | exact trivial
        | with_reducible refine NilBr.mk (fun h => ?_) ?_
        | with_reducible first | refine w_andS ?_ ?_ | refine w_andL ?_ ?_ | refine w_kern (by kernel_rfl) ?_ | refine w_true ?_ | refine w_nd ?_ ?_ | refine w_in ?_ ?_ | refine w_and ?_ ?_
        | ((with_reducible first | refine w_brN (fun h => ?_) (fun h => ?_) | refine w_brD (fun h => ?_) (fun h => ?_) | refine w_br (fun h => ?_) (fun h => ?_)) <;> (try dsimp only [cu, Prod.eta, List.nil_append] at h) <;> (try (exfalso; omega; done)))
        | (
 intro yy (hy : Tag 2 ∧ _)
 obtain ⟨(i : Int), (a : Int), (M : List Int), _⟩ := yy
 replace hy := hy.2
 dsimp only [cu, joinT, ckTys, gts, Prod.eta, List.nil_append] at hy
 obtain ⟨hi, ha, hM, hwd⟩ := hy)
        | (
 intro yy (hy : Tag 3 ∧ _)
 obtain ⟨(k : Int), (b : Int), (O : List Int), _⟩ := yy
 replace hy := hy.2
 dsimp only [cu, joinT, ckTys, gts, Prod.eta, List.nil_append] at hy
 obtain ⟨hk, hb, hO⟩ := hy)))
  all_goals (
 with_reducible refine Leaf.mk ?_
 (try dsimp only [cu, joinT, ckTys, gts, Prod.eta, List.nil_append] at *)
 first
 | (done)
 | (rw [packR, if_pos (by omega)])
 | (rw [packR, if_neg (by omega), if_pos (by omega)])
 | (
  have hyes := wide_yes (l := l) (w := w) (i := i) (by omega) (by assumption)
  have h1 : ¬ (w < 0 ∨ w > 64) := by omega
  have h2 : ¬ l.length > 4096 := by omega
  rw [packR, if_neg h1, if_neg h2, if_pos hyes])
 | (
  have hil : i = l.length := by omega
  have hno := wide_no (l := l) (w := w) (fun j hj => hwd j (by omega))
  have h1 : ¬ (w < 0 ∨ w > 64) := by omega
  have h2 : ¬ l.length > 4096 := by omega
  have h3 : ¬ anyWide l w = true := by rw [hno]; decide
  rw [packR, if_neg h1, if_neg h2, if_neg h3]
  (try rw [hM, ha, hil])))
abbrev tb7 : Tbl := (51, c_pack_ok) :: tb6
theorem tb7_ok : TblOk Tryz.prog tb7 := TblOk.cons pack_ok tb6_ok

abbrev c_rpack_ok : Ct := .fn [.list (.int .u64), .int .i64] (some (fun (l : List Int) (w : Int) => (∀ i : Nat, 0 ≤ l[i]! ∧ l[i]! < 18446744073709551616) ∧ (l.length ≤ 4611686018427387904))) (fun (l : List Int) (w : Int) => .tup [.str, .int .i64] ((packR l w).1, (packR l w).2, ()))
set_option maxRecDepth 100000 in
set_option maxHeartbeats 4000000 in
theorem rpack_ok : CtOk Tryz.prog 84 c_rpack_ok := by
  refine CtOk.fn tb7_ok mixed [] [] rfl rfl ?_
  rintro ⟨(l : List Int), (w : Int), _⟩ hpre
  replace hpre := hpre _ rfl
  dsimp only [cu] at hpre
  obtain ⟨hlv, hll⟩ := hpre
  refine ⟨[(0, 14, LA.mk [.sl 27 (.int .i64), .ar 0 (.int .u8) 5] (fun y => Tag 4 ∧ cu [.int .i64, .list (.int .u8)] (fun (i : Int) (M : List Int) => (0 ≤ i ∧ i ≤ l.length) ∧ (M = gL (vbit l w.toNat) (i * w).toNat 8 (needR l.length w).toNat) ∧ (∀ j : Nat, (j : Int) < i → lenI l[j]! ≤ w)) y) (cu [.int .i64, .list (.int .u8)] (fun (i : Int) (M : List Int) => ((l.length : Int) - i).toNat)) (cu [.int .i64, .list (.int .u8)] (fun (i : Int) (M : List Int) => ([(0, 24, LA.mk [.sl 9 (.int .i64), .ar 0 (.int .u8) 5] (fun y => Tag 5 ∧ cu [.int .i64, .list (.int .u8)] (fun (k : Int) (O : List Int) => (0 ≤ k ∧ k ≤ w) ∧ (O = gL (vbit l w.toNat) (i * w + k).toNat 8 (needR l.length w).toNat)) y) (cu [.int .i64, .list (.int .u8)] (fun (k : Int) (O : List Int) => ((w : Int) - k).toNat)) (cu [.int .i64, .list (.int .u8)] (fun (k : Int) (O : List Int) => ([] : List (Nat × Nat × LA)))))] : List (Nat × Nat × LA)))))], ?_⟩
  repeat' (first
    | (
 with_reducible refine Side.mk ⟨(⟨⟩ : Tag 4), ?_⟩
 dsimp only [cu, joinT, ckTys, gts, Prod.eta, List.nil_append]
 refine ⟨?_, ?_, ?_⟩
 · omega
 · first
   | (rw [Int.zero_mul]; exact (gL_zero _ _ _).symm)
   | (rw [hO, show k = w by omega, step_mul])
 · first
   | (intro j hj; omega)
   | (
  intro j hj
  rcases Int.lt_or_le (j : Int) i with q | q
  · exact hwd j q
  · rw [show j = i.toNat by omega]; exact Int.not_lt.1 (by assumption)))
    | (
 with_reducible refine Side.mk ⟨(⟨⟩ : Tag 5), ?_⟩
 dsimp only [cu, joinT, ckTys, gts, Prod.eta, List.nil_append]
 refine ⟨?_, ?_⟩
 · omega
 · first
   | (rw [hM, Int.add_zero])
   | (
  have hne := need_eq (n := l.length) (w := w) (by omega)
  have hix := idx_lt (i := i) (n := l.length) (k := k) (w := w) (by omega) (by omega) (by omega)
  have hi0 : 0 ≤ i * w := Int.mul_nonneg (by omega) (by omega)
  first
  | (
   rw [hO, show i * w + (k + 1) = i * w + k + 1 by omega]
   obtain ⟨q1, q2⟩ := bit_w8 (hlv i.toNat) (k := k) (by omega)
   rw [u64_id (n := k) (by omega)] at h
   rw [u64_id (n := (i * w + k).tmod 8) (by rw [Int.tmod_eq_emod_of_nonneg (by omega)]; omega)]
   refine pack_set (vbit01 _ _) (by omega) (by omega) ?_ rfl rfl
   rw [vbit_eq (by omega), ← q1]; exact h.symm)
  | (
   rw [hO, show i * w + (k + 1) = i * w + k + 1 by omega, show (i * w + k + 1).toNat = (i * w + k).toNat + 1 by omega]
   obtain ⟨q1, q2⟩ := bit_w8 (hlv i.toNat) (k := k) (by omega)
   rw [u64_id (n := k) (by omega)] at h
   have h2 : ¬ bAnd .u64 (shrI .u64 l[i.toNat]! k) 1 = 1 := h
   rw [q1] at h2
   refine gL_same (by decide) ?_
   rw [vbit_eq (by omega)]; omega)))
    | (
 with_reducible refine Side.mk ?_
 (try dsimp only [cu, joinT, ckTys, gts, loK, hiK, Prod.eta, List.nil_append])
 first
 | (done)
 | (with_reducible rfl)
 | (omega)
 | (exact Eq.refl _)
 | (simp only [List.length_append, List.length_cons, List.length_nil]; omega)
 | (
  have hne := need_eq (n := l.length) (w := w) (by omega)
  omega)
 | (exact hlv _)
 | (simp only [hM, gL_len]; done)
 | (simp only [hO, gL_len]; done)
 | (rw [u64_id (n := k) (by omega)]; omega)
 | (
  have hne := need_eq (n := l.length) (w := w) (by omega)
  have hix := idx_lt (i := i) (n := l.length) (k := k) (w := w) (by omega) (by omega) (by omega)
  have hi0 : 0 ≤ i * w := Int.mul_nonneg (by omega) (by omega)
  first
  | (
   (try rw [Int.tdiv_eq_ediv_of_nonneg (by omega)])
   (try rw [Int.tmod_eq_emod_of_nonneg (by omega)])
   (try simp only [hO, gL_len])
   omega)
  | (
   rw [u64_id (n := (i * w + k).tmod 8) (by rw [Int.tmod_eq_emod_of_nonneg (by omega)]; omega)]
   (try rw [Int.tdiv_eq_ediv_of_nonneg (by omega)])
   (try rw [Int.tmod_eq_emod_of_nonneg (by omega)])
   omega)
  | (
   (try rw [Int.tdiv_eq_ediv_of_nonneg (by omega)])
   (try rw [Int.tmod_eq_emod_of_nonneg (by omega)])
   omega)))
    | (conv => whnf
       first
        | done
        | exact trivial
        | with_reducible refine NilBr.mk (fun h => ?_) ?_
        | with_reducible first | refine w_andS ?_ ?_ | refine w_andL ?_ ?_ | refine w_kern (by kernel_rfl) ?_ | refine w_true ?_ | refine w_nd ?_ ?_ | refine w_in ?_ ?_ | refine w_and ?_ ?_
        | ((with_reducible first | refine w_brN (fun h => ?_) (fun h => ?_) | refine w_brD (fun h => ?_) (fun h => ?_) | refine w_br (fun h => ?_) (fun h => ?_)) <;> (try dsimp only [cu, Prod.eta, List.nil_append] at h) <;> (try (exfalso; omega; done)))
        | (
 intro yy (hy : Tag 4 ∧ _)
 obtain ⟨(i : Int), (M : List Int), _⟩ := yy
 replace hy := hy.2
 dsimp only [cu, joinT, ckTys, gts, Prod.eta, List.nil_append] at hy
 obtain ⟨hi, hM, hwd⟩ := hy)
        | (
 intro yy (hy : Tag 5 ∧ _)
 obtain ⟨(k : Int), (O : List Int), _⟩ := yy
 replace hy := hy.2
 dsimp only [cu, joinT, ckTys, gts, Prod.eta, List.nil_append] at hy
 obtain ⟨hk, hO⟩ := hy)))
  all_goals (
 with_reducible refine Leaf.mk ?_
 (try dsimp only [cu, joinT, ckTys, gts, Prod.eta, List.nil_append] at *)
 first
 | (done)
 | (rw [packR, if_pos (by omega)])
 | (rw [packR, if_neg (by omega), if_pos (by omega)])
 | (
  have hyes := wide_yes (l := l) (w := w) (i := i) (by omega) (by assumption)
  have h1 : ¬ (w < 0 ∨ w > 64) := by omega
  have h2 : ¬ l.length > 4096 := by omega
  rw [packR, if_neg h1, if_neg h2, if_pos hyes])
 | (
  have hil : i = l.length := by omega
  have hno := wide_no (l := l) (w := w) (fun j hj => hwd j (by omega))
  have h1 : ¬ (w < 0 ∨ w > 64) := by omega
  have h2 : ¬ l.length > 4096 := by omega
  have h3 : ¬ anyWide l w = true := by rw [hno]; decide
  rw [packR, if_neg h1, if_neg h2, if_neg h3]
  (try rw [hM, hil])))
abbrev tb8 : Tbl := (84, c_rpack_ok) :: tb7
theorem tb8_ok : TblOk Tryz.prog tb8 := TblOk.cons rpack_ok tb7_ok

end Go.Proofs.YtlamfjhhjfgemaaGreat
