/- The table of the checksum; the string of a builder; iterators of pieces. -/
import Derived.RangeFuncNested
import Derived.RangeFuncBound
import Derived.RangeFuncCalls
import Derived.RangeFuncLeaves
import Derived.WalkKit
import Derived.OwnWalkIn
import Derived.TacticsInMore
import Derived.LoopNIn
import Derived.LoopIn
import Derived.Shelf.Abstract
import Derived.Test.YtmlojnecmdnbpaaGreatDoorRows
import Derived.Test.YtmlojnecmdnbpaaGreatDoorAbsRx
namespace Go.Proofs.YtmlojnecmdnbpaaGreatDoor
open Go.Abs
set_option linter.unusedVariables false
set_option linter.unusedSimpArgs false

theorem mixed : Tryz.prog.follows .mixedOrders = true := by kernel_rfl
structure Tag (n : Nat) : Prop where
@[reducible] instance : Inhabited Int := instInhabitedDen (.int .i64)
@[reducible] instance : Inhabited Bool := instInhabitedDen .bool
@[reducible] instance : Inhabited ByteArray := instInhabitedDen .str


theorem u8_wrap (n : Int) : 0 ≤ IntKind.u8.wrap n ∧ IntKind.u8.wrap n < 256 := by simp [IntKind.wrap, IntKind.bits, IntKind.signed]; omega
theorem u32_wrap (n : Int) : 0 ≤ IntKind.u32.wrap n ∧ IntKind.u32.wrap n < 4294967296 := by simp [IntKind.wrap, IntKind.bits, IntKind.signed]; omega
theorem u64_wrap (n : Int) : 0 ≤ IntKind.u64.wrap n ∧ IntKind.u64.wrap n < 18446744073709551616 := by simp [IntKind.wrap, IntKind.bits, IntKind.signed]; omega
theorem u8_id {n : Int} (h : 0 ≤ n ∧ n < 256) : IntKind.u8.wrap n = n := by simp [IntKind.wrap, IntKind.bits, IntKind.signed]; omega
theorem u8_mod (n : Int) : IntKind.u8.wrap n = n % 256 := by simp [IntKind.wrap, IntKind.bits, IntKind.signed]
theorem u32_id {n : Int} (h : 0 ≤ n ∧ n < 4294967296) : IntKind.u32.wrap n = n := by simp [IntKind.wrap, IntKind.bits, IntKind.signed]; omega
theorem u64_id {n : Int} (h : 0 ≤ n ∧ n < 18446744073709551616) : IntKind.u64.wrap n = n := by simp [IntKind.wrap, IntKind.bits, IntKind.signed]; omega
theorem fdiv_pos' (a : Int) (n : Nat) : shrI .u64 a n = a.fdiv (2 ^ (min n 64)) := by simp [shrI, IntKind.bits]
theorem shr7 (a : Int) : shrI .u64 a 7 = a / 128 := by
  have : min (7 : Int).toNat IntKind.u64.bits = 7 := by decide
  unfold shrI; rw [this, Int.fdiv_eq_ediv_of_nonneg _ (by decide)]; rfl
theorem all256 {p : Nat → Bool} (h : (List.range 256).all p = true) {n : Int} (hn : 0 ≤ n ∧ n < 256) : p n.toNat = true :=
  List.all_eq_true.1 h _ (by simp; omega)
theorem or128 {a : Int} (h : 0 ≤ a ∧ a < 256) : bOr .u8 a 128 = a % 128 + 128 := by
  have := all256 (p := fun n => decide (bOr .u8 (n : Int) 128 = (n : Int) % 128 + 128)) (by kernel_rfl) h
  have := of_decide_eq_true this
  rwa [Int.toNat_of_nonneg h.1] at this
theorem and127 {a : Int} (h : 0 ≤ a ∧ a < 256) : bAnd .u8 a 127 = a % 128 := by
  have := all256 (p := fun n => decide (bAnd .u8 (n : Int) 127 = (n : Int) % 128)) (by kernel_rfl) h
  have := of_decide_eq_true this
  rwa [Int.toNat_of_nonneg h.1] at this
theorem andn128 {a : Int} (h : 0 ≤ a ∧ a < 256) : bAndN .u8 a 128 = a % 128 := by
  have := all256 (p := fun n => decide (bAndN .u8 (n : Int) 128 = (n : Int) % 128)) (by kernel_rfl) h
  have := of_decide_eq_true this
  rwa [Int.toNat_of_nonneg h.1] at this
theorem bXor_u8 (a b : Int) : 0 ≤ bXor .u8 a b ∧ bXor .u8 a b < 256 := u8_wrap _
theorem bXor_u32 (a b : Int) : 0 ≤ bXor .u32 a b ∧ bXor .u32 a b < 4294967296 := u32_wrap _
theorem bXor0 {a : Int} (h : 0 ≤ a ∧ a < 4294967296) : bXor .u32 a 0 = a := by
  unfold bXor
  rw [show BitVec.ofInt IntKind.u32.bits 0 = 0#IntKind.u32.bits from rfl, BitVec.xor_zero]
  rw [BitVec.toNat_ofInt]
  have : ((a % ((2 ^ IntKind.u32.bits : Nat) : Int)).toNat : Int) = a := by
    simp [IntKind.bits]; omega
  rw [this, u32_id h]
theorem bAnd1 {a : Int} (h : 0 ≤ a ∧ a < 4294967296) : bAnd .u32 a 1 = a % 2 := by
  unfold bAnd
  have e1 : (BitVec.ofInt IntKind.u32.bits a &&& BitVec.ofInt IntKind.u32.bits 1).toNat = (a % 2).toNat := by
    rw [BitVec.toNat_and, BitVec.toNat_ofInt, BitVec.toNat_ofInt]
    have : ((1 : Int) % ((2 ^ IntKind.u32.bits : Nat) : Int)).toNat = 1 := by decide
    rw [this, Nat.and_one_is_mod]
    simp [IntKind.bits]; omega
  rw [e1, u32_id (by omega)]; omega
theorem shr_u32 {a : Int} (h : 0 ≤ a ∧ a < 4294967296) (n : Nat) : 0 ≤ shrI .u32 a n ∧ shrI .u32 a n < 4294967296 := by
  unfold shrI
  have hp : (0 : Int) < 2 ^ (min ((n : Int)).toNat IntKind.u32.bits) := Int.pow_pos (by decide)
  rw [Int.fdiv_eq_ediv_of_nonneg _ (by omega)]
  exact ⟨Int.ediv_nonneg h.1 (by omega), Int.lt_of_le_of_lt (Int.ediv_le_self _ h.1) h.2⟩
theorem take_set {α : Type} (l : List α) (k : Nat) (v : α) (h : k < l.length) : (l.set k v).take (k + 1) = l.take k ++ [v] := by
  apply List.ext_getElem?
  intro i
  rw [List.getElem?_take, List.getElem?_append, List.getElem?_take]
  simp only [List.length_take, List.getElem?_set]
  by_cases h1 : i < k
  · rw [if_pos (by omega), if_neg (by omega), if_pos (by omega), if_pos h1]
  · by_cases h2 : i = k
    · subst h2
      rw [if_pos (by omega), if_pos rfl, if_pos h, if_neg (by omega)]
      simp [Nat.min_eq_left (Nat.le_of_lt h)]
    · rw [if_neg (by omega), if_neg (by omega)]
      simp; omega
theorem ofInts_app (a b : List Int) : ofInts (a ++ b) = ofInts a ++ ofInts b := by
  apply ByteArray.ext
  simp [ofInts]
theorem ofInts_len (l : List Int) : (ofInts l).size = l.length := by simp [ofInts, ByteArray.size]
theorem byteAt_rng (s : ByteArray) (i : Nat) : 0 ≤ byteAt s i ∧ byteAt s i < 256 := by
  unfold byteAt
  have := (s.get! i).toNat_lt
  omega


def rnd (v : Int) : Int := bXor .u32 (shrI .u32 v 1) (IntKind.u32.wrap (2197175160 * bAnd .u32 v 1))
def rndN : Nat → Int → Int
  | 0, v => v
  | n + 1, v => rndN n (rnd v)
theorem rnd_in (v : Int) : 0 ≤ rnd v ∧ rnd v < 4294967296 := bXor_u32 _ _
theorem rnd_one {v : Int} (h : bAnd .u32 v 1 = 1) : rnd v = bXor .u32 (shrI .u32 v 1) 2197175160 := by
  unfold rnd; rw [h]; rfl
theorem rnd_zero {v : Int} (hv : 0 ≤ v ∧ v < 4294967296) (h : ¬ bAnd .u32 v 1 = 1) : rnd v = shrI .u32 v 1 := by
  have h0 : bAnd .u32 v 1 = 0 := by rw [bAnd1 hv] at h ⊢; omega
  unfold rnd
  rw [h0, show IntKind.u32.wrap (2197175160 * 0) = 0 from rfl, bXor0 (by simpa using shr_u32 hv 1)]
theorem rndN_step {k v : Int} (h : 0 ≤ k ∧ k < 8) : rndN (8 - k).toNat v = rndN (8 - (k + 1)).toNat (rnd v) := by
  rw [show (8 - k).toNat = (8 - (k + 1)).toNat + 1 by omega]; rfl
def crcTab : List Int := (List.range 256).map fun i : Nat => rndN 8 (i : Int)
theorem crcTab_len : crcTab.length = 256 := by simp [crcTab]
def cstep (t : List Int) (v b : Int) : Int := bXor .u32 (shrI .u32 v 8) t[(bXor .u8 (IntKind.u8.wrap v) b).toNat]!
def bnot (v : Int) : Int := bXor .u32 (-1) v
def sumR (t : List Int) (s : ByteArray) : Int := if t.length = 256 then bnot ((toInts s).foldl (cstep t) 4294967295) else 0
def crcS (s : ByteArray) : Int := sumR crcTab s
theorem toInts_len (s : ByteArray) : (toInts s).length = s.size := by simp [toInts]
theorem toInts_get (s : ByteArray) (k : Nat) : (toInts s)[k]! = byteAt s k := by
  obtain ⟨d⟩ := s
  show (d.toList.map fun u => (u.toNat : Int))[k]! = ((d[k]!).toNat : Int)
  by_cases h : k < d.size
  · rw [getElem!_pos _ k (by simpa using h), getElem!_pos d k h]
    simp
  · rw [getElem!_neg _ k (by simpa using h), getElem!_neg d k h]
    rfl
theorem fold_step {t : List Int} {s : ByteArray} {k v : Int} (h : 0 ≤ k ∧ k < s.size) : ((toInts s).drop k.toNat).foldl (cstep t) v = ((toInts s).drop (k + 1).toNat).foldl (cstep t) (cstep t v (byteAt s k.toNat)) := by
  rw [drop_step (toInts s) k (by rw [toInts_len]; exact h), List.foldl_cons, toInts_get]

abbrev c_table_ok : Ct := .fn [] (none) (.d (.list (.int .u32)) crcTab)
set_option maxRecDepth 100000 in
set_option maxHeartbeats 4000000 in
theorem table_ok : CtOk Tryz.prog 63 c_table_ok := by
  refine CtOk.fn TblOk.nil mixed [(0, 5, 1)] [] rfl rfl ?_
  rintro ⟨⟩ -
  refine ⟨[(0, 6, LA.mk [.sl 7 (.int .i64), .ar 0 (.int .u32) 132] (fun y => Tag 1 ∧ cu [.int .i64, .list (.int .u32)] (fun (k : Int) (M : List Int) => (0 ≤ k ∧ k ≤ 256) ∧ (M.length = 256) ∧ (M.take k.toNat = (List.range k.toNat).map (fun i : Nat => rndN 8 (i : Int)))) y) (cu [.int .i64, .list (.int .u32)] (fun (k : Int) (M : List Int) => ((256 : Int) - k).toNat)) (cu [.int .i64, .list (.int .u32)] (fun (k : Int) (M : List Int) => ([(0, 14, LA.mk [.sl 12 (.int .i64), .sl 3 (.int .u32)] (fun y => Tag 2 ∧ cu [.int .i64, .int .u32] (fun (j : Int) (v : Int) => (0 ≤ j ∧ j ≤ 8) ∧ (rndN (8 - j).toNat v = rndN 8 k)) y) (cu [.int .i64, .int .u32] (fun (j : Int) (v : Int) => ((8 : Int) - j).toNat)) (cu [.int .i64, .int .u32] (fun (j : Int) (v : Int) => ([] : List (Nat × Nat × LA)))))] : List (Nat × Nat × LA)))))], ?_⟩
  repeat' (first
    | (
 with_reducible refine Side.mk ⟨(⟨⟩ : Tag 1), ?_⟩
 dsimp only [cu, joinT, ckTys, gts, Prod.eta, List.nil_append]
 refine ⟨?_, ?_, ?_⟩
 · omega
 · first
   | (simp; done)
   | (simp; omega)
 · first
   | (simp; done)
   | (
  rw [show (k + 1).toNat = k.toNat + 1 by omega, take_set _ _ _ (by omega), hm, List.range_succ, List.map_append]
  simp only [List.map_cons, List.map_nil]
  rw [show ((k.toNat : Nat) : Int) = k by omega, ← hj, show (8 - j).toNat = 0 by omega]
  rfl))
    | (
 with_reducible refine Side.mk ⟨(⟨⟩ : Tag 2), ?_⟩
 dsimp only [cu, joinT, ckTys, gts, Prod.eta, List.nil_append]
 refine ⟨?_, ?_⟩
 · omega
 · first
   | (rfl)
   | (rw [← hj, rndN_step (k := j) (v := v) (by omega)]; (try rfl)))
    | (
 with_reducible refine Side.mk ?_
 (try dsimp only [cu, joinT, ckTys, gts, loK, hiK, Prod.eta, List.nil_append])
 first
 | (done)
 | (with_reducible rfl)
 | (omega)
 | (exact Eq.refl _)
 | (simp only [List.length_append, List.length_cons, List.length_nil]; omega))
    | (conv => whnf
       first
        | done
        | exact trivial
        | with_reducible refine NilBr.mk (fun h => ?_) ?_
        | with_reducible first | refine w_andS ?_ ?_ | refine w_andL ?_ ?_ | refine w_kern (by kernel_rfl) ?_ | refine w_true ?_ | refine w_nd ?_ ?_ | refine w_in ?_ ?_ | refine w_and ?_ ?_
        | ((with_reducible first | refine w_brN (fun h => ?_) (fun h => ?_) | refine w_brD (fun h => ?_) (fun h => ?_) | refine w_br (fun h => ?_) (fun h => ?_)) <;> (try dsimp only [cu, Prod.eta, List.nil_append] at h) <;> (try (exfalso; omega; done)))
        | (
 intro yy (hy : Tag 1 ∧ _)
 obtain ⟨(k : Int), (M : List Int), _⟩ := yy
 replace hy := hy.2
 dsimp only [cu, joinT, ckTys, gts, Prod.eta, List.nil_append] at hy
 obtain ⟨hk, hl, hm⟩ := hy)
        | (
 intro yy (hy : Tag 2 ∧ _)
 obtain ⟨(j : Int), (v : Int), _⟩ := yy
 replace hy := hy.2
 dsimp only [cu, joinT, ckTys, gts, Prod.eta, List.nil_append] at hy
 obtain ⟨hj, hj⟩ := hy)))
  all_goals (
 with_reducible refine Leaf.mk ?_
 (try dsimp only [cu, joinT, ckTys, gts, Prod.eta, List.nil_append] at *)
 first
 | (done)
 | (
  rw [show k.toNat = 256 by omega, List.take_of_length_le (by omega)] at hm
  exact hm))
abbrev tb1 : Tbl := (63, c_table_ok) :: ([] : Tbl)
theorem tb1_ok : TblOk Tryz.prog tb1 := TblOk.cons table_ok TblOk.nil

theorem rbstr_ok_nil (b o : Nat) (w : World) (hc : w.cell? ⟨b, o + 1, none⟩ = some (.slice none 0 0)) :
    Calls Tryz.prog 31 #[.pointer (some ⟨b, o, none⟩)] w fun e w' => e = .returned (.string ⟨#[]⟩) ∧ w' = w.drew := by
  have hUS : ∀ W : World, (Builtin.unsafeString_ #[137, 3] 9 #[.pointer none, .int .i64 0]).run Tryz.prog W = .ok (.string .empty) W := fun W => Lib.run_unsafeString_none W _ _ _ none
  have c1 : w.drew.cell? ⟨b, o + 1, none⟩ = some (.slice none 0 0) := hc
  have hSD : ∀ W : World, (Builtin.unsafeSliceData_ #[88] 137 #[.slice none 0 0]).run Tryz.prog W = .ok (.pointer none) W := fun W => rfl
  go_enter Tryz.func31, Tryz.ntmps31
  go_wp2
  go_region
  all_goals (go_wp2; go_ret; exact ⟨rfl, rfl⟩)
theorem rbstr_ok_some (b o : Nat) (a : Addr) (n cap : Nat) (s : ByteArray) (w : World) (hc : w.cell? ⟨b, o + 1, none⟩ = some (.slice (some a) n cap)) (h0 : cap ≠ 0)
    (hUS : (Builtin.unsafeString_ #[137, 3] 9 #[.pointer (some a), .int .i64 n]).run Tryz.prog w.drew = .ok (.string s) (w.drew.freeze a n)) :
    Calls Tryz.prog 31 #[.pointer (some ⟨b, o, none⟩)] w fun e w' => e = .returned (.string s) ∧ w' = w.drew.freeze a n := by
  have c1 : w.drew.cell? ⟨b, o + 1, none⟩ = some (.slice (some a) n cap) := hc
  have hSD : (Builtin.unsafeSliceData_ #[88] 137 #[.slice (some a) n cap]).run Tryz.prog w.drew = .ok (.pointer (some a)) w.drew := Lib.run_unsafeSliceData_row _ _ _ _ _ _ h0
  go_enter Tryz.func31, Tryz.ntmps31
  go_wp2
  go_region
  all_goals (go_wp2; go_ret; exact ⟨rfl, rfl⟩)
theorem rbstr_ok : RDOk Tryz.prog (rbldS 31 5) := rbldS_ok (pt := 137) (it := 3) (ty := 9) (by kernel_rfl) (by kernel_rfl) rbstr_ok_nil rbstr_ok_some

open Go.RowKit


set_option maxRecDepth 100000 in
set_option maxHeartbeats 2000000 in
theorem chunk_it68 : ChunkItK Tryz.prog 68 2 := by
  intro n l b1 o1 b2 o2 g off len cap B K st sv hsv hlen hB1 hB2 s0 s1 s2 s3 J Jx hJ hY W h1 h2 h0
  rcases hsv with ⟨rfl, rfl⟩ | ⟨rfl, hcap⟩
  · have hK : K = 0 := by
      rcases Nat.eq_zero_or_pos K with q | q
      · exact q
      · exact absurd (s2 0 q) (Nat.not_lt_zero _)
    subst hK
    refine callsIn_of_wp Tryz.func68 rfl trivial ?_ rfl
    simp only [Tryz.ntmps68, List.size_toArray, List.length_cons, List.length_nil, Nat.reduceAdd, Nat.reduceSub, Array.replicate_succ, Array.replicate_zero, List.push_toArray, List.append_toArray, List.nil_append, List.cons_append]
    gi_wp2
    gi_loopw [4] (fun i wr => i = .int .i64 0 ∧ J [] wr ∧ Kp ⟨b1, o1, none⟩ ⟨b2, o2, none⟩ W wr) (fun i _ => 0)
    case atStart => exact ⟨rfl, h0, rfl, rfl⟩
    case round =>
      obtain ⟨rfl, hJs, hk1, hk2⟩ := hrel
      have c1 : wr.cell? ⟨b1, o1, none⟩ = some (.slice none 0 0) := hk1.trans h1
      have c2 : wr.cell? ⟨b2, o2, none⟩ = some (.int .i64 (B : Nat)) := hk2.trans h2
      gi_wp2
      go_end0
      exact ⟨⟨_, rfl⟩, .inl (by first | exact hJs | exact ⟨[], rfl, hJs⟩)⟩
  · have hfin : ∀ k, k ≤ K → ¬ st k < len → k = K := by
      intro k hk hn
      rcases Nat.lt_or_ge k K with q | q
      · exact absurd (s2 k q) hn
      · omega
    refine callsIn_of_wp Tryz.func68 rfl trivial ?_ rfl
    simp only [Tryz.ntmps68, List.size_toArray, List.length_cons, List.length_nil, Nat.reduceAdd, Nat.reduceSub, Array.replicate_succ, Array.replicate_zero, List.push_toArray, List.append_toArray, List.nil_append, List.cons_append]
    gi_wp2
    gi_loopw [4] (fun i wr => ∃ (k : Nat) (ys : List (CkK K)), i = .int .i64 ((st k : Nat) : Int) ∧ ys.map (·.1) = List.range k ∧ k ≤ K ∧ st k < len + B ∧ J ys wr ∧ Kp ⟨b1, o1, none⟩ ⟨b2, o2, none⟩ W wr)
      (fun i _ => len + B + 1 - (intOf i).toNat)
    case atStart => exact ⟨0, [], by rw [s0]; rfl, rfl, Nat.zero_le _, by rw [s0]; omega, h0, rfl, rfl⟩
    case round =>
      obtain ⟨k, ys, rfl, hys, hk, hkb, hJs, hk1, hk2⟩ := hrel
      have c1 : wr.cell? ⟨b1, o1, none⟩ = some (.slice (some ⟨g, off, none⟩) len cap) := hk1.trans h1
      have c2 : wr.cell? ⟨b2, o2, none⟩ = some (.int .i64 (B : Nat)) := hk2.trans h2
      by_cases hlt : st k < len
      · have hkK : k < K := by
          rcases Nat.lt_or_ge k K with q | q
          · exact q
          · have : k = K := by omega
            subst this; omega
        have hyl : ys.length = k := by have := congrArg List.length hys; simpa using this
        have hst := s1 k
        gi_wp2
        gi_region
        obtain ⟨m, hm⟩ : ∃ m, m = min B (len - st k) := ⟨_, rfl⟩
        have hmi : (if ((len - st k : Nat) : Int) < (B : Int) then ((len - st k : Nat) : Int) else (B : Int)) = ((m : Nat) : Int) := by
          rw [hm]; split <;> omega
        have hm1 : st k + m ≤ len ∧ 1 ≤ m ∧ m ≤ B := by omega
        have hJd : J ys wr.drew := hJ ys wr wr.drew none hJs ⟨rfl, rfl, rfl, Nat.le_refl _, fun k _ _ => rfl⟩ (fun r q => by cases q)
        obtain ⟨fn, tmps, assign, body, hy, hR⟩ := hY ys ⟨k, hkK⟩ wr.drew hJd (by omega)
        have c1 : wr.drew.cell? ⟨b1, o1, none⟩ = some (.slice (some ⟨g, off, none⟩) len cap) := c1
        have c2 : wr.drew.cell? ⟨b2, o2, none⟩ = some (.int .i64 (B : Nat)) := c2
        dsimp only [ckK] at hy
        (try simp only [Nat.mul_one] at hy)
        have hmi2 : (if len - st k < B then ((len - st k : Nat) : Int) else ((B : Nat) : Int)) = ((m : Nat) : Int) := by
          rw [hm]; split <;> omega
        first | rw [hmi2] | rw [hmi] | rw [show min (B : Int) ((len - st k : Nat) : Int) = ((m : Nat) : Int) by rw [hm]; omega]
        gi_wp2
        refine ⟨(by intro q; cases q), hR.mono ?_⟩
        rintro e W3 (⟨rfl, hJ3, hk31, hk32⟩ | ⟨rfl, hJx3⟩)
        · have c3 : W3.cell? ⟨b2, o2, none⟩ = some (.int .i64 (B : Nat)) := hk32.trans c2
          gi_wp2
          go_roundw
          case rel => exact ⟨k + 1, ys ++ [⟨k, hkK⟩], by simp; omega, by rw [List.map_append, hys, List.range_succ]; rfl, by omega, by omega, hJ3, hk31.trans hk1, hk32.trans hk2⟩
          case measure => simp [intOf]; omega
        · gi_wp2
          refine bodyPost_ret (results_none rfl _ _ _) rfl ?_
          exact ⟨⟨_, rfl⟩, .inr ⟨_, hJx3⟩⟩
      · have hkK := hfin k hk hlt
        subst hkK
        gi_wp2
        go_end0
        exact ⟨⟨_, rfl⟩, .inl ⟨ys, hys, hJs⟩⟩


set_option maxRecDepth 100000 in
set_option maxHeartbeats 2000000 in
theorem chunk_it196 : ChunkItK Tryz.prog 196 1 := by
  intro n l b1 o1 b2 o2 g off len cap B K st sv hsv hlen hB1 hB2 s0 s1 s2 s3 J Jx hJ hY W h1 h2 h0
  rcases hsv with ⟨rfl, rfl⟩ | ⟨rfl, hcap⟩
  · have hK : K = 0 := by
      rcases Nat.eq_zero_or_pos K with q | q
      · exact q
      · exact absurd (s2 0 q) (Nat.not_lt_zero _)
    subst hK
    refine callsIn_of_wp Tryz.func196 rfl trivial ?_ rfl
    simp only [Tryz.ntmps196, List.size_toArray, List.length_cons, List.length_nil, Nat.reduceAdd, Nat.reduceSub, Array.replicate_succ, Array.replicate_zero, List.push_toArray, List.append_toArray, List.nil_append, List.cons_append]
    gi_wp2
    gi_loopw [4] (fun i wr => i = .int .i64 0 ∧ J [] wr ∧ Kp ⟨b1, o1, none⟩ ⟨b2, o2, none⟩ W wr) (fun i _ => 0)
    case atStart => exact ⟨rfl, h0, rfl, rfl⟩
    case round =>
      obtain ⟨rfl, hJs, hk1, hk2⟩ := hrel
      have c1 : wr.cell? ⟨b1, o1, none⟩ = some (.slice none 0 0) := hk1.trans h1
      have c2 : wr.cell? ⟨b2, o2, none⟩ = some (.int .i64 (B : Nat)) := hk2.trans h2
      gi_wp2
      go_end0
      exact ⟨⟨_, rfl⟩, .inl (by first | exact hJs | exact ⟨[], rfl, hJs⟩)⟩
  · have hfin : ∀ k, k ≤ K → ¬ st k < len → k = K := by
      intro k hk hn
      rcases Nat.lt_or_ge k K with q | q
      · exact absurd (s2 k q) hn
      · omega
    refine callsIn_of_wp Tryz.func196 rfl trivial ?_ rfl
    simp only [Tryz.ntmps196, List.size_toArray, List.length_cons, List.length_nil, Nat.reduceAdd, Nat.reduceSub, Array.replicate_succ, Array.replicate_zero, List.push_toArray, List.append_toArray, List.nil_append, List.cons_append]
    gi_wp2
    gi_loopw [4] (fun i wr => ∃ (k : Nat) (ys : List (CkK K)), i = .int .i64 ((st k : Nat) : Int) ∧ ys.map (·.1) = List.range k ∧ k ≤ K ∧ st k < len + B ∧ J ys wr ∧ Kp ⟨b1, o1, none⟩ ⟨b2, o2, none⟩ W wr)
      (fun i _ => len + B + 1 - (intOf i).toNat)
    case atStart => exact ⟨0, [], by rw [s0]; rfl, rfl, Nat.zero_le _, by rw [s0]; omega, h0, rfl, rfl⟩
    case round =>
      obtain ⟨k, ys, rfl, hys, hk, hkb, hJs, hk1, hk2⟩ := hrel
      have c1 : wr.cell? ⟨b1, o1, none⟩ = some (.slice (some ⟨g, off, none⟩) len cap) := hk1.trans h1
      have c2 : wr.cell? ⟨b2, o2, none⟩ = some (.int .i64 (B : Nat)) := hk2.trans h2
      by_cases hlt : st k < len
      · have hkK : k < K := by
          rcases Nat.lt_or_ge k K with q | q
          · exact q
          · have : k = K := by omega
            subst this; omega
        have hyl : ys.length = k := by have := congrArg List.length hys; simpa using this
        have hst := s1 k
        gi_wp2
        gi_region
        obtain ⟨m, hm⟩ : ∃ m, m = min B (len - st k) := ⟨_, rfl⟩
        have hmi : (if ((len - st k : Nat) : Int) < (B : Int) then ((len - st k : Nat) : Int) else (B : Int)) = ((m : Nat) : Int) := by
          rw [hm]; split <;> omega
        have hm1 : st k + m ≤ len ∧ 1 ≤ m ∧ m ≤ B := by omega
        have hJd : J ys wr.drew := hJ ys wr wr.drew none hJs ⟨rfl, rfl, rfl, Nat.le_refl _, fun k _ _ => rfl⟩ (fun r q => by cases q)
        obtain ⟨fn, tmps, assign, body, hy, hR⟩ := hY ys ⟨k, hkK⟩ wr.drew hJd (by omega)
        have c1 : wr.drew.cell? ⟨b1, o1, none⟩ = some (.slice (some ⟨g, off, none⟩) len cap) := c1
        have c2 : wr.drew.cell? ⟨b2, o2, none⟩ = some (.int .i64 (B : Nat)) := c2
        dsimp only [ckK] at hy
        (try simp only [Nat.mul_one] at hy)
        have hmi2 : (if len - st k < B then ((len - st k : Nat) : Int) else ((B : Nat) : Int)) = ((m : Nat) : Int) := by
          rw [hm]; split <;> omega
        first | rw [hmi2] | rw [hmi] | rw [show min (B : Int) ((len - st k : Nat) : Int) = ((m : Nat) : Int) by rw [hm]; omega]
        gi_wp2
        refine ⟨(by intro q; cases q), hR.mono ?_⟩
        rintro e W3 (⟨rfl, hJ3, hk31, hk32⟩ | ⟨rfl, hJx3⟩)
        · have c3 : W3.cell? ⟨b2, o2, none⟩ = some (.int .i64 (B : Nat)) := hk32.trans c2
          gi_wp2
          go_roundw
          case rel => exact ⟨k + 1, ys ++ [⟨k, hkK⟩], by simp; omega, by rw [List.map_append, hys, List.range_succ]; rfl, by omega, by omega, hJ3, hk31.trans hk1, hk32.trans hk2⟩
          case measure => simp [intOf]; omega
        · gi_wp2
          refine bodyPost_ret (results_none rfl _ _ _) rfl ?_
          exact ⟨⟨_, rfl⟩, .inr ⟨_, hJx3⟩⟩
      · have hkK := hfin k hk hlt
        subst hkK
        gi_wp2
        go_end0
        exact ⟨⟨_, rfl⟩, .inl ⟨ys, hys, hJs⟩⟩

noncomputable section
def known : RD := fun g args H => match rcst 63 (.sF 1 (crcTab.map (Ty.row (.int .u32)))) g args H with
  | some r => some r
  | none => rbldS 31 5 g args H
theorem known_ok : RDOk Tryz.prog known := RDOk.or (rcst_ok (CtOk.cst table_ok)) rbstr_ok
def itsOf (g : FuncId) : Nat := bif Nat.beq g 68 then 2 else bif Nat.beq g 196 then 1 else 0
def env : RE := ⟨known, fun f => Nat.beq f 20 || Nat.beq f 146, itsOf⟩
theorem env_ok : REOk Tryz.prog env := ⟨known_ok, fun g h => by
  have h : itsOf g ≠ 0 := h
  show ChunkItK _ g (itsOf g) ∧ _
  unfold itsOf at h ⊢
  cases q68 : Nat.beq g 68 with
  | true =>
    rw [Nat.eq_of_beq_eq_true q68]
    exact ⟨chunk_it68, by kernel_rfl⟩
  | false =>
    simp only [q68, cond_false] at h ⊢
    cases q196 : Nat.beq g 196 with
    | true =>
      rw [Nat.eq_of_beq_eq_true q196]
      exact ⟨chunk_it196, by kernel_rfl⟩
    | false =>
      simp only [q196, cond_false] at h ⊢
      exact absurd rfl h⟩
end

end Go.Proofs.YtmlojnecmdnbpaaGreatDoor
