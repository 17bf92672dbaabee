/- Contracts of the schema checks. -/
import Derived.Test.YtinehkfcploeiaaVals
namespace Go.Proofs.Ytinehkfcploeiaa
open Go.Abs
set_option linter.unusedVariables false
set_option linter.unusedSimpArgs false


def KEY : ByteArray := ⟨#[107, 101, 121]⟩
def okChar (first : Bool) (c : Int) : Bool := (decide (97 ≤ c) && decide (c ≤ 122)) || (!first && (decide (c = 95) || (decide (48 ≤ c) && decide (c ≤ 57))))
def okName (s : ByteArray) : Bool := decide (1 ≤ s.size) && decide (s.size ≤ 16) && !(strEq s KEY) && (List.range s.size).all (fun i => okChar (decide (i = 0)) (byteAt s i))
theorem okName_true {s : ByteArray} (h1 : 1 ≤ s.size) (h2 : s.size ≤ 16) (h3 : strEq s KEY = false) (h4 : ∀ i, i < s.size → okChar (decide (i = 0)) (byteAt s i) = true) : okName s = true := by
  simp only [okName, h3, Bool.and_eq_true, decide_eq_true_eq, List.all_eq_true, List.mem_range]
  exact ⟨⟨⟨h1, h2⟩, rfl⟩, h4⟩
theorem okName_false {s : ByteArray} (i : Nat) (hi : i < s.size) (h : okChar (decide (i = 0)) (byteAt s i) = false) : okName s = false := by
  have : (List.range s.size).all (fun i => okChar (decide (i = 0)) (byteAt s i)) = false := by
    rw [List.all_eq_false]
    exact ⟨i, by simpa using hi, by simp [h]⟩
  simp [okName, this]
def colIdx (name : ByteArray) (l : List Col) (k : Int) : Int := idxFrom (fun c => strEq c.name name) k l
def okScale (c : Col) : Bool := decide (0 ≤ c.scale) && decide (c.scale ≤ 18) && (decide (c.type = 5) || decide (c.scale = 0))
def colErr (l : List Col) (i : Int) (c : Col) : Int := if okName c.name = false then 3 else if colIdx c.name l 0 < i then 5 else if vKnown c.type = false then 11 else if okScale c = false then 4 else 0
def schemaErr (s : Schema) : Int := if s.columns.length = 0 then 1 else if 12 < s.columns.length then 7 else if errFrom (colErr s.columns) 0 s.columns ≠ 0 then errFrom (colErr s.columns) 0 s.columns
  else if s.key < 0 ∨ s.columns.length ≤ s.key then 4 else 0

set_option maxHeartbeats 4000000 in
theorem name_ok_walk (s : ByteArray) : PC Try.prog 48 [sv s] [] (fun yR kR => Tof noTau kR yR (bv (okName s))) := by
  refine PC.of_bodyV Try.func48 rfl (sv s :: U9 (U9 (U9 (U9 (U9 ([U, U, U, U, U, U, U])))))) (by kernel_rfl) (fun K0 hret => ?_)
  refine PV.seq_k fun K1 hK1 => ?_
  refine PV.regionN ?_
  refine PON.runs 1 (by kernel_rfl) ?_
  refine PON.fin rfl (thenA_normal (hK1 _ ?_))
  refine PV.seq_k fun K2 hK2 => ?_
  refine PV.norm ⟨(sv s :: U :: bv false :: U9 (U9 (U9 (U9 (U9 ([U, U, U, U, U])))))), []⟩ (by kernel_rfl) ?_
  refine PV.seqR [] ⟨(sv s :: U :: bv false :: U :: U :: A9 (A9 (A :: A :: bv (decide ((s = ByteArray.empty) ∨ (((s.size : Int) > 16) ∨ (((byteAt s 0) < 97) ∨ (((byteAt s 0) > 122) ∨ (s = (⟨#[107, 101, 121]⟩ : ByteArray))))))) :: U9 (U9 (U9 ([])))))), []⟩ ?_ ?_
  · skip
    refine PV.regionN ?_
    refine PON.runs 3 (by kernel_rfl) ?_
    refine PON.norm ⟨(sv s :: U :: bv false :: U :: U :: sv s :: bv (strEq s ByteArray.empty) :: bv (strEq s ByteArray.empty) :: U9 (U9 (U9 (U9 (U9 ([])))))), []⟩ (by kernel_rfl) ?_
    refine PON.splitP (s = ByteArray.empty) 7 (strEq s ByteArray.empty) (sv s :: U :: bv false :: U :: U :: sv s :: bv (strEq s ByteArray.empty) :: bv true :: U9 (U9 (U9 (U9 (U9 ([])))))) (sv s :: U :: bv false :: U :: U :: sv s :: bv (strEq s ByteArray.empty) :: bv false :: U9 (U9 (U9 (U9 (U9 ([])))))) (by kernel_rfl) str_tt str_ff (by kernel_rfl) (by kernel_rfl) (fun h3 => ?_) (fun h3 => ?_)
    · skip
      refine PON.runs 18 (by kernel_rfl) ?_
      refine PON.norm ⟨(sv s :: U :: bv false :: U :: U :: sv s :: bv (strEq s ByteArray.empty) :: bv true :: U :: U :: U :: bv true :: bv true :: U :: U :: U :: bv true :: bv true :: U :: U :: U :: bv true :: bv true :: U :: U :: bv true :: U9 (U9 (U9 ([])))), []⟩ (by kernel_rfl) ?_
      refine PON.fin rfl (thenA_normal ?_)
      exact ⟨rfl, rfl, (.v (.v (.v (.v (.v (.a9 (.a9 (.any (.any (.cons (.eq (.v _) (v_bool (by clear hret hK1 hK2 K0 K1 K2; (try simp only [strEq_dec]); grind))) (.v (.v (.v (.v (.v (.v (.v (.v (.v (.v (.v (.v (.v (.v (.v (.v (.v (.v (.v (.v (.v (.v (.v (.v (.v (.v (.v .nil))))))))))))))))))))))))))))))))))))), .nil⟩
    refine PON.runs 5 (by kernel_rfl) ?_
    refine PON.norm ⟨(sv s :: U :: bv false :: U :: U :: sv s :: bv (strEq s ByteArray.empty) :: bv false :: sv s :: iv (s.size : Int) :: bv (decide ((s.size : Int) > 16)) :: bv (decide ((s.size : Int) > 16)) :: bv (decide ((s.size : Int) > 16)) :: U9 (U9 (U9 (U9 ([U, U, U, U]))))), []⟩ (by kernel_rfl) ?_
    refine PON.splitP ((s.size : Int) > 16) 12 (decide ((s.size : Int) > 16)) (sv s :: U :: bv false :: U :: U :: sv s :: bv (strEq s ByteArray.empty) :: bv false :: sv s :: iv (s.size : Int) :: bv (decide ((s.size : Int) > 16)) :: bv (decide ((s.size : Int) > 16)) :: bv true :: U9 (U9 (U9 (U9 ([U, U, U, U]))))) (sv s :: U :: bv false :: U :: U :: sv s :: bv (strEq s ByteArray.empty) :: bv false :: sv s :: iv (s.size : Int) :: bv (decide ((s.size : Int) > 16)) :: bv (decide ((s.size : Int) > 16)) :: bv false :: U9 (U9 (U9 (U9 ([U, U, U, U]))))) (by kernel_rfl) decide_eq_true decide_eq_false (by kernel_rfl) (by kernel_rfl) (fun h4 => ?_) (fun h4 => ?_)
    · skip
      refine PON.runs 13 (by kernel_rfl) ?_
      refine PON.norm ⟨(sv s :: U :: bv false :: U :: U :: sv s :: bv (strEq s ByteArray.empty) :: bv false :: sv s :: iv (s.size : Int) :: bv (decide ((s.size : Int) > 16)) :: bv (decide ((s.size : Int) > 16)) :: bv true :: U :: U :: U :: bv true :: bv true :: U :: U :: U :: bv true :: bv true :: U :: U :: bv true :: U9 (U9 (U9 ([])))), []⟩ (by kernel_rfl) ?_
      refine PON.fin rfl (thenA_normal ?_)
      exact ⟨rfl, rfl, (.v (.v (.v (.v (.v (.a9 (.a9 (.any (.any (.cons (.eq (.v _) (v_bool (by clear hret hK1 hK2 K0 K1 K2; (try simp only [strEq_dec]); grind))) (.v (.v (.v (.v (.v (.v (.v (.v (.v (.v (.v (.v (.v (.v (.v (.v (.v (.v (.v (.v (.v (.v (.v (.v (.v (.v (.v .nil))))))))))))))))))))))))))))))))))))), .nil⟩
    refine PON.runs 1 (by kernel_rfl) ?_
    refine PON.ops (aIndex_str Try.prog [] 9 s .i64 0 (by kernel_rfl) (by first | omega | (have := size_pos_of_ne (by assumption); omega))) (by kernel_rfl) (by kernel_rfl) ?_
    refine PON.runs 3 (by kernel_rfl) ?_
    refine PON.norm ⟨(sv s :: U :: bv false :: U :: U :: sv s :: bv (strEq s ByteArray.empty) :: bv false :: sv s :: iv (s.size : Int) :: bv (decide ((s.size : Int) > 16)) :: bv (decide ((s.size : Int) > 16)) :: bv false :: sv s :: .v (.int .u8 (byteAt s 0)) :: bv (decide ((byteAt s 0) < 97)) :: bv (decide ((byteAt s 0) < 97)) :: bv (decide ((byteAt s 0) < 97)) :: U9 (U9 (U9 ([U, U, U, U, U, U, U, U])))), []⟩ (by kernel_rfl) ?_
    refine PON.splitP ((byteAt s 0) < 97) 17 (decide ((byteAt s 0) < 97)) (sv s :: U :: bv false :: U :: U :: sv s :: bv (strEq s ByteArray.empty) :: bv false :: sv s :: iv (s.size : Int) :: bv (decide ((s.size : Int) > 16)) :: bv (decide ((s.size : Int) > 16)) :: bv false :: sv s :: .v (.int .u8 (byteAt s 0)) :: bv (decide ((byteAt s 0) < 97)) :: bv (decide ((byteAt s 0) < 97)) :: bv true :: U9 (U9 (U9 ([U, U, U, U, U, U, U, U])))) (sv s :: U :: bv false :: U :: U :: sv s :: bv (strEq s ByteArray.empty) :: bv false :: sv s :: iv (s.size : Int) :: bv (decide ((s.size : Int) > 16)) :: bv (decide ((s.size : Int) > 16)) :: bv false :: sv s :: .v (.int .u8 (byteAt s 0)) :: bv (decide ((byteAt s 0) < 97)) :: bv (decide ((byteAt s 0) < 97)) :: bv false :: U9 (U9 (U9 ([U, U, U, U, U, U, U, U])))) (by kernel_rfl) decide_eq_true decide_eq_false (by kernel_rfl) (by kernel_rfl) (fun h5 => ?_) (fun h5 => ?_)
    · skip
      refine PON.runs 8 (by kernel_rfl) ?_
      refine PON.norm ⟨(sv s :: U :: bv false :: U :: U :: sv s :: bv (strEq s ByteArray.empty) :: bv false :: sv s :: iv (s.size : Int) :: bv (decide ((s.size : Int) > 16)) :: bv (decide ((s.size : Int) > 16)) :: bv false :: sv s :: .v (.int .u8 (byteAt s 0)) :: bv (decide ((byteAt s 0) < 97)) :: bv (decide ((byteAt s 0) < 97)) :: bv true :: U :: U :: U :: bv true :: bv true :: U :: U :: bv true :: U9 (U9 (U9 ([])))), []⟩ (by kernel_rfl) ?_
      refine PON.fin rfl (thenA_normal ?_)
      exact ⟨rfl, rfl, (.v (.v (.v (.v (.v (.a9 (.a9 (.any (.any (.cons (.eq (.v _) (v_bool (by clear hret hK1 hK2 K0 K1 K2; (try simp only [strEq_dec]); grind))) (.v (.v (.v (.v (.v (.v (.v (.v (.v (.v (.v (.v (.v (.v (.v (.v (.v (.v (.v (.v (.v (.v (.v (.v (.v (.v (.v .nil))))))))))))))))))))))))))))))))))))), .nil⟩
    refine PON.runs 1 (by kernel_rfl) ?_
    refine PON.ops (aIndex_str Try.prog [] 9 s .i64 0 (by kernel_rfl) (by first | omega | (have := size_pos_of_ne (by assumption); omega))) (by kernel_rfl) (by kernel_rfl) ?_
    refine PON.runs 3 (by kernel_rfl) ?_
    refine PON.norm ⟨(sv s :: U :: bv false :: U :: U :: sv s :: bv (strEq s ByteArray.empty) :: bv false :: sv s :: iv (s.size : Int) :: bv (decide ((s.size : Int) > 16)) :: bv (decide ((s.size : Int) > 16)) :: bv false :: sv s :: .v (.int .u8 (byteAt s 0)) :: bv (decide ((byteAt s 0) < 97)) :: bv (decide ((byteAt s 0) < 97)) :: bv false :: sv s :: .v (.int .u8 (byteAt s 0)) :: bv (decide ((byteAt s 0) > 122)) :: bv (decide ((byteAt s 0) > 122)) :: bv (decide ((byteAt s 0) > 122)) :: U9 (U9 (U9 ([U, U, U])))), []⟩ (by kernel_rfl) ?_
    refine PON.splitP ((byteAt s 0) > 122) 22 (decide ((byteAt s 0) > 122)) (sv s :: U :: bv false :: U :: U :: sv s :: bv (strEq s ByteArray.empty) :: bv false :: sv s :: iv (s.size : Int) :: bv (decide ((s.size : Int) > 16)) :: bv (decide ((s.size : Int) > 16)) :: bv false :: sv s :: .v (.int .u8 (byteAt s 0)) :: bv (decide ((byteAt s 0) < 97)) :: bv (decide ((byteAt s 0) < 97)) :: bv false :: sv s :: .v (.int .u8 (byteAt s 0)) :: bv (decide ((byteAt s 0) > 122)) :: bv (decide ((byteAt s 0) > 122)) :: bv true :: U9 (U9 (U9 ([U, U, U])))) (sv s :: U :: bv false :: U :: U :: sv s :: bv (strEq s ByteArray.empty) :: bv false :: sv s :: iv (s.size : Int) :: bv (decide ((s.size : Int) > 16)) :: bv (decide ((s.size : Int) > 16)) :: bv false :: sv s :: .v (.int .u8 (byteAt s 0)) :: bv (decide ((byteAt s 0) < 97)) :: bv (decide ((byteAt s 0) < 97)) :: bv false :: sv s :: .v (.int .u8 (byteAt s 0)) :: bv (decide ((byteAt s 0) > 122)) :: bv (decide ((byteAt s 0) > 122)) :: bv false :: U9 (U9 (U9 ([U, U, U])))) (by kernel_rfl) decide_eq_true decide_eq_false (by kernel_rfl) (by kernel_rfl) (fun h6 => ?_) (fun h6 => ?_)
    · skip
      refine PON.runs 3 (by kernel_rfl) ?_
      refine PON.norm ⟨(sv s :: U :: bv false :: U :: U :: sv s :: bv (strEq s ByteArray.empty) :: bv false :: sv s :: iv (s.size : Int) :: bv (decide ((s.size : Int) > 16)) :: bv (decide ((s.size : Int) > 16)) :: bv false :: sv s :: .v (.int .u8 (byteAt s 0)) :: bv (decide ((byteAt s 0) < 97)) :: bv (decide ((byteAt s 0) < 97)) :: bv false :: sv s :: .v (.int .u8 (byteAt s 0)) :: bv (decide ((byteAt s 0) > 122)) :: bv (decide ((byteAt s 0) > 122)) :: bv true :: U :: U :: bv true :: U9 (U9 (U9 ([])))), []⟩ (by kernel_rfl) ?_
      refine PON.fin rfl (thenA_normal ?_)
      exact ⟨rfl, rfl, (.v (.v (.v (.v (.v (.a9 (.a9 (.any (.any (.cons (.eq (.v _) (v_bool (by clear hret hK1 hK2 K0 K1 K2; (try simp only [strEq_dec]); grind))) (.v (.v (.v (.v (.v (.v (.v (.v (.v (.v (.v (.v (.v (.v (.v (.v (.v (.v (.v (.v (.v (.v (.v (.v (.v (.v (.v .nil))))))))))))))))))))))))))))))))))))), .nil⟩
    refine PON.runs 3 (by kernel_rfl) ?_
    refine PON.norm ⟨(sv s :: U :: bv false :: U :: U :: sv s :: bv (strEq s ByteArray.empty) :: bv false :: sv s :: iv (s.size : Int) :: bv (decide ((s.size : Int) > 16)) :: bv (decide ((s.size : Int) > 16)) :: bv false :: sv s :: .v (.int .u8 (byteAt s 0)) :: bv (decide ((byteAt s 0) < 97)) :: bv (decide ((byteAt s 0) < 97)) :: bv false :: sv s :: .v (.int .u8 (byteAt s 0)) :: bv (decide ((byteAt s 0) > 122)) :: bv (decide ((byteAt s 0) > 122)) :: bv false :: sv s :: bv (strEq s (⟨#[107, 101, 121]⟩ : ByteArray)) :: bv (strEq s (⟨#[107, 101, 121]⟩ : ByteArray)) :: U9 (U9 (U9 ([])))), []⟩ (by kernel_rfl) ?_
    refine PON.fin rfl (thenA_normal ?_)
    exact ⟨rfl, rfl, (.v (.v (.v (.v (.v (.a9 (.a9 (.any (.any (.cons (.eq (.v _) (v_bool (by clear hret hK1 hK2 K0 K1 K2; (try simp only [strEq_dec]); grind))) (.v (.v (.v (.v (.v (.v (.v (.v (.v (.v (.v (.v (.v (.v (.v (.v (.v (.v (.v (.v (.v (.v (.v (.v (.v (.v (.v .nil))))))))))))))))))))))))))))))))))))), .nil⟩
  refine PV.condP ((s = ByteArray.empty) ∨ (((s.size : Int) > 16) ∨ (((byteAt s 0) < 97) ∨ (((byteAt s 0) > 122) ∨ (s = (⟨#[107, 101, 121]⟩ : ByteArray)))))) (decide ((s = ByteArray.empty) ∨ (((s.size : Int) > 16) ∨ (((byteAt s 0) < 97) ∨ (((byteAt s 0) > 122) ∨ (s = (⟨#[107, 101, 121]⟩ : ByteArray))))))) (by kernel_rfl) decide_eq_true decide_eq_false (fun h7 => ?_) (fun h7 => ?_)
  · skip
    refine PV.seq_k fun K8 hK8 => ?_
    refine PV.regionN ?_
    refine PON.runs 1 (by kernel_rfl) ?_
    refine PON.fin rfl (thenA_normal (hK8 _ ?_))
    refine PV.norm ⟨(sv s :: U :: bv false :: U :: U :: A9 (A9 (A :: A :: bv (decide ((s = ByteArray.empty) ∨ (((s.size : Int) > 16) ∨ (((byteAt s 0) < 97) ∨ (((byteAt s 0) > 122) ∨ (s = (⟨#[107, 101, 121]⟩ : ByteArray))))))) :: U9 (U9 (U9 ([])))))), []⟩ (by kernel_rfl) ?_
    refine PV.ret (thenA_ret (hret .ret _ (bv false) (.inr rfl) (by kernel_rfl) ?_))
    clear hret hK1 hK2 hK8 K0 K1 K2 K8
    show Tof noTau [] (bv false) (bv (okName s))
    -- leaf 1
    refine Tof.bool ?_
    first | (rw [okName_true] <;> grind [strEq_dec, size_pos_of_ne, KEY, ByteArray.size_empty]) | (rw [okName_false 0 (by grind [size_pos_of_ne])] ; grind [okChar]) | (rw [okName_false k.toNat (by omega)]; grind [okChar]) | grind [okName, strEq_dec, KEY, okChar, ByteArray.size_empty]
  refine PV.skip (thenA_normal (hK2 _ ?_))
  refine PV.seq_k fun K9 hK9 => ?_
  refine PV.seq_k fun K10 hK10 => ?_
  refine PV.regionN ?_
  refine PON.runs 3 (by kernel_rfl) ?_
  refine PON.fin rfl (thenA_normal (hK10 _ ?_))
  refine PV.block ?_
  refine PV.norm ⟨(sv s :: U :: bv false :: U :: U :: A9 (A9 (A :: A :: bv (decide ((s = ByteArray.empty) ∨ (((s.size : Int) > 16) ∨ (((byteAt s 0) < 97) ∨ (((byteAt s 0) > 122) ∨ (s = (⟨#[107, 101, 121]⟩ : ByteArray))))))) :: sv s :: iv (s.size : Int) :: iv 0 :: U9 (U9 ([U, U, U, U, U, U]))))), []⟩ (by kernel_rfl) ?_
  refine PV.loopR (α := Int) (fun xL => let k := xL; (⟨(sv s :: A9 (A9 (A4 (A4 (iv (s.size : Int) :: iv k :: A9 (A9 (A4 ([A, A])))))))), []⟩ : St)) (fun xL => let k := xL; (0 ≤ k ∧ k ≤ s.size) ∧ (∀ i : Nat, i < k.toNat → okChar (decide (i = 0)) (byteAt s i) = true)) (fun xL => let k := xL; ((s.size : Int) - k).toNat) [] (0 : Int) ⟨rfl, rfl, (.v (.a9 (.a9 (.a4 (.a4 (.v (.v (.a9 (.a9 (.a4 (.any (.any .nil)))))))))))), .nil⟩ ?_ ?_
  · skip
    clear hret hK1 hK2 hK9 hK10 K0 K1 K2 K9 K10
    refine ⟨?_, ?_⟩
    · skip
      show 0 ≤ (0 : Int) ∧ (0 : Int) ≤ s.size
      simp
    · skip
      show ∀ i : Nat, i < (0 : Int).toNat → okChar (decide (i = 0)) (byteAt s i) = true
      intro i hi; simp at hi
  rintro k hJ
  change (0 ≤ k ∧ k ≤ s.size) ∧ (∀ i : Nat, i < k.toNat → okChar (decide (i = 0)) (byteAt s i) = true) at hJ
  obtain ⟨hk, hall⟩ := hJ
  show PV _ Try.prog _ ⟨(sv s :: A9 (A9 (A4 (A4 (iv (s.size : Int) :: iv k :: A9 (A9 (A4 ([A, A])))))))), []⟩ _
  refine PV.seq_k fun K11 hK11 => ?_
  refine PV.regionN ?_
  refine PON.runs 1 (by kernel_rfl) ?_
  refine PON.fin rfl (thenA_normal (hK11 _ ?_))
  refine PV.seq_k fun K12 hK12 => ?_
  refine PV.condP (k < (s.size : Int)) (decide (k < (s.size : Int))) (by kernel_rfl) decide_eq_true decide_eq_false (fun h13 => ?_) (fun h13 => ?_)
  · skip
    refine PV.skip (thenA_normal (hK12 _ ?_))
    refine PV.seq_k fun K14 hK14 => ?_
    refine PV.block ?_
    refine PV.seq_k fun K15 hK15 => ?_
    refine PV.regionN ?_
    refine PON.runs 2 (by kernel_rfl) ?_
    refine PON.fin rfl (thenA_normal (hK15 _ ?_))
    refine PV.seq_k fun K16 hK16 => ?_
    refine PV.regionN ?_
    refine PON.runs 2 (by kernel_rfl) ?_
    refine PON.ops (aIndex_str Try.prog [] 9 s .i64 k (by kernel_rfl) (by first | omega | (have := size_pos_of_ne (by assumption); omega))) (by kernel_rfl) (by kernel_rfl) ?_
    refine PON.runs 1 (by kernel_rfl) ?_
    refine PON.fin rfl (thenA_normal (hK16 _ ?_))
    refine PV.norm ⟨(sv s :: A :: A :: iv k :: .v (.int .u8 (byteAt s k.toNat)) :: A9 (A9 (A4 (iv (s.size : Int) :: iv k :: bv (decide (k < (s.size : Int))) :: iv k :: sv s :: iv k :: .v (.int .u8 (byteAt s k.toNat)) :: A9 (A9 ([A])))))), []⟩ (by kernel_rfl) ?_
    refine PV.seqR [] ⟨(sv s :: A :: A :: iv k :: .v (.int .u8 (byteAt s k.toNat)) :: A9 (A9 (A4 (iv (s.size : Int) :: iv k :: bv (decide (k < (s.size : Int))) :: iv k :: sv s :: iv k :: .v (.int .u8 (byteAt s k.toNat)) :: A9 (A4 (A4 ([bv (decide ((((byteAt s k.toNat) < 97) ∧ ((((byteAt s k.toNat) < 48) ∧ (¬((byteAt s k.toNat) = 95))) ∨ (¬((byteAt s k.toNat) < 48) ∧ (((byteAt s k.toNat) > 57) ∧ (¬((byteAt s k.toNat) = 95)))))) ∨ (¬((byteAt s k.toNat) < 97) ∧ (((byteAt s k.toNat) > 122) ∧ ((((byteAt s k.toNat) < 48) ∧ (¬((byteAt s k.toNat) = 95))) ∨ (¬((byteAt s k.toNat) < 48) ∧ (((byteAt s k.toNat) > 57) ∧ (¬((byteAt s k.toNat) = 95))))))))), A]))))))), []⟩ ?_ ?_
    · skip
      refine PV.regionN ?_
      refine PON.runs 3 (by kernel_rfl) ?_
      refine PON.norm ⟨(sv s :: A :: A :: iv k :: .v (.int .u8 (byteAt s k.toNat)) :: A9 (A9 (A4 (iv (s.size : Int) :: iv k :: bv (decide (k < (s.size : Int))) :: iv k :: sv s :: iv k :: .v (.int .u8 (byteAt s k.toNat)) :: .v (.int .u8 (byteAt s k.toNat)) :: bv (decide ((byteAt s k.toNat) < 97)) :: bv (decide ((byteAt s k.toNat) < 97)) :: A9 (A4 ([A, A, A])))))), []⟩ (by kernel_rfl) ?_
      refine PON.splitP ((byteAt s k.toNat) < 97) 36 (decide ((byteAt s k.toNat) < 97)) (sv s :: A :: A :: iv k :: .v (.int .u8 (byteAt s k.toNat)) :: A9 (A9 (A4 (iv (s.size : Int) :: iv k :: bv (decide (k < (s.size : Int))) :: iv k :: sv s :: iv k :: .v (.int .u8 (byteAt s k.toNat)) :: .v (.int .u8 (byteAt s k.toNat)) :: bv (decide ((byteAt s k.toNat) < 97)) :: bv true :: A9 (A4 ([A, A, A])))))) (sv s :: A :: A :: iv k :: .v (.int .u8 (byteAt s k.toNat)) :: A9 (A9 (A4 (iv (s.size : Int) :: iv k :: bv (decide (k < (s.size : Int))) :: iv k :: sv s :: iv k :: .v (.int .u8 (byteAt s k.toNat)) :: .v (.int .u8 (byteAt s k.toNat)) :: bv (decide ((byteAt s k.toNat) < 97)) :: bv false :: A9 (A4 ([A, A, A])))))) (by kernel_rfl) decide_eq_true decide_eq_false (by kernel_rfl) (by kernel_rfl) (fun h17 => ?_) (fun h17 => ?_)
      · skip
        refine PON.runs 7 (by kernel_rfl) ?_
        refine PON.norm ⟨(sv s :: A :: A :: iv k :: .v (.int .u8 (byteAt s k.toNat)) :: A9 (A9 (A4 (iv (s.size : Int) :: iv k :: bv (decide (k < (s.size : Int))) :: iv k :: sv s :: iv k :: .v (.int .u8 (byteAt s k.toNat)) :: .v (.int .u8 (byteAt s k.toNat)) :: bv (decide ((byteAt s k.toNat) < 97)) :: bv true :: U :: U :: bv true :: bv true :: .v (.int .u8 (byteAt s k.toNat)) :: bv (decide ((byteAt s k.toNat) < 48)) :: bv (decide ((byteAt s k.toNat) < 48)) :: A9 ([]))))), []⟩ (by kernel_rfl) ?_
        refine PON.splitP ((byteAt s k.toNat) < 48) 43 (decide ((byteAt s k.toNat) < 48)) (sv s :: A :: A :: iv k :: .v (.int .u8 (byteAt s k.toNat)) :: A9 (A9 (A4 (iv (s.size : Int) :: iv k :: bv (decide (k < (s.size : Int))) :: iv k :: sv s :: iv k :: .v (.int .u8 (byteAt s k.toNat)) :: .v (.int .u8 (byteAt s k.toNat)) :: bv (decide ((byteAt s k.toNat) < 97)) :: bv true :: U :: U :: bv true :: bv true :: .v (.int .u8 (byteAt s k.toNat)) :: bv (decide ((byteAt s k.toNat) < 48)) :: bv true :: A9 ([]))))) (sv s :: A :: A :: iv k :: .v (.int .u8 (byteAt s k.toNat)) :: A9 (A9 (A4 (iv (s.size : Int) :: iv k :: bv (decide (k < (s.size : Int))) :: iv k :: sv s :: iv k :: .v (.int .u8 (byteAt s k.toNat)) :: .v (.int .u8 (byteAt s k.toNat)) :: bv (decide ((byteAt s k.toNat) < 97)) :: bv true :: U :: U :: bv true :: bv true :: .v (.int .u8 (byteAt s k.toNat)) :: bv (decide ((byteAt s k.toNat) < 48)) :: bv false :: A9 ([]))))) (by kernel_rfl) decide_eq_true decide_eq_false (by kernel_rfl) (by kernel_rfl) (fun h18 => ?_) (fun h18 => ?_)
        · skip
          refine PON.runs 8 (by kernel_rfl) ?_
          refine PON.norm ⟨(sv s :: A :: A :: iv k :: .v (.int .u8 (byteAt s k.toNat)) :: A9 (A9 (A4 ([iv (s.size : Int), iv k, bv (decide (k < (s.size : Int))), iv k, sv s, iv k, .v (.int .u8 (byteAt s k.toNat)), .v (.int .u8 (byteAt s k.toNat)), bv (decide ((byteAt s k.toNat) < 97)), bv true, U, U, bv true, bv true, .v (.int .u8 (byteAt s k.toNat)), bv (decide ((byteAt s k.toNat) < 48)), bv true, U, U, bv true, bv true, bv true, .v (.int .u8 (byteAt s k.toNat)), bv (!(decide ((byteAt s k.toNat) = 95))), bv (!(decide ((byteAt s k.toNat) = 95))), A])))), []⟩ (by kernel_rfl) ?_
          refine PON.fin rfl (thenA_normal ?_)
          exact ⟨rfl, rfl, (.v (.any (.any (.v (.v (.a9 (.a9 (.a4 (.v (.v (.v (.v (.v (.v (.v (.a9 (.a4 (.a4 (.cons (.eq (.v _) (v_bool (by clear hret hK1 hK2 hK9 hK10 hK11 hK12 hK14 hK15 hK16 K0 K1 K2 K9 K10 K11 K12 K14 K15 K16; (try simp only [strEq_dec]); grind))) (.any .nil)))))))))))))))))))), .nil⟩
        refine PON.runs 5 (by kernel_rfl) ?_
        refine PON.norm ⟨(sv s :: A :: A :: iv k :: .v (.int .u8 (byteAt s k.toNat)) :: A9 (A9 (A4 (iv (s.size : Int) :: iv k :: bv (decide (k < (s.size : Int))) :: iv k :: sv s :: iv k :: .v (.int .u8 (byteAt s k.toNat)) :: .v (.int .u8 (byteAt s k.toNat)) :: bv (decide ((byteAt s k.toNat) < 97)) :: bv true :: U :: U :: bv true :: bv true :: .v (.int .u8 (byteAt s k.toNat)) :: bv (decide ((byteAt s k.toNat) < 48)) :: bv false :: .v (.int .u8 (byteAt s k.toNat)) :: bv (decide ((byteAt s k.toNat) > 57)) :: bv (decide ((byteAt s k.toNat) > 57)) :: bv (decide ((byteAt s k.toNat) > 57)) :: bv (decide ((byteAt s k.toNat) > 57)) :: A4 ([]))))), []⟩ (by kernel_rfl) ?_
        refine PON.splitP ((byteAt s k.toNat) > 57) 48 (decide ((byteAt s k.toNat) > 57)) (sv s :: A :: A :: iv k :: .v (.int .u8 (byteAt s k.toNat)) :: A9 (A9 (A4 (iv (s.size : Int) :: iv k :: bv (decide (k < (s.size : Int))) :: iv k :: sv s :: iv k :: .v (.int .u8 (byteAt s k.toNat)) :: .v (.int .u8 (byteAt s k.toNat)) :: bv (decide ((byteAt s k.toNat) < 97)) :: bv true :: U :: U :: bv true :: bv true :: .v (.int .u8 (byteAt s k.toNat)) :: bv (decide ((byteAt s k.toNat) < 48)) :: bv false :: .v (.int .u8 (byteAt s k.toNat)) :: bv (decide ((byteAt s k.toNat) > 57)) :: bv (decide ((byteAt s k.toNat) > 57)) :: bv (decide ((byteAt s k.toNat) > 57)) :: bv true :: A4 ([]))))) (sv s :: A :: A :: iv k :: .v (.int .u8 (byteAt s k.toNat)) :: A9 (A9 (A4 (iv (s.size : Int) :: iv k :: bv (decide (k < (s.size : Int))) :: iv k :: sv s :: iv k :: .v (.int .u8 (byteAt s k.toNat)) :: .v (.int .u8 (byteAt s k.toNat)) :: bv (decide ((byteAt s k.toNat) < 97)) :: bv true :: U :: U :: bv true :: bv true :: .v (.int .u8 (byteAt s k.toNat)) :: bv (decide ((byteAt s k.toNat) < 48)) :: bv false :: .v (.int .u8 (byteAt s k.toNat)) :: bv (decide ((byteAt s k.toNat) > 57)) :: bv (decide ((byteAt s k.toNat) > 57)) :: bv (decide ((byteAt s k.toNat) > 57)) :: bv false :: A4 ([]))))) (by kernel_rfl) decide_eq_true decide_eq_false (by kernel_rfl) (by kernel_rfl) (fun h19 => ?_) (fun h19 => ?_)
        · skip
          refine PON.runs 3 (by kernel_rfl) ?_
          refine PON.norm ⟨(sv s :: A :: A :: iv k :: .v (.int .u8 (byteAt s k.toNat)) :: A9 (A9 (A4 ([iv (s.size : Int), iv k, bv (decide (k < (s.size : Int))), iv k, sv s, iv k, .v (.int .u8 (byteAt s k.toNat)), .v (.int .u8 (byteAt s k.toNat)), bv (decide ((byteAt s k.toNat) < 97)), bv true, U, U, bv true, bv true, .v (.int .u8 (byteAt s k.toNat)), bv (decide ((byteAt s k.toNat) < 48)), bv false, .v (.int .u8 (byteAt s k.toNat)), bv (decide ((byteAt s k.toNat) > 57)), bv (decide ((byteAt s k.toNat) > 57)), bv (decide ((byteAt s k.toNat) > 57)), bv true, .v (.int .u8 (byteAt s k.toNat)), bv (!(decide ((byteAt s k.toNat) = 95))), bv (!(decide ((byteAt s k.toNat) = 95))), A])))), []⟩ (by kernel_rfl) ?_
          refine PON.fin rfl (thenA_normal ?_)
          exact ⟨rfl, rfl, (.v (.any (.any (.v (.v (.a9 (.a9 (.a4 (.v (.v (.v (.v (.v (.v (.v (.a9 (.a4 (.a4 (.cons (.eq (.v _) (v_bool (by clear hret hK1 hK2 hK9 hK10 hK11 hK12 hK14 hK15 hK16 K0 K1 K2 K9 K10 K11 K12 K14 K15 K16; (try simp only [strEq_dec]); grind))) (.any .nil)))))))))))))))))))), .nil⟩
        refine PON.runs 3 (by kernel_rfl) ?_
        refine PON.norm ⟨(sv s :: A :: A :: iv k :: .v (.int .u8 (byteAt s k.toNat)) :: A9 (A9 (A4 ([iv (s.size : Int), iv k, bv (decide (k < (s.size : Int))), iv k, sv s, iv k, .v (.int .u8 (byteAt s k.toNat)), .v (.int .u8 (byteAt s k.toNat)), bv (decide ((byteAt s k.toNat) < 97)), bv true, U, U, bv true, bv true, .v (.int .u8 (byteAt s k.toNat)), bv (decide ((byteAt s k.toNat) < 48)), bv false, .v (.int .u8 (byteAt s k.toNat)), bv (decide ((byteAt s k.toNat) > 57)), bv (decide ((byteAt s k.toNat) > 57)), bv (decide ((byteAt s k.toNat) > 57)), bv false, U, U, bv false, A])))), []⟩ (by kernel_rfl) ?_
        refine PON.fin rfl (thenA_normal ?_)
        exact ⟨rfl, rfl, (.v (.any (.any (.v (.v (.a9 (.a9 (.a4 (.v (.v (.v (.v (.v (.v (.v (.a9 (.a4 (.a4 (.cons (.eq (.v _) (v_bool (by clear hret hK1 hK2 hK9 hK10 hK11 hK12 hK14 hK15 hK16 K0 K1 K2 K9 K10 K11 K12 K14 K15 K16; (try simp only [strEq_dec]); grind))) (.any .nil)))))))))))))))))))), .nil⟩
      refine PON.runs 4 (by kernel_rfl) ?_
      refine PON.norm ⟨(sv s :: A :: A :: iv k :: .v (.int .u8 (byteAt s k.toNat)) :: A9 (A9 (A4 (iv (s.size : Int) :: iv k :: bv (decide (k < (s.size : Int))) :: iv k :: sv s :: iv k :: .v (.int .u8 (byteAt s k.toNat)) :: .v (.int .u8 (byteAt s k.toNat)) :: bv (decide ((byteAt s k.toNat) < 97)) :: bv false :: .v (.int .u8 (byteAt s k.toNat)) :: bv (decide ((byteAt s k.toNat) > 122)) :: bv (decide ((byteAt s k.toNat) > 122)) :: bv (decide ((byteAt s k.toNat) > 122)) :: A9 ([A, A, A]))))), []⟩ (by kernel_rfl) ?_
      refine PON.splitP ((byteAt s k.toNat) > 122) 40 (decide ((byteAt s k.toNat) > 122)) (sv s :: A :: A :: iv k :: .v (.int .u8 (byteAt s k.toNat)) :: A9 (A9 (A4 (iv (s.size : Int) :: iv k :: bv (decide (k < (s.size : Int))) :: iv k :: sv s :: iv k :: .v (.int .u8 (byteAt s k.toNat)) :: .v (.int .u8 (byteAt s k.toNat)) :: bv (decide ((byteAt s k.toNat) < 97)) :: bv false :: .v (.int .u8 (byteAt s k.toNat)) :: bv (decide ((byteAt s k.toNat) > 122)) :: bv (decide ((byteAt s k.toNat) > 122)) :: bv true :: A9 ([A, A, A]))))) (sv s :: A :: A :: iv k :: .v (.int .u8 (byteAt s k.toNat)) :: A9 (A9 (A4 (iv (s.size : Int) :: iv k :: bv (decide (k < (s.size : Int))) :: iv k :: sv s :: iv k :: .v (.int .u8 (byteAt s k.toNat)) :: .v (.int .u8 (byteAt s k.toNat)) :: bv (decide ((byteAt s k.toNat) < 97)) :: bv false :: .v (.int .u8 (byteAt s k.toNat)) :: bv (decide ((byteAt s k.toNat) > 122)) :: bv (decide ((byteAt s k.toNat) > 122)) :: bv false :: A9 ([A, A, A]))))) (by kernel_rfl) decide_eq_true decide_eq_false (by kernel_rfl) (by kernel_rfl) (fun h20 => ?_) (fun h20 => ?_)
      · skip
        refine PON.runs 3 (by kernel_rfl) ?_
        refine PON.norm ⟨(sv s :: A :: A :: iv k :: .v (.int .u8 (byteAt s k.toNat)) :: A9 (A9 (A4 (iv (s.size : Int) :: iv k :: bv (decide (k < (s.size : Int))) :: iv k :: sv s :: iv k :: .v (.int .u8 (byteAt s k.toNat)) :: .v (.int .u8 (byteAt s k.toNat)) :: bv (decide ((byteAt s k.toNat) < 97)) :: bv false :: .v (.int .u8 (byteAt s k.toNat)) :: bv (decide ((byteAt s k.toNat) > 122)) :: bv (decide ((byteAt s k.toNat) > 122)) :: bv true :: .v (.int .u8 (byteAt s k.toNat)) :: bv (decide ((byteAt s k.toNat) < 48)) :: bv (decide ((byteAt s k.toNat) < 48)) :: A9 ([]))))), []⟩ (by kernel_rfl) ?_
        refine PON.splitP ((byteAt s k.toNat) < 48) 43 (decide ((byteAt s k.toNat) < 48)) (sv s :: A :: A :: iv k :: .v (.int .u8 (byteAt s k.toNat)) :: A9 (A9 (A4 (iv (s.size : Int) :: iv k :: bv (decide (k < (s.size : Int))) :: iv k :: sv s :: iv k :: .v (.int .u8 (byteAt s k.toNat)) :: .v (.int .u8 (byteAt s k.toNat)) :: bv (decide ((byteAt s k.toNat) < 97)) :: bv false :: .v (.int .u8 (byteAt s k.toNat)) :: bv (decide ((byteAt s k.toNat) > 122)) :: bv (decide ((byteAt s k.toNat) > 122)) :: bv true :: .v (.int .u8 (byteAt s k.toNat)) :: bv (decide ((byteAt s k.toNat) < 48)) :: bv true :: A9 ([]))))) (sv s :: A :: A :: iv k :: .v (.int .u8 (byteAt s k.toNat)) :: A9 (A9 (A4 (iv (s.size : Int) :: iv k :: bv (decide (k < (s.size : Int))) :: iv k :: sv s :: iv k :: .v (.int .u8 (byteAt s k.toNat)) :: .v (.int .u8 (byteAt s k.toNat)) :: bv (decide ((byteAt s k.toNat) < 97)) :: bv false :: .v (.int .u8 (byteAt s k.toNat)) :: bv (decide ((byteAt s k.toNat) > 122)) :: bv (decide ((byteAt s k.toNat) > 122)) :: bv true :: .v (.int .u8 (byteAt s k.toNat)) :: bv (decide ((byteAt s k.toNat) < 48)) :: bv false :: A9 ([]))))) (by kernel_rfl) decide_eq_true decide_eq_false (by kernel_rfl) (by kernel_rfl) (fun h21 => ?_) (fun h21 => ?_)
        · skip
          refine PON.runs 8 (by kernel_rfl) ?_
          refine PON.norm ⟨(sv s :: A :: A :: iv k :: .v (.int .u8 (byteAt s k.toNat)) :: A9 (A9 (A4 ([iv (s.size : Int), iv k, bv (decide (k < (s.size : Int))), iv k, sv s, iv k, .v (.int .u8 (byteAt s k.toNat)), .v (.int .u8 (byteAt s k.toNat)), bv (decide ((byteAt s k.toNat) < 97)), bv false, .v (.int .u8 (byteAt s k.toNat)), bv (decide ((byteAt s k.toNat) > 122)), bv (decide ((byteAt s k.toNat) > 122)), bv true, .v (.int .u8 (byteAt s k.toNat)), bv (decide ((byteAt s k.toNat) < 48)), bv true, U, U, bv true, bv true, bv true, .v (.int .u8 (byteAt s k.toNat)), bv (!(decide ((byteAt s k.toNat) = 95))), bv (!(decide ((byteAt s k.toNat) = 95))), A])))), []⟩ (by kernel_rfl) ?_
          refine PON.fin rfl (thenA_normal ?_)
          exact ⟨rfl, rfl, (.v (.any (.any (.v (.v (.a9 (.a9 (.a4 (.v (.v (.v (.v (.v (.v (.v (.a9 (.a4 (.a4 (.cons (.eq (.v _) (v_bool (by clear hret hK1 hK2 hK9 hK10 hK11 hK12 hK14 hK15 hK16 K0 K1 K2 K9 K10 K11 K12 K14 K15 K16; (try simp only [strEq_dec]); grind))) (.any .nil)))))))))))))))))))), .nil⟩
        refine PON.runs 5 (by kernel_rfl) ?_
        refine PON.norm ⟨(sv s :: A :: A :: iv k :: .v (.int .u8 (byteAt s k.toNat)) :: A9 (A9 (A4 (iv (s.size : Int) :: iv k :: bv (decide (k < (s.size : Int))) :: iv k :: sv s :: iv k :: .v (.int .u8 (byteAt s k.toNat)) :: .v (.int .u8 (byteAt s k.toNat)) :: bv (decide ((byteAt s k.toNat) < 97)) :: bv false :: .v (.int .u8 (byteAt s k.toNat)) :: bv (decide ((byteAt s k.toNat) > 122)) :: bv (decide ((byteAt s k.toNat) > 122)) :: bv true :: .v (.int .u8 (byteAt s k.toNat)) :: bv (decide ((byteAt s k.toNat) < 48)) :: bv false :: .v (.int .u8 (byteAt s k.toNat)) :: bv (decide ((byteAt s k.toNat) > 57)) :: bv (decide ((byteAt s k.toNat) > 57)) :: bv (decide ((byteAt s k.toNat) > 57)) :: bv (decide ((byteAt s k.toNat) > 57)) :: A4 ([]))))), []⟩ (by kernel_rfl) ?_
        refine PON.splitP ((byteAt s k.toNat) > 57) 48 (decide ((byteAt s k.toNat) > 57)) (sv s :: A :: A :: iv k :: .v (.int .u8 (byteAt s k.toNat)) :: A9 (A9 (A4 (iv (s.size : Int) :: iv k :: bv (decide (k < (s.size : Int))) :: iv k :: sv s :: iv k :: .v (.int .u8 (byteAt s k.toNat)) :: .v (.int .u8 (byteAt s k.toNat)) :: bv (decide ((byteAt s k.toNat) < 97)) :: bv false :: .v (.int .u8 (byteAt s k.toNat)) :: bv (decide ((byteAt s k.toNat) > 122)) :: bv (decide ((byteAt s k.toNat) > 122)) :: bv true :: .v (.int .u8 (byteAt s k.toNat)) :: bv (decide ((byteAt s k.toNat) < 48)) :: bv false :: .v (.int .u8 (byteAt s k.toNat)) :: bv (decide ((byteAt s k.toNat) > 57)) :: bv (decide ((byteAt s k.toNat) > 57)) :: bv (decide ((byteAt s k.toNat) > 57)) :: bv true :: A4 ([]))))) (sv s :: A :: A :: iv k :: .v (.int .u8 (byteAt s k.toNat)) :: A9 (A9 (A4 (iv (s.size : Int) :: iv k :: bv (decide (k < (s.size : Int))) :: iv k :: sv s :: iv k :: .v (.int .u8 (byteAt s k.toNat)) :: .v (.int .u8 (byteAt s k.toNat)) :: bv (decide ((byteAt s k.toNat) < 97)) :: bv false :: .v (.int .u8 (byteAt s k.toNat)) :: bv (decide ((byteAt s k.toNat) > 122)) :: bv (decide ((byteAt s k.toNat) > 122)) :: bv true :: .v (.int .u8 (byteAt s k.toNat)) :: bv (decide ((byteAt s k.toNat) < 48)) :: bv false :: .v (.int .u8 (byteAt s k.toNat)) :: bv (decide ((byteAt s k.toNat) > 57)) :: bv (decide ((byteAt s k.toNat) > 57)) :: bv (decide ((byteAt s k.toNat) > 57)) :: bv false :: A4 ([]))))) (by kernel_rfl) decide_eq_true decide_eq_false (by kernel_rfl) (by kernel_rfl) (fun h22 => ?_) (fun h22 => ?_)
        · skip
          refine PON.runs 3 (by kernel_rfl) ?_
          refine PON.norm ⟨(sv s :: A :: A :: iv k :: .v (.int .u8 (byteAt s k.toNat)) :: A9 (A9 (A4 ([iv (s.size : Int), iv k, bv (decide (k < (s.size : Int))), iv k, sv s, iv k, .v (.int .u8 (byteAt s k.toNat)), .v (.int .u8 (byteAt s k.toNat)), bv (decide ((byteAt s k.toNat) < 97)), bv false, .v (.int .u8 (byteAt s k.toNat)), bv (decide ((byteAt s k.toNat) > 122)), bv (decide ((byteAt s k.toNat) > 122)), bv true, .v (.int .u8 (byteAt s k.toNat)), bv (decide ((byteAt s k.toNat) < 48)), bv false, .v (.int .u8 (byteAt s k.toNat)), bv (decide ((byteAt s k.toNat) > 57)), bv (decide ((byteAt s k.toNat) > 57)), bv (decide ((byteAt s k.toNat) > 57)), bv true, .v (.int .u8 (byteAt s k.toNat)), bv (!(decide ((byteAt s k.toNat) = 95))), bv (!(decide ((byteAt s k.toNat) = 95))), A])))), []⟩ (by kernel_rfl) ?_
          refine PON.fin rfl (thenA_normal ?_)
          exact ⟨rfl, rfl, (.v (.any (.any (.v (.v (.a9 (.a9 (.a4 (.v (.v (.v (.v (.v (.v (.v (.a9 (.a4 (.a4 (.cons (.eq (.v _) (v_bool (by clear hret hK1 hK2 hK9 hK10 hK11 hK12 hK14 hK15 hK16 K0 K1 K2 K9 K10 K11 K12 K14 K15 K16; (try simp only [strEq_dec]); grind))) (.any .nil)))))))))))))))))))), .nil⟩
        refine PON.runs 3 (by kernel_rfl) ?_
        refine PON.norm ⟨(sv s :: A :: A :: iv k :: .v (.int .u8 (byteAt s k.toNat)) :: A9 (A9 (A4 ([iv (s.size : Int), iv k, bv (decide (k < (s.size : Int))), iv k, sv s, iv k, .v (.int .u8 (byteAt s k.toNat)), .v (.int .u8 (byteAt s k.toNat)), bv (decide ((byteAt s k.toNat) < 97)), bv false, .v (.int .u8 (byteAt s k.toNat)), bv (decide ((byteAt s k.toNat) > 122)), bv (decide ((byteAt s k.toNat) > 122)), bv true, .v (.int .u8 (byteAt s k.toNat)), bv (decide ((byteAt s k.toNat) < 48)), bv false, .v (.int .u8 (byteAt s k.toNat)), bv (decide ((byteAt s k.toNat) > 57)), bv (decide ((byteAt s k.toNat) > 57)), bv (decide ((byteAt s k.toNat) > 57)), bv false, U, U, bv false, A])))), []⟩ (by kernel_rfl) ?_
        refine PON.fin rfl (thenA_normal ?_)
        exact ⟨rfl, rfl, (.v (.any (.any (.v (.v (.a9 (.a9 (.a4 (.v (.v (.v (.v (.v (.v (.v (.a9 (.a4 (.a4 (.cons (.eq (.v _) (v_bool (by clear hret hK1 hK2 hK9 hK10 hK11 hK12 hK14 hK15 hK16 K0 K1 K2 K9 K10 K11 K12 K14 K15 K16; (try simp only [strEq_dec]); grind))) (.any .nil)))))))))))))))))))), .nil⟩
      refine PON.runs 11 (by kernel_rfl) ?_
      refine PON.norm ⟨(sv s :: A :: A :: iv k :: .v (.int .u8 (byteAt s k.toNat)) :: A9 (A9 (A4 ([iv (s.size : Int), iv k, bv (decide (k < (s.size : Int))), iv k, sv s, iv k, .v (.int .u8 (byteAt s k.toNat)), .v (.int .u8 (byteAt s k.toNat)), bv (decide ((byteAt s k.toNat) < 97)), bv false, .v (.int .u8 (byteAt s k.toNat)), bv (decide ((byteAt s k.toNat) > 122)), bv (decide ((byteAt s k.toNat) > 122)), bv false, U, U, U, U, U, U, bv false, bv false, U, U, bv false, A])))), []⟩ (by kernel_rfl) ?_
      refine PON.fin rfl (thenA_normal ?_)
      exact ⟨rfl, rfl, (.v (.any (.any (.v (.v (.a9 (.a9 (.a4 (.v (.v (.v (.v (.v (.v (.v (.a9 (.a4 (.a4 (.cons (.eq (.v _) (v_bool (by clear hret hK1 hK2 hK9 hK10 hK11 hK12 hK14 hK15 hK16 K0 K1 K2 K9 K10 K11 K12 K14 K15 K16; (try simp only [strEq_dec]); grind))) (.any .nil)))))))))))))))))))), .nil⟩
    refine PV.condP ((((byteAt s k.toNat) < 97) ∧ ((((byteAt s k.toNat) < 48) ∧ (¬((byteAt s k.toNat) = 95))) ∨ (¬((byteAt s k.toNat) < 48) ∧ (((byteAt s k.toNat) > 57) ∧ (¬((byteAt s k.toNat) = 95)))))) ∨ (¬((byteAt s k.toNat) < 97) ∧ (((byteAt s k.toNat) > 122) ∧ ((((byteAt s k.toNat) < 48) ∧ (¬((byteAt s k.toNat) = 95))) ∨ (¬((byteAt s k.toNat) < 48) ∧ (((byteAt s k.toNat) > 57) ∧ (¬((byteAt s k.toNat) = 95)))))))) (decide ((((byteAt s k.toNat) < 97) ∧ ((((byteAt s k.toNat) < 48) ∧ (¬((byteAt s k.toNat) = 95))) ∨ (¬((byteAt s k.toNat) < 48) ∧ (((byteAt s k.toNat) > 57) ∧ (¬((byteAt s k.toNat) = 95)))))) ∨ (¬((byteAt s k.toNat) < 97) ∧ (((byteAt s k.toNat) > 122) ∧ ((((byteAt s k.toNat) < 48) ∧ (¬((byteAt s k.toNat) = 95))) ∨ (¬((byteAt s k.toNat) < 48) ∧ (((byteAt s k.toNat) > 57) ∧ (¬((byteAt s k.toNat) = 95))))))))) (by kernel_rfl) decide_eq_true decide_eq_false (fun h23 => ?_) (fun h23 => ?_)
    · skip
      refine PV.seq_k fun K24 hK24 => ?_
      refine PV.regionN ?_
      refine PON.runs 1 (by kernel_rfl) ?_
      refine PON.fin rfl (thenA_normal (hK24 _ ?_))
      refine PV.norm ⟨(sv s :: A :: bv false :: iv k :: .v (.int .u8 (byteAt s k.toNat)) :: A9 (A9 (A4 (iv (s.size : Int) :: iv k :: bv (decide (k < (s.size : Int))) :: iv k :: sv s :: iv k :: .v (.int .u8 (byteAt s k.toNat)) :: A9 (A4 (A4 ([bv (decide ((((byteAt s k.toNat) < 97) ∧ ((((byteAt s k.toNat) < 48) ∧ (¬((byteAt s k.toNat) = 95))) ∨ (¬((byteAt s k.toNat) < 48) ∧ (((byteAt s k.toNat) > 57) ∧ (¬((byteAt s k.toNat) = 95)))))) ∨ (¬((byteAt s k.toNat) < 97) ∧ (((byteAt s k.toNat) > 122) ∧ ((((byteAt s k.toNat) < 48) ∧ (¬((byteAt s k.toNat) = 95))) ∨ (¬((byteAt s k.toNat) < 48) ∧ (((byteAt s k.toNat) > 57) ∧ (¬((byteAt s k.toNat) = 95))))))))), A]))))))), []⟩ (by kernel_rfl) ?_
      refine PV.ret (inBlockA_ret (thenA_ret (thenA_ret (inBlockA_ret (thenA_ret (hret .ret _ (bv false) (.inr rfl) (by kernel_rfl) ?_))))))
      clear hret hK1 hK2 hK9 hK10 hK11 hK12 hK14 hK15 hK16 hK24 K0 K1 K2 K9 K10 K11 K12 K14 K15 K16 K24
      show Tof noTau [] (bv false) (bv (okName s))
      -- leaf 2
      refine Tof.bool ?_
      first | (rw [okName_true] <;> grind [strEq_dec, size_pos_of_ne, KEY, ByteArray.size_empty]) | (rw [okName_false 0 (by grind [size_pos_of_ne])] ; grind [okChar]) | (rw [okName_false k.toNat (by omega)]; grind [okChar]) | grind [okName, strEq_dec, KEY, okChar, ByteArray.size_empty]
    refine PV.skip (inBlockA_normal (thenA_normal (hK14 _ ?_)))
    refine PV.regionN ?_
    refine PON.ops (aBin_add_in Try.prog [] 3 (.tmp 28) (.const (.int .i64 1)) .i64 k 1 (by rw [wrap64] <;> omega)) (by kernel_rfl) (by kernel_rfl) ?_
    refine PON.runs 1 (by kernel_rfl) ?_
    refine PON.norm ⟨(sv s :: A :: A :: iv k :: .v (.int .u8 (byteAt s k.toNat)) :: A9 (A9 (A4 (iv (s.size : Int) :: iv (k + 1) :: bv (decide (k < (s.size : Int))) :: iv k :: sv s :: iv k :: .v (.int .u8 (byteAt s k.toNat)) :: A9 (A4 (A4 ([bv (decide ((((byteAt s k.toNat) < 97) ∧ ((((byteAt s k.toNat) < 48) ∧ (¬((byteAt s k.toNat) = 95))) ∨ (¬((byteAt s k.toNat) < 48) ∧ (((byteAt s k.toNat) > 57) ∧ (¬((byteAt s k.toNat) = 95)))))) ∨ (¬((byteAt s k.toNat) < 97) ∧ (((byteAt s k.toNat) > 122) ∧ ((((byteAt s k.toNat) < 48) ∧ (¬((byteAt s k.toNat) = 95))) ∨ (¬((byteAt s k.toNat) < 48) ∧ (((byteAt s k.toNat) > 57) ∧ (¬((byteAt s k.toNat) = 95))))))))), iv (k + 1)]))))))), []⟩ (by kernel_rfl) ?_
    refine PON.fin rfl (thenA_normal ?_)
    refine ⟨[], (k + 1), ⟨rfl, rfl, (.v (.a9 (.a9 (.a4 (.a4 (.v (.v (.a9 (.a9 (.a4 (.any (.any .nil)))))))))))), .nil⟩, ?_, ?_⟩
    · skip
      clear hret hK1 hK2 hK9 hK10 hK11 hK12 hK14 hK15 hK16 K0 K1 K2 K9 K10 K11 K12 K14 K15 K16
      refine ⟨?_, ?_⟩
      · skip
        show 0 ≤ (k + 1) ∧ (k + 1) ≤ s.size
        omega
      · skip
        show ∀ i : Nat, i < (k + 1).toNat → okChar (decide (i = 0)) (byteAt s i) = true
        intro i hi
        by_cases q : i < k.toNat
        · exact hall i q
        · have e : i = k.toNat := by omega
          subst e
          have : (k = 0) = (k.toNat = 0) := by apply propext; omega
          grind [okChar]
    · skip
      clear hret hK1 hK2 hK9 hK10 hK11 hK12 hK14 hK15 hK16 K0 K1 K2 K9 K10 K11 K12 K14 K15 K16
      show ((s.size : Int) - (k + 1)).toNat < ((s.size : Int) - k).toNat
      omega
  refine PV.exit (thenA_exit (thenA_exit (inBlockA_hit (thenA_normal (hK9 _ ?_)))))
  refine PV.seq_k fun K25 hK25 => ?_
  refine PV.regionN ?_
  refine PON.runs 1 (by kernel_rfl) ?_
  refine PON.fin rfl (thenA_normal (hK25 _ ?_))
  refine PV.norm ⟨(sv s :: A :: bv true :: A9 (A9 (A4 (A :: A :: iv (s.size : Int) :: iv k :: bv (decide (k < (s.size : Int))) :: A9 (A9 (A4 ([A]))))))), []⟩ (by kernel_rfl) ?_
  refine PV.ret (hret .ret _ (bv true) (.inr rfl) (by kernel_rfl) ?_)
  clear hret hK1 hK2 hK9 hK10 hK11 hK12 hK25 K0 K1 K2 K9 K10 K11 K12 K25
  show Tof noTau [] (bv true) (bv (okName s))
  -- leaf 3
  refine Tof.bool ?_
  first | (rw [okName_true] <;> grind [strEq_dec, size_pos_of_ne, KEY, ByteArray.size_empty]) | (rw [okName_false 0 (by grind [size_pos_of_ne])] ; grind [okChar]) | (rw [okName_false k.toNat (by omega)]; grind [okChar]) | grind [okName, strEq_dec, KEY, okChar, ByteArray.size_empty]
theorem name_ok (s : ByteArray) : PCX Try.prog 48 [sv s] [] [] (bv (okName s)) :=
  PCX.frame (by simp only [NIs_cons, NIs_nil, NIr_cons, NIr_nil, NI_v, NI_any, NI_pO, NI_sO, NI_pF, NI_sF, NI_agg, NI_tup, NI_fn, NIh_nil, NIh_live, NIh_dead, NIh_free, NIr_map, NIr_append, NIs_icells, NIs_scells, NIs_bcells, NIs_Val, NIs_Col, NIs_Schema, NIs_PNode, NIs_Src, NIr_Val, NIr_Col, NIr_ints, NIr_PNode]; try simp) (name_ok_walk s)


theorem okName_int {s : ByteArray} {k : Int} (h0 : 0 ≤ k ∧ k < s.size) (h : okChar (decide (k.toNat = 0)) (byteAt s k.toNat) = false) : okName s = false := okName_false k.toNat (by omega) h

set_option maxHeartbeats 4000000 in
theorem rname_ok_walk (s : ByteArray) : PC Try.prog 50 [sv s] [] (fun yR kR => Tof noTau kR yR (bv (okName s))) := by
  refine PC.of_bodyV Try.func50 rfl (sv s :: U9 (U9 (U9 (U9 (U9 (U9 ([U, U]))))))) (by kernel_rfl) (fun K0 hret => ?_)
  refine PV.seq_k fun K1 hK1 => ?_
  refine PV.regionN ?_
  refine PON.runs 1 (by kernel_rfl) ?_
  refine PON.fin rfl (thenA_normal (hK1 _ ?_))
  refine PV.seq_k fun K2 hK2 => ?_
  refine PV.norm ⟨(sv s :: U :: bv false :: U9 (U9 (U9 (U9 (U9 (U9 ([]))))))), []⟩ (by kernel_rfl) ?_
  refine PV.seqR [] ⟨(sv s :: U :: bv false :: U :: U :: A9 (A :: A :: bv (decide (((s.size : Int) < 1) ∨ (((s.size : Int) > 16) ∨ (s = (⟨#[107, 101, 121]⟩ : ByteArray))))) :: U9 (U9 (U9 (U9 ([U, U, U, U])))))), []⟩ ?_ ?_
  · skip
    refine PV.regionN ?_
    refine PON.runs 4 (by kernel_rfl) ?_
    refine PON.norm ⟨(sv s :: U :: bv false :: U :: U :: sv s :: iv (s.size : Int) :: bv (decide ((s.size : Int) < 1)) :: bv (decide ((s.size : Int) < 1)) :: U9 (U9 (U9 (U9 (U9 ([U, U, U])))))), []⟩ (by kernel_rfl) ?_
    refine PON.splitP ((s.size : Int) < 1) 8 (decide ((s.size : Int) < 1)) (sv s :: U :: bv false :: U :: U :: sv s :: iv (s.size : Int) :: bv (decide ((s.size : Int) < 1)) :: bv true :: U9 (U9 (U9 (U9 (U9 ([U, U, U])))))) (sv s :: U :: bv false :: U :: U :: sv s :: iv (s.size : Int) :: bv (decide ((s.size : Int) < 1)) :: bv false :: U9 (U9 (U9 (U9 (U9 ([U, U, U])))))) (by kernel_rfl) decide_eq_true decide_eq_false (by kernel_rfl) (by kernel_rfl) (fun h3 => ?_) (fun h3 => ?_)
    · skip
      refine PON.runs 8 (by kernel_rfl) ?_
      refine PON.norm ⟨(sv s :: U :: bv false :: U :: U :: sv s :: iv (s.size : Int) :: bv (decide ((s.size : Int) < 1)) :: bv true :: U :: U :: U :: bv true :: bv true :: U :: U :: bv true :: U9 (U9 (U9 (U9 ([U, U, U, U]))))), []⟩ (by kernel_rfl) ?_
      refine PON.fin rfl (thenA_normal ?_)
      exact ⟨rfl, rfl, (.v (.v (.v (.v (.v (.a9 (.any (.any (.cons (.eq (.v _) (v_bool (by clear hret hK1 hK2 K0 K1 K2; (try simp only [strEq_dec]); grind))) (.v (.v (.v (.v (.v (.v (.v (.v (.v (.v (.v (.v (.v (.v (.v (.v (.v (.v (.v (.v (.v (.v (.v (.v (.v (.v (.v (.v (.v (.v (.v (.v (.v (.v (.v (.v (.v (.v (.v (.v .nil))))))))))))))))))))))))))))))))))))))))))))))))), .nil⟩
    refine PON.runs 5 (by kernel_rfl) ?_
    refine PON.norm ⟨(sv s :: U :: bv false :: U :: U :: sv s :: iv (s.size : Int) :: bv (decide ((s.size : Int) < 1)) :: bv false :: sv s :: iv (s.size : Int) :: bv (decide ((s.size : Int) > 16)) :: bv (decide ((s.size : Int) > 16)) :: bv (decide ((s.size : Int) > 16)) :: U9 (U9 (U9 (U9 ([U, U, U, U, U, U, U]))))), []⟩ (by kernel_rfl) ?_
    refine PON.splitP ((s.size : Int) > 16) 13 (decide ((s.size : Int) > 16)) (sv s :: U :: bv false :: U :: U :: sv s :: iv (s.size : Int) :: bv (decide ((s.size : Int) < 1)) :: bv false :: sv s :: iv (s.size : Int) :: bv (decide ((s.size : Int) > 16)) :: bv (decide ((s.size : Int) > 16)) :: bv true :: U9 (U9 (U9 (U9 ([U, U, U, U, U, U, U]))))) (sv s :: U :: bv false :: U :: U :: sv s :: iv (s.size : Int) :: bv (decide ((s.size : Int) < 1)) :: bv false :: sv s :: iv (s.size : Int) :: bv (decide ((s.size : Int) > 16)) :: bv (decide ((s.size : Int) > 16)) :: bv false :: U9 (U9 (U9 (U9 ([U, U, U, U, U, U, U]))))) (by kernel_rfl) decide_eq_true decide_eq_false (by kernel_rfl) (by kernel_rfl) (fun h4 => ?_) (fun h4 => ?_)
    · skip
      refine PON.runs 3 (by kernel_rfl) ?_
      refine PON.norm ⟨(sv s :: U :: bv false :: U :: U :: sv s :: iv (s.size : Int) :: bv (decide ((s.size : Int) < 1)) :: bv false :: sv s :: iv (s.size : Int) :: bv (decide ((s.size : Int) > 16)) :: bv (decide ((s.size : Int) > 16)) :: bv true :: U :: U :: bv true :: U9 (U9 (U9 (U9 ([U, U, U, U]))))), []⟩ (by kernel_rfl) ?_
      refine PON.fin rfl (thenA_normal ?_)
      exact ⟨rfl, rfl, (.v (.v (.v (.v (.v (.a9 (.any (.any (.cons (.eq (.v _) (v_bool (by clear hret hK1 hK2 K0 K1 K2; (try simp only [strEq_dec]); grind))) (.v (.v (.v (.v (.v (.v (.v (.v (.v (.v (.v (.v (.v (.v (.v (.v (.v (.v (.v (.v (.v (.v (.v (.v (.v (.v (.v (.v (.v (.v (.v (.v (.v (.v (.v (.v (.v (.v (.v (.v .nil))))))))))))))))))))))))))))))))))))))))))))))))), .nil⟩
    refine PON.runs 3 (by kernel_rfl) ?_
    refine PON.norm ⟨(sv s :: U :: bv false :: U :: U :: sv s :: iv (s.size : Int) :: bv (decide ((s.size : Int) < 1)) :: bv false :: sv s :: iv (s.size : Int) :: bv (decide ((s.size : Int) > 16)) :: bv (decide ((s.size : Int) > 16)) :: bv false :: sv s :: bv (strEq s (⟨#[107, 101, 121]⟩ : ByteArray)) :: bv (strEq s (⟨#[107, 101, 121]⟩ : ByteArray)) :: U9 (U9 (U9 (U9 ([U, U, U, U]))))), []⟩ (by kernel_rfl) ?_
    refine PON.fin rfl (thenA_normal ?_)
    exact ⟨rfl, rfl, (.v (.v (.v (.v (.v (.a9 (.any (.any (.cons (.eq (.v _) (v_bool (by clear hret hK1 hK2 K0 K1 K2; (try simp only [strEq_dec]); grind))) (.v (.v (.v (.v (.v (.v (.v (.v (.v (.v (.v (.v (.v (.v (.v (.v (.v (.v (.v (.v (.v (.v (.v (.v (.v (.v (.v (.v (.v (.v (.v (.v (.v (.v (.v (.v (.v (.v (.v (.v .nil))))))))))))))))))))))))))))))))))))))))))))))))), .nil⟩
  refine PV.condP (((s.size : Int) < 1) ∨ (((s.size : Int) > 16) ∨ (s = (⟨#[107, 101, 121]⟩ : ByteArray)))) (decide (((s.size : Int) < 1) ∨ (((s.size : Int) > 16) ∨ (s = (⟨#[107, 101, 121]⟩ : ByteArray))))) (by kernel_rfl) decide_eq_true decide_eq_false (fun h5 => ?_) (fun h5 => ?_)
  · skip
    refine PV.seq_k fun K6 hK6 => ?_
    refine PV.regionN ?_
    refine PON.runs 1 (by kernel_rfl) ?_
    refine PON.fin rfl (thenA_normal (hK6 _ ?_))
    refine PV.norm ⟨(sv s :: U :: bv false :: U :: U :: A9 (A :: A :: bv (decide (((s.size : Int) < 1) ∨ (((s.size : Int) > 16) ∨ (s = (⟨#[107, 101, 121]⟩ : ByteArray))))) :: U9 (U9 (U9 (U9 ([U, U, U, U])))))), []⟩ (by kernel_rfl) ?_
    refine PV.ret (thenA_ret (hret .ret _ (bv false) (.inr rfl) (by kernel_rfl) ?_))
    clear hret hK1 hK2 hK6 K0 K1 K2 K6
    show Tof noTau [] (bv false) (bv (okName s))
    -- leaf 1
    refine Tof.bool ?_
    first | (rw [okName_true] <;> grind [strEq_dec, size_pos_of_ne, KEY]) | (rw [okName_false k.toNat (by omega)]; grind [okChar]) | grind [okName, strEq_dec, KEY, okChar, ByteArray.size_empty]
  refine PV.skip (thenA_normal (hK2 _ ?_))
  refine PV.seq_k fun K7 hK7 => ?_
  refine PV.seq_k fun K8 hK8 => ?_
  refine PV.regionN ?_
  refine PON.runs 1 (by kernel_rfl) ?_
  refine PON.fin rfl (thenA_normal (hK8 _ ?_))
  refine PV.block ?_
  refine PV.norm ⟨(sv s :: U :: bv false :: iv 0 :: U :: A9 (A :: A :: bv (decide (((s.size : Int) < 1) ∨ (((s.size : Int) > 16) ∨ (s = (⟨#[107, 101, 121]⟩ : ByteArray))))) :: U9 (U9 (U9 (U9 ([U, U, U, U])))))), []⟩ (by kernel_rfl) ?_
  refine PV.loopR (α := Int) (fun xL => let k := xL; (⟨(sv s :: A :: A :: iv k :: A9 (A9 (A9 (A9 (A9 (A4 (A4 ([])))))))), []⟩ : St)) (fun xL => let k := xL; (0 ≤ k ∧ k ≤ s.size) ∧ (∀ i : Nat, i < k.toNat → okChar (decide (i = 0)) (byteAt s i) = true)) (fun xL => let k := xL; ((s.size : Int) - k).toNat) [] (0 : Int) ⟨rfl, rfl, (.v (.any (.any (.v (.a9 (.a9 (.a9 (.a9 (.a9 (.a4 (.a4 .nil))))))))))), .nil⟩ ?_ ?_
  · skip
    clear hret hK1 hK2 hK7 hK8 K0 K1 K2 K7 K8
    refine ⟨?_, ?_⟩
    · skip
      show 0 ≤ (0 : Int) ∧ (0 : Int) ≤ s.size
      simp
    · skip
      show ∀ i : Nat, i < (0 : Int).toNat → okChar (decide (i = 0)) (byteAt s i) = true
      intro i hi; simp at hi
  rintro k hJ
  change (0 ≤ k ∧ k ≤ s.size) ∧ (∀ i : Nat, i < k.toNat → okChar (decide (i = 0)) (byteAt s i) = true) at hJ
  obtain ⟨hk, hall⟩ := hJ
  show PV _ Try.prog _ ⟨(sv s :: A :: A :: iv k :: A9 (A9 (A9 (A9 (A9 (A4 (A4 ([])))))))), []⟩ _
  refine PV.seq_k fun K9 hK9 => ?_
  refine PV.seq_k fun K10 hK10 => ?_
  refine PV.regionN ?_
  refine PON.runs 4 (by kernel_rfl) ?_
  refine PON.fin rfl (thenA_normal (hK10 _ ?_))
  refine PV.condP (k < (s.size : Int)) (decide (k < (s.size : Int))) (by kernel_rfl) decide_eq_true decide_eq_false (fun h11 => ?_) (fun h11 => ?_)
  · skip
    refine PV.skip (thenA_normal (hK9 _ ?_))
    refine PV.seq_k fun K12 hK12 => ?_
    refine PV.block ?_
    refine PV.norm ⟨(sv s :: A :: A :: iv k :: A9 (A4 (iv k :: sv s :: iv (s.size : Int) :: bv (decide (k < (s.size : Int))) :: A9 (A9 (A9 (A9 ([]))))))), []⟩ (by kernel_rfl) ?_
    refine PV.seqR [] ⟨(sv s :: A :: A :: iv k :: bv (decide (((byteAt s k.toNat) ≥ 97) ∧ ((byteAt s k.toNat) ≤ 122))) :: A9 (A :: A :: A :: iv k :: sv s :: iv (s.size : Int) :: bv (decide (k < (s.size : Int))) :: A9 (A9 (A9 (A9 ([])))))), []⟩ ?_ ?_
    · skip
      refine PV.regionN ?_
      refine PON.runs 2 (by kernel_rfl) ?_
      refine PON.ops (aIndex_str Try.prog [] 9 s .i64 k (by kernel_rfl) (by first | omega | (have := size_pos_of_ne (by assumption); omega))) (by kernel_rfl) (by kernel_rfl) ?_
      refine PON.runs 2 (by kernel_rfl) ?_
      refine PON.norm ⟨(sv s :: A :: A :: iv k :: A9 (A4 (iv k :: sv s :: iv (s.size : Int) :: bv (decide (k < (s.size : Int))) :: A :: A :: sv s :: iv k :: .v (.int .u8 (byteAt s k.toNat)) :: bv (decide ((byteAt s k.toNat) ≥ 97)) :: bv (decide ((byteAt s k.toNat) ≥ 97)) :: A9 (A9 (A9 ([A, A])))))), []⟩ (by kernel_rfl) ?_
      refine PON.splitP ((byteAt s k.toNat) ≥ 97) 27 (decide ((byteAt s k.toNat) ≥ 97)) (sv s :: A :: A :: iv k :: A9 (A4 (iv k :: sv s :: iv (s.size : Int) :: bv (decide (k < (s.size : Int))) :: A :: A :: sv s :: iv k :: .v (.int .u8 (byteAt s k.toNat)) :: bv (decide ((byteAt s k.toNat) ≥ 97)) :: bv true :: A9 (A9 (A9 ([A, A])))))) (sv s :: A :: A :: iv k :: A9 (A4 (iv k :: sv s :: iv (s.size : Int) :: bv (decide (k < (s.size : Int))) :: A :: A :: sv s :: iv k :: .v (.int .u8 (byteAt s k.toNat)) :: bv (decide ((byteAt s k.toNat) ≥ 97)) :: bv false :: A9 (A9 (A9 ([A, A])))))) (by kernel_rfl) decide_eq_true decide_eq_false (by kernel_rfl) (by kernel_rfl) (fun h13 => ?_) (fun h13 => ?_)
      · skip
        refine PON.runs 2 (by kernel_rfl) ?_
        refine PON.ops (aIndex_str Try.prog [] 9 s .i64 k (by kernel_rfl) (by first | omega | (have := size_pos_of_ne (by assumption); omega))) (by kernel_rfl) (by kernel_rfl) ?_
        refine PON.runs 3 (by kernel_rfl) ?_
        refine PON.norm ⟨(sv s :: A :: A :: iv k :: bv (decide ((byteAt s k.toNat) ≤ 122)) :: A9 (A :: A :: A :: iv k :: sv s :: iv (s.size : Int) :: bv (decide (k < (s.size : Int))) :: A :: A :: sv s :: iv k :: .v (.int .u8 (byteAt s k.toNat)) :: bv (decide ((byteAt s k.toNat) ≥ 97)) :: bv true :: sv s :: iv k :: .v (.int .u8 (byteAt s k.toNat)) :: bv (decide ((byteAt s k.toNat) ≤ 122)) :: bv (decide ((byteAt s k.toNat) ≤ 122)) :: A9 (A9 (A4 ([A, A]))))), []⟩ (by kernel_rfl) ?_
        refine PON.fin rfl (thenA_normal ?_)
        exact ⟨rfl, rfl, (.v (.any (.any (.v (.cons (.eq (.v _) (v_bool (by clear hret hK1 hK2 hK7 hK8 hK9 hK10 hK12 K0 K1 K2 K7 K8 K9 K10 K12; (try simp only [strEq_dec]); grind))) (.a9 (.any (.any (.any (.v (.v (.v (.v (.a9 (.a9 (.a9 (.a9 .nil))))))))))))))))), .nil⟩
      refine PON.runs 6 (by kernel_rfl) ?_
      refine PON.norm ⟨(sv s :: A :: A :: iv k :: bv false :: A9 (A :: A :: A :: iv k :: sv s :: iv (s.size : Int) :: bv (decide (k < (s.size : Int))) :: A :: A :: sv s :: iv k :: .v (.int .u8 (byteAt s k.toNat)) :: bv (decide ((byteAt s k.toNat) ≥ 97)) :: bv false :: U :: U :: U :: U :: bv false :: A9 (A9 (A4 ([A, A]))))), []⟩ (by kernel_rfl) ?_
      refine PON.fin rfl (thenA_normal ?_)
      exact ⟨rfl, rfl, (.v (.any (.any (.v (.cons (.eq (.v _) (v_bool (by clear hret hK1 hK2 hK7 hK8 hK9 hK10 hK12 K0 K1 K2 K7 K8 K9 K10 K12; (try simp only [strEq_dec]); grind))) (.a9 (.any (.any (.any (.v (.v (.v (.v (.a9 (.a9 (.a9 (.a9 .nil))))))))))))))))), .nil⟩
    refine PV.seqR [] ⟨(sv s :: A :: A :: iv k :: bv (decide (((byteAt s k.toNat) ≥ 97) ∧ ((byteAt s k.toNat) ≤ 122))) :: A9 (A :: A :: A :: iv k :: sv s :: iv (s.size : Int) :: bv (decide (k < (s.size : Int))) :: A9 (A9 (A9 (A4 (A4 ([bv (decide (¬(((byteAt s k.toNat) ≥ 97) ∧ ((byteAt s k.toNat) ≤ 122)) ∧ ((k = 0) ∨ (¬((byteAt s k.toNat) = 95) ∧ (((byteAt s k.toNat) < 48) ∨ ((byteAt s k.toNat) > 57))))))]))))))), []⟩ ?_ ?_
    · skip
      refine PV.regionN ?_
      refine PON.runs 3 (by kernel_rfl) ?_
      refine PON.norm ⟨(sv s :: A :: A :: iv k :: bv (decide (((byteAt s k.toNat) ≥ 97) ∧ ((byteAt s k.toNat) ≤ 122))) :: A9 (A :: A :: A :: iv k :: sv s :: iv (s.size : Int) :: bv (decide (k < (s.size : Int))) :: A9 (A :: A :: A :: bv (decide (((byteAt s k.toNat) ≥ 97) ∧ ((byteAt s k.toNat) ≤ 122))) :: bv (!(decide (((byteAt s k.toNat) ≥ 97) ∧ ((byteAt s k.toNat) ≤ 122)))) :: bv (!(decide (((byteAt s k.toNat) ≥ 97) ∧ ((byteAt s k.toNat) ≤ 122)))) :: A9 (A9 ([A, A, A]))))), []⟩ (by kernel_rfl) ?_
      refine PON.splitN (((byteAt s k.toNat) ≥ 97) ∧ ((byteAt s k.toNat) ≤ 122)) 35 (!(decide (((byteAt s k.toNat) ≥ 97) ∧ ((byteAt s k.toNat) ≤ 122)))) (sv s :: A :: A :: iv k :: bv (decide (((byteAt s k.toNat) ≥ 97) ∧ ((byteAt s k.toNat) ≤ 122))) :: A9 (A :: A :: A :: iv k :: sv s :: iv (s.size : Int) :: bv (decide (k < (s.size : Int))) :: A9 (A :: A :: A :: bv (decide (((byteAt s k.toNat) ≥ 97) ∧ ((byteAt s k.toNat) ≤ 122))) :: bv (!(decide (((byteAt s k.toNat) ≥ 97) ∧ ((byteAt s k.toNat) ≤ 122)))) :: bv false :: A9 (A9 ([A, A, A]))))) (sv s :: A :: A :: iv k :: bv (decide (((byteAt s k.toNat) ≥ 97) ∧ ((byteAt s k.toNat) ≤ 122))) :: A9 (A :: A :: A :: iv k :: sv s :: iv (s.size : Int) :: bv (decide (k < (s.size : Int))) :: A9 (A :: A :: A :: bv (decide (((byteAt s k.toNat) ≥ 97) ∧ ((byteAt s k.toNat) ≤ 122))) :: bv (!(decide (((byteAt s k.toNat) ≥ 97) ∧ ((byteAt s k.toNat) ≤ 122)))) :: bv true :: A9 (A9 ([A, A, A]))))) (by kernel_rfl) (fun h => bnot_t (decide_eq_true h)) (fun h => bnot_f (decide_eq_false h)) (by kernel_rfl) (by kernel_rfl) (fun h14 => ?_) (fun h14 => ?_)
      · skip
        refine PON.runs 21 (by kernel_rfl) ?_
        refine PON.norm ⟨(sv s :: A :: A :: iv k :: bv (decide (((byteAt s k.toNat) ≥ 97) ∧ ((byteAt s k.toNat) ≤ 122))) :: A9 (A :: A :: A :: iv k :: sv s :: iv (s.size : Int) :: bv (decide (k < (s.size : Int))) :: A9 (A :: A :: A :: bv (decide (((byteAt s k.toNat) ≥ 97) ∧ ((byteAt s k.toNat) ≤ 122))) :: bv (!(decide (((byteAt s k.toNat) ≥ 97) ∧ ((byteAt s k.toNat) ≤ 122)))) :: bv false :: U9 (U9 ([U, U, bv false]))))), []⟩ (by kernel_rfl) ?_
        refine PON.fin rfl (thenA_normal ?_)
        exact ⟨rfl, rfl, (.v (.any (.any (.v (.v (.a9 (.any (.any (.any (.v (.v (.v (.v (.a9 (.a9 (.a9 (.a4 (.a4 (.cons (.eq (.v _) (v_bool (by clear hret hK1 hK2 hK7 hK8 hK9 hK10 hK12 K0 K1 K2 K7 K8 K9 K10 K12; (try simp only [strEq_dec]); grind))) .nil))))))))))))))))))), .nil⟩
      refine PON.runs 3 (by kernel_rfl) ?_
      refine PON.norm ⟨(sv s :: A :: A :: iv k :: bv (decide (((byteAt s k.toNat) ≥ 97) ∧ ((byteAt s k.toNat) ≤ 122))) :: A9 (A :: A :: A :: iv k :: sv s :: iv (s.size : Int) :: bv (decide (k < (s.size : Int))) :: A9 (A :: A :: A :: bv (decide (((byteAt s k.toNat) ≥ 97) ∧ ((byteAt s k.toNat) ≤ 122))) :: bv (!(decide (((byteAt s k.toNat) ≥ 97) ∧ ((byteAt s k.toNat) ≤ 122)))) :: bv true :: iv k :: bv (decide (k = 0)) :: bv (decide (k = 0)) :: A9 (A9 ([]))))), []⟩ (by kernel_rfl) ?_
      refine PON.splitP (k = 0) 38 (decide (k = 0)) (sv s :: A :: A :: iv k :: bv (decide (((byteAt s k.toNat) ≥ 97) ∧ ((byteAt s k.toNat) ≤ 122))) :: A9 (A :: A :: A :: iv k :: sv s :: iv (s.size : Int) :: bv (decide (k < (s.size : Int))) :: A9 (A :: A :: A :: bv (decide (((byteAt s k.toNat) ≥ 97) ∧ ((byteAt s k.toNat) ≤ 122))) :: bv (!(decide (((byteAt s k.toNat) ≥ 97) ∧ ((byteAt s k.toNat) ≤ 122)))) :: bv true :: iv k :: bv (decide (k = 0)) :: bv true :: A9 (A9 ([]))))) (sv s :: A :: A :: iv k :: bv (decide (((byteAt s k.toNat) ≥ 97) ∧ ((byteAt s k.toNat) ≤ 122))) :: A9 (A :: A :: A :: iv k :: sv s :: iv (s.size : Int) :: bv (decide (k < (s.size : Int))) :: A9 (A :: A :: A :: bv (decide (((byteAt s k.toNat) ≥ 97) ∧ ((byteAt s k.toNat) ≤ 122))) :: bv (!(decide (((byteAt s k.toNat) ≥ 97) ∧ ((byteAt s k.toNat) ≤ 122)))) :: bv true :: iv k :: bv (decide (k = 0)) :: bv false :: A9 (A9 ([]))))) (by kernel_rfl) decide_eq_true decide_eq_false (by kernel_rfl) (by kernel_rfl) (fun h15 => ?_) (fun h15 => ?_)
      · skip
        refine PON.runs 18 (by kernel_rfl) ?_
        refine PON.norm ⟨(sv s :: A :: A :: iv k :: bv (decide (((byteAt s k.toNat) ≥ 97) ∧ ((byteAt s k.toNat) ≤ 122))) :: A9 (A :: A :: A :: iv k :: sv s :: iv (s.size : Int) :: bv (decide (k < (s.size : Int))) :: A9 (A :: A :: A :: bv (decide (((byteAt s k.toNat) ≥ 97) ∧ ((byteAt s k.toNat) ≤ 122))) :: bv (!(decide (((byteAt s k.toNat) ≥ 97) ∧ ((byteAt s k.toNat) ≤ 122)))) :: bv true :: iv k :: bv (decide (k = 0)) :: bv true :: U9 ([U, U, U, U, U, U, U, bv true, bv true])))), []⟩ (by kernel_rfl) ?_
        refine PON.fin rfl (thenA_normal ?_)
        exact ⟨rfl, rfl, (.v (.any (.any (.v (.v (.a9 (.any (.any (.any (.v (.v (.v (.v (.a9 (.a9 (.a9 (.a4 (.a4 (.cons (.eq (.v _) (v_bool (by clear hret hK1 hK2 hK7 hK8 hK9 hK10 hK12 K0 K1 K2 K7 K8 K9 K10 K12; (try simp only [strEq_dec]); grind))) .nil))))))))))))))))))), .nil⟩
      refine PON.runs 2 (by kernel_rfl) ?_
      refine PON.ops (aIndex_str Try.prog [] 9 s .i64 k (by kernel_rfl) (by first | omega | (have := size_pos_of_ne (by assumption); omega))) (by kernel_rfl) (by kernel_rfl) ?_
      refine PON.runs 2 (by kernel_rfl) ?_
      refine PON.norm ⟨(sv s :: A :: A :: iv k :: bv (decide (((byteAt s k.toNat) ≥ 97) ∧ ((byteAt s k.toNat) ≤ 122))) :: A9 (A :: A :: A :: iv k :: sv s :: iv (s.size : Int) :: bv (decide (k < (s.size : Int))) :: A9 (A :: A :: A :: bv (decide (((byteAt s k.toNat) ≥ 97) ∧ ((byteAt s k.toNat) ≤ 122))) :: bv (!(decide (((byteAt s k.toNat) ≥ 97) ∧ ((byteAt s k.toNat) ≤ 122)))) :: bv true :: iv k :: bv (decide (k = 0)) :: bv false :: sv s :: iv k :: .v (.int .u8 (byteAt s k.toNat)) :: bv (!(decide ((byteAt s k.toNat) = 95))) :: bv (!(decide ((byteAt s k.toNat) = 95))) :: A9 (A4 ([]))))), []⟩ (by kernel_rfl) ?_
      refine PON.splitN ((byteAt s k.toNat) = 95) 43 (!(decide ((byteAt s k.toNat) = 95))) (sv s :: A :: A :: iv k :: bv (decide (((byteAt s k.toNat) ≥ 97) ∧ ((byteAt s k.toNat) ≤ 122))) :: A9 (A :: A :: A :: iv k :: sv s :: iv (s.size : Int) :: bv (decide (k < (s.size : Int))) :: A9 (A :: A :: A :: bv (decide (((byteAt s k.toNat) ≥ 97) ∧ ((byteAt s k.toNat) ≤ 122))) :: bv (!(decide (((byteAt s k.toNat) ≥ 97) ∧ ((byteAt s k.toNat) ≤ 122)))) :: bv true :: iv k :: bv (decide (k = 0)) :: bv false :: sv s :: iv k :: .v (.int .u8 (byteAt s k.toNat)) :: bv (!(decide ((byteAt s k.toNat) = 95))) :: bv false :: A9 (A4 ([]))))) (sv s :: A :: A :: iv k :: bv (decide (((byteAt s k.toNat) ≥ 97) ∧ ((byteAt s k.toNat) ≤ 122))) :: A9 (A :: A :: A :: iv k :: sv s :: iv (s.size : Int) :: bv (decide (k < (s.size : Int))) :: A9 (A :: A :: A :: bv (decide (((byteAt s k.toNat) ≥ 97) ∧ ((byteAt s k.toNat) ≤ 122))) :: bv (!(decide (((byteAt s k.toNat) ≥ 97) ∧ ((byteAt s k.toNat) ≤ 122)))) :: bv true :: iv k :: bv (decide (k = 0)) :: bv false :: sv s :: iv k :: .v (.int .u8 (byteAt s k.toNat)) :: bv (!(decide ((byteAt s k.toNat) = 95))) :: bv true :: A9 (A4 ([]))))) (by kernel_rfl) (fun h => bnot_t (decide_eq_true h)) (fun h => bnot_f (decide_eq_false h)) (by kernel_rfl) (by kernel_rfl) (fun h16 => ?_) (fun h16 => ?_)
      · skip
        refine PON.runs 13 (by kernel_rfl) ?_
        refine PON.norm ⟨(sv s :: A :: A :: iv k :: bv (decide (((byteAt s k.toNat) ≥ 97) ∧ ((byteAt s k.toNat) ≤ 122))) :: A9 (A :: A :: A :: iv k :: sv s :: iv (s.size : Int) :: bv (decide (k < (s.size : Int))) :: A9 (A :: A :: A :: bv (decide (((byteAt s k.toNat) ≥ 97) ∧ ((byteAt s k.toNat) ≤ 122))) :: bv (!(decide (((byteAt s k.toNat) ≥ 97) ∧ ((byteAt s k.toNat) ≤ 122)))) :: bv true :: iv k :: bv (decide (k = 0)) :: bv false :: sv s :: iv k :: .v (.int .u8 (byteAt s k.toNat)) :: bv (!(decide ((byteAt s k.toNat) = 95))) :: bv false :: U9 ([U, bv false, bv false, bv false])))), []⟩ (by kernel_rfl) ?_
        refine PON.fin rfl (thenA_normal ?_)
        exact ⟨rfl, rfl, (.v (.any (.any (.v (.v (.a9 (.any (.any (.any (.v (.v (.v (.v (.a9 (.a9 (.a9 (.a4 (.a4 (.cons (.eq (.v _) (v_bool (by clear hret hK1 hK2 hK7 hK8 hK9 hK10 hK12 K0 K1 K2 K7 K8 K9 K10 K12; (try simp only [strEq_dec]); grind))) .nil))))))))))))))))))), .nil⟩
      refine PON.runs 2 (by kernel_rfl) ?_
      refine PON.ops (aIndex_str Try.prog [] 9 s .i64 k (by kernel_rfl) (by first | omega | (have := size_pos_of_ne (by assumption); omega))) (by kernel_rfl) (by kernel_rfl) ?_
      refine PON.runs 2 (by kernel_rfl) ?_
      refine PON.norm ⟨(sv s :: A :: A :: iv k :: bv (decide (((byteAt s k.toNat) ≥ 97) ∧ ((byteAt s k.toNat) ≤ 122))) :: A9 (A :: A :: A :: iv k :: sv s :: iv (s.size : Int) :: bv (decide (k < (s.size : Int))) :: A9 (A :: A :: A :: bv (decide (((byteAt s k.toNat) ≥ 97) ∧ ((byteAt s k.toNat) ≤ 122))) :: bv (!(decide (((byteAt s k.toNat) ≥ 97) ∧ ((byteAt s k.toNat) ≤ 122)))) :: bv true :: iv k :: bv (decide (k = 0)) :: bv false :: sv s :: iv k :: .v (.int .u8 (byteAt s k.toNat)) :: bv (!(decide ((byteAt s k.toNat) = 95))) :: bv true :: sv s :: iv k :: .v (.int .u8 (byteAt s k.toNat)) :: bv (decide ((byteAt s k.toNat) < 48)) :: bv (decide ((byteAt s k.toNat) < 48)) :: A4 (A4 ([]))))), []⟩ (by kernel_rfl) ?_
      refine PON.splitP ((byteAt s k.toNat) < 48) 48 (decide ((byteAt s k.toNat) < 48)) (sv s :: A :: A :: iv k :: bv (decide (((byteAt s k.toNat) ≥ 97) ∧ ((byteAt s k.toNat) ≤ 122))) :: A9 (A :: A :: A :: iv k :: sv s :: iv (s.size : Int) :: bv (decide (k < (s.size : Int))) :: A9 (A :: A :: A :: bv (decide (((byteAt s k.toNat) ≥ 97) ∧ ((byteAt s k.toNat) ≤ 122))) :: bv (!(decide (((byteAt s k.toNat) ≥ 97) ∧ ((byteAt s k.toNat) ≤ 122)))) :: bv true :: iv k :: bv (decide (k = 0)) :: bv false :: sv s :: iv k :: .v (.int .u8 (byteAt s k.toNat)) :: bv (!(decide ((byteAt s k.toNat) = 95))) :: bv true :: sv s :: iv k :: .v (.int .u8 (byteAt s k.toNat)) :: bv (decide ((byteAt s k.toNat) < 48)) :: bv true :: A4 (A4 ([]))))) (sv s :: A :: A :: iv k :: bv (decide (((byteAt s k.toNat) ≥ 97) ∧ ((byteAt s k.toNat) ≤ 122))) :: A9 (A :: A :: A :: iv k :: sv s :: iv (s.size : Int) :: bv (decide (k < (s.size : Int))) :: A9 (A :: A :: A :: bv (decide (((byteAt s k.toNat) ≥ 97) ∧ ((byteAt s k.toNat) ≤ 122))) :: bv (!(decide (((byteAt s k.toNat) ≥ 97) ∧ ((byteAt s k.toNat) ≤ 122)))) :: bv true :: iv k :: bv (decide (k = 0)) :: bv false :: sv s :: iv k :: .v (.int .u8 (byteAt s k.toNat)) :: bv (!(decide ((byteAt s k.toNat) = 95))) :: bv true :: sv s :: iv k :: .v (.int .u8 (byteAt s k.toNat)) :: bv (decide ((byteAt s k.toNat) < 48)) :: bv false :: A4 (A4 ([]))))) (by kernel_rfl) decide_eq_true decide_eq_false (by kernel_rfl) (by kernel_rfl) (fun h17 => ?_) (fun h17 => ?_)
      · skip
        refine PON.runs 8 (by kernel_rfl) ?_
        refine PON.norm ⟨(sv s :: A :: A :: iv k :: bv (decide (((byteAt s k.toNat) ≥ 97) ∧ ((byteAt s k.toNat) ≤ 122))) :: A9 (A :: A :: A :: iv k :: sv s :: iv (s.size : Int) :: bv (decide (k < (s.size : Int))) :: A9 ([A, A, A, bv (decide (((byteAt s k.toNat) ≥ 97) ∧ ((byteAt s k.toNat) ≤ 122))), bv (!(decide (((byteAt s k.toNat) ≥ 97) ∧ ((byteAt s k.toNat) ≤ 122)))), bv true, iv k, bv (decide (k = 0)), bv false, sv s, iv k, .v (.int .u8 (byteAt s k.toNat)), bv (!(decide ((byteAt s k.toNat) = 95))), bv true, sv s, iv k, .v (.int .u8 (byteAt s k.toNat)), bv (decide ((byteAt s k.toNat) < 48)), bv true, U, U, U, U, bv true, bv true, bv true, bv true]))), []⟩ (by kernel_rfl) ?_
        refine PON.fin rfl (thenA_normal ?_)
        exact ⟨rfl, rfl, (.v (.any (.any (.v (.v (.a9 (.any (.any (.any (.v (.v (.v (.v (.a9 (.a9 (.a9 (.a4 (.a4 (.cons (.eq (.v _) (v_bool (by clear hret hK1 hK2 hK7 hK8 hK9 hK10 hK12 K0 K1 K2 K7 K8 K9 K10 K12; (try simp only [strEq_dec]); grind))) .nil))))))))))))))))))), .nil⟩
      refine PON.runs 2 (by kernel_rfl) ?_
      refine PON.ops (aIndex_str Try.prog [] 9 s .i64 k (by kernel_rfl) (by first | omega | (have := size_pos_of_ne (by assumption); omega))) (by kernel_rfl) (by kernel_rfl) ?_
      refine PON.runs 5 (by kernel_rfl) ?_
      refine PON.norm ⟨(sv s :: A :: A :: iv k :: bv (decide (((byteAt s k.toNat) ≥ 97) ∧ ((byteAt s k.toNat) ≤ 122))) :: A9 (A :: A :: A :: iv k :: sv s :: iv (s.size : Int) :: bv (decide (k < (s.size : Int))) :: A9 ([A, A, A, bv (decide (((byteAt s k.toNat) ≥ 97) ∧ ((byteAt s k.toNat) ≤ 122))), bv (!(decide (((byteAt s k.toNat) ≥ 97) ∧ ((byteAt s k.toNat) ≤ 122)))), bv true, iv k, bv (decide (k = 0)), bv false, sv s, iv k, .v (.int .u8 (byteAt s k.toNat)), bv (!(decide ((byteAt s k.toNat) = 95))), bv true, sv s, iv k, .v (.int .u8 (byteAt s k.toNat)), bv (decide ((byteAt s k.toNat) < 48)), bv false, sv s, iv k, .v (.int .u8 (byteAt s k.toNat)), bv (decide ((byteAt s k.toNat) > 57)), bv (decide ((byteAt s k.toNat) > 57)), bv (decide ((byteAt s k.toNat) > 57)), bv (decide ((byteAt s k.toNat) > 57)), bv (decide ((byteAt s k.toNat) > 57))]))), []⟩ (by kernel_rfl) ?_
      refine PON.fin rfl (thenA_normal ?_)
      exact ⟨rfl, rfl, (.v (.any (.any (.v (.v (.a9 (.any (.any (.any (.v (.v (.v (.v (.a9 (.a9 (.a9 (.a4 (.a4 (.cons (.eq (.v _) (v_bool (by clear hret hK1 hK2 hK7 hK8 hK9 hK10 hK12 K0 K1 K2 K7 K8 K9 K10 K12; (try simp only [strEq_dec]); grind))) .nil))))))))))))))))))), .nil⟩
    refine PV.condP (¬(((byteAt s k.toNat) ≥ 97) ∧ ((byteAt s k.toNat) ≤ 122)) ∧ ((k = 0) ∨ (¬((byteAt s k.toNat) = 95) ∧ (((byteAt s k.toNat) < 48) ∨ ((byteAt s k.toNat) > 57))))) (decide (¬(((byteAt s k.toNat) ≥ 97) ∧ ((byteAt s k.toNat) ≤ 122)) ∧ ((k = 0) ∨ (¬((byteAt s k.toNat) = 95) ∧ (((byteAt s k.toNat) < 48) ∨ ((byteAt s k.toNat) > 57)))))) (by kernel_rfl) decide_eq_true decide_eq_false (fun h18 => ?_) (fun h18 => ?_)
    · skip
      refine PV.seq_k fun K19 hK19 => ?_
      refine PV.regionN ?_
      refine PON.runs 1 (by kernel_rfl) ?_
      refine PON.fin rfl (thenA_normal (hK19 _ ?_))
      refine PV.norm ⟨(sv s :: A :: bv false :: iv k :: bv (decide (((byteAt s k.toNat) ≥ 97) ∧ ((byteAt s k.toNat) ≤ 122))) :: A9 (A :: A :: A :: iv k :: sv s :: iv (s.size : Int) :: bv (decide (k < (s.size : Int))) :: A9 (A9 (A9 (A4 (A4 ([bv (decide (¬(((byteAt s k.toNat) ≥ 97) ∧ ((byteAt s k.toNat) ≤ 122)) ∧ ((k = 0) ∨ (¬((byteAt s k.toNat) = 95) ∧ (((byteAt s k.toNat) < 48) ∨ ((byteAt s k.toNat) > 57))))))]))))))), []⟩ (by kernel_rfl) ?_
      refine PV.ret (inBlockA_ret (thenA_ret (thenA_ret (inBlockA_ret (thenA_ret (hret .ret _ (bv false) (.inr rfl) (by kernel_rfl) ?_))))))
      clear hret hK1 hK2 hK7 hK8 hK9 hK10 hK12 hK19 K0 K1 K2 K7 K8 K9 K10 K12 K19
      show Tof noTau [] (bv false) (bv (okName s))
      -- leaf 2
      refine Tof.bool ?_
      first | (rw [okName_true] <;> grind [strEq_dec, size_pos_of_ne, KEY]) | (rw [okName_false k.toNat (by omega)]; grind [okChar]) | grind [okName, strEq_dec, KEY, okChar, ByteArray.size_empty]
    refine PV.skip (inBlockA_normal (thenA_normal (hK12 _ ?_)))
    refine PV.regionN ?_
    refine PON.runs 1 (by kernel_rfl) ?_
    refine PON.ops (aBin_add_in Try.prog [] 3 (.tmp 21) (.const (.int .i64 1)) .i64 k 1 (by rw [wrap64] <;> omega)) (by kernel_rfl) (by kernel_rfl) ?_
    refine PON.runs 1 (by kernel_rfl) ?_
    refine PON.norm ⟨(sv s :: A :: A :: iv (k + 1) :: bv (decide (((byteAt s k.toNat) ≥ 97) ∧ ((byteAt s k.toNat) ≤ 122))) :: A9 (A :: A :: A :: iv k :: sv s :: iv (s.size : Int) :: bv (decide (k < (s.size : Int))) :: iv k :: iv (k + 1) :: A9 (A9 (A9 (A4 ([A, A, bv (decide (¬(((byteAt s k.toNat) ≥ 97) ∧ ((byteAt s k.toNat) ≤ 122)) ∧ ((k = 0) ∨ (¬((byteAt s k.toNat) = 95) ∧ (((byteAt s k.toNat) < 48) ∨ ((byteAt s k.toNat) > 57))))))])))))), []⟩ (by kernel_rfl) ?_
    refine PON.fin rfl (thenA_normal ?_)
    refine ⟨[], (k + 1), ⟨rfl, rfl, (.v (.any (.any (.v (.a9 (.a9 (.a9 (.a9 (.a9 (.a4 (.a4 .nil))))))))))), .nil⟩, ?_, ?_⟩
    · skip
      clear hret hK1 hK2 hK7 hK8 hK9 hK10 hK12 K0 K1 K2 K7 K8 K9 K10 K12
      refine ⟨?_, ?_⟩
      · skip
        show 0 ≤ (k + 1) ∧ (k + 1) ≤ s.size
        omega
      · skip
        show ∀ i : Nat, i < (k + 1).toNat → okChar (decide (i = 0)) (byteAt s i) = true
        intro i hi
        by_cases q : i < k.toNat
        · exact hall i q
        · have e : i = k.toNat := by omega
          subst e
          have : (k = 0) = (k.toNat = 0) := by apply propext; omega
          grind [okChar]
    · skip
      clear hret hK1 hK2 hK7 hK8 hK9 hK10 hK12 K0 K1 K2 K7 K8 K9 K10 K12
      show ((s.size : Int) - (k + 1)).toNat < ((s.size : Int) - k).toNat
      omega
  refine PV.exit (thenA_exit (thenA_exit (inBlockA_hit (thenA_normal (hK7 _ ?_)))))
  refine PV.seq_k fun K20 hK20 => ?_
  refine PV.regionN ?_
  refine PON.runs 1 (by kernel_rfl) ?_
  refine PON.fin rfl (thenA_normal (hK20 _ ?_))
  refine PV.norm ⟨(sv s :: A :: bv true :: iv k :: A9 (A4 (iv k :: sv s :: iv (s.size : Int) :: bv (decide (k < (s.size : Int))) :: A9 (A9 (A9 (A9 ([]))))))), []⟩ (by kernel_rfl) ?_
  refine PV.ret (hret .ret _ (bv true) (.inr rfl) (by kernel_rfl) ?_)
  clear hret hK1 hK2 hK7 hK8 hK9 hK10 hK20 K0 K1 K2 K7 K8 K9 K10 K20
  show Tof noTau [] (bv true) (bv (okName s))
  -- leaf 3
  refine Tof.bool ?_
  first | (rw [okName_true] <;> grind [strEq_dec, size_pos_of_ne, KEY]) | (rw [okName_false k.toNat (by omega)]; grind [okChar]) | grind [okName, strEq_dec, KEY, okChar, ByteArray.size_empty]
theorem rname_ok (s : ByteArray) : PCX Try.prog 50 [sv s] [] [] (bv (okName s)) :=
  PCX.frame (by simp only [NIs_cons, NIs_nil, NIr_cons, NIr_nil, NI_v, NI_any, NI_pO, NI_sO, NI_pF, NI_sF, NI_agg, NI_tup, NI_fn, NIh_nil, NIh_live, NIh_dead, NIh_free, NIr_map, NIr_append, NIs_icells, NIs_scells, NIs_bcells, NIs_Val, NIs_Col, NIs_Schema, NIs_PNode, NIs_Src, NIr_Val, NIr_Col, NIr_ints, NIr_PNode]; try simp) (rname_ok_walk s)

set_option maxHeartbeats 4000000 in
theorem find_ok_walk (s : Schema) (name : ByteArray) (hl : s.columns.length ≤ maxLen) : PC Try.prog 49 [.agg (Schema.cells s), sv name] [] (fun yR kR => Tof noTau kR yR (iv (colIdx name s.columns 0))) := by
  refine PC.of_bodyV Try.func49 rfl [.agg (Schema.cells s), sv name, U, U, U, U, U, U, U] (by kernel_rfl) (fun K0 hret => ?_)
  unfold maxLen at hl
  refine PV.seq_k fun K1 hK1 => ?_
  refine PV.regionN ?_
  refine PON.runs 3 (by kernel_rfl) ?_
  refine PON.fin rfl (thenA_normal (hK1 _ ?_))
  refine PV.seq_k fun K2 hK2 => ?_
  refine PV.regionN ?_
  refine PON.runs 3 (by kernel_rfl) ?_
  refine PON.norm ⟨[.agg (Schema.cells s), sv name, po 0, po 1, iv 0, po 0, .sF 4 (s.columns.map Col.cells), .fn (.func 66) [] [po 1], U], [.live ⟨2, [(Schema.cells s)], 33⟩, .live ⟨1, [[sv name]], 9⟩]⟩ (by kernel_rfl) ?_
  refine PON.callR (f := 65) (args := [.sF 4 (s.columns.map Col.cells), .fn (.func 66) [] [po 1]]) (d := some 8) (R := _) (by kernel_rfl) ?_ (fun x h' hx => hx)
  refine PC.of_bodyV Try.func65 rfl (.sF 4 (s.columns.map Col.cells) :: .fn (.func 66) [] [po 1] :: U9 ([U, U, U, U, U, U, U, U])) (by kernel_rfl) (fun K4 hret3 => ?_)
  refine PV.seq_k fun K5 hK5 => ?_
  refine PV.regionN ?_
  refine PON.runs 1 (by kernel_rfl) ?_
  refine PON.fin rfl (thenA_normal (hK5 _ ?_))
  refine PV.seq_k fun K6 hK6 => ?_
  refine PV.seq_k fun K7 hK7 => ?_
  refine PV.regionN ?_
  refine PON.runs 1 (by kernel_rfl) ?_
  refine PON.ops (aLen_map Try.prog [.live ⟨2, [(Schema.cells s)], 33⟩, .live ⟨1, [[sv name]], 9⟩] 31 47 (by kernel_rfl) 4 Col.cells s.columns) (by kernel_rfl) (by kernel_rfl) ?_
  refine PON.runs 1 (by kernel_rfl) ?_
  refine PON.fin rfl (thenA_normal (hK7 _ ?_))
  refine PV.block ?_
  refine PV.norm ⟨(.sF 4 (s.columns.map Col.cells) :: .fn (.func 66) [] [po 1] :: U :: U :: iv 0 :: U :: .sF 4 (s.columns.map Col.cells) :: iv (s.columns.length : Int) :: iv 0 :: U9 ([U])), [.live ⟨2, [(Schema.cells s)], 33⟩, .live ⟨1, [[sv name]], 9⟩]⟩ (by kernel_rfl) ?_
  refine PV.loopR (α := Int) (fun xL => let k := xL; (⟨(.sF 4 (s.columns.map Col.cells) :: .fn (.func 66) [] [po 1] :: A4 (A :: iv (s.columns.length : Int) :: iv k :: A9 ([A]))), [.live ⟨2, [(Schema.cells s)], 33⟩, .live ⟨1, [[sv name]], 9⟩]⟩ : St)) (fun xL => let k := xL; (0 ≤ k ∧ k ≤ s.columns.length) ∧ (colIdx name s.columns 0 = colIdx name (s.columns.drop k.toNat) k)) (fun xL => let k := xL; ((s.columns.length : Int) - k).toNat) [0, 1] (0 : Int) ⟨rfl, rfl, (.cons (.tree (by simp only [NIs_cons, NIs_nil, NIr_cons, NIr_nil, NI_v, NI_any, NI_pO, NI_sO, NI_pF, NI_sF, NI_agg, NI_tup, NI_fn, NIh_nil, NIh_live, NIh_dead, NIh_free, NIr_map, NIr_append, NIs_icells, NIs_scells, NIs_bcells, NIs_Val, NIs_Col, NIs_Schema, NIs_PNode, NIs_Src, NIr_Val, NIr_Col, NIr_ints, NIr_PNode]; try simp)) (.cons (.fn .nil (.cons (.pO _ _ rfl) .nil)) (.a4 (.any (.v (.v (.a9 (.any .nil)))))))), (.cons rfl (.tree (by simp only [NIs_cons, NIs_nil, NIr_cons, NIr_nil, NI_v, NI_any, NI_pO, NI_sO, NI_pF, NI_sF, NI_agg, NI_tup, NI_fn, NIh_nil, NIh_live, NIh_dead, NIh_free, NIr_map, NIr_append, NIs_icells, NIs_scells, NIs_bcells, NIs_Val, NIs_Col, NIs_Schema, NIs_PNode, NIs_Src, NIr_Val, NIr_Col, NIr_ints, NIr_PNode]; try simp)) (.cons rfl (.tree (by simp only [NIs_cons, NIs_nil, NIr_cons, NIr_nil, NI_v, NI_any, NI_pO, NI_sO, NI_pF, NI_sF, NI_agg, NI_tup, NI_fn, NIh_nil, NIh_live, NIh_dead, NIh_free, NIr_map, NIr_append, NIs_icells, NIs_scells, NIs_bcells, NIs_Val, NIs_Col, NIs_Schema, NIs_PNode, NIs_Src, NIr_Val, NIr_Col, NIr_ints, NIr_PNode]; try simp)) .nil))⟩ ?_ ?_
  · skip
    clear hret hK1 hK2 hret3 hK5 hK6 hK7 K0 K1 K2 K4 K5 K6 K7
    refine ⟨?_, ?_⟩
    · skip
      show 0 ≤ (0 : Int) ∧ (0 : Int) ≤ s.columns.length
      simp
    · skip
      show colIdx name s.columns 0 = colIdx name (s.columns.drop (0 : Int).toNat) (0 : Int)
      simp
  rintro k hJ
  change (0 ≤ k ∧ k ≤ s.columns.length) ∧ (colIdx name s.columns 0 = colIdx name (s.columns.drop k.toNat) k) at hJ
  obtain ⟨hk, hi⟩ := hJ
  show PV _ Try.prog _ ⟨(.sF 4 (s.columns.map Col.cells) :: .fn (.func 66) [] [po 1] :: A4 (A :: iv (s.columns.length : Int) :: iv k :: A9 ([A]))), [.live ⟨2, [(Schema.cells s)], 33⟩, .live ⟨1, [[sv name]], 9⟩]⟩ _
  refine PV.seq_k fun K8 hK8 => ?_
  refine PV.regionN ?_
  refine PON.runs 1 (by kernel_rfl) ?_
  refine PON.fin rfl (thenA_normal (hK8 _ ?_))
  refine PV.seq_k fun K9 hK9 => ?_
  refine PV.condP (k < (s.columns.length : Int)) (decide (k < (s.columns.length : Int))) (by kernel_rfl) decide_eq_true decide_eq_false (fun h10 => ?_) (fun h10 => ?_)
  · skip
    refine PV.skip (thenA_normal (hK9 _ ?_))
    refine PV.seq_k fun K11 hK11 => ?_
    refine PV.block ?_
    refine PV.seq_k fun K12 hK12 => ?_
    refine PV.regionN ?_
    refine PON.runs 2 (by kernel_rfl) ?_
    refine PON.fin rfl (thenA_normal (hK12 _ ?_))
    refine PV.seq_k fun K13 hK13 => ?_
    refine PV.regionN ?_
    refine PON.runs 3 (by kernel_rfl) ?_
    refine PON.ops (aIndexAddr_map Try.prog [.live ⟨2, [(Schema.cells s)], 33⟩, .live ⟨1, [[sv name]], 9⟩] 31 47 4 Col.cells (by kernel_rfl) (by kernel_rfl) s.columns .i64 k (by first | omega | (have := size_pos_of_ne (by assumption); omega))) (by kernel_rfl) (by kernel_rfl) ?_
    refine PON.runs 1 (by kernel_rfl) ?_
    refine PON.norm ⟨[.sF 4 (s.columns.map Col.cells), .fn (.func 66) [] [po 1], A, A, A, iv k, A, iv (s.columns.length : Int), iv k, bv (decide (k < (s.columns.length : Int))), iv k, .fn (.func 66) [] [po 1], .sF 4 (s.columns.map Col.cells), iv k, .pF (Col.cells (s.columns[k.toNat]!)) 0, .agg (Col.cells (s.columns[k.toNat]!)), A, A, A], [.live ⟨2, [(Schema.cells s)], 33⟩, .live ⟨1, [[sv name]], 9⟩]⟩ (by kernel_rfl) ?_
    refine PON.callR (f := 66) (args := [.agg (Col.cells (s.columns[k.toNat]!)), po 1]) (d := some 16) (R := _) (by kernel_rfl) ?_ (fun x h' hx => hx)
    refine PC.of_bodyV Try.func66 rfl [.agg (Col.cells (s.columns[k.toNat]!)), po 1, U, U, U, U, U, U] (by kernel_rfl) (fun K15 hret14 => ?_)
    refine PV.seq_k fun K16 hK16 => ?_
    refine PV.regionN ?_
    refine PON.runs 2 (by kernel_rfl) ?_
    refine PON.fin rfl (thenA_normal (hK16 _ ?_))
    refine PV.seq_k fun K17 hK17 => ?_
    refine PV.regionN ?_
    refine PON.runs 5 (by kernel_rfl) ?_
    refine PON.fin rfl (thenA_normal (hK17 _ ?_))
    refine PV.norm ⟨[.agg (Col.cells (s.columns[k.toNat]!)), po 1, po 2, bv (strEq ((s.columns[k.toNat]!).name) name), po 2, sv ((s.columns[k.toNat]!).name), sv name, bv (strEq ((s.columns[k.toNat]!).name) name)], [.live ⟨2, [(Schema.cells s)], 33⟩, .live ⟨1, [[sv name]], 9⟩, .live ⟨4, [(Col.cells (s.columns[k.toNat]!))], 47⟩]⟩ (by kernel_rfl) ?_
    refine PV.ret (hret14 .ret _ (bv (strEq ((s.columns[k.toNat]!).name) name)) (.inr rfl) (by kernel_rfl) ?_)
    refine PON.norm ⟨[.sF 4 (s.columns.map Col.cells), .fn (.func 66) [] [po 1], A, A, A, iv k, A, iv (s.columns.length : Int), iv k, bv (decide (k < (s.columns.length : Int))), iv k, .fn (.func 66) [] [po 1], .sF 4 (s.columns.map Col.cells), iv k, .pF (Col.cells (s.columns[k.toNat]!)) 0, .agg (Col.cells (s.columns[k.toNat]!)), bv (strEq ((s.columns[k.toNat]!).name) name), A, A], [.live ⟨2, [(Schema.cells s)], 33⟩, .live ⟨1, [[sv name]], 9⟩, .live ⟨4, [(Col.cells (s.columns[k.toNat]!))], 47⟩]⟩ (by kernel_rfl) ?_
    refine PON.fin rfl (thenA_normal (hK13 _ ?_))
    refine PV.condP (((s.columns[k.toNat]!).name) = name) (strEq ((s.columns[k.toNat]!).name) name) (by kernel_rfl) str_tt str_ff (fun h18 => ?_) (fun h18 => ?_)
    · skip
      refine PV.seq_k fun K19 hK19 => ?_
      refine PV.regionN ?_
      refine PON.runs 2 (by kernel_rfl) ?_
      refine PON.fin rfl (thenA_normal (hK19 _ ?_))
      refine PV.norm ⟨[.sF 4 (s.columns.map Col.cells), .fn (.func 66) [] [po 1], A, A, iv k, iv k, A, iv (s.columns.length : Int), iv k, bv (decide (k < (s.columns.length : Int))), iv k, .fn (.func 66) [] [po 1], .sF 4 (s.columns.map Col.cells), iv k, .pF (Col.cells (s.columns[k.toNat]!)) 0, .agg (Col.cells (s.columns[k.toNat]!)), bv (strEq ((s.columns[k.toNat]!).name) name), iv k, A], [.live ⟨2, [(Schema.cells s)], 33⟩, .live ⟨1, [[sv name]], 9⟩, .live ⟨4, [(Col.cells (s.columns[k.toNat]!))], 47⟩]⟩ (by kernel_rfl) ?_
      refine PV.ret (inBlockA_ret (thenA_ret (thenA_ret (inBlockA_ret (thenA_ret (hret3 .ret _ (iv k) (.inr rfl) (by kernel_rfl) ?_))))))
      refine PON.norm ⟨[.agg (Schema.cells s), sv name, po 0, po 1, iv 0, po 0, .sF 4 (s.columns.map Col.cells), .fn (.func 66) [] [po 1], iv k], [.live ⟨2, [(Schema.cells s)], 33⟩, .live ⟨1, [[sv name]], 9⟩, .live ⟨4, [(Col.cells (s.columns[k.toNat]!))], 47⟩]⟩ (by kernel_rfl) ?_
      refine PON.runs 1 (by kernel_rfl) ?_
      refine PON.fin rfl (thenA_normal (hK2 _ ?_))
      refine PV.norm ⟨[.agg (Schema.cells s), sv name, po 0, po 1, iv k, po 0, .sF 4 (s.columns.map Col.cells), .fn (.func 66) [] [po 1], iv k], [.live ⟨2, [(Schema.cells s)], 33⟩, .live ⟨1, [[sv name]], 9⟩, .live ⟨4, [(Col.cells (s.columns[k.toNat]!))], 47⟩]⟩ (by kernel_rfl) ?_
      refine PV.ret (hret .ret _ (iv k) (.inr rfl) (by kernel_rfl) ?_)
      clear hret hK1 hK2 hret3 hK5 hK6 hK7 hK8 hK9 hK11 hK12 hK13 hret14 hK16 hK17 hK19 K0 K1 K2 K4 K5 K6 K7 K8 K9 K11 K12 K13 K15 K16 K17 K19
      show Tof noTau [.live ⟨2, [(Schema.cells s)], 33⟩, .live ⟨1, [[sv name]], 9⟩, .live ⟨4, [(Col.cells (s.columns[k.toNat]!))], 47⟩] (iv k) (iv (colIdx name s.columns 0))
      -- leaf 1
      refine Tof.int ?_
      first | (rw [hi, drop_step _ _ (by omega)]; simp only [colIdx, idxFrom]; grind [strEq_dec]) | (rw [hi, drop_end _ _ (by omega)]; rfl)
    refine PV.skip (inBlockA_normal (thenA_normal (hK11 _ ?_)))
    refine PV.regionN ?_
    refine PON.ops (aBin_add_in Try.prog [.live ⟨2, [(Schema.cells s)], 33⟩, .live ⟨1, [[sv name]], 9⟩, .live ⟨4, [(Col.cells (s.columns[k.toNat]!))], 47⟩] 3 (.tmp 8) (.const (.int .i64 1)) .i64 k 1 (by rw [wrap64] <;> omega)) (by kernel_rfl) (by kernel_rfl) ?_
    refine PON.runs 1 (by kernel_rfl) ?_
    refine PON.norm ⟨[.sF 4 (s.columns.map Col.cells), .fn (.func 66) [] [po 1], A, A, A, iv k, A, iv (s.columns.length : Int), iv (k + 1), bv (decide (k < (s.columns.length : Int))), iv k, .fn (.func 66) [] [po 1], .sF 4 (s.columns.map Col.cells), iv k, .pF (Col.cells (s.columns[k.toNat]!)) 0, .agg (Col.cells (s.columns[k.toNat]!)), bv (strEq ((s.columns[k.toNat]!).name) name), A, iv (k + 1)], [.live ⟨2, [(Schema.cells s)], 33⟩, .live ⟨1, [[sv name]], 9⟩, .live ⟨4, [(Col.cells (s.columns[k.toNat]!))], 47⟩]⟩ (by kernel_rfl) ?_
    refine PON.fin rfl (thenA_normal ?_)
    refine ⟨[0, 1], (k + 1), ⟨rfl, rfl, (.cons (.tree (by simp only [NIs_cons, NIs_nil, NIr_cons, NIr_nil, NI_v, NI_any, NI_pO, NI_sO, NI_pF, NI_sF, NI_agg, NI_tup, NI_fn, NIh_nil, NIh_live, NIh_dead, NIh_free, NIr_map, NIr_append, NIs_icells, NIs_scells, NIs_bcells, NIs_Val, NIs_Col, NIs_Schema, NIs_PNode, NIs_Src, NIr_Val, NIr_Col, NIr_ints, NIr_PNode]; try simp)) (.cons (.fn .nil (.cons (.pO _ _ rfl) .nil)) (.a4 (.any (.v (.v (.a9 (.any .nil)))))))), (.cons rfl (.tree (by simp only [NIs_cons, NIs_nil, NIr_cons, NIr_nil, NI_v, NI_any, NI_pO, NI_sO, NI_pF, NI_sF, NI_agg, NI_tup, NI_fn, NIh_nil, NIh_live, NIh_dead, NIh_free, NIr_map, NIr_append, NIs_icells, NIs_scells, NIs_bcells, NIs_Val, NIs_Col, NIs_Schema, NIs_PNode, NIs_Src, NIr_Val, NIr_Col, NIr_ints, NIr_PNode]; try simp)) (.cons rfl (.tree (by simp only [NIs_cons, NIs_nil, NIr_cons, NIr_nil, NI_v, NI_any, NI_pO, NI_sO, NI_pF, NI_sF, NI_agg, NI_tup, NI_fn, NIh_nil, NIh_live, NIh_dead, NIh_free, NIr_map, NIr_append, NIs_icells, NIs_scells, NIs_bcells, NIs_Val, NIs_Col, NIs_Schema, NIs_PNode, NIs_Src, NIr_Val, NIr_Col, NIr_ints, NIr_PNode]; try simp)) .nil))⟩, ?_, ?_⟩
    · skip
      clear hret hK1 hK2 hret3 hK5 hK6 hK7 hK8 hK9 hK11 hK12 hK13 hret14 hK16 hK17 K0 K1 K2 K4 K5 K6 K7 K8 K9 K11 K12 K13 K15 K16 K17
      refine ⟨?_, ?_⟩
      · skip
        show 0 ≤ (k + 1) ∧ (k + 1) ≤ s.columns.length
        omega
      · skip
        show colIdx name s.columns 0 = colIdx name (s.columns.drop (k + 1).toNat) (k + 1)
        rw [drop_step _ _ (by omega)] at hi
        simp only [colIdx, idxFrom] at hi ⊢
        rw [hi]
        grind [strEq_dec]
    · skip
      clear hret hK1 hK2 hret3 hK5 hK6 hK7 hK8 hK9 hK11 hK12 hK13 hret14 hK16 hK17 K0 K1 K2 K4 K5 K6 K7 K8 K9 K11 K12 K13 K15 K16 K17
      show ((s.columns.length : Int) - (k + 1)).toNat < ((s.columns.length : Int) - k).toNat
      omega
  refine PV.exit (thenA_exit (thenA_exit (inBlockA_hit (thenA_normal (hK6 _ ?_)))))
  refine PV.seq_k fun K20 hK20 => ?_
  refine PV.regionN ?_
  refine PON.runs 1 (by kernel_rfl) ?_
  refine PON.fin rfl (thenA_normal (hK20 _ ?_))
  refine PV.norm ⟨(.sF 4 (s.columns.map Col.cells) :: .fn (.func 66) [] [po 1] :: A :: A :: iv (-1) :: A :: A :: iv (s.columns.length : Int) :: iv k :: bv (decide (k < (s.columns.length : Int))) :: A9 ([])), [.live ⟨2, [(Schema.cells s)], 33⟩, .live ⟨1, [[sv name]], 9⟩]⟩ (by kernel_rfl) ?_
  refine PV.ret (hret3 .ret _ (iv (-1)) (.inr rfl) (by kernel_rfl) ?_)
  refine PON.norm ⟨[.agg (Schema.cells s), sv name, po 0, po 1, iv 0, po 0, .sF 4 (s.columns.map Col.cells), .fn (.func 66) [] [po 1], iv (-1)], [.live ⟨2, [(Schema.cells s)], 33⟩, .live ⟨1, [[sv name]], 9⟩]⟩ (by kernel_rfl) ?_
  refine PON.runs 1 (by kernel_rfl) ?_
  refine PON.fin rfl (thenA_normal (hK2 _ ?_))
  refine PV.norm ⟨[.agg (Schema.cells s), sv name, po 0, po 1, iv (-1), po 0, .sF 4 (s.columns.map Col.cells), .fn (.func 66) [] [po 1], iv (-1)], [.live ⟨2, [(Schema.cells s)], 33⟩, .live ⟨1, [[sv name]], 9⟩]⟩ (by kernel_rfl) ?_
  refine PV.ret (hret .ret _ (iv (-1)) (.inr rfl) (by kernel_rfl) ?_)
  clear hret hK1 hK2 hret3 hK5 hK6 hK7 hK8 hK9 hK20 K0 K1 K2 K4 K5 K6 K7 K8 K9 K20
  show Tof noTau [.live ⟨2, [(Schema.cells s)], 33⟩, .live ⟨1, [[sv name]], 9⟩] (iv (-1)) (iv (colIdx name s.columns 0))
  -- leaf 2
  refine Tof.int ?_
  first | (rw [hi, drop_step _ _ (by omega)]; simp only [colIdx, idxFrom]; grind [strEq_dec]) | (rw [hi, drop_end _ _ (by omega)]; rfl)
theorem find_ok (s : Schema) (name : ByteArray) (hl : s.columns.length ≤ maxLen) : PCX Try.prog 49 [.agg (Schema.cells s), sv name] [] [] (iv (colIdx name s.columns 0)) :=
  PCX.frame (by simp only [NIs_cons, NIs_nil, NIr_cons, NIr_nil, NI_v, NI_any, NI_pO, NI_sO, NI_pF, NI_sF, NI_agg, NI_tup, NI_fn, NIh_nil, NIh_live, NIh_dead, NIh_free, NIr_map, NIr_append, NIs_icells, NIs_scells, NIs_bcells, NIs_Val, NIs_Col, NIs_Schema, NIs_PNode, NIs_Src, NIr_Val, NIr_Col, NIr_ints, NIr_PNode]; try simp) (find_ok_walk s name hl)

set_option maxHeartbeats 4000000 in
theorem schema_ok_walk (s : Schema) : PC Try.prog 29 [.agg (Schema.cells s)] [] (fun yR kR => Tof noTau kR yR (iv (schemaErr s))) := by
  refine PC.of_bodyV Try.func29 rfl (.agg (Schema.cells s) :: U9 (U9 (U9 (U9 (U9 (U9 (U9 (U9 ([U, U]))))))))) (by kernel_rfl) (fun K0 hret => ?_)
  refine PV.seq_k fun K1 hK1 => ?_
  refine PV.regionN ?_
  refine PON.runs 2 (by kernel_rfl) ?_
  refine PON.fin rfl (thenA_normal (hK1 _ ?_))
  refine PV.seq_k fun K2 hK2 => ?_
  refine PV.block ?_
  refine PV.seq_k fun K3 hK3 => ?_
  refine PV.regionN ?_
  refine PON.runs 2 (by kernel_rfl) ?_
  refine PON.ops (aLen_map Try.prog [.live ⟨2, [(Schema.cells s)], 33⟩] 31 47 (by kernel_rfl) 4 Col.cells s.columns) (by kernel_rfl) (by kernel_rfl) ?_
  refine PON.runs 2 (by kernel_rfl) ?_
  refine PON.fin rfl (thenA_normal (hK3 _ ?_))
  refine PV.condP ((s.columns.length : Int) = 0) (decide ((s.columns.length : Int) = 0)) (by kernel_rfl) decide_eq_true decide_eq_false (fun h4 => ?_) (fun h4 => ?_)
  · skip
    refine PV.seq_k fun K5 hK5 => ?_
    refine PV.regionN ?_
    refine PON.runs 1 (by kernel_rfl) ?_
    refine PON.fin rfl (thenA_normal (hK5 _ ?_))
    refine PV.norm ⟨(.agg (Schema.cells s) :: po 0 :: iv 1 :: U :: U :: bv (decide ((s.columns.length : Int) = 0)) :: po 0 :: .sF 4 (s.columns.map Col.cells) :: iv (s.columns.length : Int) :: bv (decide ((s.columns.length : Int) = 0)) :: U9 (U9 (U9 (U9 (U9 (U9 (U9 ([U, U])))))))), [.live ⟨2, [(Schema.cells s)], 33⟩]⟩ (by kernel_rfl) ?_
    refine PV.ret (inBlockA_ret (thenA_ret (hret .ret _ (iv 1) (.inr rfl) (by kernel_rfl) ?_)))
    clear hret hK1 hK2 hK3 hK5 K0 K1 K2 K3 K5
    show Tof noTau [.live ⟨2, [(Schema.cells s)], 33⟩] (iv 1) (iv (schemaErr s))
    -- leaf 1
    refine Tof.int ?_
    first | grind [schemaErr] | (have e : errFrom (colErr s.columns) 0 s.columns = colErr s.columns k s.columns[k.toNat]! := (by rw [hi, drop_step _ _ (by omega), errFrom]; grind [colErr, vKnown, okScale]); grind [schemaErr, colErr, vKnown, okScale]) | (rw [drop_end _ _ (by omega)] at hi; grind [schemaErr, errFrom])
  refine PV.seq_k fun K6 hK6 => ?_
  refine PV.regionN ?_
  refine PON.runs 2 (by kernel_rfl) ?_
  refine PON.ops (aLen_map Try.prog [.live ⟨2, [(Schema.cells s)], 33⟩] 31 47 (by kernel_rfl) 4 Col.cells s.columns) (by kernel_rfl) (by kernel_rfl) ?_
  refine PON.runs 2 (by kernel_rfl) ?_
  refine PON.fin rfl (thenA_normal (hK6 _ ?_))
  refine PV.condP ((s.columns.length : Int) > 12) (decide ((s.columns.length : Int) > 12)) (by kernel_rfl) decide_eq_true decide_eq_false (fun h7 => ?_) (fun h7 => ?_)
  · skip
    refine PV.seq_k fun K8 hK8 => ?_
    refine PV.regionN ?_
    refine PON.runs 1 (by kernel_rfl) ?_
    refine PON.fin rfl (thenA_normal (hK8 _ ?_))
    refine PV.norm ⟨(.agg (Schema.cells s) :: po 0 :: iv 7 :: U :: U :: bv (decide ((s.columns.length : Int) = 0)) :: po 0 :: .sF 4 (s.columns.map Col.cells) :: iv (s.columns.length : Int) :: bv (decide ((s.columns.length : Int) = 0)) :: bv (decide ((s.columns.length : Int) > 12)) :: po 0 :: .sF 4 (s.columns.map Col.cells) :: iv (s.columns.length : Int) :: bv (decide ((s.columns.length : Int) > 12)) :: U9 (U9 (U9 (U9 (U9 (U9 ([U, U, U, U, U, U]))))))), [.live ⟨2, [(Schema.cells s)], 33⟩]⟩ (by kernel_rfl) ?_
    refine PV.ret (inBlockA_ret (thenA_ret (hret .ret _ (iv 7) (.inr rfl) (by kernel_rfl) ?_)))
    clear hret hK1 hK2 hK3 hK6 hK8 K0 K1 K2 K3 K6 K8
    show Tof noTau [.live ⟨2, [(Schema.cells s)], 33⟩] (iv 7) (iv (schemaErr s))
    -- leaf 2
    refine Tof.int ?_
    first | grind [schemaErr] | (have e : errFrom (colErr s.columns) 0 s.columns = colErr s.columns k s.columns[k.toNat]! := (by rw [hi, drop_step _ _ (by omega), errFrom]; grind [colErr, vKnown, okScale]); grind [schemaErr, colErr, vKnown, okScale]) | (rw [drop_end _ _ (by omega)] at hi; grind [schemaErr, errFrom])
  refine PV.skip (inBlockA_normal (thenA_normal (hK2 _ ?_)))
  refine PV.seq_k fun K9 hK9 => ?_
  refine PV.seq_k fun K10 hK10 => ?_
  refine PV.regionN ?_
  refine PON.runs 2 (by kernel_rfl) ?_
  refine PON.ops (aLen_map Try.prog [.live ⟨2, [(Schema.cells s)], 33⟩] 31 47 (by kernel_rfl) 4 Col.cells s.columns) (by kernel_rfl) (by kernel_rfl) ?_
  refine PON.runs 1 (by kernel_rfl) ?_
  refine PON.fin rfl (thenA_normal (hK10 _ ?_))
  refine PV.block ?_
  refine PV.norm ⟨(.agg (Schema.cells s) :: po 0 :: iv 0 :: U :: U :: bv (decide ((s.columns.length : Int) = 0)) :: po 0 :: .sF 4 (s.columns.map Col.cells) :: iv (s.columns.length : Int) :: bv (decide ((s.columns.length : Int) = 0)) :: bv (decide ((s.columns.length : Int) > 12)) :: po 0 :: .sF 4 (s.columns.map Col.cells) :: iv (s.columns.length : Int) :: bv (decide ((s.columns.length : Int) > 12)) :: po 0 :: .sF 4 (s.columns.map Col.cells) :: iv (s.columns.length : Int) :: iv 0 :: U9 (U9 (U9 (U9 (U9 (U9 ([U, U]))))))), [.live ⟨2, [(Schema.cells s)], 33⟩]⟩ (by kernel_rfl) ?_
  refine PV.loopR (α := Int) (fun xL => let k := xL; (⟨(A :: po 0 :: A9 (A4 (A :: .sF 4 (s.columns.map Col.cells) :: iv (s.columns.length : Int) :: iv k :: A9 (A9 (A9 (A9 (A9 (A9 ([A, A]))))))))), [.live ⟨2, [(Schema.cells s)], 33⟩]⟩ : St)) (fun xL => let k := xL; (0 ≤ k ∧ k ≤ s.columns.length) ∧ (errFrom (colErr s.columns) 0 s.columns = errFrom (colErr s.columns) k (s.columns.drop k.toNat))) (fun xL => let k := xL; ((s.columns.length : Int) - k).toNat) [0] (0 : Int) ⟨rfl, rfl, (.any (.cons (.pO _ _ rfl) (.a9 (.a4 (.any (.cons (.tree (by simp only [NIs_cons, NIs_nil, NIr_cons, NIr_nil, NI_v, NI_any, NI_pO, NI_sO, NI_pF, NI_sF, NI_agg, NI_tup, NI_fn, NIh_nil, NIh_live, NIh_dead, NIh_free, NIr_map, NIr_append, NIs_icells, NIs_scells, NIs_bcells, NIs_Val, NIs_Col, NIs_Schema, NIs_PNode, NIs_Src, NIr_Val, NIr_Col, NIr_ints, NIr_PNode]; try simp)) (.v (.v (.a9 (.a9 (.a9 (.a9 (.a9 (.a9 (.any (.any .nil)))))))))))))))), (.cons rfl (.tree (by simp only [NIs_cons, NIs_nil, NIr_cons, NIr_nil, NI_v, NI_any, NI_pO, NI_sO, NI_pF, NI_sF, NI_agg, NI_tup, NI_fn, NIh_nil, NIh_live, NIh_dead, NIh_free, NIr_map, NIr_append, NIs_icells, NIs_scells, NIs_bcells, NIs_Val, NIs_Col, NIs_Schema, NIs_PNode, NIs_Src, NIr_Val, NIr_Col, NIr_ints, NIr_PNode]; try simp)) .nil)⟩ ?_ ?_
  · skip
    clear hret hK1 hK2 hK3 hK6 hK9 hK10 K0 K1 K2 K3 K6 K9 K10
    refine ⟨?_, ?_⟩
    · skip
      show 0 ≤ (0 : Int) ∧ (0 : Int) ≤ s.columns.length
      simp
    · skip
      show errFrom (colErr s.columns) 0 s.columns = errFrom (colErr s.columns) (0 : Int) (s.columns.drop (0 : Int).toNat)
      simp
  rintro k hJ
  change (0 ≤ k ∧ k ≤ s.columns.length) ∧ (errFrom (colErr s.columns) 0 s.columns = errFrom (colErr s.columns) k (s.columns.drop k.toNat)) at hJ
  obtain ⟨hk, hi⟩ := hJ
  show PV _ Try.prog _ ⟨(A :: po 0 :: A9 (A4 (A :: .sF 4 (s.columns.map Col.cells) :: iv (s.columns.length : Int) :: iv k :: A9 (A9 (A9 (A9 (A9 (A9 ([A, A]))))))))), [.live ⟨2, [(Schema.cells s)], 33⟩]⟩ _
  refine PV.seq_k fun K11 hK11 => ?_
  refine PV.regionN ?_
  refine PON.runs 1 (by kernel_rfl) ?_
  refine PON.fin rfl (thenA_normal (hK11 _ ?_))
  refine PV.seq_k fun K12 hK12 => ?_
  refine PV.condP (k < (s.columns.length : Int)) (decide (k < (s.columns.length : Int))) (by kernel_rfl) decide_eq_true decide_eq_false (fun h13 => ?_) (fun h13 => ?_)
  · skip
    refine PV.skip (thenA_normal (hK12 _ ?_))
    refine PV.seq_k fun K14 hK14 => ?_
    refine PV.block ?_
    refine PV.seq_k fun K15 hK15 => ?_
    refine PV.regionN ?_
    refine PON.runs 1 (by kernel_rfl) ?_
    refine PON.ops (aIndexAddr_map Try.prog [.live ⟨2, [(Schema.cells s)], 33⟩] 31 47 4 Col.cells (by kernel_rfl) (by kernel_rfl) s.columns .i64 k (by first | omega | (have := size_pos_of_ne (by assumption); omega))) (by kernel_rfl) (by kernel_rfl) ?_
    refine PON.runs 4 (by kernel_rfl) ?_
    refine PON.fin rfl (thenA_normal (hK15 _ ?_))
    refine PV.block ?_
    refine PV.seq_k fun K16 hK16 => ?_
    refine PV.regionN ?_
    refine PON.runs 2 (by kernel_rfl) ?_
    refine PON.call 48 [sv ((s.columns[k.toNat]!).name)] (some 26) (pre := []) (post := []) (x := bv (okName ((s.columns[k.toNat]!).name))) _ (by kernel_rfl) (name_ok ((s.columns[k.toNat]!).name)) trivial rfl ?_
    refine PON.runs 2 (by kernel_rfl) ?_
    refine PON.fin rfl (thenA_normal (hK16 _ ?_))
    refine PV.condN ((okName ((s.columns[k.toNat]!).name)) = true) (!(okName ((s.columns[k.toNat]!).name))) (by kernel_rfl) (fun h => bnot_t ((fun h => h) h)) (fun h => bnot_f (bool_ff h)) (fun h17 => ?_) (fun h17 => ?_)
    · skip
      refine PV.seq_k fun K18 hK18 => ?_
      refine PV.regionN ?_
      refine PON.runs 1 (by kernel_rfl) ?_
      refine PON.fin rfl (thenA_normal (hK18 _ ?_))
      refine PV.norm ⟨(A :: po 0 :: iv 3 :: iv k :: po 1 :: A9 (A :: A :: .sF 4 (s.columns.map Col.cells) :: iv (s.columns.length : Int) :: iv k :: bv (decide (k < (s.columns.length : Int))) :: iv k :: .pF (Col.cells (s.columns[k.toNat]!)) 0 :: .agg (Col.cells (s.columns[k.toNat]!)) :: bv (!(okName ((s.columns[k.toNat]!).name))) :: po 1 :: sv ((s.columns[k.toNat]!).name) :: bv (okName ((s.columns[k.toNat]!).name)) :: bv (!(okName ((s.columns[k.toNat]!).name))) :: A9 (A9 (A9 (A9 (A9 ([A, A]))))))), [.live ⟨2, [(Schema.cells s)], 33⟩, .live ⟨4, [(Col.cells (s.columns[k.toNat]!))], 47⟩]⟩ (by kernel_rfl) ?_
      refine PV.ret (inBlockA_ret (inBlockA_ret (thenA_ret (thenA_ret (inBlockA_ret (thenA_ret (hret .ret _ (iv 3) (.inr rfl) (by kernel_rfl) ?_)))))))
      clear hret hK1 hK2 hK3 hK6 hK9 hK10 hK11 hK12 hK14 hK15 hK16 hK18 K0 K1 K2 K3 K6 K9 K10 K11 K12 K14 K15 K16 K18
      show Tof noTau [.live ⟨2, [(Schema.cells s)], 33⟩, .live ⟨4, [(Col.cells (s.columns[k.toNat]!))], 47⟩] (iv 3) (iv (schemaErr s))
      -- leaf 3
      refine Tof.int ?_
      first | grind [schemaErr] | (have e : errFrom (colErr s.columns) 0 s.columns = colErr s.columns k s.columns[k.toNat]! := (by rw [hi, drop_step _ _ (by omega), errFrom]; grind [colErr, vKnown, okScale]); grind [schemaErr, colErr, vKnown, okScale]) | (rw [drop_end _ _ (by omega)] at hi; grind [schemaErr, errFrom])
    refine PV.seq_k fun K19 hK19 => ?_
    refine PV.regionN ?_
    refine PON.runs 3 (by kernel_rfl) ?_
    refine PON.call 49 [.agg (Schema.cells s), sv ((s.columns[k.toNat]!).name)] (some 32) (pre := []) (post := []) (x := iv (colIdx ((s.columns[k.toNat]!).name) s.columns 0)) _ (by kernel_rfl) (find_ok s ((s.columns[k.toNat]!).name) (by unfold maxLen; omega)) trivial rfl ?_
    refine PON.runs 3 (by kernel_rfl) ?_
    refine PON.fin rfl (thenA_normal (hK19 _ ?_))
    refine PV.condP ((colIdx ((s.columns[k.toNat]!).name) s.columns 0) < k) (decide ((colIdx ((s.columns[k.toNat]!).name) s.columns 0) < k)) (by kernel_rfl) decide_eq_true decide_eq_false (fun h20 => ?_) (fun h20 => ?_)
    · skip
      refine PV.seq_k fun K21 hK21 => ?_
      refine PV.regionN ?_
      refine PON.runs 1 (by kernel_rfl) ?_
      refine PON.fin rfl (thenA_normal (hK21 _ ?_))
      refine PV.norm ⟨(A :: po 0 :: iv 5 :: iv k :: po 1 :: A9 (A :: A :: .sF 4 (s.columns.map Col.cells) :: iv (s.columns.length : Int) :: iv k :: bv (decide (k < (s.columns.length : Int))) :: iv k :: .pF (Col.cells (s.columns[k.toNat]!)) 0 :: .agg (Col.cells (s.columns[k.toNat]!)) :: bv (!(okName ((s.columns[k.toNat]!).name))) :: po 1 :: sv ((s.columns[k.toNat]!).name) :: bv (okName ((s.columns[k.toNat]!).name)) :: bv (!(okName ((s.columns[k.toNat]!).name))) :: bv (decide ((colIdx ((s.columns[k.toNat]!).name) s.columns 0) < k)) :: .agg (Schema.cells s) :: po 1 :: sv ((s.columns[k.toNat]!).name) :: iv (colIdx ((s.columns[k.toNat]!).name) s.columns 0) :: iv k :: bv (decide ((colIdx ((s.columns[k.toNat]!).name) s.columns 0) < k)) :: A9 (A9 (A9 (A9 (A4 ([]))))))), [.live ⟨2, [(Schema.cells s)], 33⟩, .live ⟨4, [(Col.cells (s.columns[k.toNat]!))], 47⟩]⟩ (by kernel_rfl) ?_
      refine PV.ret (inBlockA_ret (inBlockA_ret (thenA_ret (thenA_ret (inBlockA_ret (thenA_ret (hret .ret _ (iv 5) (.inr rfl) (by kernel_rfl) ?_)))))))
      clear hret hK1 hK2 hK3 hK6 hK9 hK10 hK11 hK12 hK14 hK15 hK16 hK19 hK21 K0 K1 K2 K3 K6 K9 K10 K11 K12 K14 K15 K16 K19 K21
      show Tof noTau [.live ⟨2, [(Schema.cells s)], 33⟩, .live ⟨4, [(Col.cells (s.columns[k.toNat]!))], 47⟩] (iv 5) (iv (schemaErr s))
      -- leaf 4
      refine Tof.int ?_
      first | grind [schemaErr] | (have e : errFrom (colErr s.columns) 0 s.columns = colErr s.columns k s.columns[k.toNat]! := (by rw [hi, drop_step _ _ (by omega), errFrom]; grind [colErr, vKnown, okScale]); grind [schemaErr, colErr, vKnown, okScale]) | (rw [drop_end _ _ (by omega)] at hi; grind [schemaErr, errFrom])
    refine PV.norm ⟨(A :: po 0 :: A :: iv k :: po 1 :: A9 (A :: A :: .sF 4 (s.columns.map Col.cells) :: iv (s.columns.length : Int) :: iv k :: bv (decide (k < (s.columns.length : Int))) :: iv k :: .pF (Col.cells (s.columns[k.toNat]!)) 0 :: .agg (Col.cells (s.columns[k.toNat]!)) :: bv (!(okName ((s.columns[k.toNat]!).name))) :: po 1 :: sv ((s.columns[k.toNat]!).name) :: bv (okName ((s.columns[k.toNat]!).name)) :: bv (!(okName ((s.columns[k.toNat]!).name))) :: bv (decide ((colIdx ((s.columns[k.toNat]!).name) s.columns 0) < k)) :: .agg (Schema.cells s) :: po 1 :: sv ((s.columns[k.toNat]!).name) :: iv (colIdx ((s.columns[k.toNat]!).name) s.columns 0) :: iv k :: bv (decide ((colIdx ((s.columns[k.toNat]!).name) s.columns 0) < k)) :: A9 (A9 (A9 (A9 (A4 ([]))))))), [.live ⟨2, [(Schema.cells s)], 33⟩, .live ⟨4, [(Col.cells (s.columns[k.toNat]!))], 47⟩]⟩ (by kernel_rfl) ?_
    refine PV.seqR [0, 1] ⟨(A :: po 0 :: A :: iv k :: po 1 :: A9 (A :: A :: .sF 4 (s.columns.map Col.cells) :: iv (s.columns.length : Int) :: iv k :: bv (decide (k < (s.columns.length : Int))) :: iv k :: .pF (Col.cells (s.columns[k.toNat]!)) 0 :: .agg (Col.cells (s.columns[k.toNat]!)) :: bv (!(okName ((s.columns[k.toNat]!).name))) :: po 1 :: sv ((s.columns[k.toNat]!).name) :: bv (okName ((s.columns[k.toNat]!).name)) :: bv (!(okName ((s.columns[k.toNat]!).name))) :: bv (decide ((colIdx ((s.columns[k.toNat]!).name) s.columns 0) < k)) :: .agg (Schema.cells s) :: po 1 :: sv ((s.columns[k.toNat]!).name) :: iv (colIdx ((s.columns[k.toNat]!).name) s.columns 0) :: iv k :: bv (decide ((colIdx ((s.columns[k.toNat]!).name) s.columns 0) < k)) :: bv (decide ((((s.columns[k.toNat]!).type) < 1) ∨ (((s.columns[k.toNat]!).type) > 5))) :: A9 (A9 (A9 (A9 ([A, A, A])))))), [.live ⟨2, [(Schema.cells s)], 33⟩, .live ⟨4, [(Col.cells (s.columns[k.toNat]!))], 47⟩]⟩ ?_ ?_
    · skip
      refine PV.regionN ?_
      refine PON.runs 4 (by kernel_rfl) ?_
      refine PON.norm ⟨(A :: po 0 :: A :: iv k :: po 1 :: A9 (A :: A :: .sF 4 (s.columns.map Col.cells) :: iv (s.columns.length : Int) :: iv k :: bv (decide (k < (s.columns.length : Int))) :: iv k :: .pF (Col.cells (s.columns[k.toNat]!)) 0 :: .agg (Col.cells (s.columns[k.toNat]!)) :: bv (!(okName ((s.columns[k.toNat]!).name))) :: po 1 :: sv ((s.columns[k.toNat]!).name) :: bv (okName ((s.columns[k.toNat]!).name)) :: bv (!(okName ((s.columns[k.toNat]!).name))) :: bv (decide ((colIdx ((s.columns[k.toNat]!).name) s.columns 0) < k)) :: .agg (Schema.cells s) :: po 1 :: sv ((s.columns[k.toNat]!).name) :: iv (colIdx ((s.columns[k.toNat]!).name) s.columns 0) :: iv k :: bv (decide ((colIdx ((s.columns[k.toNat]!).name) s.columns 0) < k)) :: A :: .pO 1 0 1 :: iv ((s.columns[k.toNat]!).type) :: bv (decide (((s.columns[k.toNat]!).type) < 1)) :: bv (decide (((s.columns[k.toNat]!).type) < 1)) :: A9 (A9 (A9 (A4 (A4 ([]))))))), [.live ⟨2, [(Schema.cells s)], 33⟩, .live ⟨4, [(Col.cells (s.columns[k.toNat]!))], 47⟩]⟩ (by kernel_rfl) ?_
      refine PON.splitP (((s.columns[k.toNat]!).type) < 1) 39 (decide (((s.columns[k.toNat]!).type) < 1)) (A :: po 0 :: A :: iv k :: po 1 :: A9 (A :: A :: .sF 4 (s.columns.map Col.cells) :: iv (s.columns.length : Int) :: iv k :: bv (decide (k < (s.columns.length : Int))) :: iv k :: .pF (Col.cells (s.columns[k.toNat]!)) 0 :: .agg (Col.cells (s.columns[k.toNat]!)) :: bv (!(okName ((s.columns[k.toNat]!).name))) :: po 1 :: sv ((s.columns[k.toNat]!).name) :: bv (okName ((s.columns[k.toNat]!).name)) :: bv (!(okName ((s.columns[k.toNat]!).name))) :: bv (decide ((colIdx ((s.columns[k.toNat]!).name) s.columns 0) < k)) :: .agg (Schema.cells s) :: po 1 :: sv ((s.columns[k.toNat]!).name) :: iv (colIdx ((s.columns[k.toNat]!).name) s.columns 0) :: iv k :: bv (decide ((colIdx ((s.columns[k.toNat]!).name) s.columns 0) < k)) :: A :: .pO 1 0 1 :: iv ((s.columns[k.toNat]!).type) :: bv (decide (((s.columns[k.toNat]!).type) < 1)) :: bv true :: A9 (A9 (A9 (A4 (A4 ([]))))))) (A :: po 0 :: A :: iv k :: po 1 :: A9 (A :: A :: .sF 4 (s.columns.map Col.cells) :: iv (s.columns.length : Int) :: iv k :: bv (decide (k < (s.columns.length : Int))) :: iv k :: .pF (Col.cells (s.columns[k.toNat]!)) 0 :: .agg (Col.cells (s.columns[k.toNat]!)) :: bv (!(okName ((s.columns[k.toNat]!).name))) :: po 1 :: sv ((s.columns[k.toNat]!).name) :: bv (okName ((s.columns[k.toNat]!).name)) :: bv (!(okName ((s.columns[k.toNat]!).name))) :: bv (decide ((colIdx ((s.columns[k.toNat]!).name) s.columns 0) < k)) :: .agg (Schema.cells s) :: po 1 :: sv ((s.columns[k.toNat]!).name) :: iv (colIdx ((s.columns[k.toNat]!).name) s.columns 0) :: iv k :: bv (decide ((colIdx ((s.columns[k.toNat]!).name) s.columns 0) < k)) :: A :: .pO 1 0 1 :: iv ((s.columns[k.toNat]!).type) :: bv (decide (((s.columns[k.toNat]!).type) < 1)) :: bv false :: A9 (A9 (A9 (A4 (A4 ([]))))))) (by kernel_rfl) decide_eq_true decide_eq_false (by kernel_rfl) (by kernel_rfl) (fun h22 => ?_) (fun h22 => ?_)
      · skip
        refine PON.runs 5 (by kernel_rfl) ?_
        refine PON.norm ⟨(A :: po 0 :: A :: iv k :: po 1 :: A9 (A :: A :: .sF 4 (s.columns.map Col.cells) :: iv (s.columns.length : Int) :: iv k :: bv (decide (k < (s.columns.length : Int))) :: iv k :: .pF (Col.cells (s.columns[k.toNat]!)) 0 :: .agg (Col.cells (s.columns[k.toNat]!)) :: bv (!(okName ((s.columns[k.toNat]!).name))) :: po 1 :: sv ((s.columns[k.toNat]!).name) :: bv (okName ((s.columns[k.toNat]!).name)) :: bv (!(okName ((s.columns[k.toNat]!).name))) :: bv (decide ((colIdx ((s.columns[k.toNat]!).name) s.columns 0) < k)) :: .agg (Schema.cells s) :: po 1 :: sv ((s.columns[k.toNat]!).name) :: iv (colIdx ((s.columns[k.toNat]!).name) s.columns 0) :: iv k :: bv (decide ((colIdx ((s.columns[k.toNat]!).name) s.columns 0) < k)) :: bv true :: .pO 1 0 1 :: iv ((s.columns[k.toNat]!).type) :: bv (decide (((s.columns[k.toNat]!).type) < 1)) :: bv true :: U :: U :: U :: bv true :: A9 (A9 (A9 (A4 ([])))))), [.live ⟨2, [(Schema.cells s)], 33⟩, .live ⟨4, [(Col.cells (s.columns[k.toNat]!))], 47⟩]⟩ (by kernel_rfl) ?_
        refine PON.fin rfl (thenA_normal ?_)
        exact ⟨rfl, rfl, (.any (.cons (.pO _ _ rfl) (.any (.v (.cons (.pO _ _ rfl) (.a9 (.any (.any (.cons (.tree (by simp only [NIs_cons, NIs_nil, NIr_cons, NIr_nil, NI_v, NI_any, NI_pO, NI_sO, NI_pF, NI_sF, NI_agg, NI_tup, NI_fn, NIh_nil, NIh_live, NIh_dead, NIh_free, NIr_map, NIr_append, NIs_icells, NIs_scells, NIs_bcells, NIs_Val, NIs_Col, NIs_Schema, NIs_PNode, NIs_Src, NIr_Val, NIr_Col, NIr_ints, NIr_PNode]; try simp)) (.v (.v (.v (.v (.cons (.tree (by simp only [NIs_cons, NIs_nil, NIr_cons, NIr_nil, NI_v, NI_any, NI_pO, NI_sO, NI_pF, NI_sF, NI_agg, NI_tup, NI_fn, NIh_nil, NIh_live, NIh_dead, NIh_free, NIr_map, NIr_append, NIs_icells, NIs_scells, NIs_bcells, NIs_Val, NIs_Col, NIs_Schema, NIs_PNode, NIs_Src, NIr_Val, NIr_Col, NIr_ints, NIr_PNode]; try simp)) (.cons (.tree (by simp only [NIs_cons, NIs_nil, NIr_cons, NIr_nil, NI_v, NI_any, NI_pO, NI_sO, NI_pF, NI_sF, NI_agg, NI_tup, NI_fn, NIh_nil, NIh_live, NIh_dead, NIh_free, NIr_map, NIr_append, NIs_icells, NIs_scells, NIs_bcells, NIs_Val, NIs_Col, NIs_Schema, NIs_PNode, NIs_Src, NIr_Val, NIr_Col, NIr_ints, NIr_PNode]; try simp)) (.v (.cons (.pO _ _ rfl) (.v (.v (.v (.v (.cons (.tree (by simp only [NIs_cons, NIs_nil, NIr_cons, NIr_nil, NI_v, NI_any, NI_pO, NI_sO, NI_pF, NI_sF, NI_agg, NI_tup, NI_fn, NIh_nil, NIh_live, NIh_dead, NIh_free, NIr_map, NIr_append, NIs_icells, NIs_scells, NIs_bcells, NIs_Val, NIs_Col, NIs_Schema, NIs_PNode, NIs_Src, NIr_Val, NIr_Col, NIr_ints, NIr_PNode]; try simp)) (.cons (.pO _ _ rfl) (.v (.v (.v (.v (.cons (.eq (.v _) (v_bool (by clear hret hK1 hK2 hK3 hK6 hK9 hK10 hK11 hK12 hK14 hK15 hK16 hK19 K0 K1 K2 K3 K6 K9 K10 K11 K12 K14 K15 K16 K19; (try simp only [strEq_dec]); grind))) (.a9 (.a9 (.a9 (.a9 (.any (.any (.any .nil))))))))))))))))))))))))))))))))))), (.cons rfl (.tree (by simp only [NIs_cons, NIs_nil, NIr_cons, NIr_nil, NI_v, NI_any, NI_pO, NI_sO, NI_pF, NI_sF, NI_agg, NI_tup, NI_fn, NIh_nil, NIh_live, NIh_dead, NIh_free, NIr_map, NIr_append, NIs_icells, NIs_scells, NIs_bcells, NIs_Val, NIs_Col, NIs_Schema, NIs_PNode, NIs_Src, NIr_Val, NIr_Col, NIr_ints, NIr_PNode]; try simp)) (.cons rfl (.tree (by simp only [NIs_cons, NIs_nil, NIr_cons, NIr_nil, NI_v, NI_any, NI_pO, NI_sO, NI_pF, NI_sF, NI_agg, NI_tup, NI_fn, NIh_nil, NIh_live, NIh_dead, NIh_free, NIr_map, NIr_append, NIs_icells, NIs_scells, NIs_bcells, NIs_Val, NIs_Col, NIs_Schema, NIs_PNode, NIs_Src, NIr_Val, NIr_Col, NIr_ints, NIr_PNode]; try simp)) .nil))⟩
      refine PON.runs 5 (by kernel_rfl) ?_
      refine PON.norm ⟨(A :: po 0 :: A :: iv k :: po 1 :: A9 (A :: A :: .sF 4 (s.columns.map Col.cells) :: iv (s.columns.length : Int) :: iv k :: bv (decide (k < (s.columns.length : Int))) :: iv k :: .pF (Col.cells (s.columns[k.toNat]!)) 0 :: .agg (Col.cells (s.columns[k.toNat]!)) :: bv (!(okName ((s.columns[k.toNat]!).name))) :: po 1 :: sv ((s.columns[k.toNat]!).name) :: bv (okName ((s.columns[k.toNat]!).name)) :: bv (!(okName ((s.columns[k.toNat]!).name))) :: bv (decide ((colIdx ((s.columns[k.toNat]!).name) s.columns 0) < k)) :: .agg (Schema.cells s) :: po 1 :: sv ((s.columns[k.toNat]!).name) :: iv (colIdx ((s.columns[k.toNat]!).name) s.columns 0) :: iv k :: bv (decide ((colIdx ((s.columns[k.toNat]!).name) s.columns 0) < k)) :: bv (decide (((s.columns[k.toNat]!).type) > 5)) :: .pO 1 0 1 :: iv ((s.columns[k.toNat]!).type) :: bv (decide (((s.columns[k.toNat]!).type) < 1)) :: bv false :: .pO 1 0 1 :: iv ((s.columns[k.toNat]!).type) :: bv (decide (((s.columns[k.toNat]!).type) > 5)) :: bv (decide (((s.columns[k.toNat]!).type) > 5)) :: A9 (A9 (A9 (A4 ([])))))), [.live ⟨2, [(Schema.cells s)], 33⟩, .live ⟨4, [(Col.cells (s.columns[k.toNat]!))], 47⟩]⟩ (by kernel_rfl) ?_
      refine PON.fin rfl (thenA_normal ?_)
      exact ⟨rfl, rfl, (.any (.cons (.pO _ _ rfl) (.any (.v (.cons (.pO _ _ rfl) (.a9 (.any (.any (.cons (.tree (by simp only [NIs_cons, NIs_nil, NIr_cons, NIr_nil, NI_v, NI_any, NI_pO, NI_sO, NI_pF, NI_sF, NI_agg, NI_tup, NI_fn, NIh_nil, NIh_live, NIh_dead, NIh_free, NIr_map, NIr_append, NIs_icells, NIs_scells, NIs_bcells, NIs_Val, NIs_Col, NIs_Schema, NIs_PNode, NIs_Src, NIr_Val, NIr_Col, NIr_ints, NIr_PNode]; try simp)) (.v (.v (.v (.v (.cons (.tree (by simp only [NIs_cons, NIs_nil, NIr_cons, NIr_nil, NI_v, NI_any, NI_pO, NI_sO, NI_pF, NI_sF, NI_agg, NI_tup, NI_fn, NIh_nil, NIh_live, NIh_dead, NIh_free, NIr_map, NIr_append, NIs_icells, NIs_scells, NIs_bcells, NIs_Val, NIs_Col, NIs_Schema, NIs_PNode, NIs_Src, NIr_Val, NIr_Col, NIr_ints, NIr_PNode]; try simp)) (.cons (.tree (by simp only [NIs_cons, NIs_nil, NIr_cons, NIr_nil, NI_v, NI_any, NI_pO, NI_sO, NI_pF, NI_sF, NI_agg, NI_tup, NI_fn, NIh_nil, NIh_live, NIh_dead, NIh_free, NIr_map, NIr_append, NIs_icells, NIs_scells, NIs_bcells, NIs_Val, NIs_Col, NIs_Schema, NIs_PNode, NIs_Src, NIr_Val, NIr_Col, NIr_ints, NIr_PNode]; try simp)) (.v (.cons (.pO _ _ rfl) (.v (.v (.v (.v (.cons (.tree (by simp only [NIs_cons, NIs_nil, NIr_cons, NIr_nil, NI_v, NI_any, NI_pO, NI_sO, NI_pF, NI_sF, NI_agg, NI_tup, NI_fn, NIh_nil, NIh_live, NIh_dead, NIh_free, NIr_map, NIr_append, NIs_icells, NIs_scells, NIs_bcells, NIs_Val, NIs_Col, NIs_Schema, NIs_PNode, NIs_Src, NIr_Val, NIr_Col, NIr_ints, NIr_PNode]; try simp)) (.cons (.pO _ _ rfl) (.v (.v (.v (.v (.cons (.eq (.v _) (v_bool (by clear hret hK1 hK2 hK3 hK6 hK9 hK10 hK11 hK12 hK14 hK15 hK16 hK19 K0 K1 K2 K3 K6 K9 K10 K11 K12 K14 K15 K16 K19; (try simp only [strEq_dec]); grind))) (.a9 (.a9 (.a9 (.a9 (.any (.any (.any .nil))))))))))))))))))))))))))))))))))), (.cons rfl (.tree (by simp only [NIs_cons, NIs_nil, NIr_cons, NIr_nil, NI_v, NI_any, NI_pO, NI_sO, NI_pF, NI_sF, NI_agg, NI_tup, NI_fn, NIh_nil, NIh_live, NIh_dead, NIh_free, NIr_map, NIr_append, NIs_icells, NIs_scells, NIs_bcells, NIs_Val, NIs_Col, NIs_Schema, NIs_PNode, NIs_Src, NIr_Val, NIr_Col, NIr_ints, NIr_PNode]; try simp)) (.cons rfl (.tree (by simp only [NIs_cons, NIs_nil, NIr_cons, NIr_nil, NI_v, NI_any, NI_pO, NI_sO, NI_pF, NI_sF, NI_agg, NI_tup, NI_fn, NIh_nil, NIh_live, NIh_dead, NIh_free, NIr_map, NIr_append, NIs_icells, NIs_scells, NIs_bcells, NIs_Val, NIs_Col, NIs_Schema, NIs_PNode, NIs_Src, NIr_Val, NIr_Col, NIr_ints, NIr_PNode]; try simp)) .nil))⟩
    refine PV.condP ((((s.columns[k.toNat]!).type) < 1) ∨ (((s.columns[k.toNat]!).type) > 5)) (decide ((((s.columns[k.toNat]!).type) < 1) ∨ (((s.columns[k.toNat]!).type) > 5))) (by kernel_rfl) decide_eq_true decide_eq_false (fun h23 => ?_) (fun h23 => ?_)
    · skip
      refine PV.seq_k fun K24 hK24 => ?_
      refine PV.regionN ?_
      refine PON.runs 1 (by kernel_rfl) ?_
      refine PON.fin rfl (thenA_normal (hK24 _ ?_))
      refine PV.norm ⟨(A :: po 0 :: iv 11 :: iv k :: po 1 :: A9 (A :: A :: .sF 4 (s.columns.map Col.cells) :: iv (s.columns.length : Int) :: iv k :: bv (decide (k < (s.columns.length : Int))) :: iv k :: .pF (Col.cells (s.columns[k.toNat]!)) 0 :: .agg (Col.cells (s.columns[k.toNat]!)) :: bv (!(okName ((s.columns[k.toNat]!).name))) :: po 1 :: sv ((s.columns[k.toNat]!).name) :: bv (okName ((s.columns[k.toNat]!).name)) :: bv (!(okName ((s.columns[k.toNat]!).name))) :: bv (decide ((colIdx ((s.columns[k.toNat]!).name) s.columns 0) < k)) :: .agg (Schema.cells s) :: po 1 :: sv ((s.columns[k.toNat]!).name) :: iv (colIdx ((s.columns[k.toNat]!).name) s.columns 0) :: iv k :: bv (decide ((colIdx ((s.columns[k.toNat]!).name) s.columns 0) < k)) :: bv (decide ((((s.columns[k.toNat]!).type) < 1) ∨ (((s.columns[k.toNat]!).type) > 5))) :: A9 (A9 (A9 (A9 ([A, A, A])))))), [.live ⟨2, [(Schema.cells s)], 33⟩, .live ⟨4, [(Col.cells (s.columns[k.toNat]!))], 47⟩]⟩ (by kernel_rfl) ?_
      refine PV.ret (inBlockA_ret (inBlockA_ret (thenA_ret (thenA_ret (inBlockA_ret (thenA_ret (hret .ret _ (iv 11) (.inr rfl) (by kernel_rfl) ?_)))))))
      clear hret hK1 hK2 hK3 hK6 hK9 hK10 hK11 hK12 hK14 hK15 hK16 hK19 hK24 K0 K1 K2 K3 K6 K9 K10 K11 K12 K14 K15 K16 K19 K24
      show Tof noTau [.live ⟨2, [(Schema.cells s)], 33⟩, .live ⟨4, [(Col.cells (s.columns[k.toNat]!))], 47⟩] (iv 11) (iv (schemaErr s))
      -- leaf 5
      refine Tof.int ?_
      first | grind [schemaErr] | (have e : errFrom (colErr s.columns) 0 s.columns = colErr s.columns k s.columns[k.toNat]! := (by rw [hi, drop_step _ _ (by omega), errFrom]; grind [colErr, vKnown, okScale]); grind [schemaErr, colErr, vKnown, okScale]) | (rw [drop_end _ _ (by omega)] at hi; grind [schemaErr, errFrom])
    refine PV.seqR [0, 1] ⟨(A :: po 0 :: A :: iv k :: po 1 :: A9 (A :: A :: .sF 4 (s.columns.map Col.cells) :: iv (s.columns.length : Int) :: iv k :: bv (decide (k < (s.columns.length : Int))) :: iv k :: .pF (Col.cells (s.columns[k.toNat]!)) 0 :: .agg (Col.cells (s.columns[k.toNat]!)) :: bv (!(okName ((s.columns[k.toNat]!).name))) :: po 1 :: sv ((s.columns[k.toNat]!).name) :: bv (okName ((s.columns[k.toNat]!).name)) :: bv (!(okName ((s.columns[k.toNat]!).name))) :: bv (decide ((colIdx ((s.columns[k.toNat]!).name) s.columns 0) < k)) :: .agg (Schema.cells s) :: po 1 :: sv ((s.columns[k.toNat]!).name) :: iv (colIdx ((s.columns[k.toNat]!).name) s.columns 0) :: iv k :: bv (decide ((colIdx ((s.columns[k.toNat]!).name) s.columns 0) < k)) :: bv (decide ((((s.columns[k.toNat]!).type) < 1) ∨ (((s.columns[k.toNat]!).type) > 5))) :: A4 (A4 (bv (decide ((((s.columns[k.toNat]!).scale) < 0) ∨ ((((s.columns[k.toNat]!).scale) > 18) ∨ (¬(((s.columns[k.toNat]!).type) = 5) ∧ (¬(((s.columns[k.toNat]!).scale) = 0)))))) :: A9 (A9 (A9 ([A, A, A]))))))), [.live ⟨2, [(Schema.cells s)], 33⟩, .live ⟨4, [(Col.cells (s.columns[k.toNat]!))], 47⟩]⟩ ?_ ?_
    · skip
      refine PV.regionN ?_
      refine PON.runs 4 (by kernel_rfl) ?_
      refine PON.norm ⟨(A :: po 0 :: A :: iv k :: po 1 :: A9 (A :: A :: .sF 4 (s.columns.map Col.cells) :: iv (s.columns.length : Int) :: iv k :: bv (decide (k < (s.columns.length : Int))) :: iv k :: .pF (Col.cells (s.columns[k.toNat]!)) 0 :: .agg (Col.cells (s.columns[k.toNat]!)) :: bv (!(okName ((s.columns[k.toNat]!).name))) :: po 1 :: sv ((s.columns[k.toNat]!).name) :: bv (okName ((s.columns[k.toNat]!).name)) :: bv (!(okName ((s.columns[k.toNat]!).name))) :: bv (decide ((colIdx ((s.columns[k.toNat]!).name) s.columns 0) < k)) :: .agg (Schema.cells s) :: po 1 :: sv ((s.columns[k.toNat]!).name) :: iv (colIdx ((s.columns[k.toNat]!).name) s.columns 0) :: iv k :: bv (decide ((colIdx ((s.columns[k.toNat]!).name) s.columns 0) < k)) :: bv (decide ((((s.columns[k.toNat]!).type) < 1) ∨ (((s.columns[k.toNat]!).type) > 5))) :: A9 (.pO 1 0 2 :: iv ((s.columns[k.toNat]!).scale) :: bv (decide (((s.columns[k.toNat]!).scale) < 0)) :: bv (decide (((s.columns[k.toNat]!).scale) < 0)) :: A9 (A9 (A4 (A4 ([]))))))), [.live ⟨2, [(Schema.cells s)], 33⟩, .live ⟨4, [(Col.cells (s.columns[k.toNat]!))], 47⟩]⟩ (by kernel_rfl) ?_
      refine PON.splitP (((s.columns[k.toNat]!).scale) < 0) 48 (decide (((s.columns[k.toNat]!).scale) < 0)) (A :: po 0 :: A :: iv k :: po 1 :: A9 (A :: A :: .sF 4 (s.columns.map Col.cells) :: iv (s.columns.length : Int) :: iv k :: bv (decide (k < (s.columns.length : Int))) :: iv k :: .pF (Col.cells (s.columns[k.toNat]!)) 0 :: .agg (Col.cells (s.columns[k.toNat]!)) :: bv (!(okName ((s.columns[k.toNat]!).name))) :: po 1 :: sv ((s.columns[k.toNat]!).name) :: bv (okName ((s.columns[k.toNat]!).name)) :: bv (!(okName ((s.columns[k.toNat]!).name))) :: bv (decide ((colIdx ((s.columns[k.toNat]!).name) s.columns 0) < k)) :: .agg (Schema.cells s) :: po 1 :: sv ((s.columns[k.toNat]!).name) :: iv (colIdx ((s.columns[k.toNat]!).name) s.columns 0) :: iv k :: bv (decide ((colIdx ((s.columns[k.toNat]!).name) s.columns 0) < k)) :: bv (decide ((((s.columns[k.toNat]!).type) < 1) ∨ (((s.columns[k.toNat]!).type) > 5))) :: A9 (.pO 1 0 2 :: iv ((s.columns[k.toNat]!).scale) :: bv (decide (((s.columns[k.toNat]!).scale) < 0)) :: bv true :: A9 (A9 (A4 (A4 ([]))))))) (A :: po 0 :: A :: iv k :: po 1 :: A9 (A :: A :: .sF 4 (s.columns.map Col.cells) :: iv (s.columns.length : Int) :: iv k :: bv (decide (k < (s.columns.length : Int))) :: iv k :: .pF (Col.cells (s.columns[k.toNat]!)) 0 :: .agg (Col.cells (s.columns[k.toNat]!)) :: bv (!(okName ((s.columns[k.toNat]!).name))) :: po 1 :: sv ((s.columns[k.toNat]!).name) :: bv (okName ((s.columns[k.toNat]!).name)) :: bv (!(okName ((s.columns[k.toNat]!).name))) :: bv (decide ((colIdx ((s.columns[k.toNat]!).name) s.columns 0) < k)) :: .agg (Schema.cells s) :: po 1 :: sv ((s.columns[k.toNat]!).name) :: iv (colIdx ((s.columns[k.toNat]!).name) s.columns 0) :: iv k :: bv (decide ((colIdx ((s.columns[k.toNat]!).name) s.columns 0) < k)) :: bv (decide ((((s.columns[k.toNat]!).type) < 1) ∨ (((s.columns[k.toNat]!).type) > 5))) :: A9 (.pO 1 0 2 :: iv ((s.columns[k.toNat]!).scale) :: bv (decide (((s.columns[k.toNat]!).scale) < 0)) :: bv false :: A9 (A9 (A4 (A4 ([]))))))) (by kernel_rfl) decide_eq_true decide_eq_false (by kernel_rfl) (by kernel_rfl) (fun h25 => ?_) (fun h25 => ?_)
      · skip
        refine PON.runs 15 (by kernel_rfl) ?_
        refine PON.norm ⟨(A :: po 0 :: A :: iv k :: po 1 :: A9 (A :: A :: .sF 4 (s.columns.map Col.cells) :: iv (s.columns.length : Int) :: iv k :: bv (decide (k < (s.columns.length : Int))) :: iv k :: .pF (Col.cells (s.columns[k.toNat]!)) 0 :: .agg (Col.cells (s.columns[k.toNat]!)) :: bv (!(okName ((s.columns[k.toNat]!).name))) :: po 1 :: sv ((s.columns[k.toNat]!).name) :: bv (okName ((s.columns[k.toNat]!).name)) :: bv (!(okName ((s.columns[k.toNat]!).name))) :: bv (decide ((colIdx ((s.columns[k.toNat]!).name) s.columns 0) < k)) :: .agg (Schema.cells s) :: po 1 :: sv ((s.columns[k.toNat]!).name) :: iv (colIdx ((s.columns[k.toNat]!).name) s.columns 0) :: iv k :: bv (decide ((colIdx ((s.columns[k.toNat]!).name) s.columns 0) < k)) :: bv (decide ((((s.columns[k.toNat]!).type) < 1) ∨ (((s.columns[k.toNat]!).type) > 5))) :: A4 (A4 (bv true :: .pO 1 0 2 :: iv ((s.columns[k.toNat]!).scale) :: bv (decide (((s.columns[k.toNat]!).scale) < 0)) :: bv true :: U :: U :: U :: bv true :: bv true :: U :: U :: U :: U :: U :: U :: U :: U :: bv true :: A9 ([A, A, A]))))), [.live ⟨2, [(Schema.cells s)], 33⟩, .live ⟨4, [(Col.cells (s.columns[k.toNat]!))], 47⟩]⟩ (by kernel_rfl) ?_
        refine PON.fin rfl (thenA_normal ?_)
        exact ⟨rfl, rfl, (.any (.cons (.pO _ _ rfl) (.any (.v (.cons (.pO _ _ rfl) (.a9 (.any (.any (.cons (.tree (by simp only [NIs_cons, NIs_nil, NIr_cons, NIr_nil, NI_v, NI_any, NI_pO, NI_sO, NI_pF, NI_sF, NI_agg, NI_tup, NI_fn, NIh_nil, NIh_live, NIh_dead, NIh_free, NIr_map, NIr_append, NIs_icells, NIs_scells, NIs_bcells, NIs_Val, NIs_Col, NIs_Schema, NIs_PNode, NIs_Src, NIr_Val, NIr_Col, NIr_ints, NIr_PNode]; try simp)) (.v (.v (.v (.v (.cons (.tree (by simp only [NIs_cons, NIs_nil, NIr_cons, NIr_nil, NI_v, NI_any, NI_pO, NI_sO, NI_pF, NI_sF, NI_agg, NI_tup, NI_fn, NIh_nil, NIh_live, NIh_dead, NIh_free, NIr_map, NIr_append, NIs_icells, NIs_scells, NIs_bcells, NIs_Val, NIs_Col, NIs_Schema, NIs_PNode, NIs_Src, NIr_Val, NIr_Col, NIr_ints, NIr_PNode]; try simp)) (.cons (.tree (by simp only [NIs_cons, NIs_nil, NIr_cons, NIr_nil, NI_v, NI_any, NI_pO, NI_sO, NI_pF, NI_sF, NI_agg, NI_tup, NI_fn, NIh_nil, NIh_live, NIh_dead, NIh_free, NIr_map, NIr_append, NIs_icells, NIs_scells, NIs_bcells, NIs_Val, NIs_Col, NIs_Schema, NIs_PNode, NIs_Src, NIr_Val, NIr_Col, NIr_ints, NIr_PNode]; try simp)) (.v (.cons (.pO _ _ rfl) (.v (.v (.v (.v (.cons (.tree (by simp only [NIs_cons, NIs_nil, NIr_cons, NIr_nil, NI_v, NI_any, NI_pO, NI_sO, NI_pF, NI_sF, NI_agg, NI_tup, NI_fn, NIh_nil, NIh_live, NIh_dead, NIh_free, NIr_map, NIr_append, NIs_icells, NIs_scells, NIs_bcells, NIs_Val, NIs_Col, NIs_Schema, NIs_PNode, NIs_Src, NIr_Val, NIr_Col, NIr_ints, NIr_PNode]; try simp)) (.cons (.pO _ _ rfl) (.v (.v (.v (.v (.v (.a4 (.a4 (.cons (.eq (.v _) (v_bool (by clear hret hK1 hK2 hK3 hK6 hK9 hK10 hK11 hK12 hK14 hK15 hK16 hK19 K0 K1 K2 K3 K6 K9 K10 K11 K12 K14 K15 K16 K19; (try simp only [strEq_dec]); grind))) (.a9 (.a9 (.a9 (.any (.any (.any .nil))))))))))))))))))))))))))))))))))))), (.cons rfl (.tree (by simp only [NIs_cons, NIs_nil, NIr_cons, NIr_nil, NI_v, NI_any, NI_pO, NI_sO, NI_pF, NI_sF, NI_agg, NI_tup, NI_fn, NIh_nil, NIh_live, NIh_dead, NIh_free, NIr_map, NIr_append, NIs_icells, NIs_scells, NIs_bcells, NIs_Val, NIs_Col, NIs_Schema, NIs_PNode, NIs_Src, NIr_Val, NIr_Col, NIr_ints, NIr_PNode]; try simp)) (.cons rfl (.tree (by simp only [NIs_cons, NIs_nil, NIr_cons, NIr_nil, NI_v, NI_any, NI_pO, NI_sO, NI_pF, NI_sF, NI_agg, NI_tup, NI_fn, NIh_nil, NIh_live, NIh_dead, NIh_free, NIr_map, NIr_append, NIs_icells, NIs_scells, NIs_bcells, NIs_Val, NIs_Col, NIs_Schema, NIs_PNode, NIs_Src, NIr_Val, NIr_Col, NIr_ints, NIr_PNode]; try simp)) .nil))⟩
      refine PON.runs 5 (by kernel_rfl) ?_
      refine PON.norm ⟨(A :: po 0 :: A :: iv k :: po 1 :: A9 (A :: A :: .sF 4 (s.columns.map Col.cells) :: iv (s.columns.length : Int) :: iv k :: bv (decide (k < (s.columns.length : Int))) :: iv k :: .pF (Col.cells (s.columns[k.toNat]!)) 0 :: .agg (Col.cells (s.columns[k.toNat]!)) :: bv (!(okName ((s.columns[k.toNat]!).name))) :: po 1 :: sv ((s.columns[k.toNat]!).name) :: bv (okName ((s.columns[k.toNat]!).name)) :: bv (!(okName ((s.columns[k.toNat]!).name))) :: bv (decide ((colIdx ((s.columns[k.toNat]!).name) s.columns 0) < k)) :: .agg (Schema.cells s) :: po 1 :: sv ((s.columns[k.toNat]!).name) :: iv (colIdx ((s.columns[k.toNat]!).name) s.columns 0) :: iv k :: bv (decide ((colIdx ((s.columns[k.toNat]!).name) s.columns 0) < k)) :: bv (decide ((((s.columns[k.toNat]!).type) < 1) ∨ (((s.columns[k.toNat]!).type) > 5))) :: A9 (.pO 1 0 2 :: iv ((s.columns[k.toNat]!).scale) :: bv (decide (((s.columns[k.toNat]!).scale) < 0)) :: bv false :: .pO 1 0 2 :: iv ((s.columns[k.toNat]!).scale) :: bv (decide (((s.columns[k.toNat]!).scale) > 18)) :: bv (decide (((s.columns[k.toNat]!).scale) > 18)) :: bv (decide (((s.columns[k.toNat]!).scale) > 18)) :: A9 (A9 ([A, A, A]))))), [.live ⟨2, [(Schema.cells s)], 33⟩, .live ⟨4, [(Col.cells (s.columns[k.toNat]!))], 47⟩]⟩ (by kernel_rfl) ?_
      refine PON.splitP (((s.columns[k.toNat]!).scale) > 18) 53 (decide (((s.columns[k.toNat]!).scale) > 18)) (A :: po 0 :: A :: iv k :: po 1 :: A9 (A :: A :: .sF 4 (s.columns.map Col.cells) :: iv (s.columns.length : Int) :: iv k :: bv (decide (k < (s.columns.length : Int))) :: iv k :: .pF (Col.cells (s.columns[k.toNat]!)) 0 :: .agg (Col.cells (s.columns[k.toNat]!)) :: bv (!(okName ((s.columns[k.toNat]!).name))) :: po 1 :: sv ((s.columns[k.toNat]!).name) :: bv (okName ((s.columns[k.toNat]!).name)) :: bv (!(okName ((s.columns[k.toNat]!).name))) :: bv (decide ((colIdx ((s.columns[k.toNat]!).name) s.columns 0) < k)) :: .agg (Schema.cells s) :: po 1 :: sv ((s.columns[k.toNat]!).name) :: iv (colIdx ((s.columns[k.toNat]!).name) s.columns 0) :: iv k :: bv (decide ((colIdx ((s.columns[k.toNat]!).name) s.columns 0) < k)) :: bv (decide ((((s.columns[k.toNat]!).type) < 1) ∨ (((s.columns[k.toNat]!).type) > 5))) :: A9 (.pO 1 0 2 :: iv ((s.columns[k.toNat]!).scale) :: bv (decide (((s.columns[k.toNat]!).scale) < 0)) :: bv false :: .pO 1 0 2 :: iv ((s.columns[k.toNat]!).scale) :: bv (decide (((s.columns[k.toNat]!).scale) > 18)) :: bv (decide (((s.columns[k.toNat]!).scale) > 18)) :: bv true :: A9 (A9 ([A, A, A]))))) (A :: po 0 :: A :: iv k :: po 1 :: A9 (A :: A :: .sF 4 (s.columns.map Col.cells) :: iv (s.columns.length : Int) :: iv k :: bv (decide (k < (s.columns.length : Int))) :: iv k :: .pF (Col.cells (s.columns[k.toNat]!)) 0 :: .agg (Col.cells (s.columns[k.toNat]!)) :: bv (!(okName ((s.columns[k.toNat]!).name))) :: po 1 :: sv ((s.columns[k.toNat]!).name) :: bv (okName ((s.columns[k.toNat]!).name)) :: bv (!(okName ((s.columns[k.toNat]!).name))) :: bv (decide ((colIdx ((s.columns[k.toNat]!).name) s.columns 0) < k)) :: .agg (Schema.cells s) :: po 1 :: sv ((s.columns[k.toNat]!).name) :: iv (colIdx ((s.columns[k.toNat]!).name) s.columns 0) :: iv k :: bv (decide ((colIdx ((s.columns[k.toNat]!).name) s.columns 0) < k)) :: bv (decide ((((s.columns[k.toNat]!).type) < 1) ∨ (((s.columns[k.toNat]!).type) > 5))) :: A9 (.pO 1 0 2 :: iv ((s.columns[k.toNat]!).scale) :: bv (decide (((s.columns[k.toNat]!).scale) < 0)) :: bv false :: .pO 1 0 2 :: iv ((s.columns[k.toNat]!).scale) :: bv (decide (((s.columns[k.toNat]!).scale) > 18)) :: bv (decide (((s.columns[k.toNat]!).scale) > 18)) :: bv false :: A9 (A9 ([A, A, A]))))) (by kernel_rfl) decide_eq_true decide_eq_false (by kernel_rfl) (by kernel_rfl) (fun h26 => ?_) (fun h26 => ?_)
      · skip
        refine PON.runs 10 (by kernel_rfl) ?_
        refine PON.norm ⟨(A :: po 0 :: A :: iv k :: po 1 :: A9 (A :: A :: .sF 4 (s.columns.map Col.cells) :: iv (s.columns.length : Int) :: iv k :: bv (decide (k < (s.columns.length : Int))) :: iv k :: .pF (Col.cells (s.columns[k.toNat]!)) 0 :: .agg (Col.cells (s.columns[k.toNat]!)) :: bv (!(okName ((s.columns[k.toNat]!).name))) :: po 1 :: sv ((s.columns[k.toNat]!).name) :: bv (okName ((s.columns[k.toNat]!).name)) :: bv (!(okName ((s.columns[k.toNat]!).name))) :: bv (decide ((colIdx ((s.columns[k.toNat]!).name) s.columns 0) < k)) :: .agg (Schema.cells s) :: po 1 :: sv ((s.columns[k.toNat]!).name) :: iv (colIdx ((s.columns[k.toNat]!).name) s.columns 0) :: iv k :: bv (decide ((colIdx ((s.columns[k.toNat]!).name) s.columns 0) < k)) :: bv (decide ((((s.columns[k.toNat]!).type) < 1) ∨ (((s.columns[k.toNat]!).type) > 5))) :: A4 (A4 (bv true :: .pO 1 0 2 :: iv ((s.columns[k.toNat]!).scale) :: bv (decide (((s.columns[k.toNat]!).scale) < 0)) :: bv false :: .pO 1 0 2 :: iv ((s.columns[k.toNat]!).scale) :: bv (decide (((s.columns[k.toNat]!).scale) > 18)) :: bv (decide (((s.columns[k.toNat]!).scale) > 18)) :: bv true :: U :: U :: U :: U :: U :: U :: U :: U :: bv true :: A9 ([A, A, A]))))), [.live ⟨2, [(Schema.cells s)], 33⟩, .live ⟨4, [(Col.cells (s.columns[k.toNat]!))], 47⟩]⟩ (by kernel_rfl) ?_
        refine PON.fin rfl (thenA_normal ?_)
        exact ⟨rfl, rfl, (.any (.cons (.pO _ _ rfl) (.any (.v (.cons (.pO _ _ rfl) (.a9 (.any (.any (.cons (.tree (by simp only [NIs_cons, NIs_nil, NIr_cons, NIr_nil, NI_v, NI_any, NI_pO, NI_sO, NI_pF, NI_sF, NI_agg, NI_tup, NI_fn, NIh_nil, NIh_live, NIh_dead, NIh_free, NIr_map, NIr_append, NIs_icells, NIs_scells, NIs_bcells, NIs_Val, NIs_Col, NIs_Schema, NIs_PNode, NIs_Src, NIr_Val, NIr_Col, NIr_ints, NIr_PNode]; try simp)) (.v (.v (.v (.v (.cons (.tree (by simp only [NIs_cons, NIs_nil, NIr_cons, NIr_nil, NI_v, NI_any, NI_pO, NI_sO, NI_pF, NI_sF, NI_agg, NI_tup, NI_fn, NIh_nil, NIh_live, NIh_dead, NIh_free, NIr_map, NIr_append, NIs_icells, NIs_scells, NIs_bcells, NIs_Val, NIs_Col, NIs_Schema, NIs_PNode, NIs_Src, NIr_Val, NIr_Col, NIr_ints, NIr_PNode]; try simp)) (.cons (.tree (by simp only [NIs_cons, NIs_nil, NIr_cons, NIr_nil, NI_v, NI_any, NI_pO, NI_sO, NI_pF, NI_sF, NI_agg, NI_tup, NI_fn, NIh_nil, NIh_live, NIh_dead, NIh_free, NIr_map, NIr_append, NIs_icells, NIs_scells, NIs_bcells, NIs_Val, NIs_Col, NIs_Schema, NIs_PNode, NIs_Src, NIr_Val, NIr_Col, NIr_ints, NIr_PNode]; try simp)) (.v (.cons (.pO _ _ rfl) (.v (.v (.v (.v (.cons (.tree (by simp only [NIs_cons, NIs_nil, NIr_cons, NIr_nil, NI_v, NI_any, NI_pO, NI_sO, NI_pF, NI_sF, NI_agg, NI_tup, NI_fn, NIh_nil, NIh_live, NIh_dead, NIh_free, NIr_map, NIr_append, NIs_icells, NIs_scells, NIs_bcells, NIs_Val, NIs_Col, NIs_Schema, NIs_PNode, NIs_Src, NIr_Val, NIr_Col, NIr_ints, NIr_PNode]; try simp)) (.cons (.pO _ _ rfl) (.v (.v (.v (.v (.v (.a4 (.a4 (.cons (.eq (.v _) (v_bool (by clear hret hK1 hK2 hK3 hK6 hK9 hK10 hK11 hK12 hK14 hK15 hK16 hK19 K0 K1 K2 K3 K6 K9 K10 K11 K12 K14 K15 K16 K19; (try simp only [strEq_dec]); grind))) (.a9 (.a9 (.a9 (.any (.any (.any .nil))))))))))))))))))))))))))))))))))))), (.cons rfl (.tree (by simp only [NIs_cons, NIs_nil, NIr_cons, NIr_nil, NI_v, NI_any, NI_pO, NI_sO, NI_pF, NI_sF, NI_agg, NI_tup, NI_fn, NIh_nil, NIh_live, NIh_dead, NIh_free, NIr_map, NIr_append, NIs_icells, NIs_scells, NIs_bcells, NIs_Val, NIs_Col, NIs_Schema, NIs_PNode, NIs_Src, NIr_Val, NIr_Col, NIr_ints, NIr_PNode]; try simp)) (.cons rfl (.tree (by simp only [NIs_cons, NIs_nil, NIr_cons, NIr_nil, NI_v, NI_any, NI_pO, NI_sO, NI_pF, NI_sF, NI_agg, NI_tup, NI_fn, NIh_nil, NIh_live, NIh_dead, NIh_free, NIr_map, NIr_append, NIs_icells, NIs_scells, NIs_bcells, NIs_Val, NIs_Col, NIs_Schema, NIs_PNode, NIs_Src, NIr_Val, NIr_Col, NIr_ints, NIr_PNode]; try simp)) .nil))⟩
      refine PON.runs 4 (by kernel_rfl) ?_
      refine PON.norm ⟨(A :: po 0 :: A :: iv k :: po 1 :: A9 (A :: A :: .sF 4 (s.columns.map Col.cells) :: iv (s.columns.length : Int) :: iv k :: bv (decide (k < (s.columns.length : Int))) :: iv k :: .pF (Col.cells (s.columns[k.toNat]!)) 0 :: .agg (Col.cells (s.columns[k.toNat]!)) :: bv (!(okName ((s.columns[k.toNat]!).name))) :: po 1 :: sv ((s.columns[k.toNat]!).name) :: bv (okName ((s.columns[k.toNat]!).name)) :: bv (!(okName ((s.columns[k.toNat]!).name))) :: bv (decide ((colIdx ((s.columns[k.toNat]!).name) s.columns 0) < k)) :: .agg (Schema.cells s) :: po 1 :: sv ((s.columns[k.toNat]!).name) :: iv (colIdx ((s.columns[k.toNat]!).name) s.columns 0) :: iv k :: bv (decide ((colIdx ((s.columns[k.toNat]!).name) s.columns 0) < k)) :: bv (decide ((((s.columns[k.toNat]!).type) < 1) ∨ (((s.columns[k.toNat]!).type) > 5))) :: A9 (.pO 1 0 2 :: iv ((s.columns[k.toNat]!).scale) :: bv (decide (((s.columns[k.toNat]!).scale) < 0)) :: bv false :: .pO 1 0 2 :: iv ((s.columns[k.toNat]!).scale) :: bv (decide (((s.columns[k.toNat]!).scale) > 18)) :: bv (decide (((s.columns[k.toNat]!).scale) > 18)) :: bv false :: .pO 1 0 1 :: iv ((s.columns[k.toNat]!).type) :: bv (!(decide (((s.columns[k.toNat]!).type) = 5))) :: bv (!(decide (((s.columns[k.toNat]!).type) = 5))) :: A9 (A4 (A4 ([])))))), [.live ⟨2, [(Schema.cells s)], 33⟩, .live ⟨4, [(Col.cells (s.columns[k.toNat]!))], 47⟩]⟩ (by kernel_rfl) ?_
      refine PON.splitN (((s.columns[k.toNat]!).type) = 5) 57 (!(decide (((s.columns[k.toNat]!).type) = 5))) (A :: po 0 :: A :: iv k :: po 1 :: A9 (A :: A :: .sF 4 (s.columns.map Col.cells) :: iv (s.columns.length : Int) :: iv k :: bv (decide (k < (s.columns.length : Int))) :: iv k :: .pF (Col.cells (s.columns[k.toNat]!)) 0 :: .agg (Col.cells (s.columns[k.toNat]!)) :: bv (!(okName ((s.columns[k.toNat]!).name))) :: po 1 :: sv ((s.columns[k.toNat]!).name) :: bv (okName ((s.columns[k.toNat]!).name)) :: bv (!(okName ((s.columns[k.toNat]!).name))) :: bv (decide ((colIdx ((s.columns[k.toNat]!).name) s.columns 0) < k)) :: .agg (Schema.cells s) :: po 1 :: sv ((s.columns[k.toNat]!).name) :: iv (colIdx ((s.columns[k.toNat]!).name) s.columns 0) :: iv k :: bv (decide ((colIdx ((s.columns[k.toNat]!).name) s.columns 0) < k)) :: bv (decide ((((s.columns[k.toNat]!).type) < 1) ∨ (((s.columns[k.toNat]!).type) > 5))) :: A9 (.pO 1 0 2 :: iv ((s.columns[k.toNat]!).scale) :: bv (decide (((s.columns[k.toNat]!).scale) < 0)) :: bv false :: .pO 1 0 2 :: iv ((s.columns[k.toNat]!).scale) :: bv (decide (((s.columns[k.toNat]!).scale) > 18)) :: bv (decide (((s.columns[k.toNat]!).scale) > 18)) :: bv false :: .pO 1 0 1 :: iv ((s.columns[k.toNat]!).type) :: bv (!(decide (((s.columns[k.toNat]!).type) = 5))) :: bv false :: A9 (A4 (A4 ([])))))) (A :: po 0 :: A :: iv k :: po 1 :: A9 (A :: A :: .sF 4 (s.columns.map Col.cells) :: iv (s.columns.length : Int) :: iv k :: bv (decide (k < (s.columns.length : Int))) :: iv k :: .pF (Col.cells (s.columns[k.toNat]!)) 0 :: .agg (Col.cells (s.columns[k.toNat]!)) :: bv (!(okName ((s.columns[k.toNat]!).name))) :: po 1 :: sv ((s.columns[k.toNat]!).name) :: bv (okName ((s.columns[k.toNat]!).name)) :: bv (!(okName ((s.columns[k.toNat]!).name))) :: bv (decide ((colIdx ((s.columns[k.toNat]!).name) s.columns 0) < k)) :: .agg (Schema.cells s) :: po 1 :: sv ((s.columns[k.toNat]!).name) :: iv (colIdx ((s.columns[k.toNat]!).name) s.columns 0) :: iv k :: bv (decide ((colIdx ((s.columns[k.toNat]!).name) s.columns 0) < k)) :: bv (decide ((((s.columns[k.toNat]!).type) < 1) ∨ (((s.columns[k.toNat]!).type) > 5))) :: A9 (.pO 1 0 2 :: iv ((s.columns[k.toNat]!).scale) :: bv (decide (((s.columns[k.toNat]!).scale) < 0)) :: bv false :: .pO 1 0 2 :: iv ((s.columns[k.toNat]!).scale) :: bv (decide (((s.columns[k.toNat]!).scale) > 18)) :: bv (decide (((s.columns[k.toNat]!).scale) > 18)) :: bv false :: .pO 1 0 1 :: iv ((s.columns[k.toNat]!).type) :: bv (!(decide (((s.columns[k.toNat]!).type) = 5))) :: bv true :: A9 (A4 (A4 ([])))))) (by kernel_rfl) (fun h => bnot_t (decide_eq_true h)) (fun h => bnot_f (decide_eq_false h)) (by kernel_rfl) (by kernel_rfl) (fun h27 => ?_) (fun h27 => ?_)
      · skip
        refine PON.runs 6 (by kernel_rfl) ?_
        refine PON.norm ⟨(A :: po 0 :: A :: iv k :: po 1 :: A9 (A :: A :: .sF 4 (s.columns.map Col.cells) :: iv (s.columns.length : Int) :: iv k :: bv (decide (k < (s.columns.length : Int))) :: iv k :: .pF (Col.cells (s.columns[k.toNat]!)) 0 :: .agg (Col.cells (s.columns[k.toNat]!)) :: bv (!(okName ((s.columns[k.toNat]!).name))) :: po 1 :: sv ((s.columns[k.toNat]!).name) :: bv (okName ((s.columns[k.toNat]!).name)) :: bv (!(okName ((s.columns[k.toNat]!).name))) :: bv (decide ((colIdx ((s.columns[k.toNat]!).name) s.columns 0) < k)) :: .agg (Schema.cells s) :: po 1 :: sv ((s.columns[k.toNat]!).name) :: iv (colIdx ((s.columns[k.toNat]!).name) s.columns 0) :: iv k :: bv (decide ((colIdx ((s.columns[k.toNat]!).name) s.columns 0) < k)) :: bv (decide ((((s.columns[k.toNat]!).type) < 1) ∨ (((s.columns[k.toNat]!).type) > 5))) :: A4 (A4 (bv false :: .pO 1 0 2 :: iv ((s.columns[k.toNat]!).scale) :: bv (decide (((s.columns[k.toNat]!).scale) < 0)) :: bv false :: .pO 1 0 2 :: iv ((s.columns[k.toNat]!).scale) :: bv (decide (((s.columns[k.toNat]!).scale) > 18)) :: bv (decide (((s.columns[k.toNat]!).scale) > 18)) :: bv false :: .pO 1 0 1 :: iv ((s.columns[k.toNat]!).type) :: bv (!(decide (((s.columns[k.toNat]!).type) = 5))) :: bv false :: U :: U :: U :: bv false :: bv false :: A9 ([A, A, A]))))), [.live ⟨2, [(Schema.cells s)], 33⟩, .live ⟨4, [(Col.cells (s.columns[k.toNat]!))], 47⟩]⟩ (by kernel_rfl) ?_
        refine PON.fin rfl (thenA_normal ?_)
        exact ⟨rfl, rfl, (.any (.cons (.pO _ _ rfl) (.any (.v (.cons (.pO _ _ rfl) (.a9 (.any (.any (.cons (.tree (by simp only [NIs_cons, NIs_nil, NIr_cons, NIr_nil, NI_v, NI_any, NI_pO, NI_sO, NI_pF, NI_sF, NI_agg, NI_tup, NI_fn, NIh_nil, NIh_live, NIh_dead, NIh_free, NIr_map, NIr_append, NIs_icells, NIs_scells, NIs_bcells, NIs_Val, NIs_Col, NIs_Schema, NIs_PNode, NIs_Src, NIr_Val, NIr_Col, NIr_ints, NIr_PNode]; try simp)) (.v (.v (.v (.v (.cons (.tree (by simp only [NIs_cons, NIs_nil, NIr_cons, NIr_nil, NI_v, NI_any, NI_pO, NI_sO, NI_pF, NI_sF, NI_agg, NI_tup, NI_fn, NIh_nil, NIh_live, NIh_dead, NIh_free, NIr_map, NIr_append, NIs_icells, NIs_scells, NIs_bcells, NIs_Val, NIs_Col, NIs_Schema, NIs_PNode, NIs_Src, NIr_Val, NIr_Col, NIr_ints, NIr_PNode]; try simp)) (.cons (.tree (by simp only [NIs_cons, NIs_nil, NIr_cons, NIr_nil, NI_v, NI_any, NI_pO, NI_sO, NI_pF, NI_sF, NI_agg, NI_tup, NI_fn, NIh_nil, NIh_live, NIh_dead, NIh_free, NIr_map, NIr_append, NIs_icells, NIs_scells, NIs_bcells, NIs_Val, NIs_Col, NIs_Schema, NIs_PNode, NIs_Src, NIr_Val, NIr_Col, NIr_ints, NIr_PNode]; try simp)) (.v (.cons (.pO _ _ rfl) (.v (.v (.v (.v (.cons (.tree (by simp only [NIs_cons, NIs_nil, NIr_cons, NIr_nil, NI_v, NI_any, NI_pO, NI_sO, NI_pF, NI_sF, NI_agg, NI_tup, NI_fn, NIh_nil, NIh_live, NIh_dead, NIh_free, NIr_map, NIr_append, NIs_icells, NIs_scells, NIs_bcells, NIs_Val, NIs_Col, NIs_Schema, NIs_PNode, NIs_Src, NIr_Val, NIr_Col, NIr_ints, NIr_PNode]; try simp)) (.cons (.pO _ _ rfl) (.v (.v (.v (.v (.v (.a4 (.a4 (.cons (.eq (.v _) (v_bool (by clear hret hK1 hK2 hK3 hK6 hK9 hK10 hK11 hK12 hK14 hK15 hK16 hK19 K0 K1 K2 K3 K6 K9 K10 K11 K12 K14 K15 K16 K19; (try simp only [strEq_dec]); grind))) (.a9 (.a9 (.a9 (.any (.any (.any .nil))))))))))))))))))))))))))))))))))))), (.cons rfl (.tree (by simp only [NIs_cons, NIs_nil, NIr_cons, NIr_nil, NI_v, NI_any, NI_pO, NI_sO, NI_pF, NI_sF, NI_agg, NI_tup, NI_fn, NIh_nil, NIh_live, NIh_dead, NIh_free, NIr_map, NIr_append, NIs_icells, NIs_scells, NIs_bcells, NIs_Val, NIs_Col, NIs_Schema, NIs_PNode, NIs_Src, NIr_Val, NIr_Col, NIr_ints, NIr_PNode]; try simp)) (.cons rfl (.tree (by simp only [NIs_cons, NIs_nil, NIr_cons, NIr_nil, NI_v, NI_any, NI_pO, NI_sO, NI_pF, NI_sF, NI_agg, NI_tup, NI_fn, NIh_nil, NIh_live, NIh_dead, NIh_free, NIr_map, NIr_append, NIs_icells, NIs_scells, NIs_bcells, NIs_Val, NIs_Col, NIs_Schema, NIs_PNode, NIs_Src, NIr_Val, NIr_Col, NIr_ints, NIr_PNode]; try simp)) .nil))⟩
      refine PON.runs 6 (by kernel_rfl) ?_
      refine PON.norm ⟨(A :: po 0 :: A :: iv k :: po 1 :: A9 (A :: A :: .sF 4 (s.columns.map Col.cells) :: iv (s.columns.length : Int) :: iv k :: bv (decide (k < (s.columns.length : Int))) :: iv k :: .pF (Col.cells (s.columns[k.toNat]!)) 0 :: .agg (Col.cells (s.columns[k.toNat]!)) :: bv (!(okName ((s.columns[k.toNat]!).name))) :: po 1 :: sv ((s.columns[k.toNat]!).name) :: bv (okName ((s.columns[k.toNat]!).name)) :: bv (!(okName ((s.columns[k.toNat]!).name))) :: bv (decide ((colIdx ((s.columns[k.toNat]!).name) s.columns 0) < k)) :: .agg (Schema.cells s) :: po 1 :: sv ((s.columns[k.toNat]!).name) :: iv (colIdx ((s.columns[k.toNat]!).name) s.columns 0) :: iv k :: bv (decide ((colIdx ((s.columns[k.toNat]!).name) s.columns 0) < k)) :: bv (decide ((((s.columns[k.toNat]!).type) < 1) ∨ (((s.columns[k.toNat]!).type) > 5))) :: A4 (A4 (bv (!(decide (((s.columns[k.toNat]!).scale) = 0))) :: .pO 1 0 2 :: iv ((s.columns[k.toNat]!).scale) :: bv (decide (((s.columns[k.toNat]!).scale) < 0)) :: bv false :: .pO 1 0 2 :: iv ((s.columns[k.toNat]!).scale) :: bv (decide (((s.columns[k.toNat]!).scale) > 18)) :: bv (decide (((s.columns[k.toNat]!).scale) > 18)) :: bv false :: .pO 1 0 1 :: iv ((s.columns[k.toNat]!).type) :: bv (!(decide (((s.columns[k.toNat]!).type) = 5))) :: bv true :: .pO 1 0 2 :: iv ((s.columns[k.toNat]!).scale) :: bv (!(decide (((s.columns[k.toNat]!).scale) = 0))) :: bv (!(decide (((s.columns[k.toNat]!).scale) = 0))) :: bv (!(decide (((s.columns[k.toNat]!).scale) = 0))) :: A9 ([A, A, A]))))), [.live ⟨2, [(Schema.cells s)], 33⟩, .live ⟨4, [(Col.cells (s.columns[k.toNat]!))], 47⟩]⟩ (by kernel_rfl) ?_
      refine PON.fin rfl (thenA_normal ?_)
      exact ⟨rfl, rfl, (.any (.cons (.pO _ _ rfl) (.any (.v (.cons (.pO _ _ rfl) (.a9 (.any (.any (.cons (.tree (by simp only [NIs_cons, NIs_nil, NIr_cons, NIr_nil, NI_v, NI_any, NI_pO, NI_sO, NI_pF, NI_sF, NI_agg, NI_tup, NI_fn, NIh_nil, NIh_live, NIh_dead, NIh_free, NIr_map, NIr_append, NIs_icells, NIs_scells, NIs_bcells, NIs_Val, NIs_Col, NIs_Schema, NIs_PNode, NIs_Src, NIr_Val, NIr_Col, NIr_ints, NIr_PNode]; try simp)) (.v (.v (.v (.v (.cons (.tree (by simp only [NIs_cons, NIs_nil, NIr_cons, NIr_nil, NI_v, NI_any, NI_pO, NI_sO, NI_pF, NI_sF, NI_agg, NI_tup, NI_fn, NIh_nil, NIh_live, NIh_dead, NIh_free, NIr_map, NIr_append, NIs_icells, NIs_scells, NIs_bcells, NIs_Val, NIs_Col, NIs_Schema, NIs_PNode, NIs_Src, NIr_Val, NIr_Col, NIr_ints, NIr_PNode]; try simp)) (.cons (.tree (by simp only [NIs_cons, NIs_nil, NIr_cons, NIr_nil, NI_v, NI_any, NI_pO, NI_sO, NI_pF, NI_sF, NI_agg, NI_tup, NI_fn, NIh_nil, NIh_live, NIh_dead, NIh_free, NIr_map, NIr_append, NIs_icells, NIs_scells, NIs_bcells, NIs_Val, NIs_Col, NIs_Schema, NIs_PNode, NIs_Src, NIr_Val, NIr_Col, NIr_ints, NIr_PNode]; try simp)) (.v (.cons (.pO _ _ rfl) (.v (.v (.v (.v (.cons (.tree (by simp only [NIs_cons, NIs_nil, NIr_cons, NIr_nil, NI_v, NI_any, NI_pO, NI_sO, NI_pF, NI_sF, NI_agg, NI_tup, NI_fn, NIh_nil, NIh_live, NIh_dead, NIh_free, NIr_map, NIr_append, NIs_icells, NIs_scells, NIs_bcells, NIs_Val, NIs_Col, NIs_Schema, NIs_PNode, NIs_Src, NIr_Val, NIr_Col, NIr_ints, NIr_PNode]; try simp)) (.cons (.pO _ _ rfl) (.v (.v (.v (.v (.v (.a4 (.a4 (.cons (.eq (.v _) (v_bool (by clear hret hK1 hK2 hK3 hK6 hK9 hK10 hK11 hK12 hK14 hK15 hK16 hK19 K0 K1 K2 K3 K6 K9 K10 K11 K12 K14 K15 K16 K19; (try simp only [strEq_dec]); grind))) (.a9 (.a9 (.a9 (.any (.any (.any .nil))))))))))))))))))))))))))))))))))))), (.cons rfl (.tree (by simp only [NIs_cons, NIs_nil, NIr_cons, NIr_nil, NI_v, NI_any, NI_pO, NI_sO, NI_pF, NI_sF, NI_agg, NI_tup, NI_fn, NIh_nil, NIh_live, NIh_dead, NIh_free, NIr_map, NIr_append, NIs_icells, NIs_scells, NIs_bcells, NIs_Val, NIs_Col, NIs_Schema, NIs_PNode, NIs_Src, NIr_Val, NIr_Col, NIr_ints, NIr_PNode]; try simp)) (.cons rfl (.tree (by simp only [NIs_cons, NIs_nil, NIr_cons, NIr_nil, NI_v, NI_any, NI_pO, NI_sO, NI_pF, NI_sF, NI_agg, NI_tup, NI_fn, NIh_nil, NIh_live, NIh_dead, NIh_free, NIr_map, NIr_append, NIs_icells, NIs_scells, NIs_bcells, NIs_Val, NIs_Col, NIs_Schema, NIs_PNode, NIs_Src, NIr_Val, NIr_Col, NIr_ints, NIr_PNode]; try simp)) .nil))⟩
    refine PV.condP ((((s.columns[k.toNat]!).scale) < 0) ∨ ((((s.columns[k.toNat]!).scale) > 18) ∨ (¬(((s.columns[k.toNat]!).type) = 5) ∧ (¬(((s.columns[k.toNat]!).scale) = 0))))) (decide ((((s.columns[k.toNat]!).scale) < 0) ∨ ((((s.columns[k.toNat]!).scale) > 18) ∨ (¬(((s.columns[k.toNat]!).type) = 5) ∧ (¬(((s.columns[k.toNat]!).scale) = 0)))))) (by kernel_rfl) decide_eq_true decide_eq_false (fun h28 => ?_) (fun h28 => ?_)
    · skip
      refine PV.seq_k fun K29 hK29 => ?_
      refine PV.regionN ?_
      refine PON.runs 1 (by kernel_rfl) ?_
      refine PON.fin rfl (thenA_normal (hK29 _ ?_))
      refine PV.norm ⟨(A :: po 0 :: iv 4 :: iv k :: po 1 :: A9 (A :: A :: .sF 4 (s.columns.map Col.cells) :: iv (s.columns.length : Int) :: iv k :: bv (decide (k < (s.columns.length : Int))) :: iv k :: .pF (Col.cells (s.columns[k.toNat]!)) 0 :: .agg (Col.cells (s.columns[k.toNat]!)) :: bv (!(okName ((s.columns[k.toNat]!).name))) :: po 1 :: sv ((s.columns[k.toNat]!).name) :: bv (okName ((s.columns[k.toNat]!).name)) :: bv (!(okName ((s.columns[k.toNat]!).name))) :: bv (decide ((colIdx ((s.columns[k.toNat]!).name) s.columns 0) < k)) :: .agg (Schema.cells s) :: po 1 :: sv ((s.columns[k.toNat]!).name) :: iv (colIdx ((s.columns[k.toNat]!).name) s.columns 0) :: iv k :: bv (decide ((colIdx ((s.columns[k.toNat]!).name) s.columns 0) < k)) :: bv (decide ((((s.columns[k.toNat]!).type) < 1) ∨ (((s.columns[k.toNat]!).type) > 5))) :: A4 (A4 (bv (decide ((((s.columns[k.toNat]!).scale) < 0) ∨ ((((s.columns[k.toNat]!).scale) > 18) ∨ (¬(((s.columns[k.toNat]!).type) = 5) ∧ (¬(((s.columns[k.toNat]!).scale) = 0)))))) :: A9 (A9 (A9 ([A, A, A]))))))), [.live ⟨2, [(Schema.cells s)], 33⟩, .live ⟨4, [(Col.cells (s.columns[k.toNat]!))], 47⟩]⟩ (by kernel_rfl) ?_
      refine PV.ret (inBlockA_ret (inBlockA_ret (thenA_ret (thenA_ret (inBlockA_ret (thenA_ret (hret .ret _ (iv 4) (.inr rfl) (by kernel_rfl) ?_)))))))
      clear hret hK1 hK2 hK3 hK6 hK9 hK10 hK11 hK12 hK14 hK15 hK16 hK19 hK29 K0 K1 K2 K3 K6 K9 K10 K11 K12 K14 K15 K16 K19 K29
      show Tof noTau [.live ⟨2, [(Schema.cells s)], 33⟩, .live ⟨4, [(Col.cells (s.columns[k.toNat]!))], 47⟩] (iv 4) (iv (schemaErr s))
      -- leaf 6
      refine Tof.int ?_
      first | grind [schemaErr] | (have e : errFrom (colErr s.columns) 0 s.columns = colErr s.columns k s.columns[k.toNat]! := (by rw [hi, drop_step _ _ (by omega), errFrom]; grind [colErr, vKnown, okScale]); grind [schemaErr, colErr, vKnown, okScale]) | (rw [drop_end _ _ (by omega)] at hi; grind [schemaErr, errFrom])
    refine PV.skip (inBlockA_normal (inBlockA_normal (thenA_normal (hK14 _ ?_))))
    refine PV.regionN ?_
    refine PON.ops (aBin_add_in Try.prog [.live ⟨2, [(Schema.cells s)], 33⟩, .live ⟨4, [(Col.cells (s.columns[k.toNat]!))], 47⟩] 3 (.tmp 18) (.const (.int .i64 1)) .i64 k 1 (by rw [wrap64] <;> omega)) (by kernel_rfl) (by kernel_rfl) ?_
    refine PON.runs 1 (by kernel_rfl) ?_
    refine PON.norm ⟨(A :: po 0 :: A :: iv k :: po 1 :: A9 (A :: A :: .sF 4 (s.columns.map Col.cells) :: iv (s.columns.length : Int) :: iv (k + 1) :: bv (decide (k < (s.columns.length : Int))) :: iv k :: .pF (Col.cells (s.columns[k.toNat]!)) 0 :: .agg (Col.cells (s.columns[k.toNat]!)) :: bv (!(okName ((s.columns[k.toNat]!).name))) :: po 1 :: sv ((s.columns[k.toNat]!).name) :: bv (okName ((s.columns[k.toNat]!).name)) :: bv (!(okName ((s.columns[k.toNat]!).name))) :: bv (decide ((colIdx ((s.columns[k.toNat]!).name) s.columns 0) < k)) :: .agg (Schema.cells s) :: po 1 :: sv ((s.columns[k.toNat]!).name) :: iv (colIdx ((s.columns[k.toNat]!).name) s.columns 0) :: iv k :: bv (decide ((colIdx ((s.columns[k.toNat]!).name) s.columns 0) < k)) :: bv (decide ((((s.columns[k.toNat]!).type) < 1) ∨ (((s.columns[k.toNat]!).type) > 5))) :: A4 (A4 (bv (decide ((((s.columns[k.toNat]!).scale) < 0) ∨ ((((s.columns[k.toNat]!).scale) > 18) ∨ (¬(((s.columns[k.toNat]!).type) = 5) ∧ (¬(((s.columns[k.toNat]!).scale) = 0)))))) :: A9 (A9 (iv (k + 1) :: A9 ([A, A]))))))), [.live ⟨2, [(Schema.cells s)], 33⟩, .live ⟨4, [(Col.cells (s.columns[k.toNat]!))], 47⟩]⟩ (by kernel_rfl) ?_
    refine PON.fin rfl (thenA_normal ?_)
    refine ⟨[0], (k + 1), ⟨rfl, rfl, (.any (.cons (.pO _ _ rfl) (.a9 (.a4 (.any (.cons (.tree (by simp only [NIs_cons, NIs_nil, NIr_cons, NIr_nil, NI_v, NI_any, NI_pO, NI_sO, NI_pF, NI_sF, NI_agg, NI_tup, NI_fn, NIh_nil, NIh_live, NIh_dead, NIh_free, NIr_map, NIr_append, NIs_icells, NIs_scells, NIs_bcells, NIs_Val, NIs_Col, NIs_Schema, NIs_PNode, NIs_Src, NIr_Val, NIr_Col, NIr_ints, NIr_PNode]; try simp)) (.v (.v (.a9 (.a9 (.a9 (.a9 (.a9 (.a9 (.any (.any .nil)))))))))))))))), (.cons rfl (.tree (by simp only [NIs_cons, NIs_nil, NIr_cons, NIr_nil, NI_v, NI_any, NI_pO, NI_sO, NI_pF, NI_sF, NI_agg, NI_tup, NI_fn, NIh_nil, NIh_live, NIh_dead, NIh_free, NIr_map, NIr_append, NIs_icells, NIs_scells, NIs_bcells, NIs_Val, NIs_Col, NIs_Schema, NIs_PNode, NIs_Src, NIr_Val, NIr_Col, NIr_ints, NIr_PNode]; try simp)) .nil)⟩, ?_, ?_⟩
    · skip
      clear hret hK1 hK2 hK3 hK6 hK9 hK10 hK11 hK12 hK14 hK15 hK16 hK19 K0 K1 K2 K3 K6 K9 K10 K11 K12 K14 K15 K16 K19
      refine ⟨?_, ?_⟩
      · skip
        show 0 ≤ (k + 1) ∧ (k + 1) ≤ s.columns.length
        omega
      · skip
        show errFrom (colErr s.columns) 0 s.columns = errFrom (colErr s.columns) (k + 1) (s.columns.drop (k + 1).toNat)
        rw [drop_step _ _ (by omega)] at hi
        rw [hi, errFrom, if_pos (by grind [colErr, okScale, vKnown])]
    · skip
      clear hret hK1 hK2 hK3 hK6 hK9 hK10 hK11 hK12 hK14 hK15 hK16 hK19 K0 K1 K2 K3 K6 K9 K10 K11 K12 K14 K15 K16 K19
      show ((s.columns.length : Int) - (k + 1)).toNat < ((s.columns.length : Int) - k).toNat
      omega
  refine PV.exit (thenA_exit (thenA_exit (inBlockA_hit (thenA_normal (hK9 _ ?_)))))
  refine PV.seq_k fun K30 hK30 => ?_
  refine PV.norm ⟨(A :: po 0 :: A9 (A4 (A :: .sF 4 (s.columns.map Col.cells) :: iv (s.columns.length : Int) :: iv k :: bv (decide (k < (s.columns.length : Int))) :: A9 (A9 (A9 (A9 (A9 (A9 ([A]))))))))), [.live ⟨2, [(Schema.cells s)], 33⟩]⟩ (by kernel_rfl) ?_
  refine PV.seqR [0] ⟨(A :: po 0 :: A9 (A4 (A :: .sF 4 (s.columns.map Col.cells) :: iv (s.columns.length : Int) :: iv k :: bv (decide (k < (s.columns.length : Int))) :: A9 (A9 (A9 (A9 (A9 (A9 ([bv (decide ((s.key < 0) ∨ (s.key ≥ (s.columns.length : Int))))]))))))))), [.live ⟨2, [(Schema.cells s)], 33⟩]⟩ ?_ ?_
  · skip
    refine PV.regionN ?_
    refine PON.runs 4 (by kernel_rfl) ?_
    refine PON.norm ⟨(A :: po 0 :: A9 (A4 (A :: .sF 4 (s.columns.map Col.cells) :: iv (s.columns.length : Int) :: iv k :: bv (decide (k < (s.columns.length : Int))) :: A9 (A9 (A9 (A9 (A4 (A4 (.pO 0 0 1 :: iv s.key :: bv (decide (s.key < 0)) :: bv (decide (s.key < 0)) :: A4 ([A, A, A])))))))))), [.live ⟨2, [(Schema.cells s)], 33⟩]⟩ (by kernel_rfl) ?_
    refine PON.splitP (s.key < 0) 67 (decide (s.key < 0)) (A :: po 0 :: A9 (A4 (A :: .sF 4 (s.columns.map Col.cells) :: iv (s.columns.length : Int) :: iv k :: bv (decide (k < (s.columns.length : Int))) :: A9 (A9 (A9 (A9 (A4 (A4 (.pO 0 0 1 :: iv s.key :: bv (decide (s.key < 0)) :: bv true :: A4 ([A, A, A])))))))))) (A :: po 0 :: A9 (A4 (A :: .sF 4 (s.columns.map Col.cells) :: iv (s.columns.length : Int) :: iv k :: bv (decide (k < (s.columns.length : Int))) :: A9 (A9 (A9 (A9 (A4 (A4 (.pO 0 0 1 :: iv s.key :: bv (decide (s.key < 0)) :: bv false :: A4 ([A, A, A])))))))))) (by kernel_rfl) decide_eq_true decide_eq_false (by kernel_rfl) (by kernel_rfl) (fun h31 => ?_) (fun h31 => ?_)
    · skip
      refine PON.runs 7 (by kernel_rfl) ?_
      refine PON.norm ⟨(A :: po 0 :: A9 (A4 (A :: .sF 4 (s.columns.map Col.cells) :: iv (s.columns.length : Int) :: iv k :: bv (decide (k < (s.columns.length : Int))) :: A9 (A9 (A9 (A9 (A4 (A4 ([.pO 0 0 1, iv s.key, bv (decide (s.key < 0)), bv true, U, U, U, U, U, U, bv true]))))))))), [.live ⟨2, [(Schema.cells s)], 33⟩]⟩ (by kernel_rfl) ?_
      refine PON.fin rfl (thenA_normal ?_)
      exact ⟨rfl, rfl, (.any (.cons (.pO _ _ rfl) (.a9 (.a4 (.any (.cons (.tree (by simp only [NIs_cons, NIs_nil, NIr_cons, NIr_nil, NI_v, NI_any, NI_pO, NI_sO, NI_pF, NI_sF, NI_agg, NI_tup, NI_fn, NIh_nil, NIh_live, NIh_dead, NIh_free, NIr_map, NIr_append, NIs_icells, NIs_scells, NIs_bcells, NIs_Val, NIs_Col, NIs_Schema, NIs_PNode, NIs_Src, NIr_Val, NIr_Col, NIr_ints, NIr_PNode]; try simp)) (.v (.v (.v (.a9 (.a9 (.a9 (.a9 (.a9 (.a9 (.cons (.eq (.v _) (v_bool (by clear hret hK1 hK2 hK3 hK6 hK9 hK10 hK11 hK12 hK30 K0 K1 K2 K3 K6 K9 K10 K11 K12 K30; (try simp only [strEq_dec]); grind))) .nil)))))))))))))))), (.cons rfl (.tree (by simp only [NIs_cons, NIs_nil, NIr_cons, NIr_nil, NI_v, NI_any, NI_pO, NI_sO, NI_pF, NI_sF, NI_agg, NI_tup, NI_fn, NIh_nil, NIh_live, NIh_dead, NIh_free, NIr_map, NIr_append, NIs_icells, NIs_scells, NIs_bcells, NIs_Val, NIs_Col, NIs_Schema, NIs_PNode, NIs_Src, NIr_Val, NIr_Col, NIr_ints, NIr_PNode]; try simp)) .nil)⟩
    refine PON.runs 4 (by kernel_rfl) ?_
    refine PON.ops (aLen_map Try.prog [.live ⟨2, [(Schema.cells s)], 33⟩] 31 47 (by kernel_rfl) 4 Col.cells s.columns) (by kernel_rfl) (by kernel_rfl) ?_
    refine PON.runs 2 (by kernel_rfl) ?_
    refine PON.norm ⟨(A :: po 0 :: A9 (A4 (A :: .sF 4 (s.columns.map Col.cells) :: iv (s.columns.length : Int) :: iv k :: bv (decide (k < (s.columns.length : Int))) :: A9 (A9 (A9 (A9 (A4 (A4 ([.pO 0 0 1, iv s.key, bv (decide (s.key < 0)), bv false, .pO 0 0 1, iv s.key, po 0, .sF 4 (s.columns.map Col.cells), iv (s.columns.length : Int), bv (decide (s.key ≥ (s.columns.length : Int))), bv (decide (s.key ≥ (s.columns.length : Int)))]))))))))), [.live ⟨2, [(Schema.cells s)], 33⟩]⟩ (by kernel_rfl) ?_
    refine PON.fin rfl (thenA_normal ?_)
    exact ⟨rfl, rfl, (.any (.cons (.pO _ _ rfl) (.a9 (.a4 (.any (.cons (.tree (by simp only [NIs_cons, NIs_nil, NIr_cons, NIr_nil, NI_v, NI_any, NI_pO, NI_sO, NI_pF, NI_sF, NI_agg, NI_tup, NI_fn, NIh_nil, NIh_live, NIh_dead, NIh_free, NIr_map, NIr_append, NIs_icells, NIs_scells, NIs_bcells, NIs_Val, NIs_Col, NIs_Schema, NIs_PNode, NIs_Src, NIr_Val, NIr_Col, NIr_ints, NIr_PNode]; try simp)) (.v (.v (.v (.a9 (.a9 (.a9 (.a9 (.a9 (.a9 (.cons (.eq (.v _) (v_bool (by clear hret hK1 hK2 hK3 hK6 hK9 hK10 hK11 hK12 hK30 K0 K1 K2 K3 K6 K9 K10 K11 K12 K30; (try simp only [strEq_dec]); grind))) .nil)))))))))))))))), (.cons rfl (.tree (by simp only [NIs_cons, NIs_nil, NIr_cons, NIr_nil, NI_v, NI_any, NI_pO, NI_sO, NI_pF, NI_sF, NI_agg, NI_tup, NI_fn, NIh_nil, NIh_live, NIh_dead, NIh_free, NIr_map, NIr_append, NIs_icells, NIs_scells, NIs_bcells, NIs_Val, NIs_Col, NIs_Schema, NIs_PNode, NIs_Src, NIr_Val, NIr_Col, NIr_ints, NIr_PNode]; try simp)) .nil)⟩
  refine PV.condP ((s.key < 0) ∨ (s.key ≥ (s.columns.length : Int))) (decide ((s.key < 0) ∨ (s.key ≥ (s.columns.length : Int)))) (by kernel_rfl) decide_eq_true decide_eq_false (fun h32 => ?_) (fun h32 => ?_)
  · skip
    refine PV.seq_k fun K33 hK33 => ?_
    refine PV.regionN ?_
    refine PON.runs 1 (by kernel_rfl) ?_
    refine PON.fin rfl (thenA_normal (hK33 _ ?_))
    refine PV.norm ⟨(A :: po 0 :: iv 4 :: A9 (A4 (.sF 4 (s.columns.map Col.cells) :: iv (s.columns.length : Int) :: iv k :: bv (decide (k < (s.columns.length : Int))) :: A9 (A9 (A9 (A9 (A9 (A9 ([bv (decide ((s.key < 0) ∨ (s.key ≥ (s.columns.length : Int))))]))))))))), [.live ⟨2, [(Schema.cells s)], 33⟩]⟩ (by kernel_rfl) ?_
    refine PV.ret (thenA_ret (hret .ret _ (iv 4) (.inr rfl) (by kernel_rfl) ?_))
    clear hret hK1 hK2 hK3 hK6 hK9 hK10 hK11 hK12 hK30 hK33 K0 K1 K2 K3 K6 K9 K10 K11 K12 K30 K33
    show Tof noTau [.live ⟨2, [(Schema.cells s)], 33⟩] (iv 4) (iv (schemaErr s))
    -- leaf 7
    refine Tof.int ?_
    first | grind [schemaErr] | (have e : errFrom (colErr s.columns) 0 s.columns = colErr s.columns k s.columns[k.toNat]! := (by rw [hi, drop_step _ _ (by omega), errFrom]; grind [colErr, vKnown, okScale]); grind [schemaErr, colErr, vKnown, okScale]) | (rw [drop_end _ _ (by omega)] at hi; grind [schemaErr, errFrom])
  refine PV.skip (thenA_normal (hK30 _ ?_))
  refine PV.seq_k fun K34 hK34 => ?_
  refine PV.regionN ?_
  refine PON.runs 1 (by kernel_rfl) ?_
  refine PON.fin rfl (thenA_normal (hK34 _ ?_))
  refine PV.norm ⟨(A :: po 0 :: iv 0 :: A9 (A4 (.sF 4 (s.columns.map Col.cells) :: iv (s.columns.length : Int) :: iv k :: bv (decide (k < (s.columns.length : Int))) :: A9 (A9 (A9 (A9 (A9 (A9 ([bv (decide ((s.key < 0) ∨ (s.key ≥ (s.columns.length : Int))))]))))))))), [.live ⟨2, [(Schema.cells s)], 33⟩]⟩ (by kernel_rfl) ?_
  refine PV.ret (hret .ret _ (iv 0) (.inr rfl) (by kernel_rfl) ?_)
  clear hret hK1 hK2 hK3 hK6 hK9 hK10 hK11 hK12 hK30 hK34 K0 K1 K2 K3 K6 K9 K10 K11 K12 K30 K34
  show Tof noTau [.live ⟨2, [(Schema.cells s)], 33⟩] (iv 0) (iv (schemaErr s))
  -- leaf 8
  refine Tof.int ?_
  first | grind [schemaErr] | (have e : errFrom (colErr s.columns) 0 s.columns = colErr s.columns k s.columns[k.toNat]! := (by rw [hi, drop_step _ _ (by omega), errFrom]; grind [colErr, vKnown, okScale]); grind [schemaErr, colErr, vKnown, okScale]) | (rw [drop_end _ _ (by omega)] at hi; grind [schemaErr, errFrom])
theorem schema_ok (s : Schema) : PCX Try.prog 29 [.agg (Schema.cells s)] [] [] (iv (schemaErr s)) :=
  PCX.frame (by simp only [NIs_cons, NIs_nil, NIr_cons, NIr_nil, NI_v, NI_any, NI_pO, NI_sO, NI_pF, NI_sF, NI_agg, NI_tup, NI_fn, NIh_nil, NIh_live, NIh_dead, NIh_free, NIr_map, NIr_append, NIs_icells, NIs_scells, NIs_bcells, NIs_Val, NIs_Col, NIs_Schema, NIs_PNode, NIs_Src, NIr_Val, NIr_Col, NIr_ints, NIr_PNode]; try simp) (schema_ok_walk s)


theorem colIdx_found {name : ByteArray} {l : List Col} {k : Int} (j : Nat) (hj : j < k.toNat) (hl : k.toNat < l.length) (h : l[j]!.name = name) : colIdx name l 0 < k := by
  rcases idxFrom_spec (fun c : Col => strEq c.name name) l 0 with ⟨h1, h2⟩ | ⟨i, h1, h2, h3, h4⟩
  · have := h2 j (by omega); rw [str_tt h] at this; cases this
  · rw [colIdx, h2]
    by_cases q : j < i
    · have := h4 j q; rw [str_tt h] at this; cases this
    · omega
theorem colIdx_none {name : ByteArray} {l : List Col} {k : Int} (hk : 0 ≤ k ∧ k < l.length) (hn : l[k.toNat]!.name = name) (h : ∀ j : Nat, j < k.toNat → ¬ l[j]!.name = name) : ¬ colIdx name l 0 < k := by
  rcases idxFrom_spec (fun c : Col => strEq c.name name) l 0 with ⟨h1, h2⟩ | ⟨i, h1, h2, h3, h4⟩
  · have := h2 k.toNat (by omega); rw [str_tt hn] at this; cases this
  · rw [colIdx, h2]
    intro q
    rw [str_ff (h i (by omega))] at h3; cases h3

set_option maxHeartbeats 4000000 in
theorem rschema_ok_walk (s : Schema) : PC Try.prog 31 [.agg (Schema.cells s)] [] (fun yR kR => Tof noTau kR yR (iv (schemaErr s))) := by
  refine PC.of_bodyV Try.func31 rfl (.agg (Schema.cells s) :: U9 (U9 (U9 (U9 (U9 (U9 (U9 (U9 ([U, U, U]))))))))) (by kernel_rfl) (fun K0 hret => ?_)
  refine PV.seq_k fun K1 hK1 => ?_
  refine PV.regionN ?_
  refine PON.runs 2 (by kernel_rfl) ?_
  refine PON.fin rfl (thenA_normal (hK1 _ ?_))
  refine PV.seq_k fun K2 hK2 => ?_
  refine PV.seq_k fun K3 hK3 => ?_
  refine PV.regionN ?_
  refine PON.runs 2 (by kernel_rfl) ?_
  refine PON.ops (aLen_map Try.prog [.live ⟨2, [(Schema.cells s)], 33⟩] 31 47 (by kernel_rfl) 4 Col.cells s.columns) (by kernel_rfl) (by kernel_rfl) ?_
  refine PON.runs 1 (by kernel_rfl) ?_
  refine PON.fin rfl (thenA_normal (hK3 _ ?_))
  refine PV.condP ((s.columns.length : Int) = 0) (decide ((s.columns.length : Int) = 0)) (by kernel_rfl) decide_eq_true decide_eq_false (fun h4 => ?_) (fun h4 => ?_)
  · skip
    refine PV.seq_k fun K5 hK5 => ?_
    refine PV.regionN ?_
    refine PON.runs 1 (by kernel_rfl) ?_
    refine PON.fin rfl (thenA_normal (hK5 _ ?_))
    refine PV.norm ⟨(.agg (Schema.cells s) :: po 0 :: iv 1 :: U :: U :: U :: U :: po 0 :: .sF 4 (s.columns.map Col.cells) :: iv (s.columns.length : Int) :: bv (decide ((s.columns.length : Int) = 0)) :: U9 (U9 (U9 (U9 (U9 (U9 (U9 ([U, U])))))))), [.live ⟨2, [(Schema.cells s)], 33⟩]⟩ (by kernel_rfl) ?_
    refine PV.ret (thenA_ret (hret .ret _ (iv 1) (.inr rfl) (by kernel_rfl) ?_))
    clear hret hK1 hK2 hK3 hK5 K0 K1 K2 K3 K5
    show Tof noTau [.live ⟨2, [(Schema.cells s)], 33⟩] (iv 1) (iv (schemaErr s))
    -- leaf 1
    refine Tof.int ?_
    first | grind [schemaErr] | (have e : errFrom (colErr s.columns) 0 s.columns = colErr s.columns k s.columns[k.toNat]! := (by rw [hi, drop_step _ _ (by omega), errFrom]; grind [colErr, vKnown, okScale]); grind [schemaErr, colErr, vKnown, okScale]) | (rw [drop_end _ _ (by omega)] at hi; grind [schemaErr, errFrom])
  refine PV.skip (thenA_normal (hK2 _ ?_))
  refine PV.seq_k fun K6 hK6 => ?_
  refine PV.seq_k fun K7 hK7 => ?_
  refine PV.regionN ?_
  refine PON.runs 2 (by kernel_rfl) ?_
  refine PON.ops (aLen_map Try.prog [.live ⟨2, [(Schema.cells s)], 33⟩] 31 47 (by kernel_rfl) 4 Col.cells s.columns) (by kernel_rfl) (by kernel_rfl) ?_
  refine PON.runs 1 (by kernel_rfl) ?_
  refine PON.fin rfl (thenA_normal (hK7 _ ?_))
  refine PV.condP ((s.columns.length : Int) > 12) (decide ((s.columns.length : Int) > 12)) (by kernel_rfl) decide_eq_true decide_eq_false (fun h8 => ?_) (fun h8 => ?_)
  · skip
    refine PV.seq_k fun K9 hK9 => ?_
    refine PV.regionN ?_
    refine PON.runs 1 (by kernel_rfl) ?_
    refine PON.fin rfl (thenA_normal (hK9 _ ?_))
    refine PV.norm ⟨(.agg (Schema.cells s) :: po 0 :: iv 7 :: U :: U :: U :: U :: po 0 :: .sF 4 (s.columns.map Col.cells) :: iv (s.columns.length : Int) :: bv (decide ((s.columns.length : Int) = 0)) :: po 0 :: .sF 4 (s.columns.map Col.cells) :: iv (s.columns.length : Int) :: bv (decide ((s.columns.length : Int) > 12)) :: U9 (U9 (U9 (U9 (U9 (U9 ([U, U, U, U, U, U, U]))))))), [.live ⟨2, [(Schema.cells s)], 33⟩]⟩ (by kernel_rfl) ?_
    refine PV.ret (thenA_ret (hret .ret _ (iv 7) (.inr rfl) (by kernel_rfl) ?_))
    clear hret hK1 hK2 hK3 hK6 hK7 hK9 K0 K1 K2 K3 K6 K7 K9
    show Tof noTau [.live ⟨2, [(Schema.cells s)], 33⟩] (iv 7) (iv (schemaErr s))
    -- leaf 2
    refine Tof.int ?_
    first | grind [schemaErr] | (have e : errFrom (colErr s.columns) 0 s.columns = colErr s.columns k s.columns[k.toNat]! := (by rw [hi, drop_step _ _ (by omega), errFrom]; grind [colErr, vKnown, okScale]); grind [schemaErr, colErr, vKnown, okScale]) | (rw [drop_end _ _ (by omega)] at hi; grind [schemaErr, errFrom])
  refine PV.skip (thenA_normal (hK6 _ ?_))
  refine PV.seq_k fun K10 hK10 => ?_
  refine PV.seq_k fun K11 hK11 => ?_
  refine PV.regionN ?_
  refine PON.runs 2 (by kernel_rfl) ?_
  refine PON.ops (aLen_map Try.prog [.live ⟨2, [(Schema.cells s)], 33⟩] 31 47 (by kernel_rfl) 4 Col.cells s.columns) (by kernel_rfl) (by kernel_rfl) ?_
  refine PON.runs 1 (by kernel_rfl) ?_
  refine PON.fin rfl (thenA_normal (hK11 _ ?_))
  refine PV.block ?_
  refine PV.norm ⟨(.agg (Schema.cells s) :: po 0 :: iv 0 :: U :: U :: U :: U :: po 0 :: .sF 4 (s.columns.map Col.cells) :: iv (s.columns.length : Int) :: bv (decide ((s.columns.length : Int) = 0)) :: po 0 :: .sF 4 (s.columns.map Col.cells) :: iv (s.columns.length : Int) :: bv (decide ((s.columns.length : Int) > 12)) :: po 0 :: .sF 4 (s.columns.map Col.cells) :: iv (s.columns.length : Int) :: iv 0 :: U9 (U9 (U9 (U9 (U9 (U9 ([U, U, U]))))))), [.live ⟨2, [(Schema.cells s)], 33⟩]⟩ (by kernel_rfl) ?_
  refine PV.loopR (α := Int) (fun xL => let k := xL; (⟨(A :: po 0 :: A9 (A4 (A :: .sF 4 (s.columns.map Col.cells) :: iv (s.columns.length : Int) :: iv k :: A9 (A9 (A9 (A9 (A9 (A9 ([A, A, A]))))))))), [.live ⟨2, [(Schema.cells s)], 33⟩]⟩ : St)) (fun xL => let k := xL; (0 ≤ k ∧ k ≤ s.columns.length) ∧ (errFrom (colErr s.columns) 0 s.columns = errFrom (colErr s.columns) k (s.columns.drop k.toNat))) (fun xL => let k := xL; ((s.columns.length : Int) - k).toNat) [0] (0 : Int) ⟨rfl, rfl, (.any (.cons (.pO _ _ rfl) (.a9 (.a4 (.any (.cons (.tree (by simp only [NIs_cons, NIs_nil, NIr_cons, NIr_nil, NI_v, NI_any, NI_pO, NI_sO, NI_pF, NI_sF, NI_agg, NI_tup, NI_fn, NIh_nil, NIh_live, NIh_dead, NIh_free, NIr_map, NIr_append, NIs_icells, NIs_scells, NIs_bcells, NIs_Val, NIs_Col, NIs_Schema, NIs_PNode, NIs_Src, NIr_Val, NIr_Col, NIr_ints, NIr_PNode]; try simp)) (.v (.v (.a9 (.a9 (.a9 (.a9 (.a9 (.a9 (.any (.any (.any .nil))))))))))))))))), (.cons rfl (.tree (by simp only [NIs_cons, NIs_nil, NIr_cons, NIr_nil, NI_v, NI_any, NI_pO, NI_sO, NI_pF, NI_sF, NI_agg, NI_tup, NI_fn, NIh_nil, NIh_live, NIh_dead, NIh_free, NIr_map, NIr_append, NIs_icells, NIs_scells, NIs_bcells, NIs_Val, NIs_Col, NIs_Schema, NIs_PNode, NIs_Src, NIr_Val, NIr_Col, NIr_ints, NIr_PNode]; try simp)) .nil)⟩ ?_ ?_
  · skip
    clear hret hK1 hK2 hK3 hK6 hK7 hK10 hK11 K0 K1 K2 K3 K6 K7 K10 K11
    refine ⟨?_, ?_⟩
    · skip
      show 0 ≤ (0 : Int) ∧ (0 : Int) ≤ s.columns.length
      simp
    · skip
      show errFrom (colErr s.columns) 0 s.columns = errFrom (colErr s.columns) (0 : Int) (s.columns.drop (0 : Int).toNat)
      simp
  rintro k hJ
  change (0 ≤ k ∧ k ≤ s.columns.length) ∧ (errFrom (colErr s.columns) 0 s.columns = errFrom (colErr s.columns) k (s.columns.drop k.toNat)) at hJ
  obtain ⟨hk, hi⟩ := hJ
  show PV _ Try.prog _ ⟨(A :: po 0 :: A9 (A4 (A :: .sF 4 (s.columns.map Col.cells) :: iv (s.columns.length : Int) :: iv k :: A9 (A9 (A9 (A9 (A9 (A9 ([A, A, A]))))))))), [.live ⟨2, [(Schema.cells s)], 33⟩]⟩ _
  refine PV.seq_k fun K12 hK12 => ?_
  refine PV.regionN ?_
  refine PON.runs 1 (by kernel_rfl) ?_
  refine PON.fin rfl (thenA_normal (hK12 _ ?_))
  refine PV.seq_k fun K13 hK13 => ?_
  refine PV.condP (k < (s.columns.length : Int)) (decide (k < (s.columns.length : Int))) (by kernel_rfl) decide_eq_true decide_eq_false (fun h14 => ?_) (fun h14 => ?_)
  · skip
    refine PV.skip (thenA_normal (hK13 _ ?_))
    refine PV.seq_k fun K15 hK15 => ?_
    refine PV.block ?_
    refine PV.seq_k fun K16 hK16 => ?_
    refine PV.regionN ?_
    refine PON.runs 1 (by kernel_rfl) ?_
    refine PON.ops (aIndexAddr_map Try.prog [.live ⟨2, [(Schema.cells s)], 33⟩] 31 47 4 Col.cells (by kernel_rfl) (by kernel_rfl) s.columns .i64 k (by first | omega | (have := size_pos_of_ne (by assumption); omega))) (by kernel_rfl) (by kernel_rfl) ?_
    refine PON.runs 4 (by kernel_rfl) ?_
    refine PON.fin rfl (thenA_normal (hK16 _ ?_))
    refine PV.seq_k fun K17 hK17 => ?_
    refine PV.seq_k fun K18 hK18 => ?_
    refine PV.regionN ?_
    refine PON.runs 2 (by kernel_rfl) ?_
    refine PON.call 50 [sv ((s.columns[k.toNat]!).name)] (some 25) (pre := []) (post := []) (x := bv (okName ((s.columns[k.toNat]!).name))) _ (by kernel_rfl) (rname_ok ((s.columns[k.toNat]!).name)) trivial rfl ?_
    refine PON.runs 1 (by kernel_rfl) ?_
    refine PON.fin rfl (thenA_normal (hK18 _ ?_))
    refine PV.condN ((okName ((s.columns[k.toNat]!).name)) = true) (!(okName ((s.columns[k.toNat]!).name))) (by kernel_rfl) (fun h => bnot_t ((fun h => h) h)) (fun h => bnot_f (bool_ff h)) (fun h19 => ?_) (fun h19 => ?_)
    · skip
      refine PV.seq_k fun K20 hK20 => ?_
      refine PV.regionN ?_
      refine PON.runs 1 (by kernel_rfl) ?_
      refine PON.fin rfl (thenA_normal (hK20 _ ?_))
      refine PV.norm ⟨(A :: po 0 :: iv 3 :: iv k :: po 1 :: A9 (A :: A :: .sF 4 (s.columns.map Col.cells) :: iv (s.columns.length : Int) :: iv k :: bv (decide (k < (s.columns.length : Int))) :: iv k :: .pF (Col.cells (s.columns[k.toNat]!)) 0 :: .agg (Col.cells (s.columns[k.toNat]!)) :: po 1 :: sv ((s.columns[k.toNat]!).name) :: bv (okName ((s.columns[k.toNat]!).name)) :: bv (!(okName ((s.columns[k.toNat]!).name))) :: A9 (A9 (A9 (A9 (A9 (A4 ([])))))))), [.live ⟨2, [(Schema.cells s)], 33⟩, .live ⟨4, [(Col.cells (s.columns[k.toNat]!))], 47⟩]⟩ (by kernel_rfl) ?_
      refine PV.ret (thenA_ret (inBlockA_ret (thenA_ret (thenA_ret (inBlockA_ret (thenA_ret (hret .ret _ (iv 3) (.inr rfl) (by kernel_rfl) ?_)))))))
      clear hret hK1 hK2 hK3 hK6 hK7 hK10 hK11 hK12 hK13 hK15 hK16 hK17 hK18 hK20 K0 K1 K2 K3 K6 K7 K10 K11 K12 K13 K15 K16 K17 K18 K20
      show Tof noTau [.live ⟨2, [(Schema.cells s)], 33⟩, .live ⟨4, [(Col.cells (s.columns[k.toNat]!))], 47⟩] (iv 3) (iv (schemaErr s))
      -- leaf 3
      refine Tof.int ?_
      first | grind [schemaErr] | (have e : errFrom (colErr s.columns) 0 s.columns = colErr s.columns k s.columns[k.toNat]! := (by rw [hi, drop_step _ _ (by omega), errFrom]; grind [colErr, vKnown, okScale]); grind [schemaErr, colErr, vKnown, okScale]) | (rw [drop_end _ _ (by omega)] at hi; grind [schemaErr, errFrom])
    refine PV.skip (thenA_normal (hK17 _ ?_))
    refine PV.seq_k fun K21 hK21 => ?_
    refine PV.seq_k fun K22 hK22 => ?_
    refine PV.regionN ?_
    refine PON.runs 3 (by kernel_rfl) ?_
    refine PON.ops (aSlice_hi Try.prog [.live ⟨2, [(Schema.cells s)], 33⟩, .live ⟨4, [(Col.cells (s.columns[k.toNat]!))], 47⟩] 31 47 4 Col.cells (by kernel_rfl) (by kernel_rfl) s.columns .i64 k (by first | omega | (have := size_pos_of_ne (by assumption); omega))) (by kernel_rfl) (by kernel_rfl) ?_
    refine PON.ops (aLen_map Try.prog [.live ⟨2, [(Schema.cells s)], 33⟩, .live ⟨4, [(Col.cells (s.columns[k.toNat]!))], 47⟩] 31 47 (by kernel_rfl) 4 Col.cells (s.columns.take k.toNat)) (by kernel_rfl) (by kernel_rfl) ?_
    refine PON.runs 1 (by kernel_rfl) ?_
    refine PON.fin rfl (thenA_normal (hK22 _ ?_))
    refine PV.block ?_
    refine PV.norm ⟨(A :: po 0 :: A :: iv k :: po 1 :: A9 (A :: A :: .sF 4 (s.columns.map Col.cells) :: iv (s.columns.length : Int) :: iv k :: bv (decide (k < (s.columns.length : Int))) :: iv k :: .pF (Col.cells (s.columns[k.toNat]!)) 0 :: .agg (Col.cells (s.columns[k.toNat]!)) :: po 1 :: sv ((s.columns[k.toNat]!).name) :: bv (okName ((s.columns[k.toNat]!).name)) :: bv (!(okName ((s.columns[k.toNat]!).name))) :: po 0 :: .sF 4 (s.columns.map Col.cells) :: iv k :: .sF 4 ((s.columns.take k.toNat).map Col.cells) :: iv ((s.columns.take k.toNat).length : Int) :: iv 0 :: A9 (A9 (A9 (A9 (A4 ([A, A, A]))))))), [.live ⟨2, [(Schema.cells s)], 33⟩, .live ⟨4, [(Col.cells (s.columns[k.toNat]!))], 47⟩]⟩ (by kernel_rfl) ?_
    refine PV.loopR (α := Int) (fun xL => let j := xL; (⟨(A :: po 0 :: A :: iv k :: po 1 :: A9 (A :: A :: .sF 4 (s.columns.map Col.cells) :: iv (s.columns.length : Int) :: iv k :: bv (decide (k < (s.columns.length : Int))) :: iv k :: .pF (Col.cells (s.columns[k.toNat]!)) 0 :: .agg (Col.cells (s.columns[k.toNat]!)) :: po 1 :: sv ((s.columns[k.toNat]!).name) :: bv (okName ((s.columns[k.toNat]!).name)) :: bv (!(okName ((s.columns[k.toNat]!).name))) :: po 0 :: .sF 4 (s.columns.map Col.cells) :: iv k :: .sF 4 ((s.columns.take k.toNat).map Col.cells) :: iv ((s.columns.take k.toNat).length : Int) :: iv j :: A9 (A9 (A9 (A9 (A4 ([A, A, A]))))))), [.live ⟨2, [(Schema.cells s)], 33⟩, .live ⟨4, [(Col.cells (s.columns[k.toNat]!))], 47⟩]⟩ : St)) (fun xL => let j := xL; (0 ≤ j ∧ j ≤ k) ∧ (∀ i : Nat, i < j.toNat → ¬ s.columns[i]!.name = s.columns[k.toNat]!.name)) (fun xL => let j := xL; (k - j).toNat) [0, 1] (0 : Int) ⟨rfl, rfl, (.any (.cons (.pO _ _ rfl) (.any (.v (.cons (.pO _ _ rfl) (.a9 (.any (.any (.cons (.tree (by simp only [NIs_cons, NIs_nil, NIr_cons, NIr_nil, NI_v, NI_any, NI_pO, NI_sO, NI_pF, NI_sF, NI_agg, NI_tup, NI_fn, NIh_nil, NIh_live, NIh_dead, NIh_free, NIr_map, NIr_append, NIs_icells, NIs_scells, NIs_bcells, NIs_Val, NIs_Col, NIs_Schema, NIs_PNode, NIs_Src, NIr_Val, NIr_Col, NIr_ints, NIr_PNode]; try simp)) (.v (.v (.v (.v (.cons (.tree (by simp only [NIs_cons, NIs_nil, NIr_cons, NIr_nil, NI_v, NI_any, NI_pO, NI_sO, NI_pF, NI_sF, NI_agg, NI_tup, NI_fn, NIh_nil, NIh_live, NIh_dead, NIh_free, NIr_map, NIr_append, NIs_icells, NIs_scells, NIs_bcells, NIs_Val, NIs_Col, NIs_Schema, NIs_PNode, NIs_Src, NIr_Val, NIr_Col, NIr_ints, NIr_PNode]; try simp)) (.cons (.tree (by simp only [NIs_cons, NIs_nil, NIr_cons, NIr_nil, NI_v, NI_any, NI_pO, NI_sO, NI_pF, NI_sF, NI_agg, NI_tup, NI_fn, NIh_nil, NIh_live, NIh_dead, NIh_free, NIr_map, NIr_append, NIs_icells, NIs_scells, NIs_bcells, NIs_Val, NIs_Col, NIs_Schema, NIs_PNode, NIs_Src, NIr_Val, NIr_Col, NIr_ints, NIr_PNode]; try simp)) (.cons (.pO _ _ rfl) (.v (.v (.v (.cons (.pO _ _ rfl) (.cons (.tree (by simp only [NIs_cons, NIs_nil, NIr_cons, NIr_nil, NI_v, NI_any, NI_pO, NI_sO, NI_pF, NI_sF, NI_agg, NI_tup, NI_fn, NIh_nil, NIh_live, NIh_dead, NIh_free, NIr_map, NIr_append, NIs_icells, NIs_scells, NIs_bcells, NIs_Val, NIs_Col, NIs_Schema, NIs_PNode, NIs_Src, NIr_Val, NIr_Col, NIr_ints, NIr_PNode]; try simp)) (.v (.cons (.tree (by simp only [NIs_cons, NIs_nil, NIr_cons, NIr_nil, NI_v, NI_any, NI_pO, NI_sO, NI_pF, NI_sF, NI_agg, NI_tup, NI_fn, NIh_nil, NIh_live, NIh_dead, NIh_free, NIr_map, NIr_append, NIs_icells, NIs_scells, NIs_bcells, NIs_Val, NIs_Col, NIs_Schema, NIs_PNode, NIs_Src, NIr_Val, NIr_Col, NIr_ints, NIr_PNode]; try simp)) (.v (.v (.a9 (.a9 (.a9 (.a9 (.a4 (.any (.any (.any .nil))))))))))))))))))))))))))))))))), (.cons rfl (.tree (by simp only [NIs_cons, NIs_nil, NIr_cons, NIr_nil, NI_v, NI_any, NI_pO, NI_sO, NI_pF, NI_sF, NI_agg, NI_tup, NI_fn, NIh_nil, NIh_live, NIh_dead, NIh_free, NIr_map, NIr_append, NIs_icells, NIs_scells, NIs_bcells, NIs_Val, NIs_Col, NIs_Schema, NIs_PNode, NIs_Src, NIr_Val, NIr_Col, NIr_ints, NIr_PNode]; try simp)) (.cons rfl (.tree (by simp only [NIs_cons, NIs_nil, NIr_cons, NIr_nil, NI_v, NI_any, NI_pO, NI_sO, NI_pF, NI_sF, NI_agg, NI_tup, NI_fn, NIh_nil, NIh_live, NIh_dead, NIh_free, NIr_map, NIr_append, NIs_icells, NIs_scells, NIs_bcells, NIs_Val, NIs_Col, NIs_Schema, NIs_PNode, NIs_Src, NIr_Val, NIr_Col, NIr_ints, NIr_PNode]; try simp)) .nil))⟩ ?_ ?_
    · skip
      clear hret hK1 hK2 hK3 hK6 hK7 hK10 hK11 hK12 hK13 hK15 hK16 hK17 hK18 hK21 hK22 K0 K1 K2 K3 K6 K7 K10 K11 K12 K13 K15 K16 K17 K18 K21 K22
      refine ⟨?_, ?_⟩
      · skip
        show 0 ≤ (0 : Int) ∧ (0 : Int) ≤ k
        omega
      · skip
        show ∀ i : Nat, i < (0 : Int).toNat → ¬ s.columns[i]!.name = s.columns[k.toNat]!.name
        intro i hi; simp at hi
    rintro j hJ
    change (0 ≤ j ∧ j ≤ k) ∧ (∀ i : Nat, i < j.toNat → ¬ s.columns[i]!.name = s.columns[k.toNat]!.name) at hJ
    obtain ⟨hj, hd⟩ := hJ
    show PV _ Try.prog _ ⟨(A :: po 0 :: A :: iv k :: po 1 :: A9 (A :: A :: .sF 4 (s.columns.map Col.cells) :: iv (s.columns.length : Int) :: iv k :: bv (decide (k < (s.columns.length : Int))) :: iv k :: .pF (Col.cells (s.columns[k.toNat]!)) 0 :: .agg (Col.cells (s.columns[k.toNat]!)) :: po 1 :: sv ((s.columns[k.toNat]!).name) :: bv (okName ((s.columns[k.toNat]!).name)) :: bv (!(okName ((s.columns[k.toNat]!).name))) :: po 0 :: .sF 4 (s.columns.map Col.cells) :: iv k :: .sF 4 ((s.columns.take k.toNat).map Col.cells) :: iv ((s.columns.take k.toNat).length : Int) :: iv j :: A9 (A9 (A9 (A9 (A4 ([A, A, A]))))))), [.live ⟨2, [(Schema.cells s)], 33⟩, .live ⟨4, [(Col.cells (s.columns[k.toNat]!))], 47⟩]⟩ _
    refine PV.seq_k fun K23 hK23 => ?_
    refine PV.regionN ?_
    refine PON.runs 1 (by kernel_rfl) ?_
    refine PON.fin rfl (thenA_normal (hK23 _ ?_))
    refine PV.seq_k fun K24 hK24 => ?_
    refine PV.condP (j < ((s.columns.take k.toNat).length : Int)) (decide (j < ((s.columns.take k.toNat).length : Int))) (by kernel_rfl) decide_eq_true decide_eq_false (fun h25 => ?_) (fun h25 => ?_)
    · skip
      have hjk : j < k := by rw [List.length_take] at h25; omega
      refine PV.skip (thenA_normal (hK24 _ ?_))
      refine PV.seq_k fun K26 hK26 => ?_
      refine PV.block ?_
      refine PV.seq_k fun K27 hK27 => ?_
      refine PV.regionN ?_
      refine PON.ops (aIndexAddr_map Try.prog [.live ⟨2, [(Schema.cells s)], 33⟩, .live ⟨4, [(Col.cells (s.columns[k.toNat]!))], 47⟩] 31 47 4 Col.cells (by kernel_rfl) (by kernel_rfl) (s.columns.take k.toNat) .i64 j (by first | omega | (have := size_pos_of_ne (by assumption); omega))) (by kernel_rfl) (by kernel_rfl) ?_
      refine PON.runs 3 (by kernel_rfl) ?_
      refine PON.fin rfl (thenA_normal (hK27 _ ?_))
      refine PV.seq_k fun K28 hK28 => ?_
      refine PV.regionN ?_
      refine PON.runs 5 (by kernel_rfl) ?_
      refine PON.fin rfl (thenA_normal (hK28 _ ?_))
      refine PV.condP ((((s.columns.take k.toNat)[j.toNat]!).name) = ((s.columns[k.toNat]!).name)) (strEq (((s.columns.take k.toNat)[j.toNat]!).name) ((s.columns[k.toNat]!).name)) (by kernel_rfl) str_tt str_ff (fun h29 => ?_) (fun h29 => ?_)
      · skip
        rw [getElem!_take s.columns k.toNat j.toNat (by omega)] at h29
        have hcol := colIdx_found (l := s.columns) (k := k) j.toNat (by omega) (by omega) h29
        refine PV.seq_k fun K30 hK30 => ?_
        refine PV.regionN ?_
        refine PON.runs 1 (by kernel_rfl) ?_
        refine PON.fin rfl (thenA_normal (hK30 _ ?_))
        refine PV.norm ⟨(A :: po 0 :: iv 5 :: iv k :: po 1 :: A :: po 2 :: A9 (.sF 4 (s.columns.map Col.cells) :: iv (s.columns.length : Int) :: iv k :: bv (decide (k < (s.columns.length : Int))) :: iv k :: .pF (Col.cells (s.columns[k.toNat]!)) 0 :: .agg (Col.cells (s.columns[k.toNat]!)) :: po 1 :: sv ((s.columns[k.toNat]!).name) :: bv (okName ((s.columns[k.toNat]!).name)) :: bv (!(okName ((s.columns[k.toNat]!).name))) :: po 0 :: .sF 4 (s.columns.map Col.cells) :: iv k :: .sF 4 ((s.columns.take k.toNat).map Col.cells) :: iv ((s.columns.take k.toNat).length : Int) :: iv j :: bv (decide (j < ((s.columns.take k.toNat).length : Int))) :: .pF (Col.cells ((s.columns.take k.toNat)[j.toNat]!)) 0 :: .agg (Col.cells ((s.columns.take k.toNat)[j.toNat]!)) :: po 2 :: sv (((s.columns.take k.toNat)[j.toNat]!).name) :: po 1 :: sv ((s.columns[k.toNat]!).name) :: bv (strEq (((s.columns.take k.toNat)[j.toNat]!).name) ((s.columns[k.toNat]!).name)) :: A9 (A9 (A9 (A4 (A4 ([]))))))), [.live ⟨2, [(Schema.cells s)], 33⟩, .live ⟨4, [(Col.cells (s.columns[k.toNat]!))], 47⟩, .live ⟨4, [(Col.cells ((s.columns.take k.toNat)[j.toNat]!))], 47⟩]⟩ (by kernel_rfl) ?_
        refine PV.ret (inBlockA_ret (thenA_ret (thenA_ret (inBlockA_ret (thenA_ret (inBlockA_ret (thenA_ret (thenA_ret (inBlockA_ret (thenA_ret (hret .ret _ (iv 5) (.inr rfl) (by kernel_rfl) ?_)))))))))))
        clear hret hK1 hK2 hK3 hK6 hK7 hK10 hK11 hK12 hK13 hK15 hK16 hK17 hK18 hK21 hK22 hK23 hK24 hK26 hK27 hK28 hK30 K0 K1 K2 K3 K6 K7 K10 K11 K12 K13 K15 K16 K17 K18 K21 K22 K23 K24 K26 K27 K28 K30
        show Tof noTau [.live ⟨2, [(Schema.cells s)], 33⟩, .live ⟨4, [(Col.cells (s.columns[k.toNat]!))], 47⟩, .live ⟨4, [(Col.cells ((s.columns.take k.toNat)[j.toNat]!))], 47⟩] (iv 5) (iv (schemaErr s))
        -- leaf 4
        refine Tof.int ?_
        first | grind [schemaErr] | (have e : errFrom (colErr s.columns) 0 s.columns = colErr s.columns k s.columns[k.toNat]! := (by rw [hi, drop_step _ _ (by omega), errFrom]; grind [colErr, vKnown, okScale]); grind [schemaErr, colErr, vKnown, okScale]) | (rw [drop_end _ _ (by omega)] at hi; grind [schemaErr, errFrom])
      have hne := h29
      rw [getElem!_take s.columns k.toNat j.toNat (by omega)] at hne
      refine PV.skip (inBlockA_normal (thenA_normal (hK26 _ ?_)))
      refine PV.regionN ?_
      refine PON.ops (aBin_add_in Try.prog [.live ⟨2, [(Schema.cells s)], 33⟩, .live ⟨4, [(Col.cells (s.columns[k.toNat]!))], 47⟩, .live ⟨4, [(Col.cells ((s.columns.take k.toNat)[j.toNat]!))], 47⟩] 3 (.tmp 32) (.const (.int .i64 1)) .i64 j 1 (by rw [wrap64] <;> omega)) (by kernel_rfl) (by kernel_rfl) ?_
      refine PON.runs 1 (by kernel_rfl) ?_
      refine PON.norm ⟨(A :: po 0 :: A :: iv k :: po 1 :: A :: po 2 :: A9 (.sF 4 (s.columns.map Col.cells) :: iv (s.columns.length : Int) :: iv k :: bv (decide (k < (s.columns.length : Int))) :: iv k :: .pF (Col.cells (s.columns[k.toNat]!)) 0 :: .agg (Col.cells (s.columns[k.toNat]!)) :: po 1 :: sv ((s.columns[k.toNat]!).name) :: bv (okName ((s.columns[k.toNat]!).name)) :: bv (!(okName ((s.columns[k.toNat]!).name))) :: po 0 :: .sF 4 (s.columns.map Col.cells) :: iv k :: .sF 4 ((s.columns.take k.toNat).map Col.cells) :: iv ((s.columns.take k.toNat).length : Int) :: iv (j + 1) :: bv (decide (j < ((s.columns.take k.toNat).length : Int))) :: .pF (Col.cells ((s.columns.take k.toNat)[j.toNat]!)) 0 :: .agg (Col.cells ((s.columns.take k.toNat)[j.toNat]!)) :: po 2 :: sv (((s.columns.take k.toNat)[j.toNat]!).name) :: po 1 :: sv ((s.columns[k.toNat]!).name) :: bv (strEq (((s.columns.take k.toNat)[j.toNat]!).name) ((s.columns[k.toNat]!).name)) :: iv (j + 1) :: A9 (A9 (A9 (A4 ([A, A, A])))))), [.live ⟨2, [(Schema.cells s)], 33⟩, .live ⟨4, [(Col.cells (s.columns[k.toNat]!))], 47⟩, .live ⟨4, [(Col.cells ((s.columns.take k.toNat)[j.toNat]!))], 47⟩]⟩ (by kernel_rfl) ?_
      refine PON.fin rfl (thenA_normal ?_)
      refine ⟨[0, 1], (j + 1), ⟨rfl, rfl, (.any (.cons (.pO _ _ rfl) (.any (.v (.cons (.pO _ _ rfl) (.a9 (.any (.any (.cons (.tree (by simp only [NIs_cons, NIs_nil, NIr_cons, NIr_nil, NI_v, NI_any, NI_pO, NI_sO, NI_pF, NI_sF, NI_agg, NI_tup, NI_fn, NIh_nil, NIh_live, NIh_dead, NIh_free, NIr_map, NIr_append, NIs_icells, NIs_scells, NIs_bcells, NIs_Val, NIs_Col, NIs_Schema, NIs_PNode, NIs_Src, NIr_Val, NIr_Col, NIr_ints, NIr_PNode]; try simp)) (.v (.v (.v (.v (.cons (.tree (by simp only [NIs_cons, NIs_nil, NIr_cons, NIr_nil, NI_v, NI_any, NI_pO, NI_sO, NI_pF, NI_sF, NI_agg, NI_tup, NI_fn, NIh_nil, NIh_live, NIh_dead, NIh_free, NIr_map, NIr_append, NIs_icells, NIs_scells, NIs_bcells, NIs_Val, NIs_Col, NIs_Schema, NIs_PNode, NIs_Src, NIr_Val, NIr_Col, NIr_ints, NIr_PNode]; try simp)) (.cons (.tree (by simp only [NIs_cons, NIs_nil, NIr_cons, NIr_nil, NI_v, NI_any, NI_pO, NI_sO, NI_pF, NI_sF, NI_agg, NI_tup, NI_fn, NIh_nil, NIh_live, NIh_dead, NIh_free, NIr_map, NIr_append, NIs_icells, NIs_scells, NIs_bcells, NIs_Val, NIs_Col, NIs_Schema, NIs_PNode, NIs_Src, NIr_Val, NIr_Col, NIr_ints, NIr_PNode]; try simp)) (.cons (.pO _ _ rfl) (.v (.v (.v (.cons (.pO _ _ rfl) (.cons (.tree (by simp only [NIs_cons, NIs_nil, NIr_cons, NIr_nil, NI_v, NI_any, NI_pO, NI_sO, NI_pF, NI_sF, NI_agg, NI_tup, NI_fn, NIh_nil, NIh_live, NIh_dead, NIh_free, NIr_map, NIr_append, NIs_icells, NIs_scells, NIs_bcells, NIs_Val, NIs_Col, NIs_Schema, NIs_PNode, NIs_Src, NIr_Val, NIr_Col, NIr_ints, NIr_PNode]; try simp)) (.v (.cons (.tree (by simp only [NIs_cons, NIs_nil, NIr_cons, NIr_nil, NI_v, NI_any, NI_pO, NI_sO, NI_pF, NI_sF, NI_agg, NI_tup, NI_fn, NIh_nil, NIh_live, NIh_dead, NIh_free, NIr_map, NIr_append, NIs_icells, NIs_scells, NIs_bcells, NIs_Val, NIs_Col, NIs_Schema, NIs_PNode, NIs_Src, NIr_Val, NIr_Col, NIr_ints, NIr_PNode]; try simp)) (.v (.v (.a9 (.a9 (.a9 (.a9 (.a4 (.any (.any (.any .nil))))))))))))))))))))))))))))))))), (.cons rfl (.tree (by simp only [NIs_cons, NIs_nil, NIr_cons, NIr_nil, NI_v, NI_any, NI_pO, NI_sO, NI_pF, NI_sF, NI_agg, NI_tup, NI_fn, NIh_nil, NIh_live, NIh_dead, NIh_free, NIr_map, NIr_append, NIs_icells, NIs_scells, NIs_bcells, NIs_Val, NIs_Col, NIs_Schema, NIs_PNode, NIs_Src, NIr_Val, NIr_Col, NIr_ints, NIr_PNode]; try simp)) (.cons rfl (.tree (by simp only [NIs_cons, NIs_nil, NIr_cons, NIr_nil, NI_v, NI_any, NI_pO, NI_sO, NI_pF, NI_sF, NI_agg, NI_tup, NI_fn, NIh_nil, NIh_live, NIh_dead, NIh_free, NIr_map, NIr_append, NIs_icells, NIs_scells, NIs_bcells, NIs_Val, NIs_Col, NIs_Schema, NIs_PNode, NIs_Src, NIr_Val, NIr_Col, NIr_ints, NIr_PNode]; try simp)) .nil))⟩, ?_, ?_⟩
      · skip
        clear hret hK1 hK2 hK3 hK6 hK7 hK10 hK11 hK12 hK13 hK15 hK16 hK17 hK18 hK21 hK22 hK23 hK24 hK26 hK27 hK28 K0 K1 K2 K3 K6 K7 K10 K11 K12 K13 K15 K16 K17 K18 K21 K22 K23 K24 K26 K27 K28
        refine ⟨?_, ?_⟩
        · skip
          show 0 ≤ (j + 1) ∧ (j + 1) ≤ k
          omega
        · skip
          show ∀ i : Nat, i < (j + 1).toNat → ¬ s.columns[i]!.name = s.columns[k.toNat]!.name
          intro i hi
          by_cases q : i < j.toNat
          · exact hd i q
          · have e : i = j.toNat := by omega
            subst e
            exact hne
      · skip
        clear hret hK1 hK2 hK3 hK6 hK7 hK10 hK11 hK12 hK13 hK15 hK16 hK17 hK18 hK21 hK22 hK23 hK24 hK26 hK27 hK28 K0 K1 K2 K3 K6 K7 K10 K11 K12 K13 K15 K16 K17 K18 K21 K22 K23 K24 K26 K27 K28
        show (k - (j + 1)).toNat < (k - j).toNat
        omega
    have hcol := colIdx_none (l := s.columns) (k := k) (by omega) rfl (fun i hi => hd i (by rw [List.length_take] at h25; omega))
    refine PV.exit (thenA_exit (thenA_exit (inBlockA_hit (thenA_normal (hK21 _ ?_)))))
    refine PV.seq_k fun K31 hK31 => ?_
    refine PV.seq_k fun K32 hK32 => ?_
    refine PV.regionN ?_
    refine PON.runs 2 (by kernel_rfl) ?_
    refine PON.call 51 [iv ((s.columns[k.toNat]!).type)] (some 44) (pre := []) (post := []) (x := bv (vKnown ((s.columns[k.toNat]!).type))) _ (by kernel_rfl) (typed_ok ((s.columns[k.toNat]!).type)) trivial rfl ?_
    refine PON.runs 1 (by kernel_rfl) ?_
    refine PON.fin rfl (thenA_normal (hK32 _ ?_))
    refine PV.condN ((vKnown ((s.columns[k.toNat]!).type)) = true) (!(vKnown ((s.columns[k.toNat]!).type))) (by kernel_rfl) (fun h => bnot_t ((fun h => h) h)) (fun h => bnot_f (bool_ff h)) (fun h33 => ?_) (fun h33 => ?_)
    · skip
      refine PV.seq_k fun K34 hK34 => ?_
      refine PV.regionN ?_
      refine PON.runs 1 (by kernel_rfl) ?_
      refine PON.fin rfl (thenA_normal (hK34 _ ?_))
      refine PV.norm ⟨(A :: po 0 :: iv 11 :: iv k :: po 1 :: A9 (A :: A :: .sF 4 (s.columns.map Col.cells) :: iv (s.columns.length : Int) :: iv k :: bv (decide (k < (s.columns.length : Int))) :: iv k :: .pF (Col.cells (s.columns[k.toNat]!)) 0 :: .agg (Col.cells (s.columns[k.toNat]!)) :: po 1 :: sv ((s.columns[k.toNat]!).name) :: bv (okName ((s.columns[k.toNat]!).name)) :: bv (!(okName ((s.columns[k.toNat]!).name))) :: po 0 :: .sF 4 (s.columns.map Col.cells) :: iv k :: .sF 4 ((s.columns.take k.toNat).map Col.cells) :: iv ((s.columns.take k.toNat).length : Int) :: iv j :: bv (decide (j < ((s.columns.take k.toNat).length : Int))) :: A4 (A4 (.pO 1 0 1 :: iv ((s.columns[k.toNat]!).type) :: bv (vKnown ((s.columns[k.toNat]!).type)) :: bv (!(vKnown ((s.columns[k.toNat]!).type))) :: A9 (A9 (A9 ([A, A, A]))))))), [.live ⟨2, [(Schema.cells s)], 33⟩, .live ⟨4, [(Col.cells (s.columns[k.toNat]!))], 47⟩]⟩ (by kernel_rfl) ?_
      refine PV.ret (thenA_ret (inBlockA_ret (thenA_ret (thenA_ret (inBlockA_ret (thenA_ret (hret .ret _ (iv 11) (.inr rfl) (by kernel_rfl) ?_)))))))
      clear hret hK1 hK2 hK3 hK6 hK7 hK10 hK11 hK12 hK13 hK15 hK16 hK17 hK18 hK21 hK22 hK23 hK24 hK31 hK32 hK34 K0 K1 K2 K3 K6 K7 K10 K11 K12 K13 K15 K16 K17 K18 K21 K22 K23 K24 K31 K32 K34
      show Tof noTau [.live ⟨2, [(Schema.cells s)], 33⟩, .live ⟨4, [(Col.cells (s.columns[k.toNat]!))], 47⟩] (iv 11) (iv (schemaErr s))
      -- leaf 5
      refine Tof.int ?_
      first | grind [schemaErr] | (have e : errFrom (colErr s.columns) 0 s.columns = colErr s.columns k s.columns[k.toNat]! := (by rw [hi, drop_step _ _ (by omega), errFrom]; grind [colErr, vKnown, okScale]); grind [schemaErr, colErr, vKnown, okScale]) | (rw [drop_end _ _ (by omega)] at hi; grind [schemaErr, errFrom])
    refine PV.skip (thenA_normal (hK31 _ ?_))
    refine PV.norm ⟨(A :: po 0 :: A :: iv k :: po 1 :: A9 (A :: A :: .sF 4 (s.columns.map Col.cells) :: iv (s.columns.length : Int) :: iv k :: bv (decide (k < (s.columns.length : Int))) :: iv k :: .pF (Col.cells (s.columns[k.toNat]!)) 0 :: .agg (Col.cells (s.columns[k.toNat]!)) :: po 1 :: sv ((s.columns[k.toNat]!).name) :: bv (okName ((s.columns[k.toNat]!).name)) :: bv (!(okName ((s.columns[k.toNat]!).name))) :: po 0 :: .sF 4 (s.columns.map Col.cells) :: iv k :: .sF 4 ((s.columns.take k.toNat).map Col.cells) :: iv ((s.columns.take k.toNat).length : Int) :: iv j :: bv (decide (j < ((s.columns.take k.toNat).length : Int))) :: A4 (A4 (.pO 1 0 1 :: iv ((s.columns[k.toNat]!).type) :: bv (vKnown ((s.columns[k.toNat]!).type)) :: bv (!(vKnown ((s.columns[k.toNat]!).type))) :: A9 (A9 (A9 ([A, A, A]))))))), [.live ⟨2, [(Schema.cells s)], 33⟩, .live ⟨4, [(Col.cells (s.columns[k.toNat]!))], 47⟩]⟩ (by kernel_rfl) ?_
    refine PV.seqR [0, 1] ⟨(A :: po 0 :: A :: iv k :: po 1 :: A9 (A :: A :: .sF 4 (s.columns.map Col.cells) :: iv (s.columns.length : Int) :: iv k :: bv (decide (k < (s.columns.length : Int))) :: iv k :: .pF (Col.cells (s.columns[k.toNat]!)) 0 :: .agg (Col.cells (s.columns[k.toNat]!)) :: po 1 :: sv ((s.columns[k.toNat]!).name) :: bv (okName ((s.columns[k.toNat]!).name)) :: bv (!(okName ((s.columns[k.toNat]!).name))) :: po 0 :: .sF 4 (s.columns.map Col.cells) :: iv k :: .sF 4 ((s.columns.take k.toNat).map Col.cells) :: iv ((s.columns.take k.toNat).length : Int) :: iv j :: bv (decide (j < ((s.columns.take k.toNat).length : Int))) :: A4 (A4 (.pO 1 0 1 :: iv ((s.columns[k.toNat]!).type) :: bv (vKnown ((s.columns[k.toNat]!).type)) :: bv (!(vKnown ((s.columns[k.toNat]!).type))) :: A9 (A4 (A4 (bv (decide ((((s.columns[k.toNat]!).scale) < 0) ∨ ((((s.columns[k.toNat]!).scale) > 18) ∨ (¬(((s.columns[k.toNat]!).type) = 5) ∧ (¬(((s.columns[k.toNat]!).scale) = 0)))))) :: A9 ([A, A, A])))))))), [.live ⟨2, [(Schema.cells s)], 33⟩, .live ⟨4, [(Col.cells (s.columns[k.toNat]!))], 47⟩]⟩ ?_ ?_
    · skip
      refine PV.regionN ?_
      refine PON.runs 4 (by kernel_rfl) ?_
      refine PON.norm ⟨(A :: po 0 :: A :: iv k :: po 1 :: A9 (A :: A :: .sF 4 (s.columns.map Col.cells) :: iv (s.columns.length : Int) :: iv k :: bv (decide (k < (s.columns.length : Int))) :: iv k :: .pF (Col.cells (s.columns[k.toNat]!)) 0 :: .agg (Col.cells (s.columns[k.toNat]!)) :: po 1 :: sv ((s.columns[k.toNat]!).name) :: bv (okName ((s.columns[k.toNat]!).name)) :: bv (!(okName ((s.columns[k.toNat]!).name))) :: po 0 :: .sF 4 (s.columns.map Col.cells) :: iv k :: .sF 4 ((s.columns.take k.toNat).map Col.cells) :: iv ((s.columns.take k.toNat).length : Int) :: iv j :: bv (decide (j < ((s.columns.take k.toNat).length : Int))) :: A4 (A4 (.pO 1 0 1 :: iv ((s.columns[k.toNat]!).type) :: bv (vKnown ((s.columns[k.toNat]!).type)) :: bv (!(vKnown ((s.columns[k.toNat]!).type))) :: .pO 1 0 2 :: iv ((s.columns[k.toNat]!).scale) :: bv (decide (((s.columns[k.toNat]!).scale) < 0)) :: bv (decide (((s.columns[k.toNat]!).scale) < 0)) :: A9 (A9 (A4 (A4 ([])))))))), [.live ⟨2, [(Schema.cells s)], 33⟩, .live ⟨4, [(Col.cells (s.columns[k.toNat]!))], 47⟩]⟩ (by kernel_rfl) ?_
      refine PON.splitP (((s.columns[k.toNat]!).scale) < 0) 49 (decide (((s.columns[k.toNat]!).scale) < 0)) (A :: po 0 :: A :: iv k :: po 1 :: A9 (A :: A :: .sF 4 (s.columns.map Col.cells) :: iv (s.columns.length : Int) :: iv k :: bv (decide (k < (s.columns.length : Int))) :: iv k :: .pF (Col.cells (s.columns[k.toNat]!)) 0 :: .agg (Col.cells (s.columns[k.toNat]!)) :: po 1 :: sv ((s.columns[k.toNat]!).name) :: bv (okName ((s.columns[k.toNat]!).name)) :: bv (!(okName ((s.columns[k.toNat]!).name))) :: po 0 :: .sF 4 (s.columns.map Col.cells) :: iv k :: .sF 4 ((s.columns.take k.toNat).map Col.cells) :: iv ((s.columns.take k.toNat).length : Int) :: iv j :: bv (decide (j < ((s.columns.take k.toNat).length : Int))) :: A4 (A4 (.pO 1 0 1 :: iv ((s.columns[k.toNat]!).type) :: bv (vKnown ((s.columns[k.toNat]!).type)) :: bv (!(vKnown ((s.columns[k.toNat]!).type))) :: .pO 1 0 2 :: iv ((s.columns[k.toNat]!).scale) :: bv (decide (((s.columns[k.toNat]!).scale) < 0)) :: bv true :: A9 (A9 (A4 (A4 ([])))))))) (A :: po 0 :: A :: iv k :: po 1 :: A9 (A :: A :: .sF 4 (s.columns.map Col.cells) :: iv (s.columns.length : Int) :: iv k :: bv (decide (k < (s.columns.length : Int))) :: iv k :: .pF (Col.cells (s.columns[k.toNat]!)) 0 :: .agg (Col.cells (s.columns[k.toNat]!)) :: po 1 :: sv ((s.columns[k.toNat]!).name) :: bv (okName ((s.columns[k.toNat]!).name)) :: bv (!(okName ((s.columns[k.toNat]!).name))) :: po 0 :: .sF 4 (s.columns.map Col.cells) :: iv k :: .sF 4 ((s.columns.take k.toNat).map Col.cells) :: iv ((s.columns.take k.toNat).length : Int) :: iv j :: bv (decide (j < ((s.columns.take k.toNat).length : Int))) :: A4 (A4 (.pO 1 0 1 :: iv ((s.columns[k.toNat]!).type) :: bv (vKnown ((s.columns[k.toNat]!).type)) :: bv (!(vKnown ((s.columns[k.toNat]!).type))) :: .pO 1 0 2 :: iv ((s.columns[k.toNat]!).scale) :: bv (decide (((s.columns[k.toNat]!).scale) < 0)) :: bv false :: A9 (A9 (A4 (A4 ([])))))))) (by kernel_rfl) decide_eq_true decide_eq_false (by kernel_rfl) (by kernel_rfl) (fun h35 => ?_) (fun h35 => ?_)
      · skip
        refine PON.runs 14 (by kernel_rfl) ?_
        refine PON.norm ⟨(A :: po 0 :: A :: iv k :: po 1 :: A9 (A :: A :: .sF 4 (s.columns.map Col.cells) :: iv (s.columns.length : Int) :: iv k :: bv (decide (k < (s.columns.length : Int))) :: iv k :: .pF (Col.cells (s.columns[k.toNat]!)) 0 :: .agg (Col.cells (s.columns[k.toNat]!)) :: po 1 :: sv ((s.columns[k.toNat]!).name) :: bv (okName ((s.columns[k.toNat]!).name)) :: bv (!(okName ((s.columns[k.toNat]!).name))) :: po 0 :: .sF 4 (s.columns.map Col.cells) :: iv k :: .sF 4 ((s.columns.take k.toNat).map Col.cells) :: iv ((s.columns.take k.toNat).length : Int) :: iv j :: bv (decide (j < ((s.columns.take k.toNat).length : Int))) :: A4 (A4 (.pO 1 0 1 :: iv ((s.columns[k.toNat]!).type) :: bv (vKnown ((s.columns[k.toNat]!).type)) :: bv (!(vKnown ((s.columns[k.toNat]!).type))) :: .pO 1 0 2 :: iv ((s.columns[k.toNat]!).scale) :: bv (decide (((s.columns[k.toNat]!).scale) < 0)) :: bv true :: U :: U :: U :: bv true :: bv true :: U :: U :: U :: U :: U :: U :: U :: U :: bv true :: A9 ([A, A, A]))))), [.live ⟨2, [(Schema.cells s)], 33⟩, .live ⟨4, [(Col.cells (s.columns[k.toNat]!))], 47⟩]⟩ (by kernel_rfl) ?_
        refine PON.fin rfl (thenA_normal ?_)
        exact ⟨rfl, rfl, (.any (.cons (.pO _ _ rfl) (.any (.v (.cons (.pO _ _ rfl) (.a9 (.any (.any (.cons (.tree (by simp only [NIs_cons, NIs_nil, NIr_cons, NIr_nil, NI_v, NI_any, NI_pO, NI_sO, NI_pF, NI_sF, NI_agg, NI_tup, NI_fn, NIh_nil, NIh_live, NIh_dead, NIh_free, NIr_map, NIr_append, NIs_icells, NIs_scells, NIs_bcells, NIs_Val, NIs_Col, NIs_Schema, NIs_PNode, NIs_Src, NIr_Val, NIr_Col, NIr_ints, NIr_PNode]; try simp)) (.v (.v (.v (.v (.cons (.tree (by simp only [NIs_cons, NIs_nil, NIr_cons, NIr_nil, NI_v, NI_any, NI_pO, NI_sO, NI_pF, NI_sF, NI_agg, NI_tup, NI_fn, NIh_nil, NIh_live, NIh_dead, NIh_free, NIr_map, NIr_append, NIs_icells, NIs_scells, NIs_bcells, NIs_Val, NIs_Col, NIs_Schema, NIs_PNode, NIs_Src, NIr_Val, NIr_Col, NIr_ints, NIr_PNode]; try simp)) (.cons (.tree (by simp only [NIs_cons, NIs_nil, NIr_cons, NIr_nil, NI_v, NI_any, NI_pO, NI_sO, NI_pF, NI_sF, NI_agg, NI_tup, NI_fn, NIh_nil, NIh_live, NIh_dead, NIh_free, NIr_map, NIr_append, NIs_icells, NIs_scells, NIs_bcells, NIs_Val, NIs_Col, NIs_Schema, NIs_PNode, NIs_Src, NIr_Val, NIr_Col, NIr_ints, NIr_PNode]; try simp)) (.cons (.pO _ _ rfl) (.v (.v (.v (.cons (.pO _ _ rfl) (.cons (.tree (by simp only [NIs_cons, NIs_nil, NIr_cons, NIr_nil, NI_v, NI_any, NI_pO, NI_sO, NI_pF, NI_sF, NI_agg, NI_tup, NI_fn, NIh_nil, NIh_live, NIh_dead, NIh_free, NIr_map, NIr_append, NIs_icells, NIs_scells, NIs_bcells, NIs_Val, NIs_Col, NIs_Schema, NIs_PNode, NIs_Src, NIr_Val, NIr_Col, NIr_ints, NIr_PNode]; try simp)) (.v (.cons (.tree (by simp only [NIs_cons, NIs_nil, NIr_cons, NIr_nil, NI_v, NI_any, NI_pO, NI_sO, NI_pF, NI_sF, NI_agg, NI_tup, NI_fn, NIh_nil, NIh_live, NIh_dead, NIh_free, NIr_map, NIr_append, NIs_icells, NIs_scells, NIs_bcells, NIs_Val, NIs_Col, NIs_Schema, NIs_PNode, NIs_Src, NIr_Val, NIr_Col, NIr_ints, NIr_PNode]; try simp)) (.v (.v (.v (.a4 (.a4 (.cons (.pO _ _ rfl) (.v (.v (.v (.a9 (.a4 (.a4 (.cons (.eq (.v _) (v_bool (by clear hret hK1 hK2 hK3 hK6 hK7 hK10 hK11 hK12 hK13 hK15 hK16 hK17 hK18 hK21 hK22 hK23 hK24 hK31 hK32 K0 K1 K2 K3 K6 K7 K10 K11 K12 K13 K15 K16 K17 K18 K21 K22 K23 K24 K31 K32; (try simp only [strEq_dec]); grind))) (.a9 (.any (.any (.any .nil)))))))))))))))))))))))))))))))))))))))), (.cons rfl (.tree (by simp only [NIs_cons, NIs_nil, NIr_cons, NIr_nil, NI_v, NI_any, NI_pO, NI_sO, NI_pF, NI_sF, NI_agg, NI_tup, NI_fn, NIh_nil, NIh_live, NIh_dead, NIh_free, NIr_map, NIr_append, NIs_icells, NIs_scells, NIs_bcells, NIs_Val, NIs_Col, NIs_Schema, NIs_PNode, NIs_Src, NIr_Val, NIr_Col, NIr_ints, NIr_PNode]; try simp)) (.cons rfl (.tree (by simp only [NIs_cons, NIs_nil, NIr_cons, NIr_nil, NI_v, NI_any, NI_pO, NI_sO, NI_pF, NI_sF, NI_agg, NI_tup, NI_fn, NIh_nil, NIh_live, NIh_dead, NIh_free, NIr_map, NIr_append, NIs_icells, NIs_scells, NIs_bcells, NIs_Val, NIs_Col, NIs_Schema, NIs_PNode, NIs_Src, NIr_Val, NIr_Col, NIr_ints, NIr_PNode]; try simp)) .nil))⟩
      refine PON.runs 5 (by kernel_rfl) ?_
      refine PON.norm ⟨(A :: po 0 :: A :: iv k :: po 1 :: A9 (A :: A :: .sF 4 (s.columns.map Col.cells) :: iv (s.columns.length : Int) :: iv k :: bv (decide (k < (s.columns.length : Int))) :: iv k :: .pF (Col.cells (s.columns[k.toNat]!)) 0 :: .agg (Col.cells (s.columns[k.toNat]!)) :: po 1 :: sv ((s.columns[k.toNat]!).name) :: bv (okName ((s.columns[k.toNat]!).name)) :: bv (!(okName ((s.columns[k.toNat]!).name))) :: po 0 :: .sF 4 (s.columns.map Col.cells) :: iv k :: .sF 4 ((s.columns.take k.toNat).map Col.cells) :: iv ((s.columns.take k.toNat).length : Int) :: iv j :: bv (decide (j < ((s.columns.take k.toNat).length : Int))) :: A4 (A4 (.pO 1 0 1 :: iv ((s.columns[k.toNat]!).type) :: bv (vKnown ((s.columns[k.toNat]!).type)) :: bv (!(vKnown ((s.columns[k.toNat]!).type))) :: .pO 1 0 2 :: iv ((s.columns[k.toNat]!).scale) :: bv (decide (((s.columns[k.toNat]!).scale) < 0)) :: bv false :: .pO 1 0 2 :: iv ((s.columns[k.toNat]!).scale) :: bv (decide (((s.columns[k.toNat]!).scale) > 18)) :: bv (decide (((s.columns[k.toNat]!).scale) > 18)) :: bv (decide (((s.columns[k.toNat]!).scale) > 18)) :: A9 (A9 ([A, A, A])))))), [.live ⟨2, [(Schema.cells s)], 33⟩, .live ⟨4, [(Col.cells (s.columns[k.toNat]!))], 47⟩]⟩ (by kernel_rfl) ?_
      refine PON.splitP (((s.columns[k.toNat]!).scale) > 18) 54 (decide (((s.columns[k.toNat]!).scale) > 18)) (A :: po 0 :: A :: iv k :: po 1 :: A9 (A :: A :: .sF 4 (s.columns.map Col.cells) :: iv (s.columns.length : Int) :: iv k :: bv (decide (k < (s.columns.length : Int))) :: iv k :: .pF (Col.cells (s.columns[k.toNat]!)) 0 :: .agg (Col.cells (s.columns[k.toNat]!)) :: po 1 :: sv ((s.columns[k.toNat]!).name) :: bv (okName ((s.columns[k.toNat]!).name)) :: bv (!(okName ((s.columns[k.toNat]!).name))) :: po 0 :: .sF 4 (s.columns.map Col.cells) :: iv k :: .sF 4 ((s.columns.take k.toNat).map Col.cells) :: iv ((s.columns.take k.toNat).length : Int) :: iv j :: bv (decide (j < ((s.columns.take k.toNat).length : Int))) :: A4 (A4 (.pO 1 0 1 :: iv ((s.columns[k.toNat]!).type) :: bv (vKnown ((s.columns[k.toNat]!).type)) :: bv (!(vKnown ((s.columns[k.toNat]!).type))) :: .pO 1 0 2 :: iv ((s.columns[k.toNat]!).scale) :: bv (decide (((s.columns[k.toNat]!).scale) < 0)) :: bv false :: .pO 1 0 2 :: iv ((s.columns[k.toNat]!).scale) :: bv (decide (((s.columns[k.toNat]!).scale) > 18)) :: bv (decide (((s.columns[k.toNat]!).scale) > 18)) :: bv true :: A9 (A9 ([A, A, A])))))) (A :: po 0 :: A :: iv k :: po 1 :: A9 (A :: A :: .sF 4 (s.columns.map Col.cells) :: iv (s.columns.length : Int) :: iv k :: bv (decide (k < (s.columns.length : Int))) :: iv k :: .pF (Col.cells (s.columns[k.toNat]!)) 0 :: .agg (Col.cells (s.columns[k.toNat]!)) :: po 1 :: sv ((s.columns[k.toNat]!).name) :: bv (okName ((s.columns[k.toNat]!).name)) :: bv (!(okName ((s.columns[k.toNat]!).name))) :: po 0 :: .sF 4 (s.columns.map Col.cells) :: iv k :: .sF 4 ((s.columns.take k.toNat).map Col.cells) :: iv ((s.columns.take k.toNat).length : Int) :: iv j :: bv (decide (j < ((s.columns.take k.toNat).length : Int))) :: A4 (A4 (.pO 1 0 1 :: iv ((s.columns[k.toNat]!).type) :: bv (vKnown ((s.columns[k.toNat]!).type)) :: bv (!(vKnown ((s.columns[k.toNat]!).type))) :: .pO 1 0 2 :: iv ((s.columns[k.toNat]!).scale) :: bv (decide (((s.columns[k.toNat]!).scale) < 0)) :: bv false :: .pO 1 0 2 :: iv ((s.columns[k.toNat]!).scale) :: bv (decide (((s.columns[k.toNat]!).scale) > 18)) :: bv (decide (((s.columns[k.toNat]!).scale) > 18)) :: bv false :: A9 (A9 ([A, A, A])))))) (by kernel_rfl) decide_eq_true decide_eq_false (by kernel_rfl) (by kernel_rfl) (fun h36 => ?_) (fun h36 => ?_)
      · skip
        refine PON.runs 9 (by kernel_rfl) ?_
        refine PON.norm ⟨(A :: po 0 :: A :: iv k :: po 1 :: A9 (A :: A :: .sF 4 (s.columns.map Col.cells) :: iv (s.columns.length : Int) :: iv k :: bv (decide (k < (s.columns.length : Int))) :: iv k :: .pF (Col.cells (s.columns[k.toNat]!)) 0 :: .agg (Col.cells (s.columns[k.toNat]!)) :: po 1 :: sv ((s.columns[k.toNat]!).name) :: bv (okName ((s.columns[k.toNat]!).name)) :: bv (!(okName ((s.columns[k.toNat]!).name))) :: po 0 :: .sF 4 (s.columns.map Col.cells) :: iv k :: .sF 4 ((s.columns.take k.toNat).map Col.cells) :: iv ((s.columns.take k.toNat).length : Int) :: iv j :: bv (decide (j < ((s.columns.take k.toNat).length : Int))) :: A4 (A4 (.pO 1 0 1 :: iv ((s.columns[k.toNat]!).type) :: bv (vKnown ((s.columns[k.toNat]!).type)) :: bv (!(vKnown ((s.columns[k.toNat]!).type))) :: .pO 1 0 2 :: iv ((s.columns[k.toNat]!).scale) :: bv (decide (((s.columns[k.toNat]!).scale) < 0)) :: bv false :: .pO 1 0 2 :: iv ((s.columns[k.toNat]!).scale) :: bv (decide (((s.columns[k.toNat]!).scale) > 18)) :: bv (decide (((s.columns[k.toNat]!).scale) > 18)) :: bv true :: U :: U :: U :: U :: U :: U :: U :: U :: bv true :: A9 ([A, A, A]))))), [.live ⟨2, [(Schema.cells s)], 33⟩, .live ⟨4, [(Col.cells (s.columns[k.toNat]!))], 47⟩]⟩ (by kernel_rfl) ?_
        refine PON.fin rfl (thenA_normal ?_)
        exact ⟨rfl, rfl, (.any (.cons (.pO _ _ rfl) (.any (.v (.cons (.pO _ _ rfl) (.a9 (.any (.any (.cons (.tree (by simp only [NIs_cons, NIs_nil, NIr_cons, NIr_nil, NI_v, NI_any, NI_pO, NI_sO, NI_pF, NI_sF, NI_agg, NI_tup, NI_fn, NIh_nil, NIh_live, NIh_dead, NIh_free, NIr_map, NIr_append, NIs_icells, NIs_scells, NIs_bcells, NIs_Val, NIs_Col, NIs_Schema, NIs_PNode, NIs_Src, NIr_Val, NIr_Col, NIr_ints, NIr_PNode]; try simp)) (.v (.v (.v (.v (.cons (.tree (by simp only [NIs_cons, NIs_nil, NIr_cons, NIr_nil, NI_v, NI_any, NI_pO, NI_sO, NI_pF, NI_sF, NI_agg, NI_tup, NI_fn, NIh_nil, NIh_live, NIh_dead, NIh_free, NIr_map, NIr_append, NIs_icells, NIs_scells, NIs_bcells, NIs_Val, NIs_Col, NIs_Schema, NIs_PNode, NIs_Src, NIr_Val, NIr_Col, NIr_ints, NIr_PNode]; try simp)) (.cons (.tree (by simp only [NIs_cons, NIs_nil, NIr_cons, NIr_nil, NI_v, NI_any, NI_pO, NI_sO, NI_pF, NI_sF, NI_agg, NI_tup, NI_fn, NIh_nil, NIh_live, NIh_dead, NIh_free, NIr_map, NIr_append, NIs_icells, NIs_scells, NIs_bcells, NIs_Val, NIs_Col, NIs_Schema, NIs_PNode, NIs_Src, NIr_Val, NIr_Col, NIr_ints, NIr_PNode]; try simp)) (.cons (.pO _ _ rfl) (.v (.v (.v (.cons (.pO _ _ rfl) (.cons (.tree (by simp only [NIs_cons, NIs_nil, NIr_cons, NIr_nil, NI_v, NI_any, NI_pO, NI_sO, NI_pF, NI_sF, NI_agg, NI_tup, NI_fn, NIh_nil, NIh_live, NIh_dead, NIh_free, NIr_map, NIr_append, NIs_icells, NIs_scells, NIs_bcells, NIs_Val, NIs_Col, NIs_Schema, NIs_PNode, NIs_Src, NIr_Val, NIr_Col, NIr_ints, NIr_PNode]; try simp)) (.v (.cons (.tree (by simp only [NIs_cons, NIs_nil, NIr_cons, NIr_nil, NI_v, NI_any, NI_pO, NI_sO, NI_pF, NI_sF, NI_agg, NI_tup, NI_fn, NIh_nil, NIh_live, NIh_dead, NIh_free, NIr_map, NIr_append, NIs_icells, NIs_scells, NIs_bcells, NIs_Val, NIs_Col, NIs_Schema, NIs_PNode, NIs_Src, NIr_Val, NIr_Col, NIr_ints, NIr_PNode]; try simp)) (.v (.v (.v (.a4 (.a4 (.cons (.pO _ _ rfl) (.v (.v (.v (.a9 (.a4 (.a4 (.cons (.eq (.v _) (v_bool (by clear hret hK1 hK2 hK3 hK6 hK7 hK10 hK11 hK12 hK13 hK15 hK16 hK17 hK18 hK21 hK22 hK23 hK24 hK31 hK32 K0 K1 K2 K3 K6 K7 K10 K11 K12 K13 K15 K16 K17 K18 K21 K22 K23 K24 K31 K32; (try simp only [strEq_dec]); grind))) (.a9 (.any (.any (.any .nil)))))))))))))))))))))))))))))))))))))))), (.cons rfl (.tree (by simp only [NIs_cons, NIs_nil, NIr_cons, NIr_nil, NI_v, NI_any, NI_pO, NI_sO, NI_pF, NI_sF, NI_agg, NI_tup, NI_fn, NIh_nil, NIh_live, NIh_dead, NIh_free, NIr_map, NIr_append, NIs_icells, NIs_scells, NIs_bcells, NIs_Val, NIs_Col, NIs_Schema, NIs_PNode, NIs_Src, NIr_Val, NIr_Col, NIr_ints, NIr_PNode]; try simp)) (.cons rfl (.tree (by simp only [NIs_cons, NIs_nil, NIr_cons, NIr_nil, NI_v, NI_any, NI_pO, NI_sO, NI_pF, NI_sF, NI_agg, NI_tup, NI_fn, NIh_nil, NIh_live, NIh_dead, NIh_free, NIr_map, NIr_append, NIs_icells, NIs_scells, NIs_bcells, NIs_Val, NIs_Col, NIs_Schema, NIs_PNode, NIs_Src, NIr_Val, NIr_Col, NIr_ints, NIr_PNode]; try simp)) .nil))⟩
      refine PON.runs 4 (by kernel_rfl) ?_
      refine PON.norm ⟨(A :: po 0 :: A :: iv k :: po 1 :: A9 (A :: A :: .sF 4 (s.columns.map Col.cells) :: iv (s.columns.length : Int) :: iv k :: bv (decide (k < (s.columns.length : Int))) :: iv k :: .pF (Col.cells (s.columns[k.toNat]!)) 0 :: .agg (Col.cells (s.columns[k.toNat]!)) :: po 1 :: sv ((s.columns[k.toNat]!).name) :: bv (okName ((s.columns[k.toNat]!).name)) :: bv (!(okName ((s.columns[k.toNat]!).name))) :: po 0 :: .sF 4 (s.columns.map Col.cells) :: iv k :: .sF 4 ((s.columns.take k.toNat).map Col.cells) :: iv ((s.columns.take k.toNat).length : Int) :: iv j :: bv (decide (j < ((s.columns.take k.toNat).length : Int))) :: A4 (A4 (.pO 1 0 1 :: iv ((s.columns[k.toNat]!).type) :: bv (vKnown ((s.columns[k.toNat]!).type)) :: bv (!(vKnown ((s.columns[k.toNat]!).type))) :: .pO 1 0 2 :: iv ((s.columns[k.toNat]!).scale) :: bv (decide (((s.columns[k.toNat]!).scale) < 0)) :: bv false :: .pO 1 0 2 :: iv ((s.columns[k.toNat]!).scale) :: bv (decide (((s.columns[k.toNat]!).scale) > 18)) :: bv (decide (((s.columns[k.toNat]!).scale) > 18)) :: bv false :: .pO 1 0 1 :: iv ((s.columns[k.toNat]!).type) :: bv (!(decide (((s.columns[k.toNat]!).type) = 5))) :: bv (!(decide (((s.columns[k.toNat]!).type) = 5))) :: A9 (A4 (A4 ([]))))))), [.live ⟨2, [(Schema.cells s)], 33⟩, .live ⟨4, [(Col.cells (s.columns[k.toNat]!))], 47⟩]⟩ (by kernel_rfl) ?_
      refine PON.splitN (((s.columns[k.toNat]!).type) = 5) 58 (!(decide (((s.columns[k.toNat]!).type) = 5))) (A :: po 0 :: A :: iv k :: po 1 :: A9 (A :: A :: .sF 4 (s.columns.map Col.cells) :: iv (s.columns.length : Int) :: iv k :: bv (decide (k < (s.columns.length : Int))) :: iv k :: .pF (Col.cells (s.columns[k.toNat]!)) 0 :: .agg (Col.cells (s.columns[k.toNat]!)) :: po 1 :: sv ((s.columns[k.toNat]!).name) :: bv (okName ((s.columns[k.toNat]!).name)) :: bv (!(okName ((s.columns[k.toNat]!).name))) :: po 0 :: .sF 4 (s.columns.map Col.cells) :: iv k :: .sF 4 ((s.columns.take k.toNat).map Col.cells) :: iv ((s.columns.take k.toNat).length : Int) :: iv j :: bv (decide (j < ((s.columns.take k.toNat).length : Int))) :: A4 (A4 (.pO 1 0 1 :: iv ((s.columns[k.toNat]!).type) :: bv (vKnown ((s.columns[k.toNat]!).type)) :: bv (!(vKnown ((s.columns[k.toNat]!).type))) :: .pO 1 0 2 :: iv ((s.columns[k.toNat]!).scale) :: bv (decide (((s.columns[k.toNat]!).scale) < 0)) :: bv false :: .pO 1 0 2 :: iv ((s.columns[k.toNat]!).scale) :: bv (decide (((s.columns[k.toNat]!).scale) > 18)) :: bv (decide (((s.columns[k.toNat]!).scale) > 18)) :: bv false :: .pO 1 0 1 :: iv ((s.columns[k.toNat]!).type) :: bv (!(decide (((s.columns[k.toNat]!).type) = 5))) :: bv false :: A9 (A4 (A4 ([]))))))) (A :: po 0 :: A :: iv k :: po 1 :: A9 (A :: A :: .sF 4 (s.columns.map Col.cells) :: iv (s.columns.length : Int) :: iv k :: bv (decide (k < (s.columns.length : Int))) :: iv k :: .pF (Col.cells (s.columns[k.toNat]!)) 0 :: .agg (Col.cells (s.columns[k.toNat]!)) :: po 1 :: sv ((s.columns[k.toNat]!).name) :: bv (okName ((s.columns[k.toNat]!).name)) :: bv (!(okName ((s.columns[k.toNat]!).name))) :: po 0 :: .sF 4 (s.columns.map Col.cells) :: iv k :: .sF 4 ((s.columns.take k.toNat).map Col.cells) :: iv ((s.columns.take k.toNat).length : Int) :: iv j :: bv (decide (j < ((s.columns.take k.toNat).length : Int))) :: A4 (A4 (.pO 1 0 1 :: iv ((s.columns[k.toNat]!).type) :: bv (vKnown ((s.columns[k.toNat]!).type)) :: bv (!(vKnown ((s.columns[k.toNat]!).type))) :: .pO 1 0 2 :: iv ((s.columns[k.toNat]!).scale) :: bv (decide (((s.columns[k.toNat]!).scale) < 0)) :: bv false :: .pO 1 0 2 :: iv ((s.columns[k.toNat]!).scale) :: bv (decide (((s.columns[k.toNat]!).scale) > 18)) :: bv (decide (((s.columns[k.toNat]!).scale) > 18)) :: bv false :: .pO 1 0 1 :: iv ((s.columns[k.toNat]!).type) :: bv (!(decide (((s.columns[k.toNat]!).type) = 5))) :: bv true :: A9 (A4 (A4 ([]))))))) (by kernel_rfl) (fun h => bnot_t (decide_eq_true h)) (fun h => bnot_f (decide_eq_false h)) (by kernel_rfl) (by kernel_rfl) (fun h37 => ?_) (fun h37 => ?_)
      · skip
        refine PON.runs 5 (by kernel_rfl) ?_
        refine PON.norm ⟨(A :: po 0 :: A :: iv k :: po 1 :: A9 (A :: A :: .sF 4 (s.columns.map Col.cells) :: iv (s.columns.length : Int) :: iv k :: bv (decide (k < (s.columns.length : Int))) :: iv k :: .pF (Col.cells (s.columns[k.toNat]!)) 0 :: .agg (Col.cells (s.columns[k.toNat]!)) :: po 1 :: sv ((s.columns[k.toNat]!).name) :: bv (okName ((s.columns[k.toNat]!).name)) :: bv (!(okName ((s.columns[k.toNat]!).name))) :: po 0 :: .sF 4 (s.columns.map Col.cells) :: iv k :: .sF 4 ((s.columns.take k.toNat).map Col.cells) :: iv ((s.columns.take k.toNat).length : Int) :: iv j :: bv (decide (j < ((s.columns.take k.toNat).length : Int))) :: A4 (A4 (.pO 1 0 1 :: iv ((s.columns[k.toNat]!).type) :: bv (vKnown ((s.columns[k.toNat]!).type)) :: bv (!(vKnown ((s.columns[k.toNat]!).type))) :: .pO 1 0 2 :: iv ((s.columns[k.toNat]!).scale) :: bv (decide (((s.columns[k.toNat]!).scale) < 0)) :: bv false :: .pO 1 0 2 :: iv ((s.columns[k.toNat]!).scale) :: bv (decide (((s.columns[k.toNat]!).scale) > 18)) :: bv (decide (((s.columns[k.toNat]!).scale) > 18)) :: bv false :: .pO 1 0 1 :: iv ((s.columns[k.toNat]!).type) :: bv (!(decide (((s.columns[k.toNat]!).type) = 5))) :: bv false :: U :: U :: U :: bv false :: bv false :: A9 ([A, A, A]))))), [.live ⟨2, [(Schema.cells s)], 33⟩, .live ⟨4, [(Col.cells (s.columns[k.toNat]!))], 47⟩]⟩ (by kernel_rfl) ?_
        refine PON.fin rfl (thenA_normal ?_)
        exact ⟨rfl, rfl, (.any (.cons (.pO _ _ rfl) (.any (.v (.cons (.pO _ _ rfl) (.a9 (.any (.any (.cons (.tree (by simp only [NIs_cons, NIs_nil, NIr_cons, NIr_nil, NI_v, NI_any, NI_pO, NI_sO, NI_pF, NI_sF, NI_agg, NI_tup, NI_fn, NIh_nil, NIh_live, NIh_dead, NIh_free, NIr_map, NIr_append, NIs_icells, NIs_scells, NIs_bcells, NIs_Val, NIs_Col, NIs_Schema, NIs_PNode, NIs_Src, NIr_Val, NIr_Col, NIr_ints, NIr_PNode]; try simp)) (.v (.v (.v (.v (.cons (.tree (by simp only [NIs_cons, NIs_nil, NIr_cons, NIr_nil, NI_v, NI_any, NI_pO, NI_sO, NI_pF, NI_sF, NI_agg, NI_tup, NI_fn, NIh_nil, NIh_live, NIh_dead, NIh_free, NIr_map, NIr_append, NIs_icells, NIs_scells, NIs_bcells, NIs_Val, NIs_Col, NIs_Schema, NIs_PNode, NIs_Src, NIr_Val, NIr_Col, NIr_ints, NIr_PNode]; try simp)) (.cons (.tree (by simp only [NIs_cons, NIs_nil, NIr_cons, NIr_nil, NI_v, NI_any, NI_pO, NI_sO, NI_pF, NI_sF, NI_agg, NI_tup, NI_fn, NIh_nil, NIh_live, NIh_dead, NIh_free, NIr_map, NIr_append, NIs_icells, NIs_scells, NIs_bcells, NIs_Val, NIs_Col, NIs_Schema, NIs_PNode, NIs_Src, NIr_Val, NIr_Col, NIr_ints, NIr_PNode]; try simp)) (.cons (.pO _ _ rfl) (.v (.v (.v (.cons (.pO _ _ rfl) (.cons (.tree (by simp only [NIs_cons, NIs_nil, NIr_cons, NIr_nil, NI_v, NI_any, NI_pO, NI_sO, NI_pF, NI_sF, NI_agg, NI_tup, NI_fn, NIh_nil, NIh_live, NIh_dead, NIh_free, NIr_map, NIr_append, NIs_icells, NIs_scells, NIs_bcells, NIs_Val, NIs_Col, NIs_Schema, NIs_PNode, NIs_Src, NIr_Val, NIr_Col, NIr_ints, NIr_PNode]; try simp)) (.v (.cons (.tree (by simp only [NIs_cons, NIs_nil, NIr_cons, NIr_nil, NI_v, NI_any, NI_pO, NI_sO, NI_pF, NI_sF, NI_agg, NI_tup, NI_fn, NIh_nil, NIh_live, NIh_dead, NIh_free, NIr_map, NIr_append, NIs_icells, NIs_scells, NIs_bcells, NIs_Val, NIs_Col, NIs_Schema, NIs_PNode, NIs_Src, NIr_Val, NIr_Col, NIr_ints, NIr_PNode]; try simp)) (.v (.v (.v (.a4 (.a4 (.cons (.pO _ _ rfl) (.v (.v (.v (.a9 (.a4 (.a4 (.cons (.eq (.v _) (v_bool (by clear hret hK1 hK2 hK3 hK6 hK7 hK10 hK11 hK12 hK13 hK15 hK16 hK17 hK18 hK21 hK22 hK23 hK24 hK31 hK32 K0 K1 K2 K3 K6 K7 K10 K11 K12 K13 K15 K16 K17 K18 K21 K22 K23 K24 K31 K32; (try simp only [strEq_dec]); grind))) (.a9 (.any (.any (.any .nil)))))))))))))))))))))))))))))))))))))))), (.cons rfl (.tree (by simp only [NIs_cons, NIs_nil, NIr_cons, NIr_nil, NI_v, NI_any, NI_pO, NI_sO, NI_pF, NI_sF, NI_agg, NI_tup, NI_fn, NIh_nil, NIh_live, NIh_dead, NIh_free, NIr_map, NIr_append, NIs_icells, NIs_scells, NIs_bcells, NIs_Val, NIs_Col, NIs_Schema, NIs_PNode, NIs_Src, NIr_Val, NIr_Col, NIr_ints, NIr_PNode]; try simp)) (.cons rfl (.tree (by simp only [NIs_cons, NIs_nil, NIr_cons, NIr_nil, NI_v, NI_any, NI_pO, NI_sO, NI_pF, NI_sF, NI_agg, NI_tup, NI_fn, NIh_nil, NIh_live, NIh_dead, NIh_free, NIr_map, NIr_append, NIs_icells, NIs_scells, NIs_bcells, NIs_Val, NIs_Col, NIs_Schema, NIs_PNode, NIs_Src, NIr_Val, NIr_Col, NIr_ints, NIr_PNode]; try simp)) .nil))⟩
      refine PON.runs 5 (by kernel_rfl) ?_
      refine PON.norm ⟨(A :: po 0 :: A :: iv k :: po 1 :: A9 (A :: A :: .sF 4 (s.columns.map Col.cells) :: iv (s.columns.length : Int) :: iv k :: bv (decide (k < (s.columns.length : Int))) :: iv k :: .pF (Col.cells (s.columns[k.toNat]!)) 0 :: .agg (Col.cells (s.columns[k.toNat]!)) :: po 1 :: sv ((s.columns[k.toNat]!).name) :: bv (okName ((s.columns[k.toNat]!).name)) :: bv (!(okName ((s.columns[k.toNat]!).name))) :: po 0 :: .sF 4 (s.columns.map Col.cells) :: iv k :: .sF 4 ((s.columns.take k.toNat).map Col.cells) :: iv ((s.columns.take k.toNat).length : Int) :: iv j :: bv (decide (j < ((s.columns.take k.toNat).length : Int))) :: A4 (A4 (.pO 1 0 1 :: iv ((s.columns[k.toNat]!).type) :: bv (vKnown ((s.columns[k.toNat]!).type)) :: bv (!(vKnown ((s.columns[k.toNat]!).type))) :: .pO 1 0 2 :: iv ((s.columns[k.toNat]!).scale) :: bv (decide (((s.columns[k.toNat]!).scale) < 0)) :: bv false :: .pO 1 0 2 :: iv ((s.columns[k.toNat]!).scale) :: bv (decide (((s.columns[k.toNat]!).scale) > 18)) :: bv (decide (((s.columns[k.toNat]!).scale) > 18)) :: bv false :: .pO 1 0 1 :: iv ((s.columns[k.toNat]!).type) :: bv (!(decide (((s.columns[k.toNat]!).type) = 5))) :: bv true :: .pO 1 0 2 :: iv ((s.columns[k.toNat]!).scale) :: bv (!(decide (((s.columns[k.toNat]!).scale) = 0))) :: bv (!(decide (((s.columns[k.toNat]!).scale) = 0))) :: bv (!(decide (((s.columns[k.toNat]!).scale) = 0))) :: A9 ([A, A, A]))))), [.live ⟨2, [(Schema.cells s)], 33⟩, .live ⟨4, [(Col.cells (s.columns[k.toNat]!))], 47⟩]⟩ (by kernel_rfl) ?_
      refine PON.fin rfl (thenA_normal ?_)
      exact ⟨rfl, rfl, (.any (.cons (.pO _ _ rfl) (.any (.v (.cons (.pO _ _ rfl) (.a9 (.any (.any (.cons (.tree (by simp only [NIs_cons, NIs_nil, NIr_cons, NIr_nil, NI_v, NI_any, NI_pO, NI_sO, NI_pF, NI_sF, NI_agg, NI_tup, NI_fn, NIh_nil, NIh_live, NIh_dead, NIh_free, NIr_map, NIr_append, NIs_icells, NIs_scells, NIs_bcells, NIs_Val, NIs_Col, NIs_Schema, NIs_PNode, NIs_Src, NIr_Val, NIr_Col, NIr_ints, NIr_PNode]; try simp)) (.v (.v (.v (.v (.cons (.tree (by simp only [NIs_cons, NIs_nil, NIr_cons, NIr_nil, NI_v, NI_any, NI_pO, NI_sO, NI_pF, NI_sF, NI_agg, NI_tup, NI_fn, NIh_nil, NIh_live, NIh_dead, NIh_free, NIr_map, NIr_append, NIs_icells, NIs_scells, NIs_bcells, NIs_Val, NIs_Col, NIs_Schema, NIs_PNode, NIs_Src, NIr_Val, NIr_Col, NIr_ints, NIr_PNode]; try simp)) (.cons (.tree (by simp only [NIs_cons, NIs_nil, NIr_cons, NIr_nil, NI_v, NI_any, NI_pO, NI_sO, NI_pF, NI_sF, NI_agg, NI_tup, NI_fn, NIh_nil, NIh_live, NIh_dead, NIh_free, NIr_map, NIr_append, NIs_icells, NIs_scells, NIs_bcells, NIs_Val, NIs_Col, NIs_Schema, NIs_PNode, NIs_Src, NIr_Val, NIr_Col, NIr_ints, NIr_PNode]; try simp)) (.cons (.pO _ _ rfl) (.v (.v (.v (.cons (.pO _ _ rfl) (.cons (.tree (by simp only [NIs_cons, NIs_nil, NIr_cons, NIr_nil, NI_v, NI_any, NI_pO, NI_sO, NI_pF, NI_sF, NI_agg, NI_tup, NI_fn, NIh_nil, NIh_live, NIh_dead, NIh_free, NIr_map, NIr_append, NIs_icells, NIs_scells, NIs_bcells, NIs_Val, NIs_Col, NIs_Schema, NIs_PNode, NIs_Src, NIr_Val, NIr_Col, NIr_ints, NIr_PNode]; try simp)) (.v (.cons (.tree (by simp only [NIs_cons, NIs_nil, NIr_cons, NIr_nil, NI_v, NI_any, NI_pO, NI_sO, NI_pF, NI_sF, NI_agg, NI_tup, NI_fn, NIh_nil, NIh_live, NIh_dead, NIh_free, NIr_map, NIr_append, NIs_icells, NIs_scells, NIs_bcells, NIs_Val, NIs_Col, NIs_Schema, NIs_PNode, NIs_Src, NIr_Val, NIr_Col, NIr_ints, NIr_PNode]; try simp)) (.v (.v (.v (.a4 (.a4 (.cons (.pO _ _ rfl) (.v (.v (.v (.a9 (.a4 (.a4 (.cons (.eq (.v _) (v_bool (by clear hret hK1 hK2 hK3 hK6 hK7 hK10 hK11 hK12 hK13 hK15 hK16 hK17 hK18 hK21 hK22 hK23 hK24 hK31 hK32 K0 K1 K2 K3 K6 K7 K10 K11 K12 K13 K15 K16 K17 K18 K21 K22 K23 K24 K31 K32; (try simp only [strEq_dec]); grind))) (.a9 (.any (.any (.any .nil)))))))))))))))))))))))))))))))))))))))), (.cons rfl (.tree (by simp only [NIs_cons, NIs_nil, NIr_cons, NIr_nil, NI_v, NI_any, NI_pO, NI_sO, NI_pF, NI_sF, NI_agg, NI_tup, NI_fn, NIh_nil, NIh_live, NIh_dead, NIh_free, NIr_map, NIr_append, NIs_icells, NIs_scells, NIs_bcells, NIs_Val, NIs_Col, NIs_Schema, NIs_PNode, NIs_Src, NIr_Val, NIr_Col, NIr_ints, NIr_PNode]; try simp)) (.cons rfl (.tree (by simp only [NIs_cons, NIs_nil, NIr_cons, NIr_nil, NI_v, NI_any, NI_pO, NI_sO, NI_pF, NI_sF, NI_agg, NI_tup, NI_fn, NIh_nil, NIh_live, NIh_dead, NIh_free, NIr_map, NIr_append, NIs_icells, NIs_scells, NIs_bcells, NIs_Val, NIs_Col, NIs_Schema, NIs_PNode, NIs_Src, NIr_Val, NIr_Col, NIr_ints, NIr_PNode]; try simp)) .nil))⟩
    refine PV.condP ((((s.columns[k.toNat]!).scale) < 0) ∨ ((((s.columns[k.toNat]!).scale) > 18) ∨ (¬(((s.columns[k.toNat]!).type) = 5) ∧ (¬(((s.columns[k.toNat]!).scale) = 0))))) (decide ((((s.columns[k.toNat]!).scale) < 0) ∨ ((((s.columns[k.toNat]!).scale) > 18) ∨ (¬(((s.columns[k.toNat]!).type) = 5) ∧ (¬(((s.columns[k.toNat]!).scale) = 0)))))) (by kernel_rfl) decide_eq_true decide_eq_false (fun h38 => ?_) (fun h38 => ?_)
    · skip
      refine PV.seq_k fun K39 hK39 => ?_
      refine PV.regionN ?_
      refine PON.runs 1 (by kernel_rfl) ?_
      refine PON.fin rfl (thenA_normal (hK39 _ ?_))
      refine PV.norm ⟨(A :: po 0 :: iv 4 :: iv k :: po 1 :: A9 (A :: A :: .sF 4 (s.columns.map Col.cells) :: iv (s.columns.length : Int) :: iv k :: bv (decide (k < (s.columns.length : Int))) :: iv k :: .pF (Col.cells (s.columns[k.toNat]!)) 0 :: .agg (Col.cells (s.columns[k.toNat]!)) :: po 1 :: sv ((s.columns[k.toNat]!).name) :: bv (okName ((s.columns[k.toNat]!).name)) :: bv (!(okName ((s.columns[k.toNat]!).name))) :: po 0 :: .sF 4 (s.columns.map Col.cells) :: iv k :: .sF 4 ((s.columns.take k.toNat).map Col.cells) :: iv ((s.columns.take k.toNat).length : Int) :: iv j :: bv (decide (j < ((s.columns.take k.toNat).length : Int))) :: A4 (A4 (.pO 1 0 1 :: iv ((s.columns[k.toNat]!).type) :: bv (vKnown ((s.columns[k.toNat]!).type)) :: bv (!(vKnown ((s.columns[k.toNat]!).type))) :: A9 (A4 (A4 (bv (decide ((((s.columns[k.toNat]!).scale) < 0) ∨ ((((s.columns[k.toNat]!).scale) > 18) ∨ (¬(((s.columns[k.toNat]!).type) = 5) ∧ (¬(((s.columns[k.toNat]!).scale) = 0)))))) :: A9 ([A, A, A])))))))), [.live ⟨2, [(Schema.cells s)], 33⟩, .live ⟨4, [(Col.cells (s.columns[k.toNat]!))], 47⟩]⟩ (by kernel_rfl) ?_
      refine PV.ret (inBlockA_ret (thenA_ret (thenA_ret (inBlockA_ret (thenA_ret (hret .ret _ (iv 4) (.inr rfl) (by kernel_rfl) ?_))))))
      clear hret hK1 hK2 hK3 hK6 hK7 hK10 hK11 hK12 hK13 hK15 hK16 hK17 hK18 hK21 hK22 hK23 hK24 hK31 hK32 hK39 K0 K1 K2 K3 K6 K7 K10 K11 K12 K13 K15 K16 K17 K18 K21 K22 K23 K24 K31 K32 K39
      show Tof noTau [.live ⟨2, [(Schema.cells s)], 33⟩, .live ⟨4, [(Col.cells (s.columns[k.toNat]!))], 47⟩] (iv 4) (iv (schemaErr s))
      -- leaf 6
      refine Tof.int ?_
      first | grind [schemaErr] | (have e : errFrom (colErr s.columns) 0 s.columns = colErr s.columns k s.columns[k.toNat]! := (by rw [hi, drop_step _ _ (by omega), errFrom]; grind [colErr, vKnown, okScale]); grind [schemaErr, colErr, vKnown, okScale]) | (rw [drop_end _ _ (by omega)] at hi; grind [schemaErr, errFrom])
    refine PV.skip (inBlockA_normal (thenA_normal (hK15 _ ?_)))
    refine PV.regionN ?_
    refine PON.ops (aBin_add_in Try.prog [.live ⟨2, [(Schema.cells s)], 33⟩, .live ⟨4, [(Col.cells (s.columns[k.toNat]!))], 47⟩] 3 (.tmp 18) (.const (.int .i64 1)) .i64 k 1 (by rw [wrap64] <;> omega)) (by kernel_rfl) (by kernel_rfl) ?_
    refine PON.runs 1 (by kernel_rfl) ?_
    refine PON.norm ⟨(A :: po 0 :: A :: iv k :: po 1 :: A9 (A :: A :: .sF 4 (s.columns.map Col.cells) :: iv (s.columns.length : Int) :: iv (k + 1) :: bv (decide (k < (s.columns.length : Int))) :: iv k :: .pF (Col.cells (s.columns[k.toNat]!)) 0 :: .agg (Col.cells (s.columns[k.toNat]!)) :: po 1 :: sv ((s.columns[k.toNat]!).name) :: bv (okName ((s.columns[k.toNat]!).name)) :: bv (!(okName ((s.columns[k.toNat]!).name))) :: po 0 :: .sF 4 (s.columns.map Col.cells) :: iv k :: .sF 4 ((s.columns.take k.toNat).map Col.cells) :: iv ((s.columns.take k.toNat).length : Int) :: iv j :: bv (decide (j < ((s.columns.take k.toNat).length : Int))) :: A4 (A4 (.pO 1 0 1 :: iv ((s.columns[k.toNat]!).type) :: bv (vKnown ((s.columns[k.toNat]!).type)) :: bv (!(vKnown ((s.columns[k.toNat]!).type))) :: A9 (A4 (A4 (bv (decide ((((s.columns[k.toNat]!).scale) < 0) ∨ ((((s.columns[k.toNat]!).scale) > 18) ∨ (¬(((s.columns[k.toNat]!).type) = 5) ∧ (¬(((s.columns[k.toNat]!).scale) = 0)))))) :: iv (k + 1) :: A9 ([A, A])))))))), [.live ⟨2, [(Schema.cells s)], 33⟩, .live ⟨4, [(Col.cells (s.columns[k.toNat]!))], 47⟩]⟩ (by kernel_rfl) ?_
    refine PON.fin rfl (thenA_normal ?_)
    refine ⟨[0], (k + 1), ⟨rfl, rfl, (.any (.cons (.pO _ _ rfl) (.a9 (.a4 (.any (.cons (.tree (by simp only [NIs_cons, NIs_nil, NIr_cons, NIr_nil, NI_v, NI_any, NI_pO, NI_sO, NI_pF, NI_sF, NI_agg, NI_tup, NI_fn, NIh_nil, NIh_live, NIh_dead, NIh_free, NIr_map, NIr_append, NIs_icells, NIs_scells, NIs_bcells, NIs_Val, NIs_Col, NIs_Schema, NIs_PNode, NIs_Src, NIr_Val, NIr_Col, NIr_ints, NIr_PNode]; try simp)) (.v (.v (.a9 (.a9 (.a9 (.a9 (.a9 (.a9 (.any (.any (.any .nil))))))))))))))))), (.cons rfl (.tree (by simp only [NIs_cons, NIs_nil, NIr_cons, NIr_nil, NI_v, NI_any, NI_pO, NI_sO, NI_pF, NI_sF, NI_agg, NI_tup, NI_fn, NIh_nil, NIh_live, NIh_dead, NIh_free, NIr_map, NIr_append, NIs_icells, NIs_scells, NIs_bcells, NIs_Val, NIs_Col, NIs_Schema, NIs_PNode, NIs_Src, NIr_Val, NIr_Col, NIr_ints, NIr_PNode]; try simp)) .nil)⟩, ?_, ?_⟩
    · skip
      clear hret hK1 hK2 hK3 hK6 hK7 hK10 hK11 hK12 hK13 hK15 hK16 hK17 hK18 hK21 hK22 hK23 hK24 hK31 hK32 K0 K1 K2 K3 K6 K7 K10 K11 K12 K13 K15 K16 K17 K18 K21 K22 K23 K24 K31 K32
      refine ⟨?_, ?_⟩
      · skip
        show 0 ≤ (k + 1) ∧ (k + 1) ≤ s.columns.length
        omega
      · skip
        show errFrom (colErr s.columns) 0 s.columns = errFrom (colErr s.columns) (k + 1) (s.columns.drop (k + 1).toNat)
        rw [drop_step _ _ (by omega)] at hi
        rw [hi, errFrom, if_pos (by grind [colErr, okScale, vKnown])]
    · skip
      clear hret hK1 hK2 hK3 hK6 hK7 hK10 hK11 hK12 hK13 hK15 hK16 hK17 hK18 hK21 hK22 hK23 hK24 hK31 hK32 K0 K1 K2 K3 K6 K7 K10 K11 K12 K13 K15 K16 K17 K18 K21 K22 K23 K24 K31 K32
      show ((s.columns.length : Int) - (k + 1)).toNat < ((s.columns.length : Int) - k).toNat
      omega
  refine PV.exit (thenA_exit (thenA_exit (inBlockA_hit (thenA_normal (hK10 _ ?_)))))
  refine PV.seq_k fun K40 hK40 => ?_
  refine PV.norm ⟨(A :: po 0 :: A9 (A4 (A :: .sF 4 (s.columns.map Col.cells) :: iv (s.columns.length : Int) :: iv k :: bv (decide (k < (s.columns.length : Int))) :: A9 (A9 (A9 (A9 (A9 (A9 ([A, A]))))))))), [.live ⟨2, [(Schema.cells s)], 33⟩]⟩ (by kernel_rfl) ?_
  refine PV.seqR [0] ⟨(A :: po 0 :: A9 (A4 (A :: .sF 4 (s.columns.map Col.cells) :: iv (s.columns.length : Int) :: iv k :: bv (decide (k < (s.columns.length : Int))) :: A9 (A9 (A9 (A9 (A9 (A9 ([A, bv (decide ((s.key < 0) ∨ (s.key ≥ (s.columns.length : Int))))]))))))))), [.live ⟨2, [(Schema.cells s)], 33⟩]⟩ ?_ ?_
  · skip
    refine PV.regionN ?_
    refine PON.runs 4 (by kernel_rfl) ?_
    refine PON.norm ⟨(A :: po 0 :: A9 (A4 (A :: .sF 4 (s.columns.map Col.cells) :: iv (s.columns.length : Int) :: iv k :: bv (decide (k < (s.columns.length : Int))) :: A9 (A9 (A9 (A9 (A9 (.pO 0 0 1 :: iv s.key :: bv (decide (s.key < 0)) :: bv (decide (s.key < 0)) :: A4 ([A, A, A]))))))))), [.live ⟨2, [(Schema.cells s)], 33⟩]⟩ (by kernel_rfl) ?_
    refine PON.splitP (s.key < 0) 68 (decide (s.key < 0)) (A :: po 0 :: A9 (A4 (A :: .sF 4 (s.columns.map Col.cells) :: iv (s.columns.length : Int) :: iv k :: bv (decide (k < (s.columns.length : Int))) :: A9 (A9 (A9 (A9 (A9 (.pO 0 0 1 :: iv s.key :: bv (decide (s.key < 0)) :: bv true :: A4 ([A, A, A]))))))))) (A :: po 0 :: A9 (A4 (A :: .sF 4 (s.columns.map Col.cells) :: iv (s.columns.length : Int) :: iv k :: bv (decide (k < (s.columns.length : Int))) :: A9 (A9 (A9 (A9 (A9 (.pO 0 0 1 :: iv s.key :: bv (decide (s.key < 0)) :: bv false :: A4 ([A, A, A]))))))))) (by kernel_rfl) decide_eq_true decide_eq_false (by kernel_rfl) (by kernel_rfl) (fun h41 => ?_) (fun h41 => ?_)
    · skip
      refine PON.runs 7 (by kernel_rfl) ?_
      refine PON.norm ⟨(A :: po 0 :: A9 (A4 (A :: .sF 4 (s.columns.map Col.cells) :: iv (s.columns.length : Int) :: iv k :: bv (decide (k < (s.columns.length : Int))) :: A9 (A9 (A9 (A9 (A9 ([.pO 0 0 1, iv s.key, bv (decide (s.key < 0)), bv true, U, U, U, U, U, U, bv true])))))))), [.live ⟨2, [(Schema.cells s)], 33⟩]⟩ (by kernel_rfl) ?_
      refine PON.fin rfl (thenA_normal ?_)
      exact ⟨rfl, rfl, (.any (.cons (.pO _ _ rfl) (.a9 (.a4 (.any (.cons (.tree (by simp only [NIs_cons, NIs_nil, NIr_cons, NIr_nil, NI_v, NI_any, NI_pO, NI_sO, NI_pF, NI_sF, NI_agg, NI_tup, NI_fn, NIh_nil, NIh_live, NIh_dead, NIh_free, NIr_map, NIr_append, NIs_icells, NIs_scells, NIs_bcells, NIs_Val, NIs_Col, NIs_Schema, NIs_PNode, NIs_Src, NIr_Val, NIr_Col, NIr_ints, NIr_PNode]; try simp)) (.v (.v (.v (.a9 (.a9 (.a9 (.a9 (.a9 (.a9 (.any (.cons (.eq (.v _) (v_bool (by clear hret hK1 hK2 hK3 hK6 hK7 hK10 hK11 hK12 hK13 hK40 K0 K1 K2 K3 K6 K7 K10 K11 K12 K13 K40; (try simp only [strEq_dec]); grind))) .nil))))))))))))))))), (.cons rfl (.tree (by simp only [NIs_cons, NIs_nil, NIr_cons, NIr_nil, NI_v, NI_any, NI_pO, NI_sO, NI_pF, NI_sF, NI_agg, NI_tup, NI_fn, NIh_nil, NIh_live, NIh_dead, NIh_free, NIr_map, NIr_append, NIs_icells, NIs_scells, NIs_bcells, NIs_Val, NIs_Col, NIs_Schema, NIs_PNode, NIs_Src, NIr_Val, NIr_Col, NIr_ints, NIr_PNode]; try simp)) .nil)⟩
    refine PON.runs 4 (by kernel_rfl) ?_
    refine PON.ops (aLen_map Try.prog [.live ⟨2, [(Schema.cells s)], 33⟩] 31 47 (by kernel_rfl) 4 Col.cells s.columns) (by kernel_rfl) (by kernel_rfl) ?_
    refine PON.runs 2 (by kernel_rfl) ?_
    refine PON.norm ⟨(A :: po 0 :: A9 (A4 (A :: .sF 4 (s.columns.map Col.cells) :: iv (s.columns.length : Int) :: iv k :: bv (decide (k < (s.columns.length : Int))) :: A9 (A9 (A9 (A9 (A9 ([.pO 0 0 1, iv s.key, bv (decide (s.key < 0)), bv false, .pO 0 0 1, iv s.key, po 0, .sF 4 (s.columns.map Col.cells), iv (s.columns.length : Int), bv (decide (s.key ≥ (s.columns.length : Int))), bv (decide (s.key ≥ (s.columns.length : Int)))])))))))), [.live ⟨2, [(Schema.cells s)], 33⟩]⟩ (by kernel_rfl) ?_
    refine PON.fin rfl (thenA_normal ?_)
    exact ⟨rfl, rfl, (.any (.cons (.pO _ _ rfl) (.a9 (.a4 (.any (.cons (.tree (by simp only [NIs_cons, NIs_nil, NIr_cons, NIr_nil, NI_v, NI_any, NI_pO, NI_sO, NI_pF, NI_sF, NI_agg, NI_tup, NI_fn, NIh_nil, NIh_live, NIh_dead, NIh_free, NIr_map, NIr_append, NIs_icells, NIs_scells, NIs_bcells, NIs_Val, NIs_Col, NIs_Schema, NIs_PNode, NIs_Src, NIr_Val, NIr_Col, NIr_ints, NIr_PNode]; try simp)) (.v (.v (.v (.a9 (.a9 (.a9 (.a9 (.a9 (.a9 (.any (.cons (.eq (.v _) (v_bool (by clear hret hK1 hK2 hK3 hK6 hK7 hK10 hK11 hK12 hK13 hK40 K0 K1 K2 K3 K6 K7 K10 K11 K12 K13 K40; (try simp only [strEq_dec]); grind))) .nil))))))))))))))))), (.cons rfl (.tree (by simp only [NIs_cons, NIs_nil, NIr_cons, NIr_nil, NI_v, NI_any, NI_pO, NI_sO, NI_pF, NI_sF, NI_agg, NI_tup, NI_fn, NIh_nil, NIh_live, NIh_dead, NIh_free, NIr_map, NIr_append, NIs_icells, NIs_scells, NIs_bcells, NIs_Val, NIs_Col, NIs_Schema, NIs_PNode, NIs_Src, NIr_Val, NIr_Col, NIr_ints, NIr_PNode]; try simp)) .nil)⟩
  refine PV.condP ((s.key < 0) ∨ (s.key ≥ (s.columns.length : Int))) (decide ((s.key < 0) ∨ (s.key ≥ (s.columns.length : Int)))) (by kernel_rfl) decide_eq_true decide_eq_false (fun h42 => ?_) (fun h42 => ?_)
  · skip
    refine PV.seq_k fun K43 hK43 => ?_
    refine PV.regionN ?_
    refine PON.runs 1 (by kernel_rfl) ?_
    refine PON.fin rfl (thenA_normal (hK43 _ ?_))
    refine PV.norm ⟨(A :: po 0 :: iv 4 :: A9 (A4 (.sF 4 (s.columns.map Col.cells) :: iv (s.columns.length : Int) :: iv k :: bv (decide (k < (s.columns.length : Int))) :: A9 (A9 (A9 (A9 (A9 (A9 ([A, bv (decide ((s.key < 0) ∨ (s.key ≥ (s.columns.length : Int))))]))))))))), [.live ⟨2, [(Schema.cells s)], 33⟩]⟩ (by kernel_rfl) ?_
    refine PV.ret (thenA_ret (hret .ret _ (iv 4) (.inr rfl) (by kernel_rfl) ?_))
    clear hret hK1 hK2 hK3 hK6 hK7 hK10 hK11 hK12 hK13 hK40 hK43 K0 K1 K2 K3 K6 K7 K10 K11 K12 K13 K40 K43
    show Tof noTau [.live ⟨2, [(Schema.cells s)], 33⟩] (iv 4) (iv (schemaErr s))
    -- leaf 7
    refine Tof.int ?_
    first | grind [schemaErr] | (have e : errFrom (colErr s.columns) 0 s.columns = colErr s.columns k s.columns[k.toNat]! := (by rw [hi, drop_step _ _ (by omega), errFrom]; grind [colErr, vKnown, okScale]); grind [schemaErr, colErr, vKnown, okScale]) | (rw [drop_end _ _ (by omega)] at hi; grind [schemaErr, errFrom])
  refine PV.skip (thenA_normal (hK40 _ ?_))
  refine PV.seq_k fun K44 hK44 => ?_
  refine PV.regionN ?_
  refine PON.runs 1 (by kernel_rfl) ?_
  refine PON.fin rfl (thenA_normal (hK44 _ ?_))
  refine PV.norm ⟨(A :: po 0 :: iv 0 :: A9 (A4 (.sF 4 (s.columns.map Col.cells) :: iv (s.columns.length : Int) :: iv k :: bv (decide (k < (s.columns.length : Int))) :: A9 (A9 (A9 (A9 (A9 (A9 ([A, bv (decide ((s.key < 0) ∨ (s.key ≥ (s.columns.length : Int))))]))))))))), [.live ⟨2, [(Schema.cells s)], 33⟩]⟩ (by kernel_rfl) ?_
  refine PV.ret (hret .ret _ (iv 0) (.inr rfl) (by kernel_rfl) ?_)
  clear hret hK1 hK2 hK3 hK6 hK7 hK10 hK11 hK12 hK13 hK40 hK44 K0 K1 K2 K3 K6 K7 K10 K11 K12 K13 K40 K44
  show Tof noTau [.live ⟨2, [(Schema.cells s)], 33⟩] (iv 0) (iv (schemaErr s))
  -- leaf 8
  refine Tof.int ?_
  first | grind [schemaErr] | (have e : errFrom (colErr s.columns) 0 s.columns = colErr s.columns k s.columns[k.toNat]! := (by rw [hi, drop_step _ _ (by omega), errFrom]; grind [colErr, vKnown, okScale]); grind [schemaErr, colErr, vKnown, okScale]) | (rw [drop_end _ _ (by omega)] at hi; grind [schemaErr, errFrom])
theorem rschema_ok (s : Schema) : PCX Try.prog 31 [.agg (Schema.cells s)] [] [] (iv (schemaErr s)) :=
  PCX.frame (by simp only [NIs_cons, NIs_nil, NIr_cons, NIr_nil, NI_v, NI_any, NI_pO, NI_sO, NI_pF, NI_sF, NI_agg, NI_tup, NI_fn, NIh_nil, NIh_live, NIh_dead, NIh_free, NIr_map, NIr_append, NIs_icells, NIs_scells, NIs_bcells, NIs_Val, NIs_Col, NIs_Schema, NIs_PNode, NIs_Src, NIr_Val, NIr_Col, NIr_ints, NIr_PNode]; try simp) (rschema_ok_walk s)

end Go.Proofs.Ytinehkfcploeiaa
