/- Contracts of the statements of layer 12. -/
import Derived.Test.YtlamfjhhjfgemaaChunks
namespace Go.Proofs.Ytlamfjhhjfgemaa
open Go.Abs
set_option linter.unusedVariables false
set_option linter.unusedSimpArgs false


def colS (t : Int) (null : Bool) : Col := (⟨#[120]⟩, 1 + pick t 5, 0, null)
theorem asm_le (c : Col) : ∀ (N : List Bool) (R M : List Val), (asm c N R M).1.length ≤ M.length + N.length
  | [], R, M => by simp [asm]
  | b :: N, R, M => by
    rw [asm]
    split
    · exact Nat.zero_le _
    · have := asm_le c N (rsV b R) (M ++ [pkV b R])
      simp at this ⊢; omega
theorem unpB_le (s : ByteArray) (n : Int) : (unpB s n).1.length ≤ 4096 := by
  unfold unpB
  split
  · exact Nat.zero_le _
  split
  · exact Nat.zero_le _
  split
  · exact Nat.zero_le _
  split
  · exact Nat.zero_le _
  · rw [bitsB_len]; omega
theorem nul_le {s : ByteArray} {a n k : Int} (h : n ≤ 4096) : (nulS s a n k).1.length ≤ 4096 := by
  unfold nulS
  split
  · split
    · exact Nat.zero_le _
    · exact unpB_le _ _
  · rw [List.length_replicate]; omega
theorem bod_le (c : Col) (s : ByteArray) : (bodS c s).1.length ≤ 4096 := by
  unfold bodS
  split
  · exact Nat.zero_le _
  · rename_i h
    split
    · exact Nat.zero_le _
    · unfold bodA
      split
      · exact Nat.zero_le _
      · unfold bodB
        split
        · exact Nat.zero_le _
        · have h1 := asm_le c (nulS s (getR s (getR s 1).2.1).2.1 (getR s 1).1 (getR s (getR s 1).2.1).1).1 (rstS c.2.1 (byteAt s (0 : Int).toNat) (s.extract (nulS s (getR s (getR s 1).2.1).2.1 (getR s 1).1 (getR s (getR s 1).2.1).1).2.2.toNat s.size) ((getR s 1).1 - (getR s (getR s 1).2.1).1)).1 []
          have h2 := nul_le (s := s) (a := (getR s (getR s 1).2.1).2.1) (n := (getR s 1).1) (k := (getR s (getR s 1).2.1).1) (by
            rcases Int.lt_or_le 4096 (getR s 1).1 with q | q
            · exact absurd (.inr (.inr q)) h
            · exact q)
          simp only [List.length_nil] at h1; omega
theorem decV_le (c : Col) (s : ByteArray) : (decV c s).1.length ≤ 4096 := by
  unfold decV
  split
  · exact Nat.zero_le _
  split
  · exact Nat.zero_le _
  split
  · exact Nat.zero_le _
  · exact bod_le _ _
def three : List Val := [(false, 5, ⟨#[]⟩), (false, 5, ⟨#[]⟩), (false, 5, ⟨#[]⟩)]
theorem three_ok : ∀ v, v ∈ three → okV v := fun v hv => by
  have h : okV (false, 5, ⟨#[]⟩) := ⟨Nat.zero_le _, by unfold inI; exact ⟨by decide, by decide⟩⟩
  unfold three at hv
  rcases List.mem_cons.1 hv with q | hv
  · rw [q]; exact h
  rcases List.mem_cons.1 hv with q | hv
  · rw [q]; exact h
  rcases List.mem_cons.1 hv with q | hv
  · rw [q]; exact h
  cases hv
theorem open_seal {b : ByteArray} (h : 1 ≤ b.size) : openE (sealS b) = 0 ∧ bodyS (sealS b) = b := by
  have hb : bodyS (sealS b) = b := seal_body b
  refine ⟨?_, hb⟩
  rw [openE, if_neg (by rw [seal_size]; omega), hb, if_neg (fun q => q rfl)]
theorem at_app {a b : ByteArray} {k : Nat} (h : k < a.size) : byteAt (a ++ b) k = byteAt a k := by
  rw [← toInts_get, ← toInts_get, toInts_app, List.getElem!_eq_getElem?_getD, List.getElem?_append_left (by rw [toInts_len]; exact h), ← List.getElem!_eq_getElem?_getD]
theorem head_at {k : Int} (h : 0 ≤ k ∧ k < 256) (l : List Val) : byteAt (headS k l) 0 = k := by
  unfold headS
  have h1 : (ofInts [IntKind.u8.wrap k]).size = 1 := rfl
  rw [at_app (by rw [ByteArray.size_append]; omega), at_app (by omega), ← toInts_get, toInts_ofInts (fun b hb => by rw [List.mem_singleton.1 hb]; exact u8_wrap k)]
  show IntKind.u8.wrap k = k
  exact u8_id h
theorem chunkB_at {t k : Int} (h : 0 ≤ k ∧ k < 256) (l : List Val) : byteAt (chunkB t k l) 0 = k := by
  have h1 := head_size k l
  by_cases q : (someV l).length < l.length
  · rw [chunkB_y q, at_app (by rw [ByteArray.size_append]; omega), at_app (by omega), head_at h]
  · rw [chunkB_n q, at_app (by omega), head_at h]
theorem codec_build {t k : Int} {l : List Val} (h : 1 ≤ k ∧ k ≤ 4) (hv : ∀ v, v ∈ l → okV v) (hl : l.length ≤ 4096) : codecS (buildS t k l) = (k, 0) := by
  have hs := (chunkB_size (t := t) (k := k) hv hl).2
  have ho := open_seal hs
  have e : byteAt (sealS (chunkB t k l)) 0 = k := by
    unfold sealS
    rw [at_app (by omega), chunkB_at (by omega)]
  rw [buildS, cod_2 ho.1 (by rw [e]; omega), e]
theorem build_size {t k : Int} {l : List Val} (hv : ∀ v, v ∈ l → okV v) (hl : l.length ≤ 4096) : (buildS t k l).size ≤ 4398046585379 ∧ 5 ≤ (buildS t k l).size := by
  have := chunkB_size (t := t) (k := k) hv hl
  rw [buildS, seal_size]; omega

abbrev c_three_ok' : Ct := .fn [] (none) (.d (.list tVal) three)
set_option maxRecDepth 100000 in
set_option maxHeartbeats 4000000 in
theorem three_ok' : CtOk Try.prog 22 c_three_ok' := by
  refine CtOk.fn tb66_ok mixed [] [] rfl rfl ?_
  rintro ⟨⟩ -
  refine ⟨[], ?_⟩
  repeat' (first
    | (
 with_reducible refine Side.mk ?_
 (try dsimp only [cu, joinT, ckTys, gts, loK, hiK, Prod.eta, List.nil_append])
 first
 | (done)
 | (with_reducible rfl)
 | (omega)
 | (exact Eq.refl _)
 | (simp only [List.length_append, List.length_cons, List.length_nil]; omega)
 | (grind))
    | (conv => whnf
       first
        | done
        | exact trivial
        | with_reducible refine NilBr.mk (fun h => ?_) ?_
        | with_reducible first | refine w_andS ?_ ?_ | refine w_andL ?_ ?_ | refine w_kern (by kernel_rfl) ?_ | refine w_true ?_ | refine w_nd ?_ ?_ | refine w_in ?_ ?_ | refine w_and ?_ ?_
        | ((with_reducible first | refine w_brN (fun h => ?_) (fun h => ?_) | refine w_brD (fun h => ?_) (fun h => ?_) | refine w_br (fun h => ?_) (fun h => ?_)) <;> (try dsimp only [cu, Prod.eta, List.nil_append] at h) <;> (try (exfalso; omega; done)))))
  all_goals (
 with_reducible refine Leaf.mk ?_
 (try dsimp only [cu, joinT, ckTys, gts, Prod.eta, List.nil_append] at *)
 first
 | (done)
 | (rfl))
abbrev tb67 : Tbl := (22, c_three_ok') :: tb66
theorem tb67_ok : TblOk Try.prog tb67 := TblOk.cons three_ok' tb66_ok

abbrev c_awake_ok : Ct := .fn [] (none) (.d .bool true)
set_option maxRecDepth 100000 in
set_option maxHeartbeats 4000000 in
theorem awake_ok : CtOk Try.prog 15 c_awake_ok := by
  refine CtOk.fn tb67_ok mixed [] [] rfl rfl ?_
  rintro ⟨⟩ -
  refine ⟨[], ?_⟩
  repeat' (first
    | (
 with_reducible refine Side.mk ?_
 (try dsimp only [cu, joinT, ckTys, gts, loK, hiK, Prod.eta, List.nil_append])
 first
 | (done)
 | (with_reducible rfl)
 | (omega)
 | (exact Eq.refl _)
 | (simp only [List.length_append, List.length_cons, List.length_nil]; omega)
 | (exact three_ok)
 | (refine ⟨by decide, three_ok⟩)
 | (exact ⟨by decide, three_ok⟩)
 | (
  have := (build_size (t := 1) (k := 4) three_ok (by decide)).1
  omega))
    | (conv => whnf
       first
        | done
        | exact trivial
        | with_reducible refine NilBr.mk (fun h => ?_) ?_
        | with_reducible first | refine w_andS ?_ ?_ | refine w_andL ?_ ?_ | refine w_kern (by kernel_rfl) ?_ | refine w_true ?_ | refine w_nd ?_ ?_ | refine w_in ?_ ?_ | refine w_and ?_ ?_
        | ((with_reducible first | refine w_brN (fun h => ?_) (fun h => ?_) | refine w_brD (fun h => ?_) (fun h => ?_) | refine w_br (fun h => ?_) (fun h => ?_)) <;> (try dsimp only [cu, Prod.eta, List.nil_append] at h) <;> (try (exfalso; omega; done)))))
  all_goals (
 with_reducible refine Leaf.mk ?_
 (try dsimp only [cu, joinT, ckTys, gts, Prod.eta, List.nil_append] at *)
 first
 | (done)
 | (with_reducible rfl)
 | (
  have hcb := codec_build (t := 1) (k := 4) (by decide) three_ok (by decide)
  have h1 := congrArg Prod.fst hcb
  have h2 := congrArg Prod.snd hcb
  dsimp only at h1 h2
  first | (exact (decide_eq_true h2)) | (exact (decide_eq_true h2).symm) | (exact (decide_eq_true h1)) | contradiction | (simp only [h1, h2]; done) | (exfalso; simp_all; done)))
abbrev tb68 : Tbl := (15, c_awake_ok) :: tb67
theorem tb68_ok : TblOk Try.prog tb68 := TblOk.cons awake_ok tb67_ok

abbrev c_column_ok : Ct := .fn [.int .i64, .bool] (none) (fun (t : Int) (null : Bool) => .d tCol (colS t null))
set_option maxRecDepth 100000 in
set_option maxHeartbeats 4000000 in
theorem column_ok : CtOk Try.prog 10 c_column_ok := by
  refine CtOk.fn tb68_ok mixed [] [] rfl rfl ?_
  rintro ⟨(t : Int), (null : Bool), _⟩ -
  refine ⟨[], ?_⟩
  repeat' (first
    | (
 with_reducible refine Side.mk ?_
 (try dsimp only [cu, joinT, ckTys, gts, loK, hiK, Prod.eta, List.nil_append])
 first
 | (done)
 | (with_reducible rfl)
 | (omega)
 | (exact Eq.refl _)
 | (simp only [List.length_append, List.length_cons, List.length_nil]; omega)
 | (exact u64_ne (by decide))
 | (
  have := pick_lt (v := t) (n := 5) (by decide)
  omega))
    | (conv => whnf
       first
        | done
        | exact trivial
        | with_reducible refine NilBr.mk (fun h => ?_) ?_
        | with_reducible first | refine w_andS ?_ ?_ | refine w_andL ?_ ?_ | refine w_kern (by kernel_rfl) ?_ | refine w_true ?_ | refine w_nd ?_ ?_ | refine w_in ?_ ?_ | refine w_and ?_ ?_
        | ((with_reducible first | refine w_brN (fun h => ?_) (fun h => ?_) | refine w_brD (fun h => ?_) (fun h => ?_) | refine w_br (fun h => ?_) (fun h => ?_)) <;> (try dsimp only [cu, Prod.eta, List.nil_append] at h) <;> (try (exfalso; omega; done)))))
  all_goals (
 with_reducible refine Leaf.mk ?_
 (try dsimp only [cu, joinT, ckTys, gts, Prod.eta, List.nil_append] at *)
 first
 | (done)
 | (rfl))
abbrev tb69 : Tbl := (10, c_column_ok) :: tb68
theorem tb69_ok : TblOk Try.prog tb69 := TblOk.cons column_ok tb68_ok

end Go.Proofs.Ytlamfjhhjfgemaa
