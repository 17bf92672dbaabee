/- Walks of the laws. -/
import Derived.Test.YthomnlfmamagcaaLaw
namespace Go.Proofs.Ythomnlfmamagcaa
open Go.Abs
set_option linter.unusedVariables false
set_option linter.unusedSimpArgs false


theorem dec_len (s : ByteArray) (n : Int) : (decDict s n).1.length ≤ 4096 := by
  by_cases q1 : n < 0 ∨ n > 4096
  · rw [dec_0 q1]; exact Nat.zero_le _
  unfold decDict decA decB decC
  rw [if_neg q1]
  split
  · exact Nat.zero_le _
  split
  · exact Nat.zero_le _
  split
  · exact Nat.zero_le _
  split
  · exact Nat.zero_le _
  rename_i q5
  split
  · exact Nat.zero_le _
  split
  · exact Nat.zero_le _
  · have := unpackR_len (Decidable.not_not.1 q5)
    simp only [List.length_map]; omega
theorem dec_any (s : ByteArray) (n : Int) (hs : s.size ≤ 288230376151711744) : True := trivial
theorem idx_tmp {l : List Int} {c : List ByteArray} : True := trivial
theorem usedC_step {k : Nat} {u : List Int} {i : Int} {V : List Bool} (hV : V = usedL k (u.take i.toNat)) (h : 0 ≤ i ∧ i < u.length) (hc : 0 ≤ u[i.toNat]! ∧ u[i.toNat]! < k) : V.set u[i.toNat]!.toNat true = usedL k (u.take (i + 1).toNat) := by rw [hV, usedL_step h hc]
theorem codes_at {l : List ByteArray} {i : Int} (h : 0 ≤ i ∧ i < l.length) : 0 ≤ (codesS l)[i.toNat]! ∧ (codesS l)[i.toNat]! < (wordsS l).length ∧ (wordsS l)[(codesS l)[i.toNat]!.toNat]! = l[i.toNat]! := by
  rw [codes_get h]
  have hm : l[i.toNat]! ∈ wordsS l := (wordsS_mem l _).2 (by rw [getElem!_pos l i.toNat (by omega)]; exact List.getElem_mem _)
  obtain ⟨h1, h2⟩ := plS_mem (wordsS_asc l) hm
  exact ⟨by omega, by omega, by rw [Int.toNat_natCast]; exact h2⟩
theorem used_true {l : List ByteArray} {k : Int} (h : 0 ≤ k ∧ k < (wordsS l).length) : (usedL (wordsS l).length (codesS l))[k.toNat]! = true := by
  have hj : k.toNat < (wordsS l).length := by omega
  have hall : ((k.toNat : Nat) : Int) ∈ codesS l := by
    unfold codesS
    rw [List.mem_map]
    refine ⟨(wordsS l)[k.toNat]!, (wordsS_mem l _).1 (by rw [getElem!_pos (wordsS l) k.toNat hj]; exact List.getElem_mem hj), ?_⟩
    exact congrArg (fun n : Nat => (n : Int)) (plS_idx (wordsS_asc l) hj)
  rw [getElem!_pos _ k.toNat (by rw [usedL_len]; exact hj)]
  simp only [usedL, List.getElem_map, List.getElem_range, List.any_eq_true, decide_eq_true_eq]
  exact ⟨_, hall, rfl⟩
theorem words_lt {l : List ByteArray} {k : Int} (h : 0 < k ∧ k < (wordsS l).length) : strLt (wordsS l)[(k - 1).toNat]! (wordsS l)[k.toNat]! = true := ascS_get (wordsS_asc l) (by omega) (by omega)

abbrev c_same_ok : Ct := .fn [.list (.int .i64), .list (.int .i64)] (some (fun (a : List Int) (b : List Int) => (a.length ≤ 9223372036854775807))) (fun (a : List Int) (b : List Int) => .d .bool (decide (a = b)))
set_option maxRecDepth 100000 in
set_option maxHeartbeats 4000000 in
theorem same_ok : CtOk Try.prog 13 c_same_ok := by
  refine CtOk.fn tb35_ok mixed [] [] rfl rfl ?_
  rintro ⟨(a : List Int), (b : List Int), _⟩ hpre
  replace hpre := hpre _ rfl
  dsimp only [cu] at hpre
  have ha := hpre
  refine ⟨[(0, 8, LA.mk [.sl 13 (.int .i64)] (fun y => Tag 29 ∧ cu [.int .i64] (fun (k : Int) => (0 ≤ k ∧ k ≤ a.length) ∧ (a.take k.toNat = b.take k.toNat)) y) (cu [.int .i64] (fun (k : Int) => ((a.length : Int) - k).toNat)) (cu [.int .i64] (fun (k : Int) => ([] : List (Nat × Nat × LA)))))], ?_⟩
  repeat' (first
    | (with_reducible refine Side.mk ⟨(⟨⟩ : Tag 29), ?_⟩
       dsimp only [cu, joinT, ckTys, gts, Prod.eta, List.nil_append]
       refine ⟨?_, ?_⟩
       · omega
       · first
         | (rfl)
         | (rw [show (k + 1).toNat = k.toNat + 1 by omega, List.take_add_one, List.take_add_one, hs, List.getElem?_eq_getElem (by omega), List.getElem?_eq_getElem (by omega)]
            rw [getElem!_pos a k.toNat (by omega), getElem!_pos b k.toNat (by omega)] at *
            simp_all))
    | (with_reducible refine Side.mk ?_
       (try dsimp only [cu, joinT, ckTys, gts, loK, hiK, Prod.eta, List.nil_append])
       first
       | (done)
       | (with_reducible rfl)
       | (omega)
       | (exact Eq.refl _)
       | (simp only [List.length_append, List.length_cons, List.length_nil]; omega)
       | (omega))
    | (conv => whnf
       first
        | done
        | exact trivial
        | with_reducible refine NilBr.mk (fun h => ?_) ?_
        | with_reducible refine w_andS ?_ ?_
        | with_reducible refine w_andL ?_ ?_
        | with_reducible refine w_kern (by kernel_rfl) ?_
        | with_reducible refine w_true ?_
        | with_reducible refine w_nd ?_ ?_
        | with_reducible refine w_in ?_ ?_
        | with_reducible refine w_and ?_ ?_
        | (with_reducible refine w_brN (fun h => ?_) (fun h => ?_) <;> (try dsimp only [cu, Prod.eta, List.nil_append] at h) <;> (try (exfalso; omega; done)))
        | (with_reducible refine w_brD (fun h => ?_) (fun h => ?_) <;> (try dsimp only [cu, Prod.eta, List.nil_append] at h) <;> (try (exfalso; omega; done)))
        | (with_reducible refine w_br (fun h => ?_) (fun h => ?_) <;> (try dsimp only [cu, Prod.eta, List.nil_append] at h) <;> (try (exfalso; omega; done)))
        | (intro yy (hy : Tag 29 ∧ _)
           obtain ⟨(k : Int), _⟩ := yy
           replace hy := hy.2
           dsimp only [cu, joinT, ckTys, gts, Prod.eta, List.nil_append] at hy
           obtain ⟨hk, hs⟩ := hy)))
  all_goals (with_reducible refine Leaf.mk ?_
             (try dsimp only [cu, joinT, ckTys, gts, Prod.eta, List.nil_append] at *)
             first
             | (done)
             | (have hab : a = b := by
                  have h2 := hs
                  rw [List.take_of_length_le (by omega), List.take_of_length_le (by omega)] at h2
                  exact h2
                rw [decide_eq_true hab])
             | (have hne : ¬ a = b := fun q => by subst q; omega
                rw [decide_eq_false hne])
             | (have hne : ¬ a = b := fun q => by subst q; exact absurd rfl (by assumption)
                rw [decide_eq_false hne]))
abbrev tb36 : Tbl := (13, c_same_ok) :: tb35
theorem tb36_ok : TblOk Try.prog tb36 := TblOk.cons same_ok tb35_ok

abbrev c_sameS_ok : Ct := .fn [.list .str, .list .str] (some (fun (a : List ByteArray) (b : List ByteArray) => (a.length ≤ 9223372036854775807))) (fun (a : List ByteArray) (b : List ByteArray) => .d .bool (decide (a = b)))
set_option maxRecDepth 100000 in
set_option maxHeartbeats 4000000 in
theorem sameS_ok : CtOk Try.prog 12 c_sameS_ok := by
  refine CtOk.fn tb36_ok mixed [] [] rfl rfl ?_
  rintro ⟨(a : List ByteArray), (b : List ByteArray), _⟩ hpre
  replace hpre := hpre _ rfl
  dsimp only [cu] at hpre
  have ha := hpre
  refine ⟨[(0, 8, LA.mk [.sl 13 (.int .i64)] (fun y => Tag 30 ∧ cu [.int .i64] (fun (k : Int) => (0 ≤ k ∧ k ≤ a.length) ∧ (a.take k.toNat = b.take k.toNat)) y) (cu [.int .i64] (fun (k : Int) => ((a.length : Int) - k).toNat)) (cu [.int .i64] (fun (k : Int) => ([] : List (Nat × Nat × LA)))))], ?_⟩
  repeat' (first
    | (with_reducible refine Side.mk ⟨(⟨⟩ : Tag 30), ?_⟩
       dsimp only [cu, joinT, ckTys, gts, Prod.eta, List.nil_append]
       refine ⟨?_, ?_⟩
       · omega
       · first
         | (rfl)
         | (rw [show (k + 1).toNat = k.toNat + 1 by omega, List.take_add_one, List.take_add_one, hs, List.getElem?_eq_getElem (by omega), List.getElem?_eq_getElem (by omega)]
            rw [getElem!_pos a k.toNat (by omega), getElem!_pos b k.toNat (by omega)] at *
            simp_all))
    | (with_reducible refine Side.mk ?_
       (try dsimp only [cu, joinT, ckTys, gts, loK, hiK, Prod.eta, List.nil_append])
       first
       | (done)
       | (with_reducible rfl)
       | (omega)
       | (exact Eq.refl _)
       | (simp only [List.length_append, List.length_cons, List.length_nil]; omega)
       | (omega))
    | (conv => whnf
       first
        | done
        | exact trivial
        | with_reducible refine NilBr.mk (fun h => ?_) ?_
        | with_reducible refine w_andS ?_ ?_
        | with_reducible refine w_andL ?_ ?_
        | with_reducible refine w_kern (by kernel_rfl) ?_
        | with_reducible refine w_true ?_
        | with_reducible refine w_nd ?_ ?_
        | with_reducible refine w_in ?_ ?_
        | with_reducible refine w_and ?_ ?_
        | (with_reducible refine w_brN (fun h => ?_) (fun h => ?_) <;> (try dsimp only [cu, Prod.eta, List.nil_append] at h) <;> (try (exfalso; omega; done)))
        | (with_reducible refine w_brD (fun h => ?_) (fun h => ?_) <;> (try dsimp only [cu, Prod.eta, List.nil_append] at h) <;> (try (exfalso; omega; done)))
        | (with_reducible refine w_br (fun h => ?_) (fun h => ?_) <;> (try dsimp only [cu, Prod.eta, List.nil_append] at h) <;> (try (exfalso; omega; done)))
        | (intro yy (hy : Tag 30 ∧ _)
           obtain ⟨(k : Int), _⟩ := yy
           replace hy := hy.2
           dsimp only [cu, joinT, ckTys, gts, Prod.eta, List.nil_append] at hy
           obtain ⟨hk, hs⟩ := hy)))
  all_goals (with_reducible refine Leaf.mk ?_
             (try dsimp only [cu, joinT, ckTys, gts, Prod.eta, List.nil_append] at *)
             first
             | (done)
             | (have hab : a = b := by
                  have h2 := hs
                  rw [List.take_of_length_le (by omega), List.take_of_length_le (by omega)] at h2
                  exact h2
                rw [decide_eq_true hab])
             | (have hne : ¬ a = b := fun q => by subst q; omega
                rw [decide_eq_false hne])
             | (have hne : ¬ a = b := fun q => by subst q; exact absurd rfl (by assumption)
                rw [decide_eq_false hne]))
abbrev tb37 : Tbl := (12, c_sameS_ok) :: tb36
theorem tb37_ok : TblOk Try.prog tb37 := TblOk.cons sameS_ok tb36_ok

abbrev c_decodes_ok : Ct := .fn [.str, .int .i64] (some (fun (s : ByteArray) (n : Int) => (s.size ≤ 288230376151711744))) (fun (s : ByteArray) (n : Int) => .d .bool true)
set_option maxRecDepth 100000 in
set_option maxHeartbeats 4000000 in
theorem decodes_ok : CtOk Try.prog 18 c_decodes_ok := by
  refine CtOk.fn tb37_ok mixed [] [] rfl rfl ?_
  rintro ⟨(s : ByteArray), (n : Int), _⟩ hpre
  replace hpre := hpre _ rfl
  dsimp only [cu] at hpre
  have hs := hpre
  refine ⟨[], ?_⟩
  repeat' (first
    | (with_reducible refine Side.mk ?_
       (try dsimp only [cu, joinT, ckTys, gts, loK, hiK, Prod.eta, List.nil_append])
       first
       | (done)
       | (with_reducible rfl)
       | (omega)
       | (exact Eq.refl _)
       | (simp only [List.length_append, List.length_cons, List.length_nil]; omega)
       | (omega)
       | (have := dec_len s n
          omega))
    | (conv => whnf
       first
        | done
        | exact trivial
        | with_reducible refine NilBr.mk (fun h => ?_) ?_
        | with_reducible refine w_andS ?_ ?_
        | with_reducible refine w_andL ?_ ?_
        | with_reducible refine w_kern (by kernel_rfl) ?_
        | with_reducible refine w_true ?_
        | with_reducible refine w_nd ?_ ?_
        | with_reducible refine w_in ?_ ?_
        | with_reducible refine w_and ?_ ?_
        | (with_reducible refine w_brN (fun h => ?_) (fun h => ?_) <;> (try dsimp only [cu, Prod.eta, List.nil_append] at h) <;> (try (exfalso; omega; done)))
        | (with_reducible refine w_brD (fun h => ?_) (fun h => ?_) <;> (try dsimp only [cu, Prod.eta, List.nil_append] at h) <;> (try (exfalso; omega; done)))
        | (with_reducible refine w_br (fun h => ?_) (fun h => ?_) <;> (try dsimp only [cu, Prod.eta, List.nil_append] at h) <;> (try (exfalso; omega; done)))))
  all_goals (with_reducible refine Leaf.mk ?_
             (try dsimp only [cu, joinT, ckTys, gts, Prod.eta, List.nil_append] at *)
             first
             | (done)
             | (rfl)
             | (simp; done)
             | (exact absurd rfl (by assumption)))
abbrev tb38 : Tbl := (18, c_decodes_ok) :: tb37
theorem tb38_ok : TblOk Try.prog tb38 := TblOk.cons decodes_ok tb37_ok

abbrev c_roundtrip_ok : Ct := .fn [.list (.int .i64)] (some (fun (l : List Int) => (l.length ≤ 9223372036854775807))) (fun (l : List Int) => .d .bool true)
set_option maxRecDepth 100000 in
set_option maxHeartbeats 4000000 in
theorem roundtrip_ok : CtOk Try.prog 8 c_roundtrip_ok := by
  refine CtOk.fn tb38_ok mixed [] [] rfl rfl ?_
  rintro ⟨(l : List Int), _⟩ hpre
  replace hpre := hpre _ rfl
  dsimp only [cu] at hpre
  have hl := hpre
  refine ⟨[], ?_⟩
  repeat' (first
    | (with_reducible refine Side.mk ?_
       (try dsimp only [cu, joinT, ckTys, gts, loK, hiK, Prod.eta, List.nil_append])
       first
       | (done)
       | (with_reducible rfl)
       | (omega)
       | (exact Eq.refl _)
       | (simp only [List.length_append, List.length_cons, List.length_nil]; omega)
       | (assumption)
       | (exact kList_big l)
       | (have hkl := (kList_ok l).2
          exact ⟨kList_big l, by omega⟩)
       | (have hkl := (kList_ok l).2
          omega)
       | (have hes := encDict_size (kList_big l)
          omega)
       | (have hkl := (kList_ok l).2
          have hes := encDict_size (kList_big l)
          omega)
       | (have hkl := (kList_ok l).2
          rw [dict_round (by omega) (fun w hw => by have := (kList_ok l).1 w hw; omega)]
          simp only
          omega))
    | (conv => whnf
       first
        | done
        | exact trivial
        | with_reducible refine NilBr.mk (fun h => ?_) ?_
        | with_reducible refine w_andS ?_ ?_
        | with_reducible refine w_andL ?_ ?_
        | with_reducible refine w_kern (by kernel_rfl) ?_
        | with_reducible refine w_true ?_
        | with_reducible refine w_nd ?_ ?_
        | with_reducible refine w_in ?_ ?_
        | with_reducible refine w_and ?_ ?_
        | (with_reducible refine w_brN (fun h => ?_) (fun h => ?_) <;> (try dsimp only [cu, Prod.eta, List.nil_append] at h) <;> (try (exfalso; omega; done)))
        | (with_reducible refine w_brD (fun h => ?_) (fun h => ?_) <;> (try dsimp only [cu, Prod.eta, List.nil_append] at h) <;> (try (exfalso; omega; done)))
        | (with_reducible refine w_br (fun h => ?_) (fun h => ?_) <;> (try dsimp only [cu, Prod.eta, List.nil_append] at h) <;> (try (exfalso; omega; done)))))
  all_goals (with_reducible refine Leaf.mk ?_
             (try dsimp only [cu, joinT, ckTys, gts, Prod.eta, List.nil_append] at *)
             first
             | (done)
             | (have hkl := (kList_ok l).2
                rw [dict_round (by omega) (fun w hw => by have := (kList_ok l).1 w hw; omega)]
                rfl)
             | (have hkl := (kList_ok l).2
                rw [dict_round (by omega) (fun w hw => by have := (kList_ok l).1 w hw; omega)] at *
                simp_all; done))
abbrev tb39 : Tbl := (8, c_roundtrip_ok) :: tb38
theorem tb39_ok : TblOk Try.prog tb39 := TblOk.cons roundtrip_ok tb38_ok

abbrev c_decodesLaw_ok : Ct := .fn [.str, .int .i64] (some (fun (s : ByteArray) (n : Int) => (s.size ≤ 288230376151711744))) (fun (s : ByteArray) (n : Int) => .d .bool true)
set_option maxRecDepth 100000 in
set_option maxHeartbeats 4000000 in
theorem decodesLaw_ok : CtOk Try.prog 6 c_decodesLaw_ok := by
  refine CtOk.fn tb39_ok mixed [] [] rfl rfl ?_
  rintro ⟨(s : ByteArray), (n : Int), _⟩ hpre
  replace hpre := hpre _ rfl
  dsimp only [cu] at hpre
  have hs := hpre
  refine ⟨[], ?_⟩
  repeat' (first
    | (with_reducible refine Side.mk ?_
       (try dsimp only [cu, joinT, ckTys, gts, loK, hiK, Prod.eta, List.nil_append])
       first
       | (done)
       | (with_reducible rfl)
       | (omega)
       | (exact Eq.refl _)
       | (simp only [List.length_append, List.length_cons, List.length_nil]; omega)
       | (assumption)
       | (exact u64_ne (by omega))
       | (have := pick_lt (v := n) (n := 40) (by omega)
          omega))
    | (conv => whnf
       first
        | done
        | exact trivial
        | with_reducible refine NilBr.mk (fun h => ?_) ?_
        | with_reducible refine w_andS ?_ ?_
        | with_reducible refine w_andL ?_ ?_
        | with_reducible refine w_kern (by kernel_rfl) ?_
        | with_reducible refine w_true ?_
        | with_reducible refine w_nd ?_ ?_
        | with_reducible refine w_in ?_ ?_
        | with_reducible refine w_and ?_ ?_
        | (with_reducible refine w_brN (fun h => ?_) (fun h => ?_) <;> (try dsimp only [cu, Prod.eta, List.nil_append] at h) <;> (try (exfalso; omega; done)))
        | (with_reducible refine w_brD (fun h => ?_) (fun h => ?_) <;> (try dsimp only [cu, Prod.eta, List.nil_append] at h) <;> (try (exfalso; omega; done)))
        | (with_reducible refine w_br (fun h => ?_) (fun h => ?_) <;> (try dsimp only [cu, Prod.eta, List.nil_append] at h) <;> (try (exfalso; omega; done)))))
  all_goals (with_reducible refine Leaf.mk ?_
             (try dsimp only [cu, joinT, ckTys, gts, Prod.eta, List.nil_append] at *)
             first
             | (done)
             | (rfl)
             | (simp_all; done))
abbrev tb40 : Tbl := (6, c_decodesLaw_ok) :: tb39
theorem tb40_ok : TblOk Try.prog tb40 := TblOk.cons decodesLaw_ok tb39_ok

end Go.Proofs.Ythomnlfmamagcaa
