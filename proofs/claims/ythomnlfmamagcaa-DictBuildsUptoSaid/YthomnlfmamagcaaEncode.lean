/- Contracts of encoding a dictionary. -/
import Derived.Test.YthomnlfmamagcaaBuild
namespace Go.Proofs.Ythomnlfmamagcaa
open Go.Abs
set_option linter.unusedVariables false
set_option linter.unusedSimpArgs false


theorem size_le {l : List ByteArray} {B : Nat} (h : ∀ w, w ∈ l → w.size ≤ B) (k : Nat) : l[k]!.size ≤ B := by
  by_cases q : k < l.length
  · exact h _ (by rw [getElem!_pos l k q]; exact List.getElem_mem q)
  · rw [getElem!_neg l k q]; exact Nat.zero_le _
theorem words_sz {l : List ByteArray} (h : ∀ w, w ∈ l → w.size ≤ 1073741824) (k : Nat) : (wordsS l)[k]!.size ≤ 1073741824 := size_le (wordsS_size h) k
theorem enc_pack {l : List ByteArray} (h : wordsS l = []) : (packR (codesS l) (wdN (wordsS l).length)).1 = ⟨#[]⟩ := by
  have hl : l = [] := by
    cases l with
    | nil => rfl
    | cons a l =>
      have := (wordsS_mem (a :: l) a).2 (by simp)
      rw [h] at this; simp at this
  subst hl
  exact packR_nil _ (wdN_rng _ (by simp [wordsS]))
theorem bytes_app_nil (s : ByteArray) : s ++ ⟨#[]⟩ = s := by
  show s ++ ByteArray.empty = s
  simp
theorem ofInts_toInts (s : ByteArray) : ofInts (toInts s) = s := by
  apply toInts_inj
  exact toInts_ofInts (fun b hb => toInts_rng hb)
theorem packR_size (l : List Int) (w : Int) : (packR l w).1.size ≤ 32768 := by
  unfold packR
  split
  · exact Nat.zero_le _
  split
  · exact Nat.zero_le _
  split
  · exact Nat.zero_le _
  · rw [ofInts_len, gL_len]
    obtain ⟨h1, h2⟩ := need_eq (n := (l.length : Int)) (w := w) ⟨⟨by omega, by omega⟩, by omega⟩
    rw [h1]; omega
theorem codes_all {l : List ByteArray} {C : List Int} {k : Int} (hc : C.length = (codesS l).length) (hC : C.take k.toNat = (codesS l).take k.toNat) (h : ¬ k < (codesS l).length) : C = codesS l := by
  rw [List.take_of_length_le (by omega), List.take_of_length_le (by omega)] at hC
  exact hC
theorem codesS_u64 (l : List ByteArray) (hl : l.length ≤ 1073741824) : ∀ v, v ∈ codesS l → 0 ≤ v ∧ v < 18446744073709551616 := by
  intro v hv
  have := codesS_rng l v hv
  have := wordsS_len l
  omega

abbrev tb18 : Tbl := (22, c_sortS_ok) :: tb17
theorem tb18_ok : TblOk Try.prog tb18 := TblOk.cons sortS_ok tb17_ok

abbrev tb19 : Tbl := (23, c_compS_ok) :: tb18
theorem tb19_ok : TblOk Try.prog tb19 := TblOk.cons compS_ok tb18_ok

abbrev tb20 : Tbl := (24, c_bs_ok) :: tb19
theorem tb20_ok : TblOk Try.prog tb20 := TblOk.cons bs_ok tb19_ok

abbrev c_build_ok : Ct := .fn [.list .str] (some (fun (l : List ByteArray) => (l.length ≤ 1073741824))) (fun (l : List ByteArray) => .tup [.list .str, .list (.int .i64)] (wordsS l, codesS l, ()))
set_option maxRecDepth 100000 in
set_option maxHeartbeats 4000000 in
theorem build_ok : CtOk Try.prog 10 c_build_ok := by
  refine CtOk.fn tb20_ok mixed [(21, 2, 4000002)] [21] rfl rfl ?_
  rintro ⟨(l : List ByteArray), _⟩ hpre
  replace hpre := hpre _ rfl
  dsimp only [cu] at hpre
  have hl := hpre
  refine ⟨[(0, 12, LA.mk [.sl 19 (.int .i64), .ar 2 (.int .i64) 3] (fun y => Tag 17 ∧ cu [.int .i64, .list (.int .i64)] (fun (k : Int) (C : List Int) => (0 ≤ k ∧ k ≤ l.length) ∧ (C.length = l.length) ∧ (C.take k.toNat = (codesS l).take k.toNat)) y) (cu [.int .i64, .list (.int .i64)] (fun (k : Int) (C : List Int) => ((l.length : Int) - k).toNat)) (cu [.int .i64, .list (.int .i64)] (fun (k : Int) (C : List Int) => ([] : List (Nat × Nat × LA)))))], ?_⟩
  repeat' (first
    | (with_reducible refine Side.mk ⟨(⟨⟩ : Tag 17), ?_⟩
       dsimp only [cu, joinT, ckTys, gts, Prod.eta, List.nil_append]
       refine ⟨?_, ?_, ?_⟩
       · omega
       · first
         | (simp; done)
         | (simp; omega)
       · first
         | (rfl)
         | (exfalso
            simp_all; omega)
         | (rw [codes_take (by omega), show (k + 1).toNat = k.toNat + 1 by omega, take_set _ _ _ (by omega), hC, bsI_words]))
    | (with_reducible refine Side.mk ?_
       (try dsimp only [cu, joinT, ckTys, gts, loK, hiK, Prod.eta, List.nil_append])
       first
       | (done)
       | (with_reducible rfl)
       | (omega)
       | (exact Eq.refl _)
       | (simp only [List.length_append, List.length_cons, List.length_nil]; omega)
       | (have := comp_len l
          omega)
       | (simp [sortS_len]; done)
       | (rw [sortS_len]; omega)
       | (have := comp_len l
          show (compS (sortS l)).length < 4611686018427387904
          omega)
       | (simp; done)
       | (exfalso; simp_all; omega))
    | (conv => whnf
       first
        | done
        | exact trivial
        | with_reducible refine NilBr.mk (fun h => ?_) ?_
        | with_reducible refine w_andS ?_ ?_
        | with_reducible refine w_andL ?_ ?_
        | with_reducible refine w_kern (by kernel_rfl) ?_
        | with_reducible refine w_true ?_
        | with_reducible refine w_nd ?_ ?_
        | with_reducible refine w_in ?_ ?_
        | with_reducible refine w_and ?_ ?_
        | (with_reducible refine w_brN (fun h => ?_) (fun h => ?_) <;> (try dsimp only [cu, Prod.eta, List.nil_append] at h) <;> (try (exfalso; omega; done)))
        | (with_reducible refine w_brD (fun h => ?_) (fun h => ?_) <;> (try dsimp only [cu, Prod.eta, List.nil_append] at h) <;> (try (exfalso; omega; done)))
        | (with_reducible refine w_br (fun h => ?_) (fun h => ?_) <;> (try dsimp only [cu, Prod.eta, List.nil_append] at h) <;> (try (exfalso; omega; done)))
        | (intro yy (hy : Tag 17 ∧ _)
           obtain ⟨(k : Int), (C : List Int), _⟩ := yy
           replace hy := hy.2
           dsimp only [cu, joinT, ckTys, gts, Prod.eta, List.nil_append] at hy
           obtain ⟨hk, hcl, hC⟩ := hy)))
  all_goals (with_reducible refine Leaf.mk ?_
             (try dsimp only [cu, joinT, ckTys, gts, Prod.eta, List.nil_append] at *)
             first
             | (done)
             | (exact comp_words l)
             | (simp_all; done)
             | (have e : k.toNat = l.length := by omega
                rw [e, List.take_of_length_le (by omega), List.take_of_length_le (Nat.le_of_eq (codesS_len l))] at hC
                exact hC)
             | (simp_all [wordsS, codesS]; done))
abbrev tb21 : Tbl := (10, c_build_ok) :: tb20
theorem tb21_ok : TblOk Try.prog tb21 := TblOk.cons build_ok tb20_ok

abbrev c_dwidth_ok : Ct := .fn [.int .i64] (some (fun (n : Int) => (0 ≤ n ∧ n ≤ 4611686018427387904))) (fun (n : Int) => .d (.int .i64) (wdN n))
set_option maxRecDepth 100000 in
set_option maxHeartbeats 4000000 in
theorem dwidth_ok : CtOk Try.prog 27 c_dwidth_ok := by
  refine CtOk.fn tb21_ok mixed [] [] rfl rfl ?_
  rintro ⟨(n : Int), _⟩ hpre
  replace hpre := hpre _ rfl
  dsimp only [cu] at hpre
  have hn := hpre
  refine ⟨[], ?_⟩
  repeat' (first
    | (with_reducible refine Side.mk ?_
       (try dsimp only [cu, joinT, ckTys, gts, loK, hiK, Prod.eta, List.nil_append])
       first
       | (done)
       | (with_reducible rfl)
       | (omega)
       | (exact Eq.refl _)
       | (simp only [List.length_append, List.length_cons, List.length_nil]; omega)
       | (omega)
       | (have : maxI (n - 1) 0 ≤ 4611686018427387904 ∧ 0 ≤ maxI (n - 1) 0 := by unfold maxI; split <;> omega
          rw [u64_id (by omega)]; omega))
    | (conv => whnf
       first
        | done
        | exact trivial
        | with_reducible refine NilBr.mk (fun h => ?_) ?_
        | with_reducible refine w_andS ?_ ?_
        | with_reducible refine w_andL ?_ ?_
        | with_reducible refine w_kern (by kernel_rfl) ?_
        | with_reducible refine w_true ?_
        | with_reducible refine w_nd ?_ ?_
        | with_reducible refine w_in ?_ ?_
        | with_reducible refine w_and ?_ ?_
        | (with_reducible refine w_brN (fun h => ?_) (fun h => ?_) <;> (try dsimp only [cu, Prod.eta, List.nil_append] at h) <;> (try (exfalso; omega; done)))
        | (with_reducible refine w_brD (fun h => ?_) (fun h => ?_) <;> (try dsimp only [cu, Prod.eta, List.nil_append] at h) <;> (try (exfalso; omega; done)))
        | (with_reducible refine w_br (fun h => ?_) (fun h => ?_) <;> (try dsimp only [cu, Prod.eta, List.nil_append] at h) <;> (try (exfalso; omega; done)))))
  all_goals (with_reducible refine Leaf.mk ?_
             (try dsimp only [cu, joinT, ckTys, gts, Prod.eta, List.nil_append] at *)
             first
             | (done)
             | (have : maxI (n - 1) 0 ≤ 4611686018427387904 ∧ 0 ≤ maxI (n - 1) 0 := by unfold maxI; split <;> omega
                rw [u64_id (by omega)]; rfl))
abbrev tb22 : Tbl := (27, c_dwidth_ok) :: tb21
theorem tb22_ok : TblOk Try.prog tb22 := TblOk.cons dwidth_ok tb21_ok

abbrev c_encode_ok : Ct := .fn [.list .str] (some (fun (l : List ByteArray) => (∀ w, w ∈ l → w.size ≤ 1073741824) ∧ (l.length ≤ 1073741824))) (fun (l : List ByteArray) => .d .str (encDict l))
set_option maxRecDepth 100000 in
set_option maxHeartbeats 4000000 in
theorem encode_ok : CtOk Try.prog 11 c_encode_ok := by
  refine CtOk.fn tb22_ok mixed [(0, 4, 3000005)] [] rfl rfl ?_
  rintro ⟨(l : List ByteArray), _⟩ hpre
  replace hpre := hpre _ rfl
  dsimp only [cu] at hpre
  obtain ⟨hb, hl⟩ := hpre
  refine ⟨[(0, 12, LA.mk [.sl 28 (.int .i64), .lst 5 (.int .u8) 5] (fun y => Tag 18 ∧ cu [.int .i64, .list (.int .u8)] (fun (k : Int) (M : List Int) => (0 ≤ k ∧ k ≤ (wordsS l).length) ∧ (ofInts M = encWB (ofInts (put ((wordsS l).length : Int))) ((wordsS l).take k.toNat))) y) (cu [.int .i64, .list (.int .u8)] (fun (k : Int) (M : List Int) => (((wordsS l).length : Int) - k).toNat)) (cu [.int .i64, .list (.int .u8)] (fun (k : Int) (M : List Int) => ([] : List (Nat × Nat × LA))))), (0, 26, LA.mk [.sl 47 (.int .i64), .ar 1 (.int .u64) 48] (fun y => Tag 19 ∧ cu [.int .i64, .list (.int .u64)] (fun (k : Int) (C : List Int) => (0 ≤ k ∧ k ≤ (codesS l).length) ∧ (C.length = (codesS l).length) ∧ (C.take k.toNat = (codesS l).take k.toNat)) y) (cu [.int .i64, .list (.int .u64)] (fun (k : Int) (C : List Int) => (((codesS l).length : Int) - k).toNat)) (cu [.int .i64, .list (.int .u64)] (fun (k : Int) (C : List Int) => ([] : List (Nat × Nat × LA)))))], ?_⟩
  repeat' (first
    | (with_reducible refine Side.mk ⟨(⟨⟩ : Tag 18), ?_⟩
       dsimp only [cu, joinT, ckTys, gts, Prod.eta, List.nil_append]
       refine ⟨?_, ?_⟩
       · omega
       · first
         | (rw [u64_id (by have := wordsS_len l; omega), ofInts_toInts]; rfl)
         | (have hw := wordsS_len l
            have hsz := words_sz hb k.toNat
            rw [encWB_step (by omega), ofInts_app, ofInts_app, hM, ofInts_toInts, ofInts_toInts, u64_id (by omega), ByteArray.append_assoc]))
    | (with_reducible refine Side.mk ⟨(⟨⟩ : Tag 19), ?_⟩
       dsimp only [cu, joinT, ckTys, gts, Prod.eta, List.nil_append]
       refine ⟨?_, ?_, ?_⟩
       · omega
       · first
         | (simp; done)
         | (simp; omega)
       · first
         | (rfl)
         | (have hc := codesS_at l k.toNat
            rw [show (k + 1).toNat = k.toNat + 1 by omega, take_set _ _ _ (by omega), hC, u64_id (by omega), List.take_succ_eq_append_getElem (by omega), getElem!_pos _ k.toNat (by omega)]))
    | (with_reducible refine Side.mk ?_
       (try dsimp only [cu, joinT, ckTys, gts, loK, hiK, Prod.eta, List.nil_append])
       first
       | (done)
       | (with_reducible rfl)
       | (omega)
       | (exact Eq.refl _)
       | (simp only [List.length_append, List.length_cons, List.length_nil]; omega)
       | (have := wordsS_len l
          omega)
       | (exact u64_wrap _)
       | (rw [toInts_len]; done)
       | (have hp2 := put_len (IntKind.u64.wrap ((wordsS l).length : Int))
          rw [toInts_len, ofInts_len]; omega)
       | (have hw := wordsS_len l
          have hsz := words_sz hb k.toNat
          omega)
       | (have hw := wordsS_len l
          have hsz := words_sz hb k.toNat
          rw [u64_id (by omega)]; omega)
       | (have hw := wordsS_len l
          have hsz := words_sz hb k.toNat
          have hm := congrArg ByteArray.size hM
          rw [ofInts_len] at hm
          have ht := encWB_take (v := ((wordsS l).length : Int)) (k := k.toNat) hb (by omega)
          have hp := put_len ((wordsS l)[k.toNat]!.size : Int)
          have hp2 := put_len (IntKind.u64.wrap ((wordsS l)[k.toNat]!.size : Int))
          (try simp only [ofInts_len, toInts_len, List.length_append])
          omega)
       | (have := codesS_len l
          omega)
       | (have e := codes_all hcl hC (by assumption)
          subst e
          refine ⟨fun i => ?_, by rw [codesS_len]; omega⟩
          have := codesS_at l i
          omega)
       | (have hm := congrArg ByteArray.size hM
          rw [List.take_of_length_le (by omega)] at hm
          have ht := encWB_take (v := ((wordsS l).length : Int)) (k := (wordsS l).length) hb (by omega)
          rw [List.take_of_length_le (by omega)] at ht
          have := packR_size C (wdN ((wordsS l).length : Int))
          omega))
    | (conv => whnf
       first
        | done
        | exact trivial
        | with_reducible refine NilBr.mk (fun h => ?_) ?_
        | with_reducible refine w_andS ?_ ?_
        | with_reducible refine w_andL ?_ ?_
        | with_reducible refine w_kern (by kernel_rfl) ?_
        | with_reducible refine w_true ?_
        | with_reducible refine w_nd ?_ ?_
        | with_reducible refine w_in ?_ ?_
        | with_reducible refine w_and ?_ ?_
        | (with_reducible refine w_brN (fun h => ?_) (fun h => ?_) <;> (try dsimp only [cu, Prod.eta, List.nil_append] at h) <;> (try (exfalso; omega; done)))
        | (with_reducible refine w_brD (fun h => ?_) (fun h => ?_) <;> (try dsimp only [cu, Prod.eta, List.nil_append] at h) <;> (try (exfalso; omega; done)))
        | (with_reducible refine w_br (fun h => ?_) (fun h => ?_) <;> (try dsimp only [cu, Prod.eta, List.nil_append] at h) <;> (try (exfalso; omega; done)))
        | (intro yy (hy : Tag 18 ∧ _)
           obtain ⟨(k : Int), (M : List Int), _⟩ := yy
           replace hy := hy.2
           dsimp only [cu, joinT, ckTys, gts, Prod.eta, List.nil_append] at hy
           obtain ⟨hk, hM⟩ := hy)
        | (intro yy (hy : Tag 19 ∧ _)
           obtain ⟨(k : Int), (C : List Int), _⟩ := yy
           replace hy := hy.2
           dsimp only [cu, joinT, ckTys, gts, Prod.eta, List.nil_append] at hy
           obtain ⟨hk, hcl, hC⟩ := hy)))
  all_goals (with_reducible refine Leaf.mk ?_
             (try dsimp only [cu, joinT, ckTys, gts, Prod.eta, List.nil_append] at *)
             first
             | (done)
             | (have e0 : l.length > 4096 := by omega
                rw [encDict, if_pos e0])
             | (have e := codes_all hcl hC (by assumption)
                subst e
                rw [encDict, if_neg (by omega), hM, List.take_of_length_le (by omega)]))
abbrev tb23 : Tbl := (11, c_encode_ok) :: tb22
theorem tb23_ok : TblOk Try.prog tb23 := TblOk.cons encode_ok tb22_ok

abbrev c_rencode_ok : Ct := .fn [.list .str] (some (fun (l : List ByteArray) => (∀ w, w ∈ l → w.size ≤ 1073741824) ∧ (l.length ≤ 1073741824))) (fun (l : List ByteArray) => .d .str (encDict l))
set_option maxRecDepth 100000 in
set_option maxHeartbeats 4000000 in
theorem rencode_ok : CtOk Try.prog 16 c_rencode_ok := by
  refine CtOk.fn tb23_ok mixed [] [] rfl rfl ?_
  rintro ⟨(l : List ByteArray), _⟩ hpre
  replace hpre := hpre _ rfl
  dsimp only [cu] at hpre
  obtain ⟨hb, hl⟩ := hpre
  refine ⟨[(0, 12, LA.mk [.sl 27 (.int .i64), .sl 5 .str] (fun y => Tag 20 ∧ cu [.int .i64, .str] (fun (k : Int) (x : ByteArray) => (0 ≤ k ∧ k ≤ (wordsS l).length) ∧ (x = encWB (ofInts (put ((wordsS l).length : Int))) ((wordsS l).take k.toNat))) y) (cu [.int .i64, .str] (fun (k : Int) (x : ByteArray) => (((wordsS l).length : Int) - k).toNat)) (cu [.int .i64, .str] (fun (k : Int) (x : ByteArray) => ([] : List (Nat × Nat × LA))))), (0, 28, LA.mk [.sl 46 (.int .i64), .lst 8 (.int .u64) 48] (fun y => Tag 21 ∧ cu [.int .i64, .list (.int .u64)] (fun (k : Int) (C : List Int) => (0 ≤ k ∧ k ≤ (codesS l).length) ∧ (C = (codesS l).take k.toNat)) y) (cu [.int .i64, .list (.int .u64)] (fun (k : Int) (C : List Int) => (((codesS l).length : Int) - k).toNat)) (cu [.int .i64, .list (.int .u64)] (fun (k : Int) (C : List Int) => ([] : List (Nat × Nat × LA)))))], ?_⟩
  repeat' (first
    | (with_reducible refine Side.mk ⟨(⟨⟩ : Tag 20), ?_⟩
       dsimp only [cu, joinT, ckTys, gts, Prod.eta, List.nil_append]
       refine ⟨?_, ?_⟩
       · omega
       · first
         | (rw [u64_id (by have := wordsS_len l; omega)]; rfl)
         | (have hw := wordsS_len l
            have hsz := words_sz hb k.toNat
            rw [encWB_step (by omega), hM, u64_id (by omega)]))
    | (with_reducible refine Side.mk ⟨(⟨⟩ : Tag 21), ?_⟩
       dsimp only [cu, joinT, ckTys, gts, Prod.eta, List.nil_append]
       refine ⟨?_, ?_⟩
       · omega
       · first
         | (rfl)
         | (have hc := codesS_at l k.toNat
            rw [show (k + 1).toNat = k.toNat + 1 by omega, hC, u64_id (by omega), List.take_succ_eq_append_getElem (by omega), getElem!_pos _ k.toNat (by omega)]))
    | (with_reducible refine Side.mk ?_
       (try dsimp only [cu, joinT, ckTys, gts, loK, hiK, Prod.eta, List.nil_append])
       first
       | (done)
       | (with_reducible rfl)
       | (omega)
       | (exact Eq.refl _)
       | (simp only [List.length_append, List.length_cons, List.length_nil]; omega)
       | (have := wordsS_len l
          omega)
       | (exact u64_wrap _)
       | (have hw := wordsS_len l
          have hsz := words_sz hb k.toNat
          omega)
       | (have hw := wordsS_len l
          have hsz := words_sz hb k.toNat
          rw [u64_id (by omega)]; omega)
       | (have hcl := congrArg List.length hC
          simp only [List.length_take, List.length_cons, List.length_nil] at hcl ⊢
          have := codesS_len l
          omega)
       | (have := codesS_len l
          omega)
       | (have e : C = codesS l := by rw [hC, List.take_of_length_le (by omega)]
          subst e
          refine ⟨fun i => ?_, by rw [codesS_len]; omega⟩
          have := codesS_at l i
          omega)
       | (have hm := congrArg ByteArray.size hM
          have ht := encWB_take (v := ((wordsS l).length : Int)) (k := k.toNat) hb (by omega)
          have hp := put_len (IntKind.u64.wrap ((wordsS l)[k.toNat]!.size : Int))
          have hsz := words_sz hb k.toNat
          simp only [ByteArray.size_append, ofInts_len]
          omega)
       | (have hm := congrArg ByteArray.size hM
          rw [List.take_of_length_le (by omega)] at hm
          have ht := encWB_take (v := ((wordsS l).length : Int)) (k := (wordsS l).length) hb (by omega)
          rw [List.take_of_length_le (by omega)] at ht
          have hpk := packR_size C (lenI (IntKind.u64.wrap ((wordsS l).length - 1)))
          omega))
    | (conv => whnf
       first
        | done
        | exact trivial
        | with_reducible refine NilBr.mk (fun h => ?_) ?_
        | with_reducible refine w_andS ?_ ?_
        | with_reducible refine w_andL ?_ ?_
        | with_reducible refine w_kern (by kernel_rfl) ?_
        | with_reducible refine w_true ?_
        | with_reducible refine w_nd ?_ ?_
        | with_reducible refine w_in ?_ ?_
        | with_reducible refine w_and ?_ ?_
        | (with_reducible refine w_brN (fun h => ?_) (fun h => ?_) <;> (try dsimp only [cu, Prod.eta, List.nil_append] at h) <;> (try (exfalso; omega; done)))
        | (with_reducible refine w_brD (fun h => ?_) (fun h => ?_) <;> (try dsimp only [cu, Prod.eta, List.nil_append] at h) <;> (try (exfalso; omega; done)))
        | (with_reducible refine w_br (fun h => ?_) (fun h => ?_) <;> (try dsimp only [cu, Prod.eta, List.nil_append] at h) <;> (try (exfalso; omega; done)))
        | (intro yy (hy : Tag 20 ∧ _)
           obtain ⟨(k : Int), (x : ByteArray), _⟩ := yy
           replace hy := hy.2
           dsimp only [cu, joinT, ckTys, gts, Prod.eta, List.nil_append] at hy
           obtain ⟨hk, hM⟩ := hy)
        | (intro yy (hy : Tag 21 ∧ _)
           obtain ⟨(k : Int), (C : List Int), _⟩ := yy
           replace hy := hy.2
           dsimp only [cu, joinT, ckTys, gts, Prod.eta, List.nil_append] at hy
           obtain ⟨hk, hC⟩ := hy)))
  all_goals (with_reducible refine Leaf.mk ?_
             (try dsimp only [cu, joinT, ckTys, gts, Prod.eta, List.nil_append] at *)
             first
             | (done)
             | (have e0 : l.length > 4096 := by omega
                rw [encDict, if_pos e0])
             | (rw [encDict, if_neg (by omega), hM, enc_pack (List.length_eq_zero_iff.1 (by omega)), bytes_app_nil, List.take_of_length_le (by omega)])
             | (rw [encDict, if_neg (by omega), hM, List.take_of_length_le (by omega), hC, List.take_of_length_le (by omega), u64_id (by have := wordsS_len l; omega)]
                rw [wdN, show maxI ((wordsS l).length - 1) 0 = (wordsS l).length - 1 by (unfold maxI; split <;> omega)]))
abbrev tb24 : Tbl := (16, c_rencode_ok) :: tb23
theorem tb24_ok : TblOk Try.prog tb24 := TblOk.cons rencode_ok tb23_ok

end Go.Proofs.Ythomnlfmamagcaa
