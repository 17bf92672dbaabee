/- Contracts of the encoding of delete vectors. -/
import Derived.Test.YtojdmkkjamakiaaUnion
namespace Go.Proofs.Ytojdmkkjamakiaa
open Go.Abs
set_option linter.unusedVariables false
set_option linter.unusedSimpArgs false

abbrev c_seal_ok : Ct := .fn [.str] (some (fun (s : ByteArray) => (s.size ≤ 4611686018427387904))) (fun (s : ByteArray) => .d .str (sealS s))
set_option maxRecDepth 100000 in
set_option maxHeartbeats 4000000 in
theorem seal_ok : CtOk Try.prog 42 c_seal_ok := by
  refine CtOk.fn tb20_ok mixed [] [] rfl rfl ?_
  rintro ⟨(s : ByteArray), _⟩ hpre
  replace hpre := hpre _ rfl
  dsimp only [cu] at hpre
  have hs := hpre
  refine ⟨[], ?_⟩
  repeat' (first
    | (with_reducible refine Side.mk ?_
       (try dsimp only [cu, joinT, ckTys, gts, loK, hiK, Prod.eta, List.nil_append])
       first
       | (done)
       | (with_reducible rfl)
       | (omega)
       | (exact Eq.refl _)
       | (simp only [List.length_append, List.length_cons, List.length_nil]; omega)
       | (rw [four_size]; omega)
       | (exact crcTab_len)
       | (simp only [ofInts_len, List.length_cons, List.length_nil]; omega))
    | (conv => whnf
       first
        | done
        | exact trivial
        | with_reducible refine w_andS ?_ ?_
        | with_reducible refine w_andL ?_ ?_
        | with_reducible refine w_kern (by kernel_rfl) ?_
        | with_reducible refine w_true ?_
        | with_reducible refine w_nd ?_ ?_
        | with_reducible refine w_in ?_ ?_
        | with_reducible refine w_and ?_ ?_
        | (with_reducible refine w_brN (fun h => ?_) (fun h => ?_) <;> (try dsimp only [cu, Prod.eta, List.nil_append] at h) <;> (try (exfalso; omega; done)))
        | (with_reducible refine w_brD (fun h => ?_) (fun h => ?_) <;> (try dsimp only [cu, Prod.eta, List.nil_append] at h) <;> (try (exfalso; omega; done)))
        | (with_reducible refine w_br (fun h => ?_) (fun h => ?_) <;> (try dsimp only [cu, Prod.eta, List.nil_append] at h) <;> (try (exfalso; omega; done)))))
  all_goals (with_reducible refine Leaf.mk ?_
             (try dsimp only [cu, joinT, ckTys, gts, Prod.eta, List.nil_append] at *)
             first
             | (done)
             | (rfl))
abbrev tb21 : Tbl := (42, c_seal_ok) :: tb20
theorem tb21_ok : TblOk Try.prog tb21 := TblOk.cons seal_ok tb20_ok

abbrev c_four_ok : Ct := .fn [.int .u32] (none) (fun (v : Int) => .d .str (ofInts (four v)))
set_option maxRecDepth 100000 in
set_option maxHeartbeats 4000000 in
theorem four_ok : CtOk Try.prog 27 c_four_ok := by
  refine CtOk.fn tb21_ok mixed [] [] rfl rfl ?_
  rintro ⟨(v : Int), _⟩ -
  refine ⟨[], ?_⟩
  repeat' (first
    | (with_reducible refine Side.mk ?_
       (try dsimp only [cu, joinT, ckTys, gts, loK, hiK, Prod.eta, List.nil_append])
       first
       | (done)
       | (with_reducible rfl)
       | (omega)
       | (exact Eq.refl _)
       | (simp only [List.length_append, List.length_cons, List.length_nil]; omega)
       | (grind))
    | (conv => whnf
       first
        | done
        | exact trivial
        | with_reducible refine w_andS ?_ ?_
        | with_reducible refine w_andL ?_ ?_
        | with_reducible refine w_kern (by kernel_rfl) ?_
        | with_reducible refine w_true ?_
        | with_reducible refine w_nd ?_ ?_
        | with_reducible refine w_in ?_ ?_
        | with_reducible refine w_and ?_ ?_
        | (with_reducible refine w_brN (fun h => ?_) (fun h => ?_) <;> (try dsimp only [cu, Prod.eta, List.nil_append] at h) <;> (try (exfalso; omega; done)))
        | (with_reducible refine w_brD (fun h => ?_) (fun h => ?_) <;> (try dsimp only [cu, Prod.eta, List.nil_append] at h) <;> (try (exfalso; omega; done)))
        | (with_reducible refine w_br (fun h => ?_) (fun h => ?_) <;> (try dsimp only [cu, Prod.eta, List.nil_append] at h) <;> (try (exfalso; omega; done)))))
  all_goals (with_reducible refine Leaf.mk ?_
             (try dsimp only [cu, joinT, ckTys, gts, Prod.eta, List.nil_append] at *)
             first
             | (done)
             | (rfl))
abbrev tb22 : Tbl := (27, c_four_ok) :: tb21
theorem tb22_ok : TblOk Try.prog tb22 := TblOk.cons four_ok tb21_ok

abbrev c_enc_ok : Ct := .fn [.list (.int .i64), .int .i64] (some (fun (l : List Int) (rows : Int) => (l.length ≤ 9223372036854775807))) (fun (l : List Int) (rows : Int) => .tup [.str, .int .i64] (encS l rows, encE l rows, ()))
set_option maxRecDepth 100000 in
set_option maxHeartbeats 4000000 in
theorem enc_ok : CtOk Try.prog 22 c_enc_ok := by
  refine CtOk.fn tb22_ok mixed [(0, 3, 1), (0, 3, 6), (0, 8, 4)] [] rfl rfl ?_
  rintro ⟨(l : List Int), (rows : Int), _⟩ hpre
  replace hpre := hpre _ rfl
  dsimp only [cu] at hpre
  have hl := hpre
  refine ⟨[(0, 12, LA.mk [.sl 25 (.int .i64), .sl 6 .str, .sl 7 (.int .i64)] (fun y => Tag 14 ∧ cu [.int .i64, .str, .int .i64] (fun (k : Int) (x : ByteArray) (q : Int) => (0 ≤ k ∧ k ≤ l.length) ∧ (encB l rows = x ++ ofInts (encG (q - 1) (l.drop k.toNat))) ∧ ((x.size : Int) ≤ 24 + 10 * k) ∧ (ascF (q - 1) (l.drop k.toNat) = true) ∧ (0 ≤ q)) y) (cu [.int .i64, .str, .int .i64] (fun (k : Int) (x : ByteArray) (q : Int) => ((l.length : Int) - k).toNat)) (cu [.int .i64, .str, .int .i64] (fun (k : Int) (x : ByteArray) (q : Int) => ([] : List (Nat × Nat × LA)))))], ?_⟩
  repeat' (first
    | (with_reducible refine Side.mk ⟨(⟨⟩ : Tag 14), ?_⟩
       dsimp only [cu, joinT, ckTys, gts, Prod.eta, List.nil_append]
       refine ⟨?_, ?_, ?_, ?_, ?_⟩
       · omega
       · first
         | (rw [hb, encG_step (p := q - 1) (by omega), ofInts_app, ByteArray.append_assoc]
            rw [show l[k.toNat]! - (q - 1 + 1) = l[k.toNat]! - q by omega, show l[k.toNat]! + 1 - 1 = l[k.toNat]! by omega])
         | (rfl)
       · first
         | (have h1 := put_size rows
            have h2 := put_size (l.length : Int)
            have hc := chk_len (l := l) (rows := rows) (by simp_all; done)
            (try simp only [ByteArray.size_append, DEL1_size])
            omega)
         | (have h3 := put_size (l[k.toNat]! - q)
            (try simp only [ByteArray.size_append, DEL1_size])
            omega)
       · first
         | (exact (chk_len (rows := rows) (by simp_all; done)).2.2.2.1)
         | (have ha2 := ha
            rw [ascF_step (by omega), Bool.and_eq_true] at ha2
            rw [show l[k.toNat]! + 1 - 1 = l[k.toNat]! by omega]
            exact ha2.2)
       · first
         | (omega)
         | (have hc := chk_len (l := l) (rows := rows) (by simp_all; done)
            have hv := hc.2.2.2.2 k.toNat (by omega)
            omega))
    | (with_reducible refine Side.mk ?_
       (try dsimp only [cu, joinT, ckTys, gts, loK, hiK, Prod.eta, List.nil_append])
       first
       | (done)
       | (with_reducible rfl)
       | (omega)
       | (exact Eq.refl _)
       | (simp only [List.length_append, List.length_cons, List.length_nil]; omega)
       | (assumption)
       | (have h1 := put_size rows
          have h2 := put_size (l.length : Int)
          have hc := chk_len (l := l) (rows := rows) (by simp_all; done)
          (try simp only [ByteArray.size_append, DEL1_size])
          omega)
       | (have h1 := put_size rows
          have h2 := put_size (l.length : Int)
          have hc := chk_len (l := l) (rows := rows) (by simp_all; done)
          have h3 := put_size (l[k.toNat]! - q)
          (try simp only [ByteArray.size_append, DEL1_size])
          omega)
       | (have hc := chk_len (l := l) (rows := rows) (by simp_all; done)
          have hv := hc.2.2.2.2 k.toNat (by omega)
          have ha2 := ha
          rw [ascF_step (by omega), Bool.and_eq_true, decide_eq_true_eq] at ha2
          omega)
       | (have h1 := put_size rows
          have h2 := put_size (l.length : Int)
          have hc := chk_len (l := l) (rows := rows) (by simp_all; done)
          omega)
       | (have hc := chk_len (l := l) (rows := rows) (by simp_all; done)
          have hv := hc.2.2.2.2 k.toNat (by omega)
          omega))
    | (conv => whnf
       first
        | done
        | exact trivial
        | with_reducible refine w_andS ?_ ?_
        | with_reducible refine w_andL ?_ ?_
        | with_reducible refine w_kern (by kernel_rfl) ?_
        | with_reducible refine w_true ?_
        | with_reducible refine w_nd ?_ ?_
        | with_reducible refine w_in ?_ ?_
        | with_reducible refine w_and ?_ ?_
        | (with_reducible refine w_brN (fun h => ?_) (fun h => ?_) <;> (try dsimp only [cu, Prod.eta, List.nil_append] at h) <;> (try (exfalso; omega; done)))
        | (with_reducible refine w_brD (fun h => ?_) (fun h => ?_) <;> (try dsimp only [cu, Prod.eta, List.nil_append] at h) <;> (try (exfalso; omega; done)))
        | (with_reducible refine w_br (fun h => ?_) (fun h => ?_) <;> (try dsimp only [cu, Prod.eta, List.nil_append] at h) <;> (try (exfalso; omega; done)))
        | (intro yy (hy : Tag 14 ∧ _)
           obtain ⟨(k : Int), (x : ByteArray), (q : Int), _⟩ := yy
           replace hy := hy.2
           dsimp only [cu, joinT, ckTys, gts, Prod.eta, List.nil_append] at hy
           obtain ⟨hk, hb, hx, ha, hq⟩ := hy)))
  all_goals (with_reducible refine Leaf.mk ?_
             (try dsimp only [cu, joinT, ckTys, gts, Prod.eta, List.nil_append] at *)
             first
             | (done)
             | (have hcc : ¬ chk l rows = true := by simp_all
                rw [encS, if_neg hcc])
             | (have hcc : ¬ chk l rows = true := by simp_all
                rw [encE, if_neg hcc])
             | (have hcc : chk l rows = true := by simp_all
                rw [encS, if_pos hcc, hb, List.drop_eq_nil_of_le (by omega), encG, ofInts_nil, ByteArray.append_empty])
             | (have hcc : chk l rows = true := by simp_all
                rw [encE, if_pos hcc]))
abbrev tb23 : Tbl := (22, c_enc_ok) :: tb22
theorem tb23_ok : TblOk Try.prog tb23 := TblOk.cons enc_ok tb22_ok

abbrev c_renc_ok : Ct := .fn [.list (.int .i64), .int .i64] (some (fun (l : List Int) (rows : Int) => (l.length ≤ 9223372036854775807))) (fun (l : List Int) (rows : Int) => .tup [.str, .int .i64] (encS l rows, encE l rows, ()))
set_option maxRecDepth 100000 in
set_option maxHeartbeats 4000000 in
theorem renc_ok : CtOk Try.prog 23 c_renc_ok := by
  refine CtOk.fn tb23_ok mixed [(0, 3, 1), (0, 3, 6), (0, 9, 2)] [] rfl rfl ?_
  rintro ⟨(l : List Int), (rows : Int), _⟩ hpre
  replace hpre := hpre _ rfl
  dsimp only [cu] at hpre
  have hl := hpre
  refine ⟨[(0, 10, LA.mk [.sl 24 (.int .i64), .sl 6 .str] (fun y => Tag 15 ∧ cu [.int .i64, .str] (fun (k : Int) (x : ByteArray) => (0 ≤ k ∧ k ≤ l.length) ∧ (encB l rows = x ++ ofInts (encG (prevAt l k) (l.drop k.toNat))) ∧ ((x.size : Int) ≤ 24 + 10 * k) ∧ (ascF (prevAt l k) (l.drop k.toNat) = true) ∧ (-1 ≤ prevAt l k)) y) (cu [.int .i64, .str] (fun (k : Int) (x : ByteArray) => ((l.length : Int) - k).toNat)) (cu [.int .i64, .str] (fun (k : Int) (x : ByteArray) => ([] : List (Nat × Nat × LA)))))], ?_⟩
  repeat' (first
    | (with_reducible refine Side.mk ⟨(⟨⟩ : Tag 15), ?_⟩
       dsimp only [cu, joinT, ckTys, gts, Prod.eta, List.nil_append]
       refine ⟨?_, ?_, ?_, ?_, ?_⟩
       · omega
       · first
         | (have hpv : prevAt l k = l[(k - 1).toNat]! := by rw [prevAt, if_neg (by omega)]
            rw [hb, encG_step (p := prevAt l k) (by omega), ofInts_app, prevAt_succ l (by omega)]
            rw [hpv, ByteArray.append_assoc])
         | (have hpv : prevAt l k = -1 := by rw [prevAt, if_pos (by omega)]
            rw [hb, encG_step (p := prevAt l k) (by omega), ofInts_app, prevAt_succ l (by omega)]
            rw [hpv, ByteArray.append_assoc]
            rw [show l[k.toNat]! - (-1 + 1) = l[k.toNat]! by omega])
         | (rfl)
       · first
         | (have h1 := put_size rows
            have h2 := put_size (l.length : Int)
            have hc := chk_len (l := l) (rows := rows) (by simp_all; done)
            (try simp only [ByteArray.size_append, DEL1_size])
            omega)
         | (have h3 := put_size (l[k.toNat]! - (l[(k - 1).toNat]! + 1))
            have h4 := put_size l[k.toNat]!
            (try simp only [ByteArray.size_append, DEL1_size])
            omega)
       · first
         | (exact (chk_len (rows := rows) (by simp_all; done)).2.2.2.1)
         | (have ha2 := ha
            rw [ascF_step (by omega), Bool.and_eq_true, decide_eq_true_eq] at ha2
            rw [prevAt_succ l (by omega)]
            exact ha2.2)
       · first
         | (exact Int.le_refl (-1))
         | (have hc := chk_len (l := l) (rows := rows) (by simp_all; done)
            have hv := hc.2.2.2.2 k.toNat (by omega)
            rw [prevAt_succ l (by omega)]
            omega))
    | (with_reducible refine Side.mk ?_
       (try dsimp only [cu, joinT, ckTys, gts, loK, hiK, Prod.eta, List.nil_append])
       first
       | (done)
       | (with_reducible rfl)
       | (omega)
       | (exact Eq.refl _)
       | (simp only [List.length_append, List.length_cons, List.length_nil]; omega)
       | (assumption)
       | (have h1 := put_size rows
          have h2 := put_size (l.length : Int)
          have hc := chk_len (l := l) (rows := rows) (by simp_all; done)
          (try simp only [ByteArray.size_append, DEL1_size])
          omega)
       | (have h1 := put_size rows
          have h2 := put_size (l.length : Int)
          have hc := chk_len (l := l) (rows := rows) (by simp_all; done)
          have h3 := put_size (l[k.toNat]! - (l[(k - 1).toNat]! + 1))
          have h4 := put_size l[k.toNat]!
          (try simp only [ByteArray.size_append, DEL1_size])
          omega)
       | (have h3 := four_size (crcS x)
          have h1 := put_size rows
          have h2 := put_size (l.length : Int)
          have hc := chk_len (l := l) (rows := rows) (by simp_all; done)
          (try simp only [ByteArray.size_append, DEL1_size])
          omega)
       | (have hc := chk_len (l := l) (rows := rows) (by simp_all; done)
          have hv := hc.2.2.2.2 k.toNat (by omega)
          have hpv : prevAt l k = l[(k - 1).toNat]! := by rw [prevAt, if_neg (by omega)]
          have ha2 := ha
          rw [ascF_step (by omega), Bool.and_eq_true, decide_eq_true_eq] at ha2
          omega)
       | (have hc := chk_len (l := l) (rows := rows) (by simp_all; done)
          have hv := hc.2.2.2.2 k.toNat (by omega)
          have hpv : prevAt l k = -1 := by rw [prevAt, if_pos (by omega)]
          have ha2 := ha
          rw [ascF_step (by omega), Bool.and_eq_true, decide_eq_true_eq] at ha2
          omega)
       | (have h1 := put_size rows
          have h2 := put_size (l.length : Int)
          have hc := chk_len (l := l) (rows := rows) (by simp_all; done)
          omega)
       | (have hc := chk_len (l := l) (rows := rows) (by simp_all; done)
          have hv := hc.2.2.2.2 k.toNat (by omega)
          omega)
       | (have hc := chk_len (l := l) (rows := rows) (by simp_all; done)
          have hv := hc.2.2.2.2 k.toNat (by omega)
          have hw := hc.2.2.2.2 (k - 1).toNat (by omega)
          omega))
    | (conv => whnf
       first
        | done
        | exact trivial
        | with_reducible refine w_andS ?_ ?_
        | with_reducible refine w_andL ?_ ?_
        | with_reducible refine w_kern (by kernel_rfl) ?_
        | with_reducible refine w_true ?_
        | with_reducible refine w_nd ?_ ?_
        | with_reducible refine w_in ?_ ?_
        | with_reducible refine w_and ?_ ?_
        | (with_reducible refine w_brN (fun h => ?_) (fun h => ?_) <;> (try dsimp only [cu, Prod.eta, List.nil_append] at h) <;> (try (exfalso; omega; done)))
        | (with_reducible refine w_brD (fun h => ?_) (fun h => ?_) <;> (try dsimp only [cu, Prod.eta, List.nil_append] at h) <;> (try (exfalso; omega; done)))
        | (with_reducible refine w_br (fun h => ?_) (fun h => ?_) <;> (try dsimp only [cu, Prod.eta, List.nil_append] at h) <;> (try (exfalso; omega; done)))
        | (intro yy (hy : Tag 15 ∧ _)
           obtain ⟨(k : Int), (x : ByteArray), _⟩ := yy
           replace hy := hy.2
           dsimp only [cu, joinT, ckTys, gts, Prod.eta, List.nil_append] at hy
           obtain ⟨hk, hb, hx, ha, hq⟩ := hy)))
  all_goals (with_reducible refine Leaf.mk ?_
             (try dsimp only [cu, joinT, ckTys, gts, Prod.eta, List.nil_append] at *)
             first
             | (done)
             | (have hcc : ¬ chk l rows = true := by simp_all
                rw [encS, if_neg hcc])
             | (have hcc : ¬ chk l rows = true := by simp_all
                rw [encE, if_neg hcc])
             | (have hcc : chk l rows = true := by simp_all
                rw [encS, if_pos hcc, hb, List.drop_eq_nil_of_le (by omega), encG, ofInts_nil, ByteArray.append_empty]
                rfl)
             | (have hcc : chk l rows = true := by simp_all
                rw [encE, if_pos hcc]))
abbrev tb24 : Tbl := (23, c_renc_ok) :: tb23
theorem tb24_ok : TblOk Try.prog tb24 := TblOk.cons renc_ok tb23_ok

end Go.Proofs.Ytojdmkkjamakiaa
