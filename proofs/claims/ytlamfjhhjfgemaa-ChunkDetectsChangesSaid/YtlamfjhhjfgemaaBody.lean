/- Contracts of chunks without their checksums. -/
import Derived.Test.YtlamfjhhjfgemaaUnpay
namespace Go.Proofs.Ytlamfjhhjfgemaa
open Go.Abs
set_option linter.unusedVariables false
set_option linter.unusedSimpArgs false


theorem oo0 (s : ByteArray) : (0 ≤ (getR s 1).1 ∧ (getR s 1).1 < 18446744073709551616) ∧ IntKind.u64.wrap 4096 = 4096 ∧ 0 ≤ byteAt s (0 : Int).toNat ∧ byteAt s (0 : Int).toNat < 256 :=
  ⟨getR_rng s 1, u64_id (n := 4096) (by decide), byteAt_rng s _⟩
theorem oo2 (s : ByteArray) (h : 0 ≤ (getR s 1).1 ∧ (getR s 1).1 ≤ 4096) : (0 ≤ (getR s (getR s 1).2.1).1 ∧ (getR s (getR s 1).2.1).1 < 18446744073709551616) ∧ IntKind.u64.wrap (getR s 1).1 = (getR s 1).1 ∧ ((getR s 1).1 + 7).tdiv 8 = ((getR s 1).1 + 7) / 8 :=
  ⟨getR_rng s _, u64_id (by omega), tdiv8 (by omega)⟩
theorem nz_f {b : Bool} (h : (!b) = true) : b = false := by cases b <;> simp_all
theorem asm_null {c : Col} {N : List Bool} {R M : List Val} {i : Int} (h : 0 ≤ i ∧ i < N.length) (hb : N[i.toNat]! = true) (hv : vCheck c NV = 0) : asm c (N.drop i.toNat) R M = asm c (N.drop (i + 1).toNat) R (M ++ [NV]) := by
  have e1 : pkV true R = NV := rfl
  have e2 : rsV true R = R := rfl
  rw [asm_step h, hb, e1, e2, if_neg (fun q => q hv)]
theorem asm_null0 {c : Col} {N : List Bool} {R M : List Val} {i : Int} (h : 0 ≤ i ∧ i < N.length) (hb : N[i.toNat]! = true) (hv : ¬ vCheck c NV = 0) : asm c (N.drop i.toNat) R M = ([], false) := by
  have e1 : pkV true R = NV := rfl
  rw [asm_step h, hb, e1, if_pos hv]
theorem asm_val {c : Col} {N : List Bool} {R M : List Val} {i : Int} (h : 0 ≤ i ∧ i < N.length) (hb : N[i.toNat]! = false) (hv : vCheck c R[(0 : Int).toNat]! = 0) : asm c (N.drop i.toNat) R M = asm c (N.drop (i + 1).toNat) (R.drop 1) (M ++ [R[(0 : Int).toNat]!]) := by
  have e1 : pkV false R = R[(0 : Int).toNat]! := rfl
  have e2 : rsV false R = R.drop 1 := rfl
  rw [asm_step h, hb, e1, e2, if_neg (fun q => q hv)]
theorem asm_val0 {c : Col} {N : List Bool} {R M : List Val} {i : Int} (h : 0 ≤ i ∧ i < N.length) (hb : N[i.toNat]! = false) (hv : ¬ vCheck c R[(0 : Int).toNat]! = 0) : asm c (N.drop i.toNat) R M = ([], false) := by
  have e1 : pkV false R = R[(0 : Int).toNat]! := rfl
  rw [asm_step h, hb, e1, if_pos hv]
theorem cntF_t {N : List Bool} {i : Int} (h : 0 ≤ i ∧ i < N.length) (hb : N[i.toNat]! = true) : cntF (N.drop i.toNat) = cntF (N.drop (i + 1).toNat) := by rw [cntF_step h, hb]; simp
theorem cntF_f {N : List Bool} {i : Int} (h : 0 ≤ i ∧ i < N.length) (hb : N[i.toNat]! = false) : cntF (N.drop i.toNat) = 1 + cntF (N.drop (i + 1).toNat) := by rw [cntF_step h, hb]; simp
theorem bod_pre {c : Col} {s : ByteArray} (h : usesB c.2.1 (byteAt s (0 : Int).toNat) = true) (h1 : (getR s 1).2.2 = 0) (hn : (getR s 1).1 ≤ 4096) (h2 : (getR s (getR s 1).2.1).2.2 = 0) (hk : (getR s (getR s 1).2.1).1 ≤ (getR s 1).1) :
    bodS c s = bodA c s (getR s 1).1 (getR s (getR s 1).2.1).1 (nulS s (getR s (getR s 1).2.1).2.1 (getR s 1).1 (getR s (getR s 1).2.1).1) :=
  bod_3 (fun q => by rcases q with q | q | q <;> simp_all <;> omega) (fun q => by rcases q with q | q <;> simp_all <;> omega)
theorem bod_go {c : Col} {s : ByteArray} {N : List Bool} {A : Int} (h : usesB c.2.1 (byteAt s (0 : Int).toNat) = true) (h1 : (getR s 1).2.2 = 0) (hn : (getR s 1).1 ≤ 4096) (h2 : (getR s (getR s 1).2.1).2.2 = 0) (hk : (getR s (getR s 1).2.1).1 ≤ (getR s 1).1)
    (eN : nulS s (getR s (getR s 1).2.1).2.1 (getR s 1).1 (getR s (getR s 1).2.1).1 = (N, true, A)) : (N.length : Int) = (getR s 1).1 ∧ 0 ≤ A ∧ A ≤ s.size ∧
    ((rstS c.2.1 (byteAt s (0 : Int).toNat) (s.extract A.toNat s.size) ((getR s 1).1 - (getR s (getR s 1).2.1).1)).2 = true → bodS c s = asm c N (rstS c.2.1 (byteAt s (0 : Int).toNat) (s.extract A.toNat s.size) ((getR s 1).1 - (getR s (getR s 1).2.1).1)).1 [] ∧
      (((rstS c.2.1 (byteAt s (0 : Int).toNat) (s.extract A.toNat s.size) ((getR s 1).1 - (getR s (getR s 1).2.1).1)).1.length : Nat) : Int) = ((cntF N : Nat) : Int)) ∧
    ((rstS c.2.1 (byteAt s (0 : Int).toNat) (s.extract A.toNat s.size) ((getR s 1).1 - (getR s (getR s 1).2.1).1)).2 = false → bodS c s = ([], false)) := by
  have g1 := getR_rng s 1
  have g2 := getR_rng s (getR s 1).2.1
  have o1 := getR_ok h1
  have o2 := getR_ok h2
  have hno := nul_ok (s := s) (a := (getR s (getR s 1).2.1).2.1) (n := (getR s 1).1) (k := (getR s (getR s 1).2.1).1) (by omega) (by omega) (by omega) (by rw [eN])
  rw [eN] at hno
  obtain ⟨m1, m2, m3, m4⟩ := hno
  dsimp only at m1 m2 m3 m4
  have hp := bod_pre h h1 hn h2 hk
  rw [eN] at hp
  have hn0 : 0 ≤ (getR s 1).1 - (getR s (getR s 1).2.1).1 := by omega
  refine ⟨m1, m3, m4, fun hr => ⟨hp.trans (bodA_ok2 hr), ?_⟩, fun hr => hp.trans (bodA_r2 hr)⟩
  rw [rst_len hn0 hr, m2]
theorem bod_bad {c : Col} {s : ByteArray} (h : usesB c.2.1 (byteAt s (0 : Int).toNat) = true) (h1 : (getR s 1).2.2 = 0) (hn : (getR s 1).1 ≤ 4096) (h2 : (getR s (getR s 1).2.1).2.2 = 0) (hk : (getR s (getR s 1).2.1).1 ≤ (getR s 1).1)
    (eN : nulS s (getR s (getR s 1).2.1).2.1 (getR s 1).1 (getR s (getR s 1).2.1).1 = ([], false, 0)) : bodS c s = ([], false) := by
  rw [bod_pre h h1 hn h2 hk, eN, bodA_no rfl]

abbrev c_codecs_ok : Ct := .fn [.int .i64] (none) (fun (t : Int) => .d (.list (.int .i64)) (codL t))
set_option maxRecDepth 100000 in
set_option maxHeartbeats 4000000 in
theorem codecs_ok : CtOk Try.prog 40 c_codecs_ok := by
  refine CtOk.fn tb56_ok mixed [] [] rfl rfl ?_
  rintro ⟨(t : Int), _⟩ -
  refine ⟨[], ?_⟩
  repeat' (first
    | (
 with_reducible refine Side.mk ?_
 (try dsimp only [cu, joinT, ckTys, gts, loK, hiK, Prod.eta, List.nil_append])
 first
 | (done)
 | (with_reducible rfl)
 | (omega)
 | (exact Eq.refl _)
 | (simp only [List.length_append, List.length_cons, List.length_nil]; omega)
 | (grind))
    | (conv => whnf
       first
        | done
        | exact trivial
        | with_reducible refine NilBr.mk (fun h => ?_) ?_
        | with_reducible first | refine w_andS ?_ ?_ | refine w_andL ?_ ?_ | refine w_kern (by kernel_rfl) ?_ | refine w_true ?_ | refine w_nd ?_ ?_ | refine w_in ?_ ?_ | refine w_and ?_ ?_
        | ((with_reducible first | refine w_brN (fun h => ?_) (fun h => ?_) | refine w_brD (fun h => ?_) (fun h => ?_) | refine w_br (fun h => ?_) (fun h => ?_)) <;> (try dsimp only [cu, Prod.eta, List.nil_append] at h) <;> (try (exfalso; omega; done)))))
  all_goals (
 with_reducible refine Leaf.mk ?_
 (try dsimp only [cu, joinT, ckTys, gts, Prod.eta, List.nil_append] at *)
 first
 | (done)
 | (
  have ht : t = 3 := by with_reducible assumption
  rw [codL, if_pos ht])
 | (
  have ht : ¬ t = 3 := by with_reducible assumption
  rw [codL, if_neg ht]))
abbrev tb57 : Tbl := (40, c_codecs_ok) :: tb56
theorem tb57_ok : TblOk Try.prog tb57 := TblOk.cons codecs_ok tb56_ok

abbrev c_decode_ok' : Ct := .fn [tCol, .str] (some (fun (c : Col) (s : ByteArray) => (s.size ≤ 288230376151711744) ∧ (1 ≤ s.size))) (fun (c : Col) (s : ByteArray) => .tup [.list tVal, .bool] ((bodS c s).1, (bodS c s).2, ()))
set_option maxRecDepth 100000 in
set_option maxHeartbeats 4000000 in
theorem decode_ok' : CtOk Try.prog 36 c_decode_ok' := by
  refine CtOk.fn tb57_ok mixed [] [56] rfl rfl ?_
  rintro ⟨(c : Col), (s : ByteArray), _⟩ hpre
  replace hpre := hpre _ rfl
  dsimp only [cu] at hpre
  obtain ⟨hs, h1⟩ := hpre
  refine ⟨[(0, 8, LA.mk [.sl 28 (.int .i64), .sl 7 .bool] (fun y => Tag 45 ∧ cu [.int .i64, .bool] (fun (j : Int) (w : Bool) => (0 ≤ j ∧ j ≤ (codL c.2.1).length) ∧ (w = ((codL c.2.1).take j.toNat).any (fun x => decide (x = byteAt s (0 : Int).toNat)))) y) (cu [.int .i64, .bool] (fun (j : Int) (w : Bool) => (((codL c.2.1).length : Int) - j).toNat)) (cu [.int .i64, .bool] (fun (j : Int) (w : Bool) => ([] : List (Nat × Nat × LA))))), (0, 60, LA.mk [.sl 128 (.int .i64), .ar 3 tVal 41, .sl 17 (.list tVal)] (fun y => Tag 46 ∧ cu [.int .i64, .list tVal, .list tVal] (fun (i : Int) (L : List Val) (R : List Val) => (0 ≤ i ∧ i ≤ (getR s 1).1) ∧ ((L.length : Int) = (getR s 1).1) ∧ (bodS c s = asm c ((nulS s (getR s (getR s 1).2.1).2.1 (getR s 1).1 (getR s (getR s 1).2.1).1).1.drop i.toNat) R (L.take i.toNat)) ∧ (((R.length : Nat) : Int) = ((cntF ((nulS s (getR s (getR s 1).2.1).2.1 (getR s 1).1 (getR s (getR s 1).2.1).1).1.drop i.toNat) : Nat) : Int))) y) (cu [.int .i64, .list tVal, .list tVal] (fun (i : Int) (L : List Val) (R : List Val) => ((getR s 1).1 - i).toNat)) (cu [.int .i64, .list tVal, .list tVal] (fun (i : Int) (L : List Val) (R : List Val) => ([] : List (Nat × Nat × LA)))))], ?_⟩
  repeat' (first
    | (
 with_reducible refine Side.mk ⟨(⟨⟩ : Tag 45), ?_⟩
 dsimp only [cu, joinT, ckTys, gts, Prod.eta, List.nil_append]
 refine ⟨?_, ?_⟩
 · omega
 · first
   | (rfl)
   | (
  rw [anyL_step (by omega), ← hw]
  first | rfl | (simp_all; done)))
    | (
 with_reducible refine Side.mk ⟨(⟨⟩ : Tag 46), ?_⟩
 dsimp only [cu, joinT, ckTys, gts, Prod.eta, List.nil_append]
 refine ⟨?_, ?_, ?_, ?_⟩
 · first
   | (
  have o0 := oo0 s
  have e1 : (getR s 1).2.2 = 0 := by with_reducible assumption
  have o1 := getR_ok e1
  have o2 := oo2 s (by omega)
  have e2 : (getR s (getR s 1).2.1).2.2 = 0 := by with_reducible assumption
  have o3 := getR_ok e2
  first
  | (omega)
  | (
   have hus0 : usesB c.2.1 (byteAt s (0 : Int).toNat) = w := by rw [← codL_uses, hw, List.take_of_length_le (by omega)]
   have hus : usesB c.2.1 (byteAt s (0 : Int).toNat) = true := by rw [hus0]; first | with_reducible assumption | exact nz_t (by with_reducible assumption)
   first
   | (
    have kn : ¬ (getR s (getR s 1).2.1).1 > 0 := by omega
    have eN := nul_0 (s := s) (a := (getR s (getR s 1).2.1).2.1) (n := (getR s 1).1) (k := (getR s (getR s 1).2.1).1) kn
    have j4 : (getR s 1).1 ≤ 4096 := by omega
    have jk : (getR s (getR s 1).2.1).1 ≤ (getR s 1).1 := by omega
    obtain ⟨m1, m3, m4, m5, m6⟩ := bod_go hus e1 j4 e2 jk eN
    omega)
   | (
    have kn : (getR s (getR s 1).2.1).1 > 0 := by omega
    have ke : ¬ ((getR s (getR s 1).2.1).2.1 + ((getR s 1).1 + 7).tdiv 8) > s.size := by omega
    have ku : (unpB (s.extract (getR s (getR s 1).2.1).2.1.toNat ((getR s (getR s 1).2.1).2.1 + ((getR s 1).1 + 7).tdiv 8).toNat) (getR s 1).1).2 = 0 := by with_reducible assumption
    have kc : cntB (s.extract (getR s (getR s 1).2.1).2.1.toNat ((getR s (getR s 1).2.1).2.1 + ((getR s 1).1 + 7).tdiv 8).toNat) = (getR s (getR s 1).2.1).1 := by first | with_reducible assumption | omega
    have eN := nul_2 (s := s) (a := (getR s (getR s 1).2.1).2.1) (n := (getR s 1).1) (k := (getR s (getR s 1).2.1).1) kn ke ku kc
    have j4 : (getR s 1).1 ≤ 4096 := by omega
    have jk : (getR s (getR s 1).2.1).1 ≤ (getR s 1).1 := by omega
    obtain ⟨m1, m3, m4, m5, m6⟩ := bod_go hus e1 j4 e2 jk eN
    omega)))
 · first
   | (
  have o0 := oo0 s
  have e1 : (getR s 1).2.2 = 0 := by with_reducible assumption
  have o1 := getR_ok e1
  have o2 := oo2 s (by omega)
  have e2 : (getR s (getR s 1).2.1).2.2 = 0 := by with_reducible assumption
  have o3 := getR_ok e2
  rw [List.length_replicate]; omega)
   | (rw [List.length_set]; omega)
 · first
   | (
  have o0 := oo0 s
  have e1 : (getR s 1).2.2 = 0 := by with_reducible assumption
  have o1 := getR_ok e1
  have o2 := oo2 s (by omega)
  have e2 : (getR s (getR s 1).2.1).2.2 = 0 := by with_reducible assumption
  have o3 := getR_ok e2
  have hus0 : usesB c.2.1 (byteAt s (0 : Int).toNat) = w := by rw [← codL_uses, hw, List.take_of_length_le (by omega)]
  have hus : usesB c.2.1 (byteAt s (0 : Int).toNat) = true := by rw [hus0]; first | with_reducible assumption | exact nz_t (by with_reducible assumption)
  first
  | (
   have kn : ¬ (getR s (getR s 1).2.1).1 > 0 := by omega
   have eN := nul_0 (s := s) (a := (getR s (getR s 1).2.1).2.1) (n := (getR s 1).1) (k := (getR s (getR s 1).2.1).1) kn
   have j4 : (getR s 1).1 ≤ 4096 := by omega
   have jk : (getR s (getR s 1).2.1).1 ≤ (getR s 1).1 := by omega
   obtain ⟨m1, m3, m4, m5, m6⟩ := bod_go hus e1 j4 e2 jk eN
   have hy : (unpS c.2.1 (byteAt s (0 : Int).toNat) (s.extract (getR s (getR s 1).2.1).2.1.toNat s.size) ((getR s 1).1 - (getR s (getR s 1).2.1).1)).2 = true := by first | with_reducible assumption | exact nz_t (by with_reducible assumption)
   rw [unp_2] at hy
   have y1 := unp_1 (by omega) hy
   obtain ⟨m7, m8⟩ := m5 hy
   rw [m7, y1, eN]
   rfl)
  | (
   have kn : (getR s (getR s 1).2.1).1 > 0 := by omega
   have ke : ¬ ((getR s (getR s 1).2.1).2.1 + ((getR s 1).1 + 7).tdiv 8) > s.size := by omega
   have ku : (unpB (s.extract (getR s (getR s 1).2.1).2.1.toNat ((getR s (getR s 1).2.1).2.1 + ((getR s 1).1 + 7).tdiv 8).toNat) (getR s 1).1).2 = 0 := by with_reducible assumption
   have kc : cntB (s.extract (getR s (getR s 1).2.1).2.1.toNat ((getR s (getR s 1).2.1).2.1 + ((getR s 1).1 + 7).tdiv 8).toNat) = (getR s (getR s 1).2.1).1 := by first | with_reducible assumption | omega
   have eN := nul_2 (s := s) (a := (getR s (getR s 1).2.1).2.1) (n := (getR s 1).1) (k := (getR s (getR s 1).2.1).1) kn ke ku kc
   have j4 : (getR s 1).1 ≤ 4096 := by omega
   have jk : (getR s (getR s 1).2.1).1 ≤ (getR s 1).1 := by omega
   obtain ⟨m1, m3, m4, m5, m6⟩ := bod_go hus e1 j4 e2 jk eN
   have hy : (unpS c.2.1 (byteAt s (0 : Int).toNat) (s.extract ((getR s (getR s 1).2.1).2.1 + ((getR s 1).1 + 7).tdiv 8).toNat s.size) ((getR s 1).1 - (getR s (getR s 1).2.1).1)).2 = true := by first | with_reducible assumption | exact nz_t (by with_reducible assumption)
   rw [unp_2] at hy
   have y1 := unp_1 (by omega) hy
   obtain ⟨m7, m8⟩ := m5 hy
   rw [m7, y1, eN]
   rfl)
  | (
   have kn : ¬ (getR s (getR s 1).2.1).1 > 0 := by omega
   have eN := nul_0 (s := s) (a := (getR s (getR s 1).2.1).2.1) (n := (getR s 1).1) (k := (getR s (getR s 1).2.1).1) kn
   have j4 : (getR s 1).1 ≤ 4096 := by omega
   have jk : (getR s (getR s 1).2.1).1 ≤ (getR s 1).1 := by omega
   obtain ⟨m1, m3, m4, m5, m6⟩ := bod_go hus e1 j4 e2 jk eN
   have hml : ((nulS s (getR s (getR s 1).2.1).2.1 (getR s 1).1 (getR s (getR s 1).2.1).1).1.length : Int) = (getR s 1).1 := by rw [eN]; exact m1
   first
   | (
    have hb : (nulS s (getR s (getR s 1).2.1).2.1 (getR s 1).1 (getR s (getR s 1).2.1).1).1[i.toNat]! = true := by rw [eN]; first | with_reducible assumption | (simp_all; done)
    have hll : i < L.length := by omega
    have hsa := setV_at (L := L) (i := i) (v := NV) (by omega)
    have hv : vCheck c NV = 0 := by rw [← hsa]; with_reducible assumption
    rw [hgo, asm_null (by omega) hb hv, setV_take (by omega)])
   | (
    have hb : (nulS s (getR s (getR s 1).2.1).2.1 (getR s 1).1 (getR s (getR s 1).2.1).1).1[i.toNat]! = false := by rw [eN]; first | with_reducible assumption | (simp_all; done)
    have hll : i < L.length := by omega
    have hsa := setV_at (L := L) (i := i) (v := R[(0 : Int).toNat]!) (by omega)
    have hv : vCheck c R[(0 : Int).toNat]! = 0 := by rw [← hsa]; with_reducible assumption
    rw [hgo, asm_val (by omega) hb hv, setV_take (by omega)]
    rfl))
  | (
   have kn : (getR s (getR s 1).2.1).1 > 0 := by omega
   have ke : ¬ ((getR s (getR s 1).2.1).2.1 + ((getR s 1).1 + 7).tdiv 8) > s.size := by omega
   have ku : (unpB (s.extract (getR s (getR s 1).2.1).2.1.toNat ((getR s (getR s 1).2.1).2.1 + ((getR s 1).1 + 7).tdiv 8).toNat) (getR s 1).1).2 = 0 := by with_reducible assumption
   have kc : cntB (s.extract (getR s (getR s 1).2.1).2.1.toNat ((getR s (getR s 1).2.1).2.1 + ((getR s 1).1 + 7).tdiv 8).toNat) = (getR s (getR s 1).2.1).1 := by first | with_reducible assumption | omega
   have eN := nul_2 (s := s) (a := (getR s (getR s 1).2.1).2.1) (n := (getR s 1).1) (k := (getR s (getR s 1).2.1).1) kn ke ku kc
   have j4 : (getR s 1).1 ≤ 4096 := by omega
   have jk : (getR s (getR s 1).2.1).1 ≤ (getR s 1).1 := by omega
   obtain ⟨m1, m3, m4, m5, m6⟩ := bod_go hus e1 j4 e2 jk eN
   have hml : ((nulS s (getR s (getR s 1).2.1).2.1 (getR s 1).1 (getR s (getR s 1).2.1).1).1.length : Int) = (getR s 1).1 := by rw [eN]; exact m1
   first
   | (
    have hb : (nulS s (getR s (getR s 1).2.1).2.1 (getR s 1).1 (getR s (getR s 1).2.1).1).1[i.toNat]! = true := by rw [eN]; first | with_reducible assumption | (simp_all; done)
    have hll : i < L.length := by omega
    have hsa := setV_at (L := L) (i := i) (v := NV) (by omega)
    have hv : vCheck c NV = 0 := by rw [← hsa]; with_reducible assumption
    rw [hgo, asm_null (by omega) hb hv, setV_take (by omega)])
   | (
    have hb : (nulS s (getR s (getR s 1).2.1).2.1 (getR s 1).1 (getR s (getR s 1).2.1).1).1[i.toNat]! = false := by rw [eN]; first | with_reducible assumption | (simp_all; done)
    have hll : i < L.length := by omega
    have hsa := setV_at (L := L) (i := i) (v := R[(0 : Int).toNat]!) (by omega)
    have hv : vCheck c R[(0 : Int).toNat]! = 0 := by rw [← hsa]; with_reducible assumption
    rw [hgo, asm_val (by omega) hb hv, setV_take (by omega)]
    rfl)))
 · first
   | (
  have o0 := oo0 s
  have e1 : (getR s 1).2.2 = 0 := by with_reducible assumption
  have o1 := getR_ok e1
  have o2 := oo2 s (by omega)
  have e2 : (getR s (getR s 1).2.1).2.2 = 0 := by with_reducible assumption
  have o3 := getR_ok e2
  have hus0 : usesB c.2.1 (byteAt s (0 : Int).toNat) = w := by rw [← codL_uses, hw, List.take_of_length_le (by omega)]
  have hus : usesB c.2.1 (byteAt s (0 : Int).toNat) = true := by rw [hus0]; first | with_reducible assumption | exact nz_t (by with_reducible assumption)
  first
  | (
   have kn : ¬ (getR s (getR s 1).2.1).1 > 0 := by omega
   have eN := nul_0 (s := s) (a := (getR s (getR s 1).2.1).2.1) (n := (getR s 1).1) (k := (getR s (getR s 1).2.1).1) kn
   have j4 : (getR s 1).1 ≤ 4096 := by omega
   have jk : (getR s (getR s 1).2.1).1 ≤ (getR s 1).1 := by omega
   obtain ⟨m1, m3, m4, m5, m6⟩ := bod_go hus e1 j4 e2 jk eN
   have hy : (unpS c.2.1 (byteAt s (0 : Int).toNat) (s.extract (getR s (getR s 1).2.1).2.1.toNat s.size) ((getR s 1).1 - (getR s (getR s 1).2.1).1)).2 = true := by first | with_reducible assumption | exact nz_t (by with_reducible assumption)
   rw [unp_2] at hy
   have y1 := unp_1 (by omega) hy
   obtain ⟨m7, m8⟩ := m5 hy
   rw [y1, eN]
   exact m8)
  | (
   have kn : (getR s (getR s 1).2.1).1 > 0 := by omega
   have ke : ¬ ((getR s (getR s 1).2.1).2.1 + ((getR s 1).1 + 7).tdiv 8) > s.size := by omega
   have ku : (unpB (s.extract (getR s (getR s 1).2.1).2.1.toNat ((getR s (getR s 1).2.1).2.1 + ((getR s 1).1 + 7).tdiv 8).toNat) (getR s 1).1).2 = 0 := by with_reducible assumption
   have kc : cntB (s.extract (getR s (getR s 1).2.1).2.1.toNat ((getR s (getR s 1).2.1).2.1 + ((getR s 1).1 + 7).tdiv 8).toNat) = (getR s (getR s 1).2.1).1 := by first | with_reducible assumption | omega
   have eN := nul_2 (s := s) (a := (getR s (getR s 1).2.1).2.1) (n := (getR s 1).1) (k := (getR s (getR s 1).2.1).1) kn ke ku kc
   have j4 : (getR s 1).1 ≤ 4096 := by omega
   have jk : (getR s (getR s 1).2.1).1 ≤ (getR s 1).1 := by omega
   obtain ⟨m1, m3, m4, m5, m6⟩ := bod_go hus e1 j4 e2 jk eN
   have hy : (unpS c.2.1 (byteAt s (0 : Int).toNat) (s.extract ((getR s (getR s 1).2.1).2.1 + ((getR s 1).1 + 7).tdiv 8).toNat s.size) ((getR s 1).1 - (getR s (getR s 1).2.1).1)).2 = true := by first | with_reducible assumption | exact nz_t (by with_reducible assumption)
   rw [unp_2] at hy
   have y1 := unp_1 (by omega) hy
   obtain ⟨m7, m8⟩ := m5 hy
   rw [y1, eN]
   exact m8)
  | (
   have kn : ¬ (getR s (getR s 1).2.1).1 > 0 := by omega
   have eN := nul_0 (s := s) (a := (getR s (getR s 1).2.1).2.1) (n := (getR s 1).1) (k := (getR s (getR s 1).2.1).1) kn
   have j4 : (getR s 1).1 ≤ 4096 := by omega
   have jk : (getR s (getR s 1).2.1).1 ≤ (getR s 1).1 := by omega
   obtain ⟨m1, m3, m4, m5, m6⟩ := bod_go hus e1 j4 e2 jk eN
   have hml : ((nulS s (getR s (getR s 1).2.1).2.1 (getR s 1).1 (getR s (getR s 1).2.1).1).1.length : Int) = (getR s 1).1 := by rw [eN]; exact m1
   first
   | (
    have hb : (nulS s (getR s (getR s 1).2.1).2.1 (getR s 1).1 (getR s (getR s 1).2.1).1).1[i.toNat]! = true := by rw [eN]; first | with_reducible assumption | (simp_all; done)
    rw [hR, cntF_t (by omega) hb])
   | (
    have hb : (nulS s (getR s (getR s 1).2.1).2.1 (getR s 1).1 (getR s (getR s 1).2.1).1).1[i.toNat]! = false := by rw [eN]; first | with_reducible assumption | (simp_all; done)
    have hcf := cntF_f (by omega) hb
    show (((R.drop 1).length : Nat) : Int) = _
    rw [List.length_drop]
    omega))
  | (
   have kn : (getR s (getR s 1).2.1).1 > 0 := by omega
   have ke : ¬ ((getR s (getR s 1).2.1).2.1 + ((getR s 1).1 + 7).tdiv 8) > s.size := by omega
   have ku : (unpB (s.extract (getR s (getR s 1).2.1).2.1.toNat ((getR s (getR s 1).2.1).2.1 + ((getR s 1).1 + 7).tdiv 8).toNat) (getR s 1).1).2 = 0 := by with_reducible assumption
   have kc : cntB (s.extract (getR s (getR s 1).2.1).2.1.toNat ((getR s (getR s 1).2.1).2.1 + ((getR s 1).1 + 7).tdiv 8).toNat) = (getR s (getR s 1).2.1).1 := by first | with_reducible assumption | omega
   have eN := nul_2 (s := s) (a := (getR s (getR s 1).2.1).2.1) (n := (getR s 1).1) (k := (getR s (getR s 1).2.1).1) kn ke ku kc
   have j4 : (getR s 1).1 ≤ 4096 := by omega
   have jk : (getR s (getR s 1).2.1).1 ≤ (getR s 1).1 := by omega
   obtain ⟨m1, m3, m4, m5, m6⟩ := bod_go hus e1 j4 e2 jk eN
   have hml : ((nulS s (getR s (getR s 1).2.1).2.1 (getR s 1).1 (getR s (getR s 1).2.1).1).1.length : Int) = (getR s 1).1 := by rw [eN]; exact m1
   first
   | (
    have hb : (nulS s (getR s (getR s 1).2.1).2.1 (getR s 1).1 (getR s (getR s 1).2.1).1).1[i.toNat]! = true := by rw [eN]; first | with_reducible assumption | (simp_all; done)
    rw [hR, cntF_t (by omega) hb])
   | (
    have hb : (nulS s (getR s (getR s 1).2.1).2.1 (getR s 1).1 (getR s (getR s 1).2.1).1).1[i.toNat]! = false := by rw [eN]; first | with_reducible assumption | (simp_all; done)
    have hcf := cntF_f (by omega) hb
    show (((R.drop 1).length : Nat) : Int) = _
    rw [List.length_drop]
    omega))))
    | (
 with_reducible refine Side.mk ?_
 (try dsimp only [cu, joinT, ckTys, gts, loK, hiK, Prod.eta, List.nil_append])
 first
 | (done)
 | (with_reducible rfl)
 | (omega)
 | (exact Eq.refl _)
 | (simp only [List.length_append, List.length_cons, List.length_nil]; omega)
 | (
  have o0 := oo0 s
  omega)
 | (rw [List.length_set]; omega)
 | (
  have o0 := oo0 s
  first
  | (
   have hcl := codL_len c.2.1
   omega)
  | (
   have e1 : (getR s 1).2.2 = 0 := by with_reducible assumption
   have o1 := getR_ok e1
   first
   | (omega)
   | (
    have o2 := oo2 s (by omega)
    first
    | (omega)
    | (
     have e2 : (getR s (getR s 1).2.1).2.2 = 0 := by with_reducible assumption
     have o3 := getR_ok e2
     first
     | (omega)
     | (rw [List.length_replicate]; omega)))))
 | (exact getR_rng _ _)
 | (
  have o0 := oo0 s
  have e1 : (getR s 1).2.2 = 0 := by with_reducible assumption
  have o1 := getR_ok e1
  have o2 := oo2 s (by omega)
  have e2 : (getR s (getR s 1).2.1).2.2 = 0 := by with_reducible assumption
  have o3 := getR_ok e2
  first
  | (
   simp only [ByteArray.size_extract]
   omega)
  | (
   have hus0 : usesB c.2.1 (byteAt s (0 : Int).toNat) = w := by rw [← codL_uses, hw, List.take_of_length_le (by omega)]
   have hus : usesB c.2.1 (byteAt s (0 : Int).toNat) = true := by rw [hus0]; first | with_reducible assumption | exact nz_t (by with_reducible assumption)
   first
   | (
    have kn : ¬ (getR s (getR s 1).2.1).1 > 0 := by omega
    have eN := nul_0 (s := s) (a := (getR s (getR s 1).2.1).2.1) (n := (getR s 1).1) (k := (getR s (getR s 1).2.1).1) kn
    have j4 : (getR s 1).1 ≤ 4096 := by omega
    have jk : (getR s (getR s 1).2.1).1 ≤ (getR s 1).1 := by omega
    obtain ⟨m1, m3, m4, m5, m6⟩ := bod_go hus e1 j4 e2 jk eN
    first
    | (omega)
    | (rw [List.length_set]; omega))
   | (
    have kn : (getR s (getR s 1).2.1).1 > 0 := by omega
    have ke : ¬ ((getR s (getR s 1).2.1).2.1 + ((getR s 1).1 + 7).tdiv 8) > s.size := by omega
    have ku : (unpB (s.extract (getR s (getR s 1).2.1).2.1.toNat ((getR s (getR s 1).2.1).2.1 + ((getR s 1).1 + 7).tdiv 8).toNat) (getR s 1).1).2 = 0 := by with_reducible assumption
    have kc : cntB (s.extract (getR s (getR s 1).2.1).2.1.toNat ((getR s (getR s 1).2.1).2.1 + ((getR s 1).1 + 7).tdiv 8).toNat) = (getR s (getR s 1).2.1).1 := by first | with_reducible assumption | omega
    have eN := nul_2 (s := s) (a := (getR s (getR s 1).2.1).2.1) (n := (getR s 1).1) (k := (getR s (getR s 1).2.1).1) kn ke ku kc
    have j4 : (getR s 1).1 ≤ 4096 := by omega
    have jk : (getR s (getR s 1).2.1).1 ≤ (getR s 1).1 := by omega
    obtain ⟨m1, m3, m4, m5, m6⟩ := bod_go hus e1 j4 e2 jk eN
    first
    | (omega)
    | (rw [List.length_set]; omega))
   | (
    have kn : ¬ (getR s (getR s 1).2.1).1 > 0 := by omega
    have eN := nul_0 (s := s) (a := (getR s (getR s 1).2.1).2.1) (n := (getR s 1).1) (k := (getR s (getR s 1).2.1).1) kn
    have j4 : (getR s 1).1 ≤ 4096 := by omega
    have jk : (getR s (getR s 1).2.1).1 ≤ (getR s 1).1 := by omega
    obtain ⟨m1, m3, m4, m5, m6⟩ := bod_go hus e1 j4 e2 jk eN
    have hml : ((nulS s (getR s (getR s 1).2.1).2.1 (getR s 1).1 (getR s (getR s 1).2.1).1).1.length : Int) = (getR s 1).1 := by rw [eN]; exact m1
    have hb : (nulS s (getR s (getR s 1).2.1).2.1 (getR s 1).1 (getR s (getR s 1).2.1).1).1[i.toNat]! = false := by rw [eN]; first | with_reducible assumption | (simp_all; done)
    have hcf := cntF_f (by omega) hb
    omega)
   | (
    have kn : (getR s (getR s 1).2.1).1 > 0 := by omega
    have ke : ¬ ((getR s (getR s 1).2.1).2.1 + ((getR s 1).1 + 7).tdiv 8) > s.size := by omega
    have ku : (unpB (s.extract (getR s (getR s 1).2.1).2.1.toNat ((getR s (getR s 1).2.1).2.1 + ((getR s 1).1 + 7).tdiv 8).toNat) (getR s 1).1).2 = 0 := by with_reducible assumption
    have kc : cntB (s.extract (getR s (getR s 1).2.1).2.1.toNat ((getR s (getR s 1).2.1).2.1 + ((getR s 1).1 + 7).tdiv 8).toNat) = (getR s (getR s 1).2.1).1 := by first | with_reducible assumption | omega
    have eN := nul_2 (s := s) (a := (getR s (getR s 1).2.1).2.1) (n := (getR s 1).1) (k := (getR s (getR s 1).2.1).1) kn ke ku kc
    have j4 : (getR s 1).1 ≤ 4096 := by omega
    have jk : (getR s (getR s 1).2.1).1 ≤ (getR s 1).1 := by omega
    obtain ⟨m1, m3, m4, m5, m6⟩ := bod_go hus e1 j4 e2 jk eN
    have hml : ((nulS s (getR s (getR s 1).2.1).2.1 (getR s 1).1 (getR s (getR s 1).2.1).1).1.length : Int) = (getR s 1).1 := by rw [eN]; exact m1
    have hb : (nulS s (getR s (getR s 1).2.1).2.1 (getR s 1).1 (getR s (getR s 1).2.1).1).1[i.toNat]! = false := by rw [eN]; first | with_reducible assumption | (simp_all; done)
    have hcf := cntF_f (by omega) hb
    omega))
  | (rw [List.length_set]; omega)
  | (
   have hus0 : usesB c.2.1 (byteAt s (0 : Int).toNat) = w := by rw [← codL_uses, hw, List.take_of_length_le (by omega)]
   have hus : usesB c.2.1 (byteAt s (0 : Int).toNat) = true := by rw [hus0]; first | with_reducible assumption | exact nz_t (by with_reducible assumption)
   first
   | (
    have kn : ¬ (getR s (getR s 1).2.1).1 > 0 := by omega
    have eN := nul_0 (s := s) (a := (getR s (getR s 1).2.1).2.1) (n := (getR s 1).1) (k := (getR s (getR s 1).2.1).1) kn
    have j4 : (getR s 1).1 ≤ 4096 := by omega
    have jk : (getR s (getR s 1).2.1).1 ≤ (getR s 1).1 := by omega
    obtain ⟨m1, m3, m4, m5, m6⟩ := bod_go hus e1 j4 e2 jk eN
    have huc := uses_cod hus
    refine ⟨?_, ⟨by omega, by omega⟩, huc⟩
    have := ext_le s (getR s (getR s 1).2.1).2.1.toNat s.size
    omega)
   | (
    have kn : (getR s (getR s 1).2.1).1 > 0 := by omega
    have ke : ¬ ((getR s (getR s 1).2.1).2.1 + ((getR s 1).1 + 7).tdiv 8) > s.size := by omega
    have ku : (unpB (s.extract (getR s (getR s 1).2.1).2.1.toNat ((getR s (getR s 1).2.1).2.1 + ((getR s 1).1 + 7).tdiv 8).toNat) (getR s 1).1).2 = 0 := by with_reducible assumption
    have kc : cntB (s.extract (getR s (getR s 1).2.1).2.1.toNat ((getR s (getR s 1).2.1).2.1 + ((getR s 1).1 + 7).tdiv 8).toNat) = (getR s (getR s 1).2.1).1 := by first | with_reducible assumption | omega
    have eN := nul_2 (s := s) (a := (getR s (getR s 1).2.1).2.1) (n := (getR s 1).1) (k := (getR s (getR s 1).2.1).1) kn ke ku kc
    have j4 : (getR s 1).1 ≤ 4096 := by omega
    have jk : (getR s (getR s 1).2.1).1 ≤ (getR s 1).1 := by omega
    obtain ⟨m1, m3, m4, m5, m6⟩ := bod_go hus e1 j4 e2 jk eN
    have huc := uses_cod hus
    refine ⟨?_, ⟨by omega, by omega⟩, huc⟩
    have := ext_le s ((getR s (getR s 1).2.1).2.1 + ((getR s 1).1 + 7).tdiv 8).toNat s.size
    omega))))
    | (conv => whnf
       first
        | done
        | exact trivial
        | with_reducible refine NilBr.mk (fun h => ?_) ?_
        | with_reducible first | refine w_andS ?_ ?_ | refine w_andL ?_ ?_ | refine w_kern (by kernel_rfl) ?_ | refine w_true ?_ | refine w_nd ?_ ?_ | refine w_in ?_ ?_ | refine w_and ?_ ?_
        | ((with_reducible first | refine w_brN (fun h => ?_) (fun h => ?_) | refine w_brD (fun h => ?_) (fun h => ?_) | refine w_br (fun h => ?_) (fun h => ?_)) <;> (try dsimp only [cu, Prod.eta, List.nil_append] at h) <;> (try (exfalso; omega; done)))
        | (
 intro yy (hy : Tag 45 ∧ _)
 obtain ⟨(j : Int), (w : Bool), _⟩ := yy
 replace hy := hy.2
 dsimp only [cu, joinT, ckTys, gts, Prod.eta, List.nil_append] at hy
 obtain ⟨hj, hw⟩ := hy)
        | (
 intro yy (hy : Tag 46 ∧ _)
 obtain ⟨(i : Int), (L : List Val), (R : List Val), _⟩ := yy
 replace hy := hy.2
 dsimp only [cu, joinT, ckTys, gts, Prod.eta, List.nil_append] at hy
 obtain ⟨hi, hL, hgo, hR⟩ := hy)))
  all_goals (
 with_reducible refine Leaf.mk ?_
 (try dsimp only [cu, joinT, ckTys, gts, Prod.eta, List.nil_append] at *)
 first
 | (done)
 | (
  have o0 := oo0 s
  have hus0 : usesB c.2.1 (byteAt s (0 : Int).toNat) = w := by rw [← codL_uses, hw, List.take_of_length_le (by omega)]
  have hus : usesB c.2.1 (byteAt s (0 : Int).toNat) = false := by rw [hus0]; first | with_reducible assumption | (simp_all; done)
  rw [bod_1 (.inl hus)])
 | (
  have e1 : ¬ (getR s 1).2.2 = 0 := by with_reducible assumption
  rw [bod_1 (.inr (.inl e1))])
 | (
  have o0 := oo0 s
  have e1 : (getR s 1).2.2 = 0 := by with_reducible assumption
  have o1 := getR_ok e1
  first
  | (
   have h4 : (getR s 1).1 > 4096 := by omega
   rw [bod_1 (.inr (.inr h4))])
  | (
   have hus0 : usesB c.2.1 (byteAt s (0 : Int).toNat) = w := by rw [← codL_uses, hw, List.take_of_length_le (by omega)]
   have hus : usesB c.2.1 (byteAt s (0 : Int).toNat) = true := by rw [hus0]; first | with_reducible assumption | exact nz_t (by with_reducible assumption)
   have c1 : ¬ (usesB c.2.1 (byteAt s (0 : Int).toNat) = false ∨ (getR s 1).2.2 ≠ 0 ∨ (getR s 1).1 > 4096) := fun q => by
     rcases q with q | q | q
     · rw [hus] at q; cases q
     · exact q e1
     · omega
   have e2 : ¬ (getR s (getR s 1).2.1).2.2 = 0 := by with_reducible assumption
   rw [bod_2 c1 (.inl e2)])
  | (
   have o2 := oo2 s (by omega)
   first
   | (
    have hus0 : usesB c.2.1 (byteAt s (0 : Int).toNat) = w := by rw [← codL_uses, hw, List.take_of_length_le (by omega)]
    have hus : usesB c.2.1 (byteAt s (0 : Int).toNat) = true := by rw [hus0]; first | with_reducible assumption | exact nz_t (by with_reducible assumption)
    have c1 : ¬ (usesB c.2.1 (byteAt s (0 : Int).toNat) = false ∨ (getR s 1).2.2 ≠ 0 ∨ (getR s 1).1 > 4096) := fun q => by
      rcases q with q | q | q
      · rw [hus] at q; cases q
      · exact q e1
      · omega
    have h5 : (getR s (getR s 1).2.1).1 > (getR s 1).1 := by omega
    rw [bod_2 c1 (.inr h5)])
   | (
    have e2 : (getR s (getR s 1).2.1).2.2 = 0 := by with_reducible assumption
    have o3 := getR_ok e2
    have hus0 : usesB c.2.1 (byteAt s (0 : Int).toNat) = w := by rw [← codL_uses, hw, List.take_of_length_le (by omega)]
    have hus : usesB c.2.1 (byteAt s (0 : Int).toNat) = true := by rw [hus0]; first | with_reducible assumption | exact nz_t (by with_reducible assumption)
    first
    | (
     have eN := nul_1 (s := s) (a := (getR s (getR s 1).2.1).2.1) (n := (getR s 1).1) (k := (getR s (getR s 1).2.1).1) (by omega) (.inl (by omega))
     rw [bod_bad hus e1 (by omega) e2 (by omega) eN])
    | (
     have eN := nul_1 (s := s) (a := (getR s (getR s 1).2.1).2.1) (n := (getR s 1).1) (k := (getR s (getR s 1).2.1).1) (by omega) (.inr (.inr (by with_reducible assumption)))
     rw [bod_bad hus e1 (by omega) e2 (by omega) eN])
    | (
     have eN := nul_1 (s := s) (a := (getR s (getR s 1).2.1).2.1) (n := (getR s 1).1) (k := (getR s (getR s 1).2.1).1) (by omega) (.inr (.inl (by with_reducible assumption)))
     rw [bod_bad hus e1 (by omega) e2 (by omega) eN])
    | (
     have kn : ¬ (getR s (getR s 1).2.1).1 > 0 := by omega
     have eN := nul_0 (s := s) (a := (getR s (getR s 1).2.1).2.1) (n := (getR s 1).1) (k := (getR s (getR s 1).2.1).1) kn
     have j4 : (getR s 1).1 ≤ 4096 := by omega
     have jk : (getR s (getR s 1).2.1).1 ≤ (getR s 1).1 := by omega
     obtain ⟨m1, m3, m4, m5, m6⟩ := bod_go hus e1 j4 e2 jk eN
     have hy : (unpS c.2.1 (byteAt s (0 : Int).toNat) (s.extract (getR s (getR s 1).2.1).2.1.toNat s.size) ((getR s 1).1 - (getR s (getR s 1).2.1).1)).2 = false := by first | with_reducible assumption | exact nz_f (by with_reducible assumption)
     rw [unp_2] at hy
     rw [m6 hy])
    | (
     have kn : (getR s (getR s 1).2.1).1 > 0 := by omega
     have ke : ¬ ((getR s (getR s 1).2.1).2.1 + ((getR s 1).1 + 7).tdiv 8) > s.size := by omega
     have ku : (unpB (s.extract (getR s (getR s 1).2.1).2.1.toNat ((getR s (getR s 1).2.1).2.1 + ((getR s 1).1 + 7).tdiv 8).toNat) (getR s 1).1).2 = 0 := by with_reducible assumption
     have kc : cntB (s.extract (getR s (getR s 1).2.1).2.1.toNat ((getR s (getR s 1).2.1).2.1 + ((getR s 1).1 + 7).tdiv 8).toNat) = (getR s (getR s 1).2.1).1 := by first | with_reducible assumption | omega
     have eN := nul_2 (s := s) (a := (getR s (getR s 1).2.1).2.1) (n := (getR s 1).1) (k := (getR s (getR s 1).2.1).1) kn ke ku kc
     have j4 : (getR s 1).1 ≤ 4096 := by omega
     have jk : (getR s (getR s 1).2.1).1 ≤ (getR s 1).1 := by omega
     obtain ⟨m1, m3, m4, m5, m6⟩ := bod_go hus e1 j4 e2 jk eN
     have hy : (unpS c.2.1 (byteAt s (0 : Int).toNat) (s.extract ((getR s (getR s 1).2.1).2.1 + ((getR s 1).1 + 7).tdiv 8).toNat s.size) ((getR s 1).1 - (getR s (getR s 1).2.1).1)).2 = false := by first | with_reducible assumption | exact nz_f (by with_reducible assumption)
     rw [unp_2] at hy
     rw [m6 hy])
    | (
     have kn : ¬ (getR s (getR s 1).2.1).1 > 0 := by omega
     have eN := nul_0 (s := s) (a := (getR s (getR s 1).2.1).2.1) (n := (getR s 1).1) (k := (getR s (getR s 1).2.1).1) kn
     have j4 : (getR s 1).1 ≤ 4096 := by omega
     have jk : (getR s (getR s 1).2.1).1 ≤ (getR s 1).1 := by omega
     obtain ⟨m1, m3, m4, m5, m6⟩ := bod_go hus e1 j4 e2 jk eN
     have hml : ((nulS s (getR s (getR s 1).2.1).2.1 (getR s 1).1 (getR s (getR s 1).2.1).1).1.length : Int) = (getR s 1).1 := by rw [eN]; exact m1
     first
     | (
      have hb : (nulS s (getR s (getR s 1).2.1).2.1 (getR s 1).1 (getR s (getR s 1).2.1).1).1[i.toNat]! = true := by rw [eN]; first | with_reducible assumption | (simp_all; done)
      have hll : i < L.length := by omega
      have hsa := setV_at (L := L) (i := i) (v := NV) (by omega)
      have hv : ¬ vCheck c NV = 0 := by rw [← hsa]; with_reducible assumption
      rw [hgo, asm_null0 (by omega) hb hv])
     | (
      have hb : (nulS s (getR s (getR s 1).2.1).2.1 (getR s 1).1 (getR s (getR s 1).2.1).1).1[i.toNat]! = false := by rw [eN]; first | with_reducible assumption | (simp_all; done)
      have hll : i < L.length := by omega
      have hsa := setV_at (L := L) (i := i) (v := R[(0 : Int).toNat]!) (by omega)
      have hv : ¬ vCheck c R[(0 : Int).toNat]! = 0 := by rw [← hsa]; with_reducible assumption
      rw [hgo, asm_val0 (by omega) hb hv])
     | (rw [hgo, asm_end (by omega) (by omega), List.take_of_length_le (by omega)]))
    | (
     have kn : (getR s (getR s 1).2.1).1 > 0 := by omega
     have ke : ¬ ((getR s (getR s 1).2.1).2.1 + ((getR s 1).1 + 7).tdiv 8) > s.size := by omega
     have ku : (unpB (s.extract (getR s (getR s 1).2.1).2.1.toNat ((getR s (getR s 1).2.1).2.1 + ((getR s 1).1 + 7).tdiv 8).toNat) (getR s 1).1).2 = 0 := by with_reducible assumption
     have kc : cntB (s.extract (getR s (getR s 1).2.1).2.1.toNat ((getR s (getR s 1).2.1).2.1 + ((getR s 1).1 + 7).tdiv 8).toNat) = (getR s (getR s 1).2.1).1 := by first | with_reducible assumption | omega
     have eN := nul_2 (s := s) (a := (getR s (getR s 1).2.1).2.1) (n := (getR s 1).1) (k := (getR s (getR s 1).2.1).1) kn ke ku kc
     have j4 : (getR s 1).1 ≤ 4096 := by omega
     have jk : (getR s (getR s 1).2.1).1 ≤ (getR s 1).1 := by omega
     obtain ⟨m1, m3, m4, m5, m6⟩ := bod_go hus e1 j4 e2 jk eN
     have hml : ((nulS s (getR s (getR s 1).2.1).2.1 (getR s 1).1 (getR s (getR s 1).2.1).1).1.length : Int) = (getR s 1).1 := by rw [eN]; exact m1
     first
     | (
      have hb : (nulS s (getR s (getR s 1).2.1).2.1 (getR s 1).1 (getR s (getR s 1).2.1).1).1[i.toNat]! = true := by rw [eN]; first | with_reducible assumption | (simp_all; done)
      have hll : i < L.length := by omega
      have hsa := setV_at (L := L) (i := i) (v := NV) (by omega)
      have hv : ¬ vCheck c NV = 0 := by rw [← hsa]; with_reducible assumption
      rw [hgo, asm_null0 (by omega) hb hv])
     | (
      have hb : (nulS s (getR s (getR s 1).2.1).2.1 (getR s 1).1 (getR s (getR s 1).2.1).1).1[i.toNat]! = false := by rw [eN]; first | with_reducible assumption | (simp_all; done)
      have hll : i < L.length := by omega
      have hsa := setV_at (L := L) (i := i) (v := R[(0 : Int).toNat]!) (by omega)
      have hv : ¬ vCheck c R[(0 : Int).toNat]! = 0 := by rw [← hsa]; with_reducible assumption
      rw [hgo, asm_val0 (by omega) hb hv])
     | (rw [hgo, asm_end (by omega) (by omega), List.take_of_length_le (by omega)]))))))
abbrev tb58 : Tbl := (36, c_decode_ok') :: tb57
theorem tb58_ok : TblOk Try.prog tb58 := TblOk.cons decode_ok' tb57_ok

end Go.Proofs.Ytlamfjhhjfgemaa
