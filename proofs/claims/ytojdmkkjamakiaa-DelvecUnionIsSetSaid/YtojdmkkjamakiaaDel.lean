/- Contracts of the checks of delete vectors. -/
import Derived.Test.YtojdmkkjamakiaaVarint
namespace Go.Proofs.Ytojdmkkjamakiaa
open Go.Abs
set_option linter.unusedVariables false
set_option linter.unusedSimpArgs false


/-- An ascending list, all above p. -/
def ascF (p : Int) : List Int → Bool
  | [] => true
  | v :: l => decide (p < v) && ascF v l
def asc (l : List Int) : Bool := ascF (-1) l
def prevAt (l : List Int) (k : Int) : Int := if k = 0 then -1 else l[(k - 1).toNat]!
theorem ascF_step {l : List Int} {p k : Int} (h : 0 ≤ k ∧ k < l.length) : ascF p (l.drop k.toNat) = (decide (p < l[k.toNat]!) && ascF l[k.toNat]! (l.drop (k + 1).toNat)) := by
  rw [drop_step l k h]; rfl
theorem prevAt_succ (l : List Int) {k : Int} (h : 0 ≤ k) : prevAt l (k + 1) = l[k.toNat]! := by
  unfold prevAt; rw [if_neg (by omega), show k + 1 - 1 = k by omega]
def chk (l : List Int) (rows : Int) : Bool := decide (1 ≤ rows) && decide (rows ≤ 1024) && asc l && (decide (l.length = 0) || decide (l[l.length - 1]! < rows))
theorem ascF_get : ∀ (l : List Int) (p : Int), ascF p l = true → ∀ i, i < l.length → p + 1 + i ≤ l[i]! ∧ (i + 1 < l.length → l[i]! < l[i + 1]!)
  | [], _, _, i, h => by simp at h
  | v :: l, p, h, i, hi => by
    simp only [ascF, Bool.and_eq_true, decide_eq_true_eq] at h
    cases i with
    | zero =>
      refine ⟨by show p + 1 + ((0 : Nat) : Int) ≤ v; omega, fun h2 => ?_⟩
      have := (ascF_get l v h.2 0 (by simpa using h2)).1
      show v < l[0]!
      omega
    | succ i =>
      have := ascF_get l v h.2 i (by simpa using hi)
      refine ⟨?_, fun h2 => this.2 (by simpa using h2)⟩
      have h5 := this.1
      show p + 1 + ((i + 1 : Nat) : Int) ≤ l[i]!
      omega
theorem asc_le {l : List Int} (h : asc l = true) {i j : Nat} (hij : i ≤ j) (hj : j < l.length) : l[i]! ≤ l[j]! := by
  induction j with
  | zero => rw [show i = 0 by omega]; exact Int.le_refl _
  | succ j ih =>
    rcases Nat.eq_or_lt_of_le hij with q | q
    · rw [q]; exact Int.le_refl _
    · have := (ascF_get l _ h j (by omega)).2 hj
      have := ih (by omega) (by omega)
      omega
theorem chk_len {l : List Int} {rows : Int} (h : chk l rows = true) : (l.length : Int) ≤ 1024 ∧ 1 ≤ rows ∧ rows ≤ 1024 ∧ asc l = true ∧ ∀ i, i < l.length → 0 ≤ l[i]! ∧ l[i]! < rows := by
  simp only [chk, Bool.and_eq_true, Bool.or_eq_true, decide_eq_true_eq] at h
  obtain ⟨⟨⟨h1, h2⟩, h3⟩, h4⟩ := h
  have hb : ∀ i, i < l.length → 0 ≤ l[i]! ∧ l[i]! < rows := by
    intro i hi
    have := (ascF_get l _ h3 i hi).1
    have := asc_le h3 (show i ≤ l.length - 1 by omega) (by omega)
    omega
  refine ⟨?_, h1, h2, h3, hb⟩
  rcases Nat.eq_zero_or_pos l.length with q | q
  · omega
  · have h5 := (ascF_get l _ h3 (l.length - 1) (by omega)).1
    have := hb (l.length - 1) (by omega)
    omega
abbrev EMP : ByteArray := ⟨#[]⟩
abbrev DEL1 : ByteArray := ⟨#[68, 69, 76, 49]⟩
def four (v : Int) : List Int := [IntKind.u8.wrap v, IntKind.u8.wrap (shrI .u32 v 8), IntKind.u8.wrap (shrI .u32 v 16), IntKind.u8.wrap (shrI .u32 v 24)]
def sealS (s : ByteArray) : ByteArray := s ++ ofInts (four (crcS s))
def encG : Int → List Int → List Int
  | _, [] => []
  | p, v :: l => put (v - (p + 1)) ++ encG v l
def encB (l : List Int) (rows : Int) : ByteArray := DEL1 ++ ofInts (put rows) ++ ofInts (put l.length) ++ ofInts (encG (-1) l)
def encS (l : List Int) (rows : Int) : ByteArray := if chk l rows = true then sealS (encB l rows) else EMP
def encE (l : List Int) (rows : Int) : Int := if chk l rows = true then 0 else 1
theorem encG_step {l : List Int} {p k : Int} (h : 0 ≤ k ∧ k < l.length) : encG p (l.drop k.toNat) = put (l[k.toNat]! - (p + 1)) ++ encG l[k.toNat]! (l.drop (k + 1).toNat) := by
  rw [drop_step l k h]; rfl
theorem put_size (v : Int) : (ofInts (put v)).size ≤ 10 ∧ 1 ≤ (ofInts (put v)).size := by rw [ofInts_len]; exact put_len v
theorem DEL1_size : (ByteArray.mk #[68, 69, 76, 49]).size = 4 := rfl
theorem four_size (v : Int) : (ofInts (four v)).size = 4 := rfl
theorem ofInts_nil : ofInts [] = ByteArray.empty := rfl

abbrev c_asc_ok : Ct := .fn [.list (.int .i64)] (some (fun (l : List Int) => (l.length ≤ 9223372036854775807))) (fun (l : List Int) => .d .bool (asc l))
set_option maxRecDepth 100000 in
set_option maxHeartbeats 4000000 in
theorem asc_ok : CtOk Try.prog 30 c_asc_ok := by
  refine CtOk.fn tb10_ok mixed [] [] rfl rfl ?_
  rintro ⟨(l : List Int), _⟩ hpre
  replace hpre := hpre _ rfl
  dsimp only [cu] at hpre
  have hl := hpre
  refine ⟨[(0, 4, LA.mk [.sl 7 (.int .i64)] (fun y => Tag 11 ∧ cu [.int .i64] (fun (k : Int) => (0 ≤ k ∧ k ≤ l.length) ∧ (ascF (prevAt l k) (l.drop k.toNat) = asc l) ∧ (-1 ≤ prevAt l k)) y) (cu [.int .i64] (fun (k : Int) => ((l.length : Int) - k).toNat)) (cu [.int .i64] (fun (k : Int) => ([] : List (Nat × Nat × LA)))))], ?_⟩
  repeat' (first
    | (with_reducible refine Side.mk ⟨(⟨⟩ : Tag 11), ?_⟩
       dsimp only [cu, joinT, ckTys, gts, Prod.eta, List.nil_append]
       refine ⟨?_, ?_, ?_⟩
       · omega
       · first
         | (rw [← ha, ascF_step (p := prevAt l k) (by omega), prevAt_succ l (by omega)]
            rw [decide_eq_true (by unfold prevAt; (repeat' split) <;> omega), Bool.true_and])
         | (rfl)
       · first
         | (rw [prevAt_succ l (by omega)]; omega)
         | (exact Int.le_refl (-1)))
    | (with_reducible refine Side.mk ?_
       (try dsimp only [cu, joinT, ckTys, gts, loK, hiK, Prod.eta, List.nil_append])
       first
       | (done)
       | (with_reducible rfl)
       | (omega)
       | (exact Eq.refl _)
       | (simp only [List.length_append, List.length_cons, List.length_nil]; omega)
       | (omega))
    | (conv => whnf
       first
        | done
        | exact trivial
        | with_reducible refine NilBr.mk (fun h => ?_) ?_
        | with_reducible refine w_andS ?_ ?_
        | with_reducible refine w_andL ?_ ?_
        | with_reducible refine w_kern (by kernel_rfl) ?_
        | with_reducible refine w_true ?_
        | with_reducible refine w_nd ?_ ?_
        | with_reducible refine w_in ?_ ?_
        | with_reducible refine w_and ?_ ?_
        | (with_reducible refine w_brN (fun h => ?_) (fun h => ?_) <;> (try dsimp only [cu, Prod.eta, List.nil_append] at h) <;> (try (exfalso; omega; done)))
        | (with_reducible refine w_brD (fun h => ?_) (fun h => ?_) <;> (try dsimp only [cu, Prod.eta, List.nil_append] at h) <;> (try (exfalso; omega; done)))
        | (with_reducible refine w_br (fun h => ?_) (fun h => ?_) <;> (try dsimp only [cu, Prod.eta, List.nil_append] at h) <;> (try (exfalso; omega; done)))
        | (intro yy (hy : Tag 11 ∧ _)
           obtain ⟨(k : Int), _⟩ := yy
           replace hy := hy.2
           dsimp only [cu, joinT, ckTys, gts, Prod.eta, List.nil_append] at hy
           obtain ⟨hk, ha, hp⟩ := hy)))
  all_goals (with_reducible refine Leaf.mk ?_
             (try dsimp only [cu, joinT, ckTys, gts, Prod.eta, List.nil_append] at *)
             first
             | (done)
             | (rw [← ha, ascF_step (p := prevAt l k) (by omega), decide_eq_false (by omega), Bool.false_and])
             | (rw [← ha, ascF_step (p := prevAt l k) (by omega), decide_eq_false (by unfold prevAt; rw [if_neg (by omega)]; omega), Bool.false_and])
             | (rw [← ha, List.drop_eq_nil_of_le (by omega)]; rfl))
abbrev tb11 : Tbl := (30, c_asc_ok) :: tb10
theorem tb11_ok : TblOk Try.prog tb11 := TblOk.cons asc_ok tb10_ok

abbrev c_rasc_ok : Ct := .fn [.list (.int .i64)] (some (fun (l : List Int) => (l.length ≤ 9223372036854775807))) (fun (l : List Int) => .d .bool (asc l))
set_option maxRecDepth 100000 in
set_option maxHeartbeats 4000000 in
theorem rasc_ok : CtOk Try.prog 39 c_rasc_ok := by
  refine CtOk.fn tb11_ok mixed [] [] rfl rfl ?_
  rintro ⟨(l : List Int), _⟩ hpre
  replace hpre := hpre _ rfl
  dsimp only [cu] at hpre
  have hl := hpre
  refine ⟨[(0, 4, LA.mk [.sl 7 (.int .i64)] (fun y => Tag 12 ∧ cu [.int .i64] (fun (k : Int) => (0 ≤ k ∧ k ≤ l.length) ∧ (ascF (prevAt l k) (l.drop k.toNat) = asc l) ∧ (-1 ≤ prevAt l k)) y) (cu [.int .i64] (fun (k : Int) => ((l.length : Int) - k).toNat)) (cu [.int .i64] (fun (k : Int) => ([] : List (Nat × Nat × LA)))))], ?_⟩
  repeat' (first
    | (with_reducible refine Side.mk ⟨(⟨⟩ : Tag 12), ?_⟩
       dsimp only [cu, joinT, ckTys, gts, Prod.eta, List.nil_append]
       refine ⟨?_, ?_, ?_⟩
       · omega
       · first
         | (rw [← ha, ascF_step (p := prevAt l k) (by omega), prevAt_succ l (by omega)]
            rw [decide_eq_true (by unfold prevAt; (repeat' split) <;> omega), Bool.true_and])
         | (rfl)
       · first
         | (rw [prevAt_succ l (by omega)]; omega)
         | (exact Int.le_refl (-1)))
    | (with_reducible refine Side.mk ?_
       (try dsimp only [cu, joinT, ckTys, gts, loK, hiK, Prod.eta, List.nil_append])
       first
       | (done)
       | (with_reducible rfl)
       | (omega)
       | (exact Eq.refl _)
       | (simp only [List.length_append, List.length_cons, List.length_nil]; omega)
       | (omega))
    | (conv => whnf
       first
        | done
        | exact trivial
        | with_reducible refine NilBr.mk (fun h => ?_) ?_
        | with_reducible refine w_andS ?_ ?_
        | with_reducible refine w_andL ?_ ?_
        | with_reducible refine w_kern (by kernel_rfl) ?_
        | with_reducible refine w_true ?_
        | with_reducible refine w_nd ?_ ?_
        | with_reducible refine w_in ?_ ?_
        | with_reducible refine w_and ?_ ?_
        | (with_reducible refine w_brN (fun h => ?_) (fun h => ?_) <;> (try dsimp only [cu, Prod.eta, List.nil_append] at h) <;> (try (exfalso; omega; done)))
        | (with_reducible refine w_brD (fun h => ?_) (fun h => ?_) <;> (try dsimp only [cu, Prod.eta, List.nil_append] at h) <;> (try (exfalso; omega; done)))
        | (with_reducible refine w_br (fun h => ?_) (fun h => ?_) <;> (try dsimp only [cu, Prod.eta, List.nil_append] at h) <;> (try (exfalso; omega; done)))
        | (intro yy (hy : Tag 12 ∧ _)
           obtain ⟨(k : Int), _⟩ := yy
           replace hy := hy.2
           dsimp only [cu, joinT, ckTys, gts, Prod.eta, List.nil_append] at hy
           obtain ⟨hk, ha, hp⟩ := hy)))
  all_goals (with_reducible refine Leaf.mk ?_
             (try dsimp only [cu, joinT, ckTys, gts, Prod.eta, List.nil_append] at *)
             first
             | (done)
             | (rw [← ha, ascF_step (p := prevAt l k) (by omega), decide_eq_false (by omega), Bool.false_and])
             | (rw [← ha, ascF_step (p := prevAt l k) (by omega), decide_eq_false (by unfold prevAt; rw [if_neg (by omega)]; omega), Bool.false_and])
             | (rw [← ha, List.drop_eq_nil_of_le (by omega)]; rfl))
abbrev tb12 : Tbl := (39, c_rasc_ok) :: tb11
theorem tb12_ok : TblOk Try.prog tb12 := TblOk.cons rasc_ok tb11_ok

abbrev c_chk_ok : Ct := .fn [.list (.int .i64), .int .i64] (some (fun (l : List Int) (rows : Int) => (l.length ≤ 9223372036854775807))) (fun (l : List Int) (rows : Int) => .d .bool (chk l rows))
set_option maxRecDepth 100000 in
set_option maxHeartbeats 4000000 in
theorem chk_ok : CtOk Try.prog 24 c_chk_ok := by
  refine CtOk.fn tb12_ok mixed [] [] rfl rfl ?_
  rintro ⟨(l : List Int), (rows : Int), _⟩ hpre
  replace hpre := hpre _ rfl
  dsimp only [cu] at hpre
  have hl := hpre
  refine ⟨[], ?_⟩
  repeat' (first
    | (with_reducible refine Side.mk ?_
       (try dsimp only [cu, joinT, ckTys, gts, loK, hiK, Prod.eta, List.nil_append])
       first
       | (done)
       | (with_reducible rfl)
       | (omega)
       | (exact Eq.refl _)
       | (simp only [List.length_append, List.length_cons, List.length_nil]; omega)
       | (assumption))
    | (conv => whnf
       first
        | done
        | exact trivial
        | with_reducible refine NilBr.mk (fun h => ?_) ?_
        | with_reducible refine w_andS ?_ ?_
        | with_reducible refine w_andL ?_ ?_
        | with_reducible refine w_kern (by kernel_rfl) ?_
        | with_reducible refine w_true ?_
        | with_reducible refine w_nd ?_ ?_
        | with_reducible refine w_in ?_ ?_
        | with_reducible refine w_and ?_ ?_
        | (with_reducible refine w_brN (fun h => ?_) (fun h => ?_) <;> (try dsimp only [cu, Prod.eta, List.nil_append] at h) <;> (try (exfalso; omega; done)))
        | (with_reducible refine w_brD (fun h => ?_) (fun h => ?_) <;> (try dsimp only [cu, Prod.eta, List.nil_append] at h) <;> (try (exfalso; omega; done)))
        | (with_reducible refine w_br (fun h => ?_) (fun h => ?_) <;> (try dsimp only [cu, Prod.eta, List.nil_append] at h) <;> (try (exfalso; omega; done)))))
  all_goals (with_reducible refine Leaf.mk ?_
             (try dsimp only [cu, joinT, ckTys, gts, Prod.eta, List.nil_append] at *)
             first
             | (done)
             | (simp only [chk]
                rw [show ((l.length : Int) - 1).toNat = l.length - 1 by omega]
                simp_all)
             | (grind [chk]))
abbrev tb13 : Tbl := (24, c_chk_ok) :: tb12
theorem tb13_ok : TblOk Try.prog tb13 := TblOk.cons chk_ok tb12_ok

abbrev c_rchk_ok : Ct := .fn [.list (.int .i64), .int .i64] (some (fun (l : List Int) (rows : Int) => (l.length ≤ 9223372036854775807))) (fun (l : List Int) (rows : Int) => .d .bool (chk l rows))
set_option maxRecDepth 100000 in
set_option maxHeartbeats 4000000 in
theorem rchk_ok : CtOk Try.prog 25 c_rchk_ok := by
  refine CtOk.fn tb13_ok mixed [] [] rfl rfl ?_
  rintro ⟨(l : List Int), (rows : Int), _⟩ hpre
  replace hpre := hpre _ rfl
  dsimp only [cu] at hpre
  have hl := hpre
  refine ⟨[], ?_⟩
  repeat' (first
    | (with_reducible refine Side.mk ?_
       (try dsimp only [cu, joinT, ckTys, gts, loK, hiK, Prod.eta, List.nil_append])
       first
       | (done)
       | (with_reducible rfl)
       | (omega)
       | (exact Eq.refl _)
       | (simp only [List.length_append, List.length_cons, List.length_nil]; omega)
       | (assumption))
    | (conv => whnf
       first
        | done
        | exact trivial
        | with_reducible refine NilBr.mk (fun h => ?_) ?_
        | with_reducible refine w_andS ?_ ?_
        | with_reducible refine w_andL ?_ ?_
        | with_reducible refine w_kern (by kernel_rfl) ?_
        | with_reducible refine w_true ?_
        | with_reducible refine w_nd ?_ ?_
        | with_reducible refine w_in ?_ ?_
        | with_reducible refine w_and ?_ ?_
        | (with_reducible refine w_brN (fun h => ?_) (fun h => ?_) <;> (try dsimp only [cu, Prod.eta, List.nil_append] at h) <;> (try (exfalso; omega; done)))
        | (with_reducible refine w_brD (fun h => ?_) (fun h => ?_) <;> (try dsimp only [cu, Prod.eta, List.nil_append] at h) <;> (try (exfalso; omega; done)))
        | (with_reducible refine w_br (fun h => ?_) (fun h => ?_) <;> (try dsimp only [cu, Prod.eta, List.nil_append] at h) <;> (try (exfalso; omega; done)))))
  all_goals (with_reducible refine Leaf.mk ?_
             (try dsimp only [cu, joinT, ckTys, gts, Prod.eta, List.nil_append] at *)
             first
             | (done)
             | (simp only [chk]
                rw [show ((l.length : Int) - 1).toNat = l.length - 1 by omega]
                simp_all)
             | (grind [chk]))
abbrev tb14 : Tbl := (25, c_rchk_ok) :: tb13
theorem tb14_ok : TblOk Try.prog tb14 := TblOk.cons rchk_ok tb13_ok

end Go.Proofs.Ytojdmkkjamakiaa
