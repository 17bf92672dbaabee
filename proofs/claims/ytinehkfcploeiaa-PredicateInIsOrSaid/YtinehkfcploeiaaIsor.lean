/- The walk of PredicateInIsOr. -/
import Derived.Test.YtinehkfcploeiaaBase2
namespace Go.Proofs.Ytinehkfcploeiaa
open Go.Abs
set_option linter.unusedVariables false
set_option linter.unusedSimpArgs false


theorem in_law {s : Schema} {row : List Val} {k : Int} {a b c z z2 z3 : Val} (hs : schemaErr s = 0) (hr : rowErr s row = 0) (hk : 0 ≤ k ∧ k < s.1.length)
    (ha : vCheck (colN s.1[k.toNat]! false) a = 0) (hb : vCheck (colN s.1[k.toNat]! false) b = 0) (hc : vCheck (colN s.1[k.toNat]! false) c = 0) :
    evalE s [(7, k, z, [a, b, c], 0, 0)] row = 0 ∧ evalE s [(1, k, a, [], 0, 0), (1, k, b, [], 0, 0), (10, 0, z2, [], 0, 1), (1, k, c, [], 0, 0), (10, 0, z3, [], 2, 3)] row = 0 ∧
    evalV s [(7, k, z, [a, b, c], 0, 0)] row = evalV s [(1, k, a, [], 0, 0), (1, k, b, [], 0, 0), (10, 0, z2, [], 0, 1), (1, k, c, [], 0, 0), (10, 0, z3, [], 2, 3)] row := by
  obtain ⟨na, ca⟩ := vCheck_null ha
  obtain ⟨nb, cb⟩ := vCheck_null hb
  obtain ⟨nc, cc⟩ := vCheck_null hc
  have ua := vCheck_nullable ha
  have ub := vCheck_nullable hb
  have uc := vCheck_nullable hc
  have p1 : predErr s [(7, k, z, [a, b, c], 0, 0)] = 0 := by
    unfold predErr
    rw [if_neg (by simp [hs]), if_neg (by simp)]
    have e1 : errFrom (fun _ v => vCheck (nullableCol s.1[k.toNat]!) v) 0 [a, b, c] = 0 := by
      rw [errFrom, if_pos ua, errFrom, if_pos ub, errFrom, if_pos uc]
      rfl
    have : nodeErr s 0 (7, k, z, [a, b, c], 0, 0) = 0 := by
      unfold nodeErr
      simp only [e1]
      simp
      omega
    rw [errFrom, if_pos this]
    rfl
  have n0 : ∀ (i : Int) (x : Val), vCheck s.1[k.toNat]! x = 0 → x.1 = false → nodeErr s i (1, k, x, [], 0, 0) = 0 := by
    intro i x h1 h2
    unfold nodeErr
    simp only [h1, h2]
    grind
  have n1 : ∀ (i a b : Int) (z : Val), 0 ≤ a ∧ a < i → 0 ≤ b ∧ b < i → nodeErr s i (10, 0, z, [], a, b) = 0 := by
    intro i a b z h1 h2
    unfold nodeErr
    grind
  have p2 : predErr s [(1, k, a, [], 0, 0), (1, k, b, [], 0, 0), (10, 0, z2, [], 0, 1), (1, k, c, [], 0, 0), (10, 0, z3, [], 2, 3)] = 0 := by
    unfold predErr
    rw [if_neg (by simp [hs]), if_neg (by simp)]
    rw [errFrom, if_pos (n0 _ _ ca na), errFrom, if_pos (n0 _ _ cb nb), errFrom, if_pos (n1 (0 + 1 + 1) 0 1 z2 (by omega) (by omega)), errFrom, if_pos (n0 _ _ cc nc), errFrom, if_pos (n1 (0 + 1 + 1 + 1 + 1) 2 3 z3 (by omega) (by omega))]
    rfl
  obtain ⟨e1, v1⟩ := evalE_zero p1 hr
  obtain ⟨e2, v2⟩ := evalE_zero p2 hr
  refine ⟨e1, e2, v1.trans (Eq.trans ?_ v2.symm)⟩
  have hl : ∀ (acc : List Int) (x : Val), nodeVal s row acc (1, k, x, [], 0, 0) = vTest s.1[k.toNat]!.2.1 (1, k, x, [], 0, 0) row[k.toNat]! := by
    intro acc x
    unfold nodeVal
    rw [if_neg (by simp only []; omega)]
  have ho : ∀ (acc : List Int) (z : Val) (a b : Int), nodeVal s row acc (10, 0, z, [], a, b) = vCombine 10 acc[a.toNat]! acc[b.toNat]! := by
    intro acc z a b
    unfold nodeVal
    rw [if_pos (by simp only []; omega), if_pos (by simp only []; omega)]
  have h7 : evalT s [(7, k, z, [a, b, c], 0, 0)] row = vTest s.1[k.toNat]!.2.1 (7, k, z, [a, b, c], 0, 0) row[k.toNat]! := by
    have : evalT s [(7, k, z, [a, b, c], 0, 0)] row = nodeVal s row [] (7, k, z, [a, b, c], 0, 0) := rfl
    rw [this]
    unfold nodeVal
    rw [if_neg (by simp only []; omega)]
  have h5 : evalT s [(1, k, a, [], 0, 0), (1, k, b, [], 0, 0), (10, 0, z2, [], 0, 1), (1, k, c, [], 0, 0), (10, 0, z3, [], 2, 3)] row = vCombine 10 (vCombine 10 (vTest s.1[k.toNat]!.2.1 (1, k, a, [], 0, 0) row[k.toNat]!) (vTest s.1[k.toNat]!.2.1 (1, k, b, [], 0, 0) row[k.toNat]!)) (vTest s.1[k.toNat]!.2.1 (1, k, c, [], 0, 0) row[k.toNat]!) := by
    unfold evalT nodeVals
    simp only [List.foldl_cons, List.foldl_nil, List.nil_append, List.cons_append, hl, ho]
    rfl
  rw [h5, h7]
  generalize s.1[k.toNat]!.2.1 = ty
  generalize row[k.toNat]! = x
  cases hx : x.1
  · have ta : ∀ v : Val, vTest ty (1, k, v, [], 0, 0) x = vTruth (decide (vCompare ty x v = 0)) := by intro v; simp [vTest, hx]
    have tb : vTest ty (7, k, z, [a, b, c], 0, 0) x = if anyEq ty x [a, b, c] = true then 1 else 0 := by simp [vTest, hx, anyNull, na, nb, nc]
    rw [ta, ta, ta, tb]
    simp only [anyEq, List.any_cons, List.any_nil, na, nb, nc, Bool.not_false, Bool.true_and, Bool.or_false]
    by_cases q1 : vCompare ty x a = 0 <;> by_cases q2 : vCompare ty x b = 0 <;> by_cases q3 : vCompare ty x c = 0 <;> simp [q1, q2, q3, vTruth, vCombine]
  · simp [vTest, hx, vCombine]

abbrev c_inIsOr_ok : Ct := .fn [.list (.int .i64), .list (.int .i64), .int .i64, .list (.int .i64), .list (.int .i64), .list (.int .i64)] (some (fun (x : List Int) (m : List Int) (col : Int) (v' : List Int) (w' : List Int) (u' : List Int) => (x.length ≤ 9223372036854775807) ∧ (m.length ≤ 17592186044415) ∧ (v'.length ≤ 9223372036854775807) ∧ (w'.length ≤ 9223372036854775807) ∧ (u'.length ≤ 9223372036854775807))) (fun (x : List Int) (m : List Int) (col : Int) (v' : List Int) (w' : List Int) (u' : List Int) => .d .bool true)
set_option maxRecDepth 100000 in
set_option maxHeartbeats 4000000 in
theorem inIsOr_ok : CtOk Try.prog 9 c_inIsOr_ok := by
  refine CtOk.fn tb50_ok mixed [(0, 6, 1000002)] [] rfl rfl ?_
  rintro ⟨(x : List Int), (m : List Int), (col : Int), (v' : List Int), (w' : List Int), (u' : List Int), _⟩ hpre
  replace hpre := hpre _ rfl
  dsimp only [cu] at hpre
  obtain ⟨hx, hm, hv, hw, hu⟩ := hpre
  obtain ⟨s1, s2, s3, s4⟩ := kSchema_valid x
  obtain ⟨r1, r2⟩ := rowVals_valid x m
  have hpk := pick_lt (v := col) (n := (kSchema x).1.length) (by omega)
  have hv1 := kValue_valid (v', 0) (colN (kSchema x).1[(pick col (kSchema x).1.length).toNat]! false) (s4 _ (by omega))
  have hv2 := kValue_valid (w', 0) (colN (kSchema x).1[(pick col (kSchema x).1.length).toNat]! false) (s4 _ (by omega))
  have hv3 := kValue_valid (u', 0) (colN (kSchema x).1[(pick col (kSchema x).1.length).toNat]! false) (s4 _ (by omega))
  have hin := fun z z2 z3 => in_law (z := z) (z2 := z2) (z3 := z3) (k := pick col (kSchema x).1.length) s1 r1 (by omega) hv1 hv2 hv3
  dsimp only [colN] at hin
  refine ⟨[], ?_⟩
  repeat' (first
    | (with_reducible refine Side.mk ?_
       (try dsimp only [cu, joinT, ckTys, gts, loK, hiK, Prod.eta, List.nil_append])
       first
       | (done)
       | (with_reducible rfl)
       | (omega)
       | (exact Eq.refl _)
       | (simp only [List.length_append, List.length_cons, List.length_nil]; omega)
       | (exact ⟨by omega, by assumption⟩)
       | (exact u64_ne (by omega))
       | (intro i
          rcases i with _ | i <;> exact Nat.zero_le _)
       | (omega)
       | (intro i
          rcases i with _ | _ | _ | _ | _ | i <;> first | exact Nat.zero_le _ | (simp; done)))
    | (conv => whnf
       first
        | done
        | exact trivial
        | with_reducible refine w_andS ?_ ?_
        | with_reducible refine w_andL ?_ ?_
        | with_reducible refine w_kern (by kernel_rfl) ?_
        | with_reducible refine w_true ?_
        | with_reducible refine w_nd ?_ ?_
        | with_reducible refine w_in ?_ ?_
        | with_reducible refine w_and ?_ ?_
        | (with_reducible refine w_brN (fun h => ?_) (fun h => ?_) <;> (try dsimp only [cu, Prod.eta, List.nil_append] at h) <;> (try (exfalso; omega; done)))
        | (with_reducible refine w_brD (fun h => ?_) (fun h => ?_) <;> (try dsimp only [cu, Prod.eta, List.nil_append] at h) <;> (try (exfalso; omega; done)))
        | (with_reducible refine w_br (fun h => ?_) (fun h => ?_) <;> (try dsimp only [cu, Prod.eta, List.nil_append] at h) <;> (try (exfalso; omega; done)))))
  all_goals (with_reducible refine Leaf.mk ?_
             (try dsimp only [cu, joinT, ckTys, gts, Prod.eta, List.nil_append] at *)
             first
             | (done)
             | (obtain ⟨i1, i2, i3⟩ := hin (false, 0, ⟨#[]⟩) (false, 0, ⟨#[]⟩) (false, 0, ⟨#[]⟩)
                first | (simp_all; done) | (grind; done)))
abbrev tb51 : Tbl := (9, c_inIsOr_ok) :: tb50
theorem tb51_ok : TblOk Try.prog tb51 := TblOk.cons inIsOr_ok tb50_ok

end Go.Proofs.Ytinehkfcploeiaa
