/- The union by the reference: merging. -/
import Derived.Test.YtojdmkkjamakiaaKeep
import Derived.Test.YtojdmkkjamakiaaAbsSp
namespace Go.Proofs.Ytojdmkkjamakiaa
open Go.Abs
set_option linter.unusedVariables false
set_option linter.unusedSimpArgs false


def mergeL : List Int → List Int → List Int
  | [], b => b
  | x :: a, [] => x :: a
  | x :: a, y :: b => if x ≤ y then (if x = y then x :: mergeL a b else x :: mergeL a (y :: b)) else y :: mergeL (x :: a) b
termination_by a b => a.length + b.length
theorem merge_nil (a : List Int) : mergeL a [] = a := by cases a <;> rw [mergeL]
theorem nil_merge (b : List Int) : mergeL [] b = b := by rw [mergeL]
theorem cons_of {l : List Int} (h : 0 < l.length) : l = l[0]! :: l.drop 1 := by
  cases l with
  | nil => simp at h
  | cons x l => rfl
theorem merge_b {a b : List Int} (hb : b.length = 0) (ha : 0 < a.length) : mergeL a b = a[0]! :: mergeL (a.drop 1) b := by
  have hb : b = [] := List.length_eq_zero_iff.1 hb
  subst hb
  rw [merge_nil, merge_nil]; exact cons_of ha
theorem merge_eq {a b : List Int} (ha : 0 < a.length) (hb : 0 < b.length) (h : a[0]! = b[0]!) : mergeL a b = a[0]! :: mergeL (a.drop 1) (b.drop 1) := by
  conv => lhs; rw [cons_of ha, cons_of hb]
  rw [mergeL, if_pos (by omega), if_pos h]
theorem merge_lt {a b : List Int} (ha : 0 < a.length) (hb : 0 < b.length) (h : a[0]! < b[0]!) : mergeL a b = a[0]! :: mergeL (a.drop 1) b := by
  conv => lhs; rw [cons_of ha, cons_of hb]
  rw [mergeL, if_pos (by omega), if_neg (by omega), ← cons_of hb]
theorem merge_gt {a b : List Int} (hb : 0 < b.length) (h : a.length = 0 ∨ b[0]! < a[0]!) : mergeL a b = b[0]! :: mergeL a (b.drop 1) := by
  rcases Nat.eq_zero_or_pos a.length with q | q
  · have ha : a = [] := List.length_eq_zero_iff.1 q
    subst ha
    rw [nil_merge, nil_merge]; exact cons_of hb
  · conv => lhs; rw [cons_of q, cons_of hb]
    rw [mergeL, if_neg (by omega), ← cons_of q]
theorem merge_end {a b : List Int} (ha : a.length = 0) (hb : b.length = 0) : mergeL a b = [] := by
  have ha : a = [] := List.length_eq_zero_iff.1 ha
  have hb : b = [] := List.length_eq_zero_iff.1 hb
  subst ha; subst hb; rw [nil_merge]
theorem ascF_pw : ∀ (l : List Int) (p : Int), ascF p l = true → (∀ v, v ∈ l → p < v) ∧ l.Pairwise (fun a b => a < b)
  | [], p, _ => ⟨fun v h => by simp at h, .nil⟩
  | x :: l, p, h => by
    simp only [ascF, Bool.and_eq_true, decide_eq_true_eq] at h
    obtain ⟨h1, h2⟩ := ascF_pw l x h.2
    refine ⟨fun v hv => ?_, List.pairwise_cons.2 ⟨h1, h2⟩⟩
    rcases List.mem_cons.1 hv with q | q
    · omega
    · have := h1 v q; omega
theorem merge_mem : ∀ (a b : List Int) (v : Int), v ∈ mergeL a b ↔ v ∈ a ∨ v ∈ b
  | [], b, v => by rw [nil_merge]; simp
  | x :: a, [], v => by rw [merge_nil]; simp
  | x :: a, y :: b, v => by
    rw [mergeL]
    split
    · split
      · rename_i h; subst h
        simp only [List.mem_cons, merge_mem a b v]; grind
      · simp only [List.mem_cons, merge_mem a (y :: b) v]; grind
    · simp only [List.mem_cons, merge_mem (x :: a) b v]; grind
termination_by a b => a.length + b.length
theorem merge_pw : ∀ (a b : List Int), a.Pairwise (fun x y => x < y) → b.Pairwise (fun x y => x < y) → (mergeL a b).Pairwise (fun x y => x < y)
  | [], b, _, hb => by rw [nil_merge]; exact hb
  | x :: a, [], ha, _ => by rw [merge_nil]; exact ha
  | x :: a, y :: b, ha, hb => by
    have ha' := List.pairwise_cons.1 ha
    have hb' := List.pairwise_cons.1 hb
    rw [mergeL]
    split
    · split
      · rename_i h; subst h
        refine List.pairwise_cons.2 ⟨fun v hv => ?_, merge_pw a b ha'.2 hb'.2⟩
        rcases (merge_mem a b v).1 hv with q | q
        · exact ha'.1 v q
        · exact hb'.1 v q
      · refine List.pairwise_cons.2 ⟨fun v hv => ?_, merge_pw a (y :: b) ha'.2 hb⟩
        rcases (merge_mem a (y :: b) v).1 hv with q | q
        · exact ha'.1 v q
        · rcases List.mem_cons.1 q with q | q
          · omega
          · have := hb'.1 v q; omega
    · refine List.pairwise_cons.2 ⟨fun v hv => ?_, merge_pw (x :: a) b ha hb'.2⟩
      rcases (merge_mem (x :: a) b v).1 hv with q | q
      · rcases List.mem_cons.1 q with q | q
        · omega
        · have := ha'.1 v q; omega
      · exact hb'.1 v q
termination_by a b => a.length + b.length
theorem union_merge {a b : List Int} (ha : asc a = true) (hb : asc b = true) : unionL a b = mergeL a b := by
  rw [union_yes ha hb]
  refine comp_sort (merge_pw a b (ascF_pw a _ ha).2 (ascF_pw b _ hb).2) (fun v => ?_)
  rw [merge_mem, List.mem_append]

abbrev c_runion_ok : Ct := .fn [.list (.int .i64), .list (.int .i64)] (some (fun (a : List Int) (b : List Int) => (a.length ≤ 4398046511104) ∧ (b.length ≤ 4398046511104))) (fun (a : List Int) (b : List Int) => .d (.list (.int .i64)) (unionL a b))
set_option maxRecDepth 100000 in
set_option maxHeartbeats 4000000 in
theorem runion_ok : CtOk Try.prog 18 c_runion_ok := by
  refine CtOk.fn tb26_ok mixed [] [] rfl rfl ?_
  rintro ⟨(a : List Int), (b : List Int), _⟩ hpre
  replace hpre := hpre _ rfl
  dsimp only [cu] at hpre
  obtain ⟨ha, hb⟩ := hpre
  refine ⟨[(0, 8, LA.mk [.sl 0 (.list (.int .i64)), .sl 1 (.list (.int .i64)), .lst 5 (.int .i64) 3] (fun y => Tag 15 ∧ cu [.list (.int .i64), .list (.int .i64), .list (.int .i64)] (fun (A : List Int) (Bb : List Int) (M : List Int) => (unionL a b = M ++ mergeL A Bb) ∧ (M.length + A.length + Bb.length ≤ a.length + b.length)) y) (cu [.list (.int .i64), .list (.int .i64), .list (.int .i64)] (fun (A : List Int) (Bb : List Int) (M : List Int) => A.length + Bb.length)) (cu [.list (.int .i64), .list (.int .i64), .list (.int .i64)] (fun (A : List Int) (Bb : List Int) (M : List Int) => ([] : List (Nat × Nat × LA)))))], ?_⟩
  repeat' (first
    | (with_reducible refine Side.mk ⟨(⟨⟩ : Tag 15), ?_⟩
       dsimp only [cu, joinT, ckTys, gts, Prod.eta, List.nil_append]
       refine ⟨?_, ?_⟩
       · first
         | (have h1 : (!asc a) = false := by with_reducible assumption
            have h2 : (!asc b) = false := by with_reducible assumption
            rw [Bool.not_eq_false'] at h1 h2
            exact union_merge h1 h2)
         | ((try simp only [show (Int.toNat 0) = 0 from rfl, show (Int.toNat 1) = 1 from rfl] at *)
            rw [hm, merge_b (by omega) (by omega), List.append_assoc]
            rfl)
         | ((try simp only [show (Int.toNat 0) = 0 from rfl, show (Int.toNat 1) = 1 from rfl] at *)
            rw [hm, merge_eq (by omega) (by omega) (by omega), List.append_assoc]
            rfl)
         | ((try simp only [show (Int.toNat 0) = 0 from rfl, show (Int.toNat 1) = 1 from rfl] at *)
            rw [hm, merge_lt (by omega) (by omega) (by omega), List.append_assoc]
            rfl)
         | ((try simp only [show (Int.toNat 0) = 0 from rfl, show (Int.toNat 1) = 1 from rfl] at *)
            rw [hm, merge_gt (by omega) (by omega), List.append_assoc]
            rfl)
       · first
         | (simp; done)
         | (simp only [List.length_append, List.length_cons, List.length_nil, List.length_drop, show (Int.toNat 1) = 1 from rfl]; omega))
    | (with_reducible refine Side.mk ?_
       (try dsimp only [cu, joinT, ckTys, gts, loK, hiK, Prod.eta, List.nil_append])
       first
       | (done)
       | (with_reducible rfl)
       | (omega)
       | (exact Eq.refl _)
       | (simp only [List.length_append, List.length_cons, List.length_nil]; omega)
       | (with_reducible assumption)
       | (omega)
       | (simp only [List.length_append, List.length_cons, List.length_nil, List.length_drop, show (Int.toNat 1) = 1 from rfl]; omega))
    | (conv => whnf
       first
        | done
        | exact trivial
        | with_reducible refine NilBr.mk (fun h => ?_) ?_
        | with_reducible refine w_andS ?_ ?_
        | with_reducible refine w_andL ?_ ?_
        | with_reducible refine w_kern (by kernel_rfl) ?_
        | with_reducible refine w_true ?_
        | with_reducible refine w_nd ?_ ?_
        | with_reducible refine w_in ?_ ?_
        | with_reducible refine w_and ?_ ?_
        | (with_reducible refine w_brN (fun h => ?_) (fun h => ?_) <;> (try dsimp only [cu, Prod.eta, List.nil_append] at h) <;> (try (exfalso; omega; done)))
        | (with_reducible refine w_brD (fun h => ?_) (fun h => ?_) <;> (try dsimp only [cu, Prod.eta, List.nil_append] at h) <;> (try (exfalso; omega; done)))
        | (with_reducible refine w_br (fun h => ?_) (fun h => ?_) <;> (try dsimp only [cu, Prod.eta, List.nil_append] at h) <;> (try (exfalso; omega; done)))
        | (intro yy (hy : Tag 15 ∧ _)
           obtain ⟨(A : List Int), (Bb : List Int), (M : List Int), _⟩ := yy
           replace hy := hy.2
           dsimp only [cu, joinT, ckTys, gts, Prod.eta, List.nil_append] at hy
           obtain ⟨hm, hl⟩ := hy)))
  all_goals (with_reducible refine Leaf.mk ?_
             (try dsimp only [cu, joinT, ckTys, gts, Prod.eta, List.nil_append] at *)
             first
             | (done)
             | (have h1 : (!asc a) = true := by with_reducible assumption
                rw [union_no (by simp_all)])
             | (have h1 : (!asc b) = true := by with_reducible assumption
                rw [union_no (by simp_all)])
             | (rw [hm, merge_end (by omega) (by omega), List.append_nil]))
abbrev tb27 : Tbl := (18, c_runion_ok) :: tb26
theorem tb27_ok : TblOk Try.prog tb27 := TblOk.cons runion_ok tb26_ok

end Go.Proofs.Ytojdmkkjamakiaa
