/- The walk of PredicateOpposites. -/
import Derived.Test.YtinehkfcploeiaaBase2
namespace Go.Proofs.Ytinehkfcploeiaa
open Go.Abs
set_option linter.unusedVariables false
set_option linter.unusedSimpArgs false


theorem opp_facts {s : Schema} {row : List Val} {k : Int} {v : Val} (hs : schemaErr s = 0) (hr : rowErr s row = 0) (hk : 0 ≤ k ∧ k < s.1.length) (hv : vCheck s.1[k.toNat]! v = 0) (hn : v.1 = false) {a b : Int} (h : (a = 1 ∧ b = 2) ∨ (a = 3 ∧ b = 6) ∨ (a = 4 ∧ b = 5)) :
    evalE s [(a, k, v, [], 0, 0)] row = 0 ∧ evalE s [(b, k, v, [], 0, 0)] row = 0 ∧ 0 ≤ evalV s [(a, k, v, [], 0, 0)] row ∧ evalV s [(a, k, v, [], 0, 0)] row ≤ 2 ∧ 0 ≤ evalV s [(b, k, v, [], 0, 0)] row ∧ evalV s [(b, k, v, [], 0, 0)] row ≤ 2 ∧
    (row[k.toNat]!.1 = true → evalV s [(a, k, v, [], 0, 0)] row = 2 ∧ evalV s [(b, k, v, [], 0, 0)] row = 2) ∧ (row[k.toNat]!.1 = false → evalV s [(a, k, v, [], 0, 0)] row + evalV s [(b, k, v, [], 0, 0)] row = 1) := by
  obtain ⟨a1, a2⟩ := cmp1_law (o := a) hs hr (by omega) hk hv hn
  obtain ⟨b1, b2⟩ := cmp1_law (o := b) hs hr (by omega) hk hv hn
  obtain ⟨o1, o2⟩ := opp_law (t := s.1[k.toNat]!.2.1) (v := v) (x := row[k.toNat]!) h k
  refine ⟨a1, b1, ?_⟩
  rw [show evalV s [(a, k, v, [], 0, 0)] row = _ from a2, show evalV s [(b, k, v, [], 0, 0)] row = _ from b2]
  cases hx : row[k.toNat]!.1
  · have := o2 hx
    refine ⟨by omega, by omega, by omega, by omega, fun h => by simp at h, fun _ => by omega⟩
  · have := o1 hx
    refine ⟨by omega, by omega, by omega, by omega, fun _ => by omega, fun h => by simp at h⟩

abbrev c_opposites_ok : Ct := .fn [.list (.int .i64), .list (.int .i64), .int .i64, .int .i64, .list (.int .i64)] (some (fun (x : List Int) (m : List Int) (col : Int) (op : Int) (v' : List Int) => (x.length ≤ 9223372036854775807) ∧ (m.length ≤ 17592186044415) ∧ (v'.length ≤ 9223372036854775807))) (fun (x : List Int) (m : List Int) (col : Int) (op : Int) (v' : List Int) => .d .bool true)
set_option maxRecDepth 100000 in
set_option maxHeartbeats 4000000 in
theorem opposites_ok : CtOk Try.prog 8 c_opposites_ok := by
  refine CtOk.fn tb50_ok mixed [] [] rfl rfl ?_
  rintro ⟨(x : List Int), (m : List Int), (col : Int), (op : Int), (v' : List Int), _⟩ hpre
  replace hpre := hpre _ rfl
  dsimp only [cu] at hpre
  obtain ⟨hx, hm, hv⟩ := hpre
  obtain ⟨s1, s2, s3, s4⟩ := kSchema_valid x
  obtain ⟨r1, r2⟩ := rowVals_valid x m
  have hpk := pick_lt (v := col) (n := (kSchema x).1.length) (by omega)
  have hop := pick_lt (v := op) (n := 3) (by decide)
  have hvv := kValue_valid (v', 0) (colN (kSchema x).1[(pick col (kSchema x).1.length).toNat]! false) (s4 _ (by omega))
  obtain ⟨n1, n2⟩ := vCheck_null hvv
  have O1 := opp_facts (s := kSchema x) (row := rowVals (kSchema x) m) (k := pick col (kSchema x).1.length) (v := (kValue (v', 0) (colN (kSchema x).1[(pick col (kSchema x).1.length).toNat]! false)).1) s1 r1 (by omega) n2 n1 (.inl ⟨rfl, rfl⟩)
  have O2 := opp_facts (s := kSchema x) (row := rowVals (kSchema x) m) (k := pick col (kSchema x).1.length) (v := (kValue (v', 0) (colN (kSchema x).1[(pick col (kSchema x).1.length).toNat]! false)).1) s1 r1 (by omega) n2 n1 (.inr (.inl ⟨rfl, rfl⟩))
  have O3 := opp_facts (s := kSchema x) (row := rowVals (kSchema x) m) (k := pick col (kSchema x).1.length) (v := (kValue (v', 0) (colN (kSchema x).1[(pick col (kSchema x).1.length).toNat]! false)).1) s1 r1 (by omega) n2 n1 (.inr (.inr ⟨rfl, rfl⟩))
  dsimp only [colN] at O1 O2 O3
  obtain ⟨o10, o11, o12, o13, o14, o15, o16, o17⟩ := O1
  obtain ⟨o20, o21, o22, o23, o24, o25, o26, o27⟩ := O2
  obtain ⟨o30, o31, o32, o33, o34, o35, o36, o37⟩ := O3
  refine ⟨[], ?_⟩
  repeat' (first
    | (with_reducible refine Side.mk ?_
       (try dsimp only [cu, joinT, ckTys, gts, loK, hiK, Prod.eta, List.nil_append])
       first
       | (done)
       | (with_reducible rfl)
       | (omega)
       | (exact Eq.refl _)
       | (simp only [List.length_append, List.length_cons, List.length_nil]; omega)
       | (exact ⟨by omega, by assumption⟩)
       | (exact u64_ne (by omega))
       | (intro i
          rcases i with _ | i <;> exact Nat.zero_le _)
       | (omega))
    | (conv => whnf
       first
        | done
        | exact trivial
        | with_reducible refine w_andS ?_ ?_
        | with_reducible refine w_andL ?_ ?_
        | with_reducible refine w_kern (by kernel_rfl) ?_
        | with_reducible refine w_true ?_
        | with_reducible refine w_nd ?_ ?_
        | with_reducible refine w_in ?_ ?_
        | with_reducible refine w_and ?_ ?_
        | (with_reducible refine w_brN (fun h => ?_) (fun h => ?_) <;> (try dsimp only [cu, Prod.eta, List.nil_append] at h) <;> (try (exfalso; omega; done)))
        | (with_reducible refine w_brD (fun h => ?_) (fun h => ?_) <;> (try dsimp only [cu, Prod.eta, List.nil_append] at h) <;> (try (exfalso; omega; done)))
        | (with_reducible refine w_br (fun h => ?_) (fun h => ?_) <;> (try dsimp only [cu, Prod.eta, List.nil_append] at h) <;> (try (exfalso; omega; done)))))
  all_goals (with_reducible refine Leaf.mk ?_
             (try dsimp only [cu, joinT, ckTys, gts, Prod.eta, List.nil_append] at *)
             first
             | (done)
             | (clear hvv n1 n2 s4
                first | omega | (grind; done) | (simp_all; done) | (simp_all; omega)))
abbrev tb51 : Tbl := (8, c_opposites_ok) :: tb50
theorem tb51_ok : TblOk Try.prog tb51 := TblOk.cons opposites_ok tb50_ok

end Go.Proofs.Ytinehkfcploeiaa
