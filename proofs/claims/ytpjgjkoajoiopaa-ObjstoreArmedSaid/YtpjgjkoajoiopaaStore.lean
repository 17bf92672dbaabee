/- Contracts of the object store. -/
import Derived.Test.YtpjgjkoajoiopaaStr
namespace Go.Proofs.Ytpjgjkoajoiopaa
open Go.Abs
set_option linter.unusedVariables false
set_option linter.unusedSimpArgs false

abbrev tb1 : Tbl := (67, c_cmp_ok) :: ([] : Tbl)
theorem tb1_ok : TblOk Try.prog tb1 := TblOk.cons cmp_ok TblOk.nil

abbrev tb2 : Tbl := (46, c_ins_ok) :: tb1
theorem tb2_ok : TblOk Try.prog tb2 := TblOk.cons ins_ok tb1_ok

abbrev tb3 : Tbl := (48, c_del_ok) :: tb2
theorem tb3_ok : TblOk Try.prog tb3 := TblOk.cons del_ok tb2_ok

abbrev c_perm_ok : Ct := .fn [.str] (some (fun (n : ByteArray) => (n.size ≤ 140737488355328))) (fun (n : ByteArray) => .d .bool (permS n))
set_option maxRecDepth 100000 in
set_option maxHeartbeats 4000000 in
theorem perm_ok : CtOk Try.prog 43 c_perm_ok := by
  refine CtOk.fn tb3_ok mixed [] [] rfl rfl ?_
  rintro ⟨(n : ByteArray), _⟩ hpre
  replace hpre := hpre _ rfl
  dsimp only [cu] at hpre
  have hn := hpre
  refine ⟨[(0, 4, LA.mk [.sl 6 (.int .i64)] (fun y => Tag 1 ∧ cu [.int .i64] (fun (k : Int) => (0 ≤ k ∧ k ≤ n.size) ∧ (∀ t : Nat, (t : Int) < k → 33 ≤ byteAt n t ∧ byteAt n t ≤ 126)) y) (cu [.int .i64] (fun (k : Int) => ((n.size : Int) - k).toNat)) (cu [.int .i64] (fun (k : Int) => ([] : List (Nat × Nat × LA)))))], ?_⟩
  repeat' (first
    | (
 with_reducible refine Side.mk ⟨(⟨⟩ : Tag 1), ?_⟩
 dsimp only [cu, joinT, ckTys, gts, Prod.eta, List.nil_append]
 refine ⟨?_, ?_⟩
 · omega
 · first
   | (
  intro t ht
  first
  | (omega)
  | (
   rcases Int.lt_or_eq_of_le (Int.lt_add_one_iff.1 ht) with q | q
   · exact hp t q
   · rw [show t = k.toNat by omega]; omega)))
    | (
 with_reducible refine Side.mk ?_
 (try dsimp only [cu, joinT, ckTys, gts, loK, hiK, Prod.eta, List.nil_append])
 first
 | (done)
 | (with_reducible rfl)
 | (omega)
 | (exact Eq.refl _)
 | (simp only [List.length_append, List.length_cons, List.length_nil]; omega))
    | (conv => whnf
       first
        | done
        | exact trivial
        | with_reducible refine NilBr.mk (fun h => ?_) ?_
        | with_reducible first | refine w_andS ?_ ?_ | refine w_andL ?_ ?_ | refine w_kern (by kernel_rfl) ?_ | refine w_true ?_ | refine w_nd ?_ ?_ | refine w_in ?_ ?_ | refine w_and ?_ ?_
        | ((with_reducible first | refine w_brN (fun h => ?_) (fun h => ?_) | refine w_brD (fun h => ?_) (fun h => ?_) | refine w_br (fun h => ?_) (fun h => ?_)) <;> (try dsimp only [cu, Prod.eta, List.nil_append] at h) <;> (try (exfalso; omega; done)))
        | (
 intro yy (hy : Tag 1 ∧ _)
 obtain ⟨(k : Int), _⟩ := yy
 replace hy := hy.2
 dsimp only [cu, joinT, ckTys, gts, Prod.eta, List.nil_append] at hy
 obtain ⟨hk, hp⟩ := hy)))
  all_goals (
 with_reducible refine Leaf.mk ?_
 (try dsimp only [cu, joinT, ckTys, gts, Prod.eta, List.nil_append] at *)
 first
 | (done)
 | (exact perm_end hp (by omega) (by assumption))
 | (exact (perm_no (t := k.toNat) (by omega) (by omega)).symm)
 | (
  rename_i h
  subst h
  rfl))
abbrev tb4 : Tbl := (43, c_perm_ok) :: tb3
theorem tb4_ok : TblOk Try.prog tb4 := TblOk.cons perm_ok tb3_ok

abbrev c_find_ok : Ct := .rd tSt [.str] (some (fun (q : St) (n : ByteArray) => (ascS (nmS q.2.1)) ∧ (q.2.1.length ≤ 4096))) (fun (q : St) (n : ByteArray) => .tup [.int .i64, .bool] ((posS q.2.1 n : Int), hasS q.2.1 n, ()))
set_option maxRecDepth 100000 in
set_option maxHeartbeats 4000000 in
theorem find_ok : CtOk Try.prog 42 c_find_ok := by
  refine CtOk.rd tb4_ok mixed [] [65, 66] rfl rfl ?_
  rintro ⟨(c : Int), (l : List Obj), (r : Rest)⟩ ⟨(n : ByteArray), _⟩ hpre
  replace hpre := hpre _ rfl
  dsimp only [cu] at hpre
  obtain ⟨ha, hl⟩ := hpre
  refine ⟨[(65, 6, LA.mk [.sl 9 (.int .i64), .sl 10 (.int .i64)] (fun y => Tag 2 ∧ cu [.int .i64, .int .i64] (fun (i : Int) (j : Int) => (0 ≤ i ∧ i ≤ j ∧ j ≤ l.length) ∧ (∀ t : Nat, (t : Int) < i → strLt (nmS l)[t]! n = true) ∧ (∀ t : Nat, j ≤ (t : Int) → t < l.length → ¬ strLt (nmS l)[t]! n = true)) y) (cu [.int .i64, .int .i64] (fun (i : Int) (j : Int) => (j - i).toNat)) (cu [.int .i64, .int .i64] (fun (i : Int) (j : Int) => ([] : List (Nat × Nat × LA)))))], ?_⟩
  repeat' (first
    | (
 with_reducible refine Side.mk ⟨(⟨⟩ : Tag 2), ?_⟩
 dsimp only [cu, joinT, ckTys, gts, Prod.eta, List.nil_append]
 refine ⟨?_, ?_, ?_⟩
 · omega
 · first
   | (
  intro t ht
  omega)
   | (exact h1)
   | (
  intro t ht
  refine low_ok ha ?_ (by assumption) t ?_ <;> omega)
 · first
   | (
  intro t ht
  omega)
   | (exact h2)
   | (
  intro t ht ht2
  refine high_ok ha (by assumption) t ?_ ht2
  omega))
    | (
 with_reducible refine Side.mk ?_
 (try dsimp only [cu, joinT, ckTys, gts, loK, hiK, Prod.eta, List.nil_append])
 first
 | (done)
 | (with_reducible rfl)
 | (omega)
 | (exact Eq.refl _)
 | (simp only [List.length_append, List.length_cons, List.length_nil]; omega))
    | (conv => whnf
       first
        | done
        | exact trivial
        | with_reducible refine NilBr.mk (fun h => ?_) ?_
        | with_reducible first | refine w_andS ?_ ?_ | refine w_andL ?_ ?_ | refine w_kern (by kernel_rfl) ?_ | refine w_true ?_ | refine w_nd ?_ ?_ | refine w_in ?_ ?_ | refine w_and ?_ ?_
        | ((with_reducible first | refine w_brN (fun h => ?_) (fun h => ?_) | refine w_brD (fun h => ?_) (fun h => ?_) | refine w_br (fun h => ?_) (fun h => ?_)) <;> (try dsimp only [cu, Prod.eta, List.nil_append] at h) <;> (try (exfalso; omega; done)))
        | (
 intro yy (hy : Tag 2 ∧ _)
 obtain ⟨(i : Int), (j : Int), _⟩ := yy
 replace hy := hy.2
 dsimp only [cu, joinT, ckTys, gts, Prod.eta, List.nil_append] at hy
 obtain ⟨hi, h1, h2⟩ := hy
 have hm := mid_eq (i := i) (j := j) (by omega))))
  all_goals (
 with_reducible refine Leaf.mk ?_
 (try dsimp only [cu, joinT, ckTys, gts, Prod.eta, List.nil_append] at *)
 first
 | (done)
 | (exact pos_of hi (by assumption) h1 h2)
 | (exact has_of hi.1 (pos_of hi (by assumption) h1 h2) (by assumption))
 | (exact has_no (pos_of hi (by assumption) h1 h2) (by assumption)))
abbrev tb5 : Tbl := (42, c_find_ok) :: tb4
theorem tb5_ok : TblOk Try.prog tb5 := TblOk.cons find_ok tb4_ok


theorem fall_len {l L : List Obj} {m g : Int} (hL : L = (l.take g.toNat).map (cutO m) ++ l.drop g.toNat) : L.length = l.length := by rw [hL]; simp; omega
theorem fall_get {l L : List Obj} {m g : Int} (hL : L = (l.take g.toNat).map (cutO m) ++ l.drop g.toNat) (hg : 0 ≤ g ∧ g < l.length) : L[g.toNat]! = l[g.toNat]! := by
  have h1 := fall_len hL
  rw [getElem!_pos L _ (by omega), getElem!_pos l _ (by omega)]
  apply Option.some.inj
  rw [← List.getElem?_eq_getElem, ← List.getElem?_eq_getElem, hL, List.getElem?_append_right (by simp; omega)]
  simp only [List.length_map, List.length_take, List.getElem?_drop]
  congr 1; omega
theorem fall_b {l L : List Obj} {m g : Int} (hL : L = (l.take g.toNat).map (cutO m) ++ l.drop g.toNat) (hz : ∀ o, o ∈ l → 0 ≤ o.2.2 ∧ o.2.2 ≤ o.2.1.size ∧ o.2.1.size ≤ 1073741824) (h0 : 0 ≤ g) (hg : g < l.length) :
    0 ≤ L[g.toNat]!.2.2 ∧ L[g.toNat]!.2.2 ≤ L[g.toNat]!.2.1.size ∧ L[g.toNat]!.2.1.size ≤ 1073741824 := by
  rw [fall_get hL ⟨h0, hg⟩, getElem!_pos l _ (by omega)]
  exact hz _ (List.getElem_mem _)
theorem set_mid {l L : List Obj} {m g : Int} (hL : L = (l.take g.toNat).map (cutO m) ++ l.drop g.toNat) (hg : 0 ≤ g ∧ g < l.length) {o : Obj} (ho : o = cutO m L[g.toNat]!) : L.set g.toNat o = (l.take (g + 1).toNat).map (cutO m) ++ l.drop (g + 1).toNat := by
  have hlt : g.toNat < l.length := by omega
  rw [ho, fall_get hL hg, show (g + 1).toNat = g.toNat + 1 by omega, hL, List.take_add_one, List.getElem?_eq_getElem hlt, List.set_append_right _ _ (by simp; omega)]
  simp only [List.length_map, List.length_take, Option.toList_some, List.map_append, List.map_cons, List.map_nil, List.append_assoc, List.singleton_append]
  rw [show g.toNat - min g.toNat l.length = 0 by omega, List.drop_eq_getElem_cons hlt, List.set_cons_zero, getElem!_pos l _ hlt]
theorem fall_cut {l L : List Obj} {m g : Int} (hL : L = (l.take g.toNat).map (cutO m) ++ l.drop g.toNat) (hg : 0 ≤ g ∧ g < l.length) (h : m < (L[g.toNat]!.2.1.size : Int) - L[g.toNat]!.2.2) {A : Obj} {B : List Obj} (hA : A = (L[g.toNat]!.1, L[g.toNat]!.2.1.extract 0 (L[g.toNat]!.2.2 + m).toNat, L[g.toNat]!.2.2) := by rfl) (hB : B = L.set g.toNat A := by rfl) :
    B.set g.toNat (B[g.toNat]!.1, B[g.toNat]!.2.1, (B[g.toNat]!.2.1.size : Int)) = (l.take (g + 1).toNat).map (cutO m) ++ l.drop (g + 1).toNat := by
  have hl := fall_len hL
  have hg2 : B[g.toNat]! = A := by rw [hB, getElem!_pos _ _ (by simp; omega), List.getElem_set_self]
  rw [hg2, hB, List.set_set]
  refine set_mid hL hg ?_
  rw [hA, cutO, cutD, if_pos h]
theorem fall_same {l L : List Obj} {m g : Int} (hL : L = (l.take g.toNat).map (cutO m) ++ l.drop g.toNat) (hg : 0 ≤ g ∧ g < l.length) (h : ¬ m < (L[g.toNat]!.2.1.size : Int) - L[g.toNat]!.2.2) :
    L.set g.toNat (L[g.toNat]!.1, L[g.toNat]!.2.1, (L[g.toNat]!.2.1.size : Int)) = (l.take (g + 1).toNat).map (cutO m) ++ l.drop (g + 1).toNat := by
  refine set_mid hL hg ?_
  rw [cutO, cutD, if_neg h]
theorem fall_end {l L : List Obj} {m g : Int} (hL : L = (l.take g.toNat).map (cutO m) ++ l.drop g.toNat) (hg : (l.length : Int) ≤ g) : L = l.map (cutO m) := by
  rw [hL, List.take_of_length_le (by omega), List.drop_eq_nil_of_le (by omega), List.append_nil]
theorem keep_all {L : List Obj} {n : Nat} (hf : ∀ t : Nat, t < n → goneO L[t]! = false) : (L.take n).filter (fun o => !goneO o) = L.take n := by
  rw [List.filter_eq_self]
  intro o ho
  obtain ⟨t, ht, rfl⟩ := List.getElem_of_mem ho
  have h1 : t < n ∧ t < L.length := by simp at ht; omega
  have h2 := hf t h1.1
  rw [getElem!_pos L t h1.2] at h2
  simp [h2]
theorem fall_all {l L : List Obj} {m e : Int} (hL : L = l.map (cutO m)) (he : (l.length : Int) ≤ e) (hf : ∀ t : Nat, (t : Int) < e → goneO L[t]! = false) : L = fallS l m := by
  have h := keep_all (L := L) (n := L.length) (fun t ht => hf t (by rw [hL] at ht; simp at ht; omega))
  rw [List.take_length] at h
  rw [fallS, ← hL, h]
theorem take_app {α : Type} {M X Y : List α} {i : Nat} (h : i ≤ M.length) : (M.take i ++ X ++ Y).take i = M.take i := by
  rw [List.append_assoc, List.take_append_of_le_length (by simp; omega), List.take_take, Nat.min_self]
theorem fall_fil {l L M : List Obj} {m i j : Int} (hL : L = l.map (cutO m)) (hT : M.take i.toNat = (L.take j.toNat).filter (fun o => !goneO o)) (hj : (l.length : Int) ≤ j) : M.take i.toNat = fallS l m := by
  have : L.length = l.length := by rw [hL]; simp
  rw [hT, List.take_of_length_le (by omega), fallS, ← hL]
theorem fil_succ {L : List Obj} {n : Nat} (h : n < L.length) : (L.take (n + 1)).filter (fun o => !goneO o) = (L.take n).filter (fun o => !goneO o) ++ (if goneO L[n]! = true then [] else [L[n]!]) := by
  rw [List.take_add_one, List.getElem?_eq_getElem h, List.filter_append, getElem!_pos L n h]
  by_cases q : goneO L[n] = true
  · simp [q]
  · simp [q]
theorem del_start {L : List Obj} {e : Int} (hf : ∀ t : Nat, (t : Int) < e → goneO L[t]! = false) (he : 0 ≤ e ∧ e < L.length) (h : L[e.toNat]!.2.1 = ⟨#[]⟩) : L.take e.toNat = (L.take (e + 1).toNat).filter (fun o => !goneO o) := by
  rw [show (e + 1).toNat = e.toNat + 1 by omega, fil_succ (by omega), if_pos (show goneO _ = true from decide_eq_true h), List.append_nil, keep_all fun t ht => hf t (by omega)]
theorem drop_get {M L : List Obj} {n : Nat} (h : M.drop n = L.drop n) (hn : n < L.length) (hm : n < M.length) : M[n]! = L[n]! := by
  rw [getElem!_pos M n hm, getElem!_pos L n hn]
  have := congrArg (fun l : List Obj => l[0]?) h
  simpa [List.getElem?_eq_getElem hn, List.getElem?_eq_getElem hm] using this
theorem del_keep {M L : List Obj} {i j : Int} {n : Nat} (hM : M.length = L.length) (hi : 0 ≤ i ∧ i < j ∧ j ≤ n) (hT : M.take i.toNat = (L.take j.toNat).filter (fun o => !goneO o)) (hD : M.drop j.toNat = L.drop j.toNat) (hj : j < L.length) (h : ¬ M[j.toNat]!.2.1 = ⟨#[]⟩) :
    (M.set i.toNat M[j.toNat]!).take (i + 1).toNat = (L.take (j + 1).toNat).filter (fun o => !goneO o) := by
  have e := drop_get hD (by omega) (by omega)
  rw [show (j + 1).toNat = j.toNat + 1 by omega, fil_succ (by omega), ← e, if_neg (show ¬ goneO _ = true from fun q => h (of_decide_eq_true q)), ← hT, show (i + 1).toNat = i.toNat + 1 by omega, List.take_add_one, List.getElem?_set_self (by omega), List.take_set_of_le (Nat.le_refl _)]
  rfl
theorem del_skip {M L : List Obj} {i j : Int} {n : Nat} (hM : M.length = L.length) (hi : 0 ≤ i ∧ i < j ∧ j ≤ n) (hT : M.take i.toNat = (L.take j.toNat).filter (fun o => !goneO o)) (hD : M.drop j.toNat = L.drop j.toNat) (hj : j < L.length) (h : M[j.toNat]!.2.1 = ⟨#[]⟩) :
    M.take i.toNat = (L.take (j + 1).toNat).filter (fun o => !goneO o) := by
  have e := drop_get hD (by omega) (by omega)
  rw [show (j + 1).toNat = j.toNat + 1 by omega, fil_succ (by omega), ← e, if_pos (show goneO _ = true from decide_eq_true h), List.append_nil, ← hT]
theorem del_ds {M L : List Obj} {i j : Int} {n : Nat} (hi : 0 ≤ i ∧ i < j ∧ j ≤ n) (hD : M.drop j.toNat = L.drop j.toNat) : M.drop (j + 1).toNat = L.drop (j + 1).toNat := by
  rw [show (j + 1).toNat = j.toNat + 1 by omega, ← List.drop_drop, ← List.drop_drop, hD]
theorem del_dk {M L : List Obj} {i j : Int} {n : Nat} {o : Obj} (hi : 0 ≤ i ∧ i < j ∧ j ≤ n) (hD : M.drop j.toNat = L.drop j.toNat) : (M.set i.toNat o).drop (j + 1).toNat = L.drop (j + 1).toNat := by
  rw [List.drop_set_of_lt (by omega)]
  exact del_ds hi hD

abbrev c_fall_ok : Ct := .mo [shA, .val (.int .i64)] (some (fun (a : (shA).ty.den) (m : Int) => (a.2.1.2.length ≤ 4096) ∧ (∀ o, o ∈ a.2.1.2 → 0 ≤ o.2.2 ∧ o.2.2 ≤ o.2.1.size ∧ o.2.1.size ≤ 1073741824) ∧ (a.2.1.1 = false → a.2.1.2 = []) ∧ (0 ≤ m ∧ m ≤ 9223372036854775807))) [] (fun (a : (shA).ty.den) (m : Int) => ()) (fun (a : (shA).ty.den) (m : Int) => (mkA a.2.1.1 (fallQ (toQ a) m), m, ()))
set_option maxRecDepth 100000 in
set_option maxHeartbeats 4000000 in
theorem fall_ok : CtOk Try.prog 45 c_fall_ok := by
  refine CtOk.mo tb5_ok mixed [(68, 12, 5000004)] [68, 73, 69] rfl rfl ?_
  rintro ⟨⟨(c : Int), ⟨(b : Bool), (l : List Obj)⟩, (cr : Bool), (ar : Bool), (w : Int), (k : Int)⟩, (m : Int), _⟩ hpre
  replace hpre := hpre _ rfl
  dsimp only [cu] at hpre
  obtain ⟨hl, hz, ho, hm⟩ := hpre
  (try dsimp only at hl hz ho)
  rcases b with _ | _
  case' false => (have e := ho rfl; subst e)
  case' false => refine ⟨[(0, 2, LA.mk [.sl 11 (.int .i64)] (fun y => Tag 3 ∧ cu [.int .i64] (fun (g : Int) => (0 ≤ g ∧ g ≤ 0)) y) (cu [.int .i64] (fun (g : Int) => ((0 : Int) - g).toNat)) (cu [.int .i64] (fun (g : Int) => ([] : List (Nat × Nat × LA))))), (73, 4, LA.mk [.sl 8 (.int .i64)] (fun y => Tag 4 ∧ cu [.int .i64] (fun (e : Int) => (0 ≤ e ∧ e ≤ 0)) y) (cu [.int .i64] (fun (e : Int) => ((0 : Int) - e).toNat)) (cu [.int .i64] (fun (e : Int) => ([] : List (Nat × Nat × LA)))))], ?_⟩
  case' true => refine ⟨[(0, 2, LA.mk [.sl 11 (.int .i64), .ar 1 tObj 42] (fun y => Tag 5 ∧ cu [.int .i64, .list tObj] (fun (g : Int) (L : List Obj) => (0 ≤ g ∧ g ≤ l.length) ∧ (L = (l.take g.toNat).map (cutO m) ++ l.drop g.toNat)) y) (cu [.int .i64, .list tObj] (fun (g : Int) (L : List Obj) => ((l.length : Int) - g).toNat)) (cu [.int .i64, .list tObj] (fun (g : Int) (L : List Obj) => ([] : List (Nat × Nat × LA))))), (73, 4, LA.mk [.sl 8 (.int .i64)] (fun y => Tag 6 ∧ cu [.int .i64] (fun (e : Int) => (0 ≤ e ∧ e ≤ l.length) ∧ (∀ t : Nat, (t : Int) < e → goneO (l.map (cutO m))[t]! = false)) y) (cu [.int .i64] (fun (e : Int) => ((l.length : Int) - e).toNat)) (cu [.int .i64] (fun (e : Int) => ([] : List (Nat × Nat × LA))))), (68, 10, LA.mk [.sl 5 (.int .i64), .sl 6 (.int .i64), .ar 1 tObj 42] (fun y => Tag 7 ∧ cu [.int .i64, .int .i64, .list tObj] (fun (i : Int) (j : Int) (M : List Obj) => (0 ≤ i ∧ i < j ∧ j ≤ l.length) ∧ (M.length = (l.map (cutO m)).length) ∧ (M.take i.toNat = ((l.map (cutO m)).take j.toNat).filter (fun o => !goneO o)) ∧ (M.drop j.toNat = (l.map (cutO m)).drop j.toNat)) y) (cu [.int .i64, .int .i64, .list tObj] (fun (i : Int) (j : Int) (M : List Obj) => ((l.length : Int) - j).toNat)) (cu [.int .i64, .int .i64, .list tObj] (fun (i : Int) (j : Int) (M : List Obj) => ([] : List (Nat × Nat × LA)))))], ?_⟩
  repeat' (first
    | (
 with_reducible refine Side.mk ⟨(⟨⟩ : Tag 3), ?_⟩
 dsimp only [cu, joinT, ckTys, gts, Prod.eta, List.nil_append]
 omega)
    | (
 with_reducible refine Side.mk ⟨(⟨⟩ : Tag 4), ?_⟩
 dsimp only [cu, joinT, ckTys, gts, Prod.eta, List.nil_append]
 omega)
    | (
 with_reducible refine Side.mk ⟨(⟨⟩ : Tag 5), ?_⟩
 dsimp only [cu, joinT, ckTys, gts, Prod.eta, List.nil_append]
 refine ⟨?_, ?_⟩
 · omega
 · first
   | (rfl)
   | (exact fall_cut hL (by omega) (by assumption))
   | (exact fall_same hL (by omega) (by assumption)))
    | (
 with_reducible refine Side.mk ⟨(⟨⟩ : Tag 6), ?_⟩
 dsimp only [cu, joinT, ckTys, gts, Prod.eta, List.nil_append]
 refine ⟨?_, ?_⟩
 · omega
 · first
   | (
  intro t ht
  first
  | (omega)
  | (
   rcases Int.lt_or_eq_of_le (Int.lt_add_one_iff.1 ht) with q | q
   · exact hf t q
   · rw [show t = e.toNat by omega]; exact decide_eq_false (by assumption))))
    | (
 with_reducible refine Side.mk ⟨(⟨⟩ : Tag 7), ?_⟩
 dsimp only [cu, joinT, ckTys, gts, Prod.eta, List.nil_append]
 refine ⟨?_, ?_, ?_, ?_⟩
 · omega
 · first
   | (rfl)
   | (exact hM)
   | (simp only [List.length_set]; exact hM)
 · first
   | (exact del_start hf (by omega) (by assumption))
   | (exact del_keep hM hi hT hD (by omega) (by assumption))
   | (exact del_skip hM hi hT hD (by omega) (by assumption))
 · first
   | (rfl)
   | (exact del_dk hi hD)
   | (exact del_ds hi hD))
    | (
 with_reducible refine Side.mk ?_
 (try dsimp only [cu, joinT, ckTys, gts, loK, hiK, Prod.eta, List.nil_append])
 first
 | (done)
 | (with_reducible rfl)
 | (omega)
 | (exact Eq.refl _)
 | (simp only [List.length_append, List.length_cons, List.length_nil]; omega)
 | (simp only [List.length_set]; omega)
 | (
  have q := hb (by omega)
  omega)
 | (simp; omega))
    | (conv => whnf
       first
        | done
        | exact trivial
        | with_reducible refine NilBr.mk (fun h => ?_) ?_
        | with_reducible first | refine w_andS ?_ ?_ | refine w_andL ?_ ?_ | refine w_kern (by kernel_rfl) ?_ | refine w_true ?_ | refine w_nd ?_ ?_ | refine w_in ?_ ?_ | refine w_and ?_ ?_
        | ((with_reducible first | refine w_brN (fun h => ?_) (fun h => ?_) | refine w_brD (fun h => ?_) (fun h => ?_) | refine w_br (fun h => ?_) (fun h => ?_)) <;> (try dsimp only [cu, Prod.eta, List.nil_append] at h) <;> (try (exfalso; omega; done)))
        | (
 intro yy (hy : Tag 3 ∧ _)
 obtain ⟨(g : Int), _⟩ := yy
 replace hy := hy.2
 dsimp only [cu, joinT, ckTys, gts, Prod.eta, List.nil_append] at hy
 have hg := hy)
        | (
 intro yy (hy : Tag 4 ∧ _)
 obtain ⟨(e : Int), _⟩ := yy
 replace hy := hy.2
 dsimp only [cu, joinT, ckTys, gts, Prod.eta, List.nil_append] at hy
 have he := hy)
        | (
 intro yy (hy : Tag 5 ∧ _)
 obtain ⟨(g : Int), (L : List Obj), _⟩ := yy
 replace hy := hy.2
 dsimp only [cu, joinT, ckTys, gts, Prod.eta, List.nil_append] at hy
 obtain ⟨hg, hL⟩ := hy
 have hLl := fall_len hL
 have hb := fall_b hL hz hg.1)
        | (
 intro yy (hy : Tag 6 ∧ _)
 obtain ⟨(e : Int), _⟩ := yy
 replace hy := hy.2
 dsimp only [cu, joinT, ckTys, gts, Prod.eta, List.nil_append] at hy
 obtain ⟨he, hf⟩ := hy
 have hLe : L = l.map (cutO m) := fall_end hL (by omega)
 have hLl : (l.map (cutO m)).length = l.length := by simp
 subst hLe)
        | (
 intro yy (hy : Tag 7 ∧ _)
 obtain ⟨(i : Int), (j : Int), (M : List Obj), _⟩ := yy
 replace hy := hy.2
 dsimp only [cu, joinT, ckTys, gts, Prod.eta, List.nil_append] at hy
 obtain ⟨hi, hM, hT, hD⟩ := hy)))
  all_goals (
 with_reducible refine Leaf.mk ?_
 (try dsimp only [cu, joinT, ckTys, gts, Prod.eta, List.nil_append] at *)
 first
 | (done)
 | (rfl)
 | (exact fall_all (l := l) (m := m) (e := e) rfl (by omega) hf)
 | (
  rw [take_app (by omega)]
  exact fall_fil (l := l) (m := m) rfl hT (by omega)))
abbrev tb6 : Tbl := (45, c_fall_ok) :: tb5
theorem tb6_ok : TblOk Try.prog tb6 := TblOk.cons fall_ok tb5_ok


theorem used_nil : usedS [] = 0 := rfl
theorem used_cons (o : Obj) (l : List Obj) : usedS (o :: l) = o.2.1.size + usedS l := by simp [usedS]
theorem used_nn : ∀ l : List Obj, 0 ≤ usedS l
  | [] => by simp [usedS]
  | o :: l => by rw [used_cons]; have := used_nn l; omega
theorem used_take : ∀ (l : List Obj) (i : Nat), 0 ≤ usedS (l.take i) ∧ usedS (l.take i) ≤ usedS l
  | [], i => by simp [usedS]
  | o :: l, 0 => by rw [List.take_zero, used_nil]; exact ⟨Int.le_refl _, used_nn _⟩
  | o :: l, i + 1 => by rw [List.take_succ_cons, used_cons, used_cons]; have := used_take l i; omega
theorem used_succ {l : List Obj} {k : Int} (h : 0 ≤ k ∧ k < l.length) : usedS (l.take (k + 1).toNat) = usedS (l.take k.toNat) + (l[k.toNat]!.2.1.size : Int) := by
  have hlt : k.toNat < l.length := by omega
  rw [show (k + 1).toNat = k.toNat + 1 by omega, List.take_add_one, List.getElem?_eq_getElem hlt, getElem!_pos l _ hlt]
  simp only [usedS, List.map_append, List.sum_append, Option.toList_some, List.map_cons, List.map_nil, List.sum_cons, List.sum_nil]; omega
theorem used_all {l : List Obj} {k : Int} (h : (l.length : Int) ≤ k) : usedS (l.take k.toNat) = usedS l := by rw [List.take_of_length_le (by omega)]
theorem set2 {l : List Obj} {n : ByteArray} (h : posS l n < l.length) {A : Obj} {x : Int} : (l.set ((posS l n : Nat) : Int).toNat A).set ((posS l n : Nat) : Int).toNat ((l.set ((posS l n : Nat) : Int).toNat A)[((posS l n : Nat) : Int).toNat]!.1, (l.set ((posS l n : Nat) : Int).toNat A)[((posS l n : Nat) : Int).toNat]!.2.1, x) = l.set (posS l n) (A.1, A.2.1, x) := by
  simp only [Int.toNat_natCast]
  rw [List.set_set, getElem!_pos _ _ (by simpa using h), List.getElem_set_self]
theorem fall_z {l : List Obj} {o : Obj} (hz : ∀ o, o ∈ l → 0 ≤ o.2.2 ∧ o.2.2 ≤ o.2.1.size ∧ o.2.1.size ≤ 1073741824) (ho : 0 ≤ o.2.2 ∧ o.2.2 ≤ o.2.1.size ∧ o.2.1.size ≤ 1073741824) (i : Nat) : ∀ p, p ∈ l.set i o → 0 ≤ p.2.2 ∧ p.2.2 ≤ p.2.1.size ∧ p.2.1.size ≤ 1073741824 := by
  intro p hp
  rcases List.mem_or_eq_of_mem_set hp with q | q
  · exact hz p q
  · rw [q]; exact ho
theorem used_one {l : List Obj} {i : Nat} (h : i < l.length) : (l[i]!.2.1.size : Int) ≤ usedS l := by
  have h1 := used_succ (l := l) (k := i) ⟨by omega, by omega⟩
  have h2 := used_take l ((i : Int) + 1).toNat
  have h3 := used_take l i
  simp only [Int.toNat_natCast] at h1
  omega
theorem nm_succ {l : List Obj} {m : List ByteArray} {g : Int} (h : m = nmS (l.take g.toNat)) (hg : 0 ≤ g ∧ g < l.length) : m ++ [l[g.toNat]!.1] = nmS (l.take (g + 1).toNat) := by
  have hlt : g.toNat < l.length := by omega
  rw [h, show (g + 1).toNat = g.toNat + 1 by omega, List.take_add_one, List.getElem?_eq_getElem hlt, getElem!_pos l _ hlt]
  simp only [nmS, List.map_append, Option.toList_some, List.map_cons, List.map_nil]
theorem toI_len (s : ByteArray) : (toInts s).length = s.size := by simp [toInts]
theorem app_z {l : List Obj} {n d : ByteArray} {c : Int} (hz : ∀ o, o ∈ l → 0 ≤ o.2.2 ∧ o.2.2 ≤ o.2.1.size ∧ o.2.1.size ≤ 1073741824) (hu : usedS l ≤ c) (hc : 1 ≤ c ∧ c ≤ 1073741824) (h : (!hasS l n) = false) (hd : ¬ (d.size : Int) > c - usedS l) :
    0 ≤ l[((posS l n : Nat) : Int).toNat]!.2.2 ∧ l[((posS l n : Nat) : Int).toNat]!.2.2 ≤ (l[((posS l n : Nat) : Int).toNat]!.2.1 ++ d).size ∧ (l[((posS l n : Nat) : Int).toNat]!.2.1 ++ d).size ≤ 1073741824 := by
  have h1 := (has_lt2 h).1
  have h2 := used_one h1
  simp only [Int.toNat_natCast, ByteArray.size_append]
  have h3 := hz (l[posS l n]!) (by rw [getElem!_pos l _ h1]; exact List.getElem_mem _)
  omega

abbrev c_new_ok : Ct := .mo [.val (.int .i64)] (none) [.optp 61 shA0, .val (.int .i64)] (fun (c : Int) => ((decide (1 ≤ c ∧ c ≤ 1073741824), capN c, (false, []), false, false, 0, 0), if 1 ≤ c ∧ c ≤ 1073741824 then 0 else 4, ())) (fun (c : Int) => (c, ()))
set_option maxRecDepth 100000 in
set_option maxHeartbeats 4000000 in
theorem new_ok : CtOk Try.prog 11 c_new_ok := by
  refine CtOk.mo tb6_ok mixed [] [] rfl rfl ?_
  rintro ⟨(c : Int), _⟩ -
  all_goals refine ⟨[], ?_⟩
  repeat' (first
    | (
 with_reducible refine Side.mk ?_
 (try dsimp only [cu, joinT, ckTys, gts, loK, hiK, Prod.eta, List.nil_append])
 first
 | (done)
 | (with_reducible rfl)
 | (omega)
 | (exact Eq.refl _)
 | (simp only [List.length_append, List.length_cons, List.length_nil]; omega))
    | (conv => whnf
       first
        | done
        | exact trivial
        | with_reducible refine NilBr.mk (fun h => ?_) ?_
        | with_reducible first | refine w_andS ?_ ?_ | refine w_andL ?_ ?_ | refine w_kern (by kernel_rfl) ?_ | refine w_true ?_ | refine w_nd ?_ ?_ | refine w_in ?_ ?_ | refine w_and ?_ ?_
        | ((with_reducible first | refine w_brN (fun h => ?_) (fun h => ?_) | refine w_brD (fun h => ?_) (fun h => ?_) | refine w_br (fun h => ?_) (fun h => ?_)) <;> (try dsimp only [cu, Prod.eta, List.nil_append] at h) <;> (try (exfalso; omega; done)))))
  all_goals (
 with_reducible refine Leaf.mk ?_
 (try dsimp only [cu, joinT, ckTys, gts, Prod.eta, List.nil_append] at *)
 first
 | (done)
 | (rfl)
 | (simp only [capN]; split <;> first | rfl | omega)
 | (simp; omega)
 | (rw [if_neg (by omega)])
 | (rw [if_pos (by omega)]))
abbrev tb7 : Tbl := (11, c_new_ok) :: tb6
theorem tb7_ok : TblOk Try.prog tb7 := TblOk.cons new_ok tb6_ok

abbrev c_used_ok : Ct := .rd tSt [] (some (fun (q : St) => (q.2.1.length ≤ 4096) ∧ (usedS q.2.1 ≤ 1073741824))) (fun (q : St) => .d (.int .i64) (usedS q.2.1))
set_option maxRecDepth 100000 in
set_option maxHeartbeats 4000000 in
theorem used_ok : CtOk Try.prog 17 c_used_ok := by
  refine CtOk.rd tb7_ok mixed [] [] rfl rfl ?_
  rintro ⟨(c : Int), (l : List Obj), (r : Rest)⟩ ⟨⟩ hpre
  replace hpre := hpre _ rfl
  dsimp only [cu] at hpre
  obtain ⟨hl, hu⟩ := hpre
  refine ⟨[(0, 6, LA.mk [.sl 11 (.int .i64), .sl 3 (.int .i64)] (fun y => Tag 8 ∧ cu [.int .i64, .int .i64] (fun (k : Int) (s : Int) => (0 ≤ k ∧ k ≤ l.length) ∧ (s = usedS (l.take k.toNat))) y) (cu [.int .i64, .int .i64] (fun (k : Int) (s : Int) => ((l.length : Int) - k).toNat)) (cu [.int .i64, .int .i64] (fun (k : Int) (s : Int) => ([] : List (Nat × Nat × LA)))))], ?_⟩
  repeat' (first
    | (
 with_reducible refine Side.mk ⟨(⟨⟩ : Tag 8), ?_⟩
 dsimp only [cu, joinT, ckTys, gts, Prod.eta, List.nil_append]
 refine ⟨?_, ?_⟩
 · omega
 · first
   | (rfl)
   | (rw [used_succ (by omega), hs]))
    | (
 with_reducible refine Side.mk ?_
 (try dsimp only [cu, joinT, ckTys, gts, loK, hiK, Prod.eta, List.nil_append])
 first
 | (done)
 | (with_reducible rfl)
 | (omega)
 | (exact Eq.refl _)
 | (simp only [List.length_append, List.length_cons, List.length_nil]; omega)
 | (
  have h1 := used_take l k.toNat
  have h2 := used_take l (k + 1).toNat
  rw [used_succ (by omega)] at h2
  omega))
    | (conv => whnf
       first
        | done
        | exact trivial
        | with_reducible refine NilBr.mk (fun h => ?_) ?_
        | with_reducible first | refine w_andS ?_ ?_ | refine w_andL ?_ ?_ | refine w_kern (by kernel_rfl) ?_ | refine w_true ?_ | refine w_nd ?_ ?_ | refine w_in ?_ ?_ | refine w_and ?_ ?_
        | ((with_reducible first | refine w_brN (fun h => ?_) (fun h => ?_) | refine w_brD (fun h => ?_) (fun h => ?_) | refine w_br (fun h => ?_) (fun h => ?_)) <;> (try dsimp only [cu, Prod.eta, List.nil_append] at h) <;> (try (exfalso; omega; done)))
        | (
 intro yy (hy : Tag 8 ∧ _)
 obtain ⟨(k : Int), (s : Int), _⟩ := yy
 replace hy := hy.2
 dsimp only [cu, joinT, ckTys, gts, Prod.eta, List.nil_append] at hy
 obtain ⟨hk, hs⟩ := hy)))
  all_goals (
 with_reducible refine Leaf.mk ?_
 (try dsimp only [cu, joinT, ckTys, gts, Prod.eta, List.nil_append] at *)
 first
 | (done)
 | (rw [hs]; exact used_all (by omega)))
abbrev tb8 : Tbl := (17, c_used_ok) :: tb7
theorem tb8_ok : TblOk Try.prog tb8 := TblOk.cons used_ok tb7_ok

end Go.Proofs.Ytpjgjkoajoiopaa
