/- The walk of DelvecUnionIsSet. -/
import Derived.Test.YtojdmkkjamakiaaLaws3
namespace Go.Proofs.Ytojdmkkjamakiaa
open Go.Abs
set_option linter.unusedVariables false
set_option linter.unusedSimpArgs false


theorem union_comm {a b : List Int} (ha : asc a = true) (hb : asc b = true) : unionL a b = unionL b a := by
  rw [union_yes hb ha, union_merge ha hb]
  exact (comp_sort (merge_pw a b (ascF_pw a _ ha).2 (ascF_pw b _ hb).2) (fun v => by rw [merge_mem, List.mem_append]; exact Or.comm)).symm
theorem union_self {a : List Int} (ha : asc a = true) : unionL a a = a := by
  rw [union_yes ha ha]
  exact comp_sort (ascF_pw a _ ha).2 (fun v => by simp)
theorem union_mem {a b : List Int} (ha : asc a = true) (hb : asc b = true) (v : Int) : v ∈ unionL a b ↔ v ∈ a ∨ v ∈ b := by
  rw [union_merge ha hb, merge_mem]
def small (W : List Int) : Prop := ∀ v, v ∈ W → 0 ≤ v ∧ v < 40
theorem small_get {W : List Int} {k : Int} (h : small W) (hk : 0 ≤ k ∧ k < W.length) : 0 ≤ W[k.toNat]! ∧ W[k.toNat]! < 40 := by
  rw [getElem!_pos W k.toNat (by omega)]; exact h _ (List.getElem_mem _)
theorem vec_small (l : List Int) : small (vec l 40) := fun v hv => by
  obtain ⟨h1, h2⟩ := vec_asc l 40
  have := (ascF_pw _ _ h1).1 v hv
  exact ⟨by omega, h2 v hv⟩
theorem set_get (A : List Int) (n m : Nat) (x : Int) (h : m < A.length) : (A.set n x)[m]! = if n = m then x else A[m]! := by
  rw [getElem!_pos (A.set n x) m (by simpa using h), getElem!_pos A m h, List.getElem_set]
theorem mem_take {W : List Int} {k i : Int} (h : 0 ≤ k ∧ k < W.length) : i ∈ W.take (k + 1).toNat ↔ i ∈ W.take k.toNat ∨ i = W[k.toNat]! := by
  rw [show (k + 1).toNat = k.toNat + 1 by omega, List.take_add_one, List.getElem?_eq_getElem (by omega), getElem!_pos W k.toNat (by omega)]
  simp only [Option.toList, List.mem_append, List.mem_singleton]
def mk1 (W : List Int) (k : Int) (A : List Int) : Prop := A.length = 40 ∧ ∀ i : Int, 0 ≤ i ∧ i < 40 → A[i.toNat]! = if i ∈ W.take k.toNat then 1 else 0
def mk2 (W u : List Int) (k : Int) (A : List Int) : Prop := A.length = 40 ∧ ∀ i : Int, 0 ≤ i ∧ i < 40 → A[i.toNat]! = if i ∈ u.take k.toNat then 2 else if i ∈ W then 1 else 0
theorem mk1_start (W : List Int) : mk1 W 0 (List.replicate 40 0) := by
  refine ⟨by simp, fun i hi => ?_⟩
  rw [getElem!_pos _ i.toNat (by rw [List.length_replicate]; omega), List.getElem_replicate, if_neg (by simp)]
theorem mk1_step {W : List Int} {k : Int} {A : List Int} (h : mk1 W k A) (hk : 0 ≤ k ∧ k < W.length) (hs : small W) : mk1 W (k + 1) (A.set W[k.toNat]!.toNat 1) := by
  have hv := small_get hs hk
  refine ⟨by simpa using h.1, fun i hi => ?_⟩
  rw [set_get _ _ _ _ (by have := h.1; omega), h.2 i hi]
  by_cases q : i = W[k.toNat]!
  · rw [if_pos (by rw [q]), if_pos ((mem_take hk).2 (.inr q))]
  · rw [if_neg (by omega)]
    by_cases q2 : i ∈ W.take k.toNat
    · rw [if_pos q2, if_pos ((mem_take hk).2 (.inl q2))]
    · rw [if_neg q2, if_neg (fun q3 => ((mem_take hk).1 q3).elim q2 q)]
theorem mk12 {W u : List Int} {k : Int} {A : List Int} (h : mk1 W k A) (hk : (W.length : Int) ≤ k) : mk2 W u 0 A := by
  refine ⟨h.1, fun i hi => ?_⟩
  rw [h.2 i hi, List.take_of_length_le (by omega)]
  simp
theorem mk2_val {W u : List Int} {k : Int} {A : List Int} (h : mk2 W u k A) (hk : 0 ≤ k ∧ k < u.length) (hs : small u) (hu : ∀ v, v ∈ u → v ∈ W) : ¬ A[u[k.toNat]!.toNat]! = 0 := by
  have hv := small_get hs hk
  rw [h.2 _ hv]
  have hm : u[k.toNat]! ∈ W := by
    rw [getElem!_pos u k.toNat (by omega)]; exact hu _ (List.getElem_mem _)
  rw [if_pos hm]
  split <;> omega
theorem mk2_step {W u : List Int} {k : Int} {A : List Int} (h : mk2 W u k A) (hk : 0 ≤ k ∧ k < u.length) (hs : small u) : mk2 W u (k + 1) (A.set u[k.toNat]!.toNat 2) := by
  have hv := small_get hs hk
  refine ⟨by simpa using h.1, fun i hi => ?_⟩
  rw [set_get _ _ _ _ (by have := h.1; omega), h.2 i hi]
  by_cases q : i = u[k.toNat]!
  · rw [if_pos (by rw [q]), if_pos ((mem_take hk).2 (.inr q))]
  · rw [if_neg (by omega)]
    by_cases q2 : i ∈ u.take k.toNat
    · rw [if_pos q2, if_pos ((mem_take hk).2 (.inl q2))]
    · rw [if_neg q2, if_neg (fun q3 => ((mem_take hk).1 q3).elim q2 q)]
theorem mk2_end {W u : List Int} {k : Int} {A : List Int} (h : mk2 W u k A) (hk : (u.length : Int) ≤ k) (hu : ∀ v, v ∈ W → v ∈ u) : ∀ i : Int, 0 ≤ i ∧ i < 40 → ¬ A[i.toNat]! = 1 := by
  intro i hi
  rw [h.2 i hi, List.take_of_length_le (by omega)]
  split
  · omega
  · rename_i q
    rw [if_neg (fun q2 => q (hu i q2))]; omega
theorem asc_lt {u : List Int} {k : Int} (h : asc u = true) (h0 : 0 < k) (hk : k < u.length) : u[(k - 1).toNat]! < u[k.toNat]! := by
  have := (ascF_get u _ h (k - 1).toNat (by omega)).2 (by omega)
  rwa [show (k - 1).toNat + 1 = k.toNat by omega] at this
theorem arr40 (A : List Int) (h : A.length = 40) : (List.range 40).map (fun i => A[i]!) = A := by
  refine List.ext_getElem (by simp [h]) fun i h1 h2 => ?_
  rw [List.getElem_map, List.getElem_range, getElem!_pos A i h2]
theorem arr40_get {A : List Int} {i : Int} (h : A.length = 40) (e : ([A[0]!, A[1]!, A[2]!, A[3]!, A[4]!, A[5]!, A[6]!, A[7]!, A[8]!, A[9]!, A[10]!, A[11]!, A[12]!, A[13]!, A[14]!, A[15]!, A[16]!, A[17]!, A[18]!, A[19]!, A[20]!, A[21]!, A[22]!, A[23]!, A[24]!, A[25]!, A[26]!, A[27]!, A[28]!, A[29]!, A[30]!, A[31]!, A[32]!, A[33]!, A[34]!, A[35]!, A[36]!, A[37]!, A[38]!, A[39]!] : List Int)[i.toNat]! = 1) : A[i.toNat]! = 1 := by
  have e2 : (List.range 40).map (fun i => A[i]!) = [A[0]!, A[1]!, A[2]!, A[3]!, A[4]!, A[5]!, A[6]!, A[7]!, A[8]!, A[9]!, A[10]!, A[11]!, A[12]!, A[13]!, A[14]!, A[15]!, A[16]!, A[17]!, A[18]!, A[19]!, A[20]!, A[21]!, A[22]!, A[23]!, A[24]!, A[25]!, A[26]!, A[27]!, A[28]!, A[29]!, A[30]!, A[31]!, A[32]!, A[33]!, A[34]!, A[35]!, A[36]!, A[37]!, A[38]!, A[39]!] := rfl
  rw [← e2, arr40 A h] at e
  exact e


theorem W_small (l m : List Int) : small (vec l 40 ++ vec m 40) := fun v hv => by
  rcases List.mem_append.1 hv with h | h
  · exact vec_small l v h
  · exact vec_small m v h
theorem U_mem (l m : List Int) (v : Int) : v ∈ (unionL (vec l 40) (vec m 40)) ↔ v ∈ (vec l 40 ++ vec m 40) := by
  rw [union_mem (vec_asc l 40).1 (vec_asc m 40).1, List.mem_append]
theorem U_small (l m : List Int) : small (unionL (vec l 40) (vec m 40)) := fun v hv => W_small l m v ((U_mem l m v).1 hv)

abbrev c_isset_ok : Ct := .fn [.list (.int .i64), .list (.int .i64)] (some (fun (l : List Int) (m : List Int) => (l.length ≤ 4611686018427387904) ∧ (m.length ≤ 4611686018427387904))) (fun (l : List Int) (m : List Int) => .d .bool true)
set_option maxRecDepth 100000 in
set_option maxHeartbeats 4000000 in
theorem isset_ok : CtOk Try.prog 4 c_isset_ok := by
  refine CtOk.fn tb39_ok mixed [] [] rfl rfl ?_
  rintro ⟨(l : List Int), (m : List Int), _⟩ hpre
  replace hpre := hpre _ rfl
  dsimp only [cu] at hpre
  obtain ⟨hl, hm⟩ := hpre
  have hv1 := vec_len l 40 (by decide)
  have hv2 := vec_len m 40 (by decide)
  have hu := union_le (vec l 40) (vec m 40)
  have hu2 := union_le (vec l 40) (vec l 40)
  have hua := union_asc (vec_asc l 40).1 (vec_asc m 40).1
  have hws := W_small l m
  have hus := U_small l m
  have hc := union_comm (vec_asc l 40).1 (vec_asc m 40).1
  have hsf := union_self (vec_asc l 40).1
  have hlw : (vec l 40 ++ vec m 40).length = (vec l 40).length + (vec m 40).length := List.length_append
  refine ⟨[(0, 10, LA.mk [.sl 27 (.int .i64), .ar 0 (.int .i64) 31] (fun y => Tag 28 ∧ cu [.int .i64, .list (.int .i64)] (fun (k : Int) (A : List Int) => (0 ≤ k ∧ k ≤ (vec l 40 ++ vec m 40).length) ∧ (mk1 (vec l 40 ++ vec m 40) k A)) y) (cu [.int .i64, .list (.int .i64)] (fun (k : Int) (A : List Int) => (((vec l 40 ++ vec m 40).length : Int) - k).toNat)) (cu [.int .i64, .list (.int .i64)] (fun (k : Int) (A : List Int) => ([] : List (Nat × Nat × LA))))), (0, 20, LA.mk [.sl 36 (.int .i64), .ar 0 (.int .i64) 31] (fun y => Tag 29 ∧ cu [.int .i64, .list (.int .i64)] (fun (j : Int) (B : List Int) => (0 ≤ j ∧ j ≤ (unionL (vec l 40) (vec m 40)).length) ∧ (mk2 (vec l 40 ++ vec m 40) (unionL (vec l 40) (vec m 40)) j B)) y) (cu [.int .i64, .list (.int .i64)] (fun (j : Int) (B : List Int) => (((unionL (vec l 40) (vec m 40)).length : Int) - j).toNat)) (cu [.int .i64, .list (.int .i64)] (fun (j : Int) (B : List Int) => ([] : List (Nat × Nat × LA))))), (0, 34, LA.mk [.sl 70 (.int .i64)] (fun y => Tag 30 ∧ cu [.int .i64] (fun (i : Int) => (0 ≤ i ∧ i ≤ 40)) y) (cu [.int .i64] (fun (i : Int) => ((40 : Int) - i).toNat)) (cu [.int .i64] (fun (i : Int) => ([] : List (Nat × Nat × LA)))))], ?_⟩
  repeat' (first
    | (with_reducible refine Side.mk ⟨(⟨⟩ : Tag 28), ?_⟩
       dsimp only [cu, joinT, ckTys, gts, Prod.eta, List.nil_append]
       refine ⟨?_, ?_⟩
       · omega
       · first
         | (exact mk1_start _)
         | (exact mk1_step hA (by omega) hws))
    | (with_reducible refine Side.mk ⟨(⟨⟩ : Tag 29), ?_⟩
       dsimp only [cu, joinT, ckTys, gts, Prod.eta, List.nil_append]
       refine ⟨?_, ?_⟩
       · omega
       · first
         | (exact mk12 hA (by omega))
         | (exact mk2_step hB (by omega) hus))
    | (with_reducible refine Side.mk ⟨(⟨⟩ : Tag 30), ?_⟩
       dsimp only [cu, joinT, ckTys, gts, Prod.eta, List.nil_append]
       omega)
    | (with_reducible refine Side.mk ?_
       (try dsimp only [cu, joinT, ckTys, gts, loK, hiK, Prod.eta, List.nil_append])
       first
       | (done)
       | (with_reducible rfl)
       | (omega)
       | (exact Eq.refl _)
       | (simp only [List.length_append, List.length_cons, List.length_nil]; omega)
       | (omega)
       | (with_reducible assumption)
       | (exact hA.1)
       | (exact hB.1)
       | (have := small_get (k := k) hws (by omega); have := hA.1; omega)
       | (have := small_get (k := j) hus (by omega); have := hB.1; omega)
       | (kernel_rfl))
    | (conv => whnf
       first
        | done
        | exact trivial
        | with_reducible refine NilBr.mk (fun h => ?_) ?_
        | with_reducible refine w_andS ?_ ?_
        | with_reducible refine w_andL ?_ ?_
        | with_reducible refine w_kern (by kernel_rfl) ?_
        | with_reducible refine w_true ?_
        | with_reducible refine w_nd ?_ ?_
        | with_reducible refine w_in ?_ ?_
        | with_reducible refine w_and ?_ ?_
        | (with_reducible refine w_brN (fun h => ?_) (fun h => ?_) <;> (try dsimp only [cu, Prod.eta, List.nil_append] at h) <;> (try (exfalso; omega; done)))
        | (with_reducible refine w_brD (fun h => ?_) (fun h => ?_) <;> (try dsimp only [cu, Prod.eta, List.nil_append] at h) <;> (try (exfalso; omega; done)))
        | (with_reducible refine w_br (fun h => ?_) (fun h => ?_) <;> (try dsimp only [cu, Prod.eta, List.nil_append] at h) <;> (try (exfalso; omega; done)))
        | (intro yy (hy : Tag 28 ∧ _)
           obtain ⟨(k : Int), (A : List Int), _⟩ := yy
           replace hy := hy.2
           dsimp only [cu, joinT, ckTys, gts, Prod.eta, List.nil_append] at hy
           obtain ⟨hk, hA⟩ := hy)
        | (intro yy (hy : Tag 29 ∧ _)
           obtain ⟨(j : Int), (B : List Int), _⟩ := yy
           replace hy := hy.2
           dsimp only [cu, joinT, ckTys, gts, Prod.eta, List.nil_append] at hy
           obtain ⟨hj, hB⟩ := hy)
        | (intro yy (hy : Tag 30 ∧ _)
           obtain ⟨(i : Int), _⟩ := yy
           replace hy := hy.2
           dsimp only [cu, joinT, ckTys, gts, Prod.eta, List.nil_append] at hy
           have hi := hy)))
  all_goals (with_reducible refine Leaf.mk ?_
             (try dsimp only [cu, joinT, ckTys, gts, Prod.eta, List.nil_append] at *)
             first
             | (done)
             | (exfalso; have := small_get (k := j) hus (by omega); omega)
             | (exfalso; exact mk2_val hB (by omega) hus (fun v q => (U_mem l m v).1 q) (by with_reducible assumption))
             | (exfalso; have := asc_lt (k := j) hua (by omega) (by omega); omega)
             | (exfalso; exact mk2_end hB (by omega) (fun v q => (U_mem l m v).2 q) i (by omega) (arr40_get hB.1 (by first | with_reducible assumption | assumption)))
             | (rw [hc, hsf]; simp; done)
             | (rfl)
             | (simp_all; done))
abbrev tb40 : Tbl := (4, c_isset_ok) :: tb39
theorem tb40_ok : TblOk Try.prog tb40 := TblOk.cons isset_ok tb39_ok

end Go.Proofs.Ytojdmkkjamakiaa
