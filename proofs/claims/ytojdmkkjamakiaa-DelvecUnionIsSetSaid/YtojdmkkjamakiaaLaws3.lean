/- The walks of DelvecUnions and DelvecLeaves. -/
import Derived.Test.YtojdmkkjamakiaaSameR
namespace Go.Proofs.Ytojdmkkjamakiaa
open Go.Abs
set_option linter.unusedVariables false
set_option linter.unusedSimpArgs false


theorem kCols_len : ∀ (n : Nat) (s : Src) (acc : List Col), (kCols n s acc).1.length = acc.length + n
  | 0, s, acc => rfl
  | n + 1, s, acc => by rw [kCols, kCols_len n]; simp; omega
theorem kSchema_cols (l : List Int) : 1 ≤ (kSchema l).1.length ∧ (kSchema l).1.length ≤ 4 := by
  have h := Src.pick_lt (s := (l, 0)) (n := 4) (by decide)
  have e : (kSchema l).1.length = 0 + (1 + Src.pick (l, 0) 4).toNat := kCols_len _ _ []
  omega
theorem kRowGo_len : ∀ (cs : List Col) (q : Src), (kRowGo cs q).1.length = cs.length
  | [], q => rfl
  | c :: cs, q => by simp [kRowGo, kRowGo_len cs]
theorem looseGo_row : ∀ (n : Nat) (q : Src) (x : Schema), ∀ r, r ∈ looseGo n q x → r.2.length = x.1.length
  | 0, q, x => fun r h => by simp [looseGo] at h
  | n + 1, q, x => fun r h => by
    simp only [looseGo, List.mem_cons] at h
    rcases h with h | h
    · rw [h]; exact kRowGo_len _ _
    · exact looseGo_row n _ x r h
theorem rows_of {l : List Rec} (h : ∀ r, r ∈ l → r.2.length ≤ 1000) (i : Nat) : l[i]!.2.length ≤ 1099511627776 := by
  rcases Nat.lt_or_ge i l.length with q | q
  · rw [getElem!_pos l i q]
    have := h _ (List.getElem_mem q)
    omega
  · rw [getElem!_neg l i (by omega)]; exact Nat.zero_le _
theorem liveG_mem : ∀ (rs : List Rec) (i : Int) (l : List Int), ∀ r, r ∈ liveG i rs l → r ∈ rs
  | [], i, l => fun r h => by simp [liveG] at h
  | x :: rs, i, l => fun r h => by
    rw [liveG] at h
    split at h
    · exact List.mem_cons_of_mem _ (liveG_mem rs _ _ r h)
    · rcases List.mem_cons.1 h with h | h
      · rw [h]; exact List.mem_cons_self ..
      · exact List.mem_cons_of_mem _ (liveG_mem rs _ _ r h)
theorem liveG_le : ∀ (rs : List Rec) (i : Int) (l : List Int), (liveG i rs l).length ≤ rs.length
  | [], i, l => by simp [liveG]
  | x :: rs, i, l => by
    rw [liveG]
    split
    · have := liveG_le rs (i + 1) (l.drop 1); simp only [List.length_cons]; omega
    · have := liveG_le rs (i + 1) l; simp only [List.length_cons]; omega
theorem liveL_le (rs : List Rec) (l : List Int) : (liveL rs l).length ≤ rs.length := by
  unfold liveL
  split
  · exact liveG_le _ _ _
  · simp
theorem liveL_mem (rs : List Rec) (l : List Int) : ∀ r, r ∈ liveL rs l → r ∈ rs := by
  unfold liveL
  split
  · exact liveG_mem _ _ _
  · intro r h; simp at h
/-- The records of the statements: few, and short. -/
theorem loose_few (x y : List Int) : (kLoose (kSchema x) y 20).length ≤ 20 ∧ ∀ r, r ∈ kLoose (kSchema x) y 20 → r.2.length ≤ 1000 := by
  have h := Src.pick_lt (s := (y, 0)) (n := 20 + 1) (by decide)
  have hc := kSchema_cols x
  constructor
  · unfold kLoose; rw [looseGo_len]; omega
  · intro r hr
    have := looseGo_row _ _ _ r hr
    omega
theorem merge_le : ∀ (a b : List Int), (mergeL a b).length ≤ a.length + b.length
  | [], b => by rw [nil_merge]; simp
  | x :: a, [] => by rw [merge_nil]; simp
  | x :: a, y :: b => by
    rw [mergeL]
    split
    · split
      · have := merge_le a b; simp; omega
      · have := merge_le a (y :: b); simp at this ⊢; omega
    · have := merge_le (x :: a) b; simp at this ⊢; omega
termination_by a b => a.length + b.length
theorem union_le (a b : List Int) : (unionL a b).length ≤ a.length + b.length := by
  by_cases ha : asc a = true
  · by_cases hb : asc b = true
    · rw [union_merge ha hb]; exact merge_le a b
    · rw [union_no (by simp [hb])]; simp
  · rw [union_no (by simp [ha])]; simp
theorem pw_ascF : ∀ (l : List Int) (p : Int), (∀ v, v ∈ l → p < v) → l.Pairwise (fun a b => a < b) → ascF p l = true
  | [], p, _, _ => rfl
  | x :: l, p, h1, h2 => by
    have h3 := List.pairwise_cons.1 h2
    simp only [ascF, Bool.and_eq_true, decide_eq_true_eq]
    exact ⟨h1 x (List.mem_cons_self ..), pw_ascF l x h3.1 h3.2⟩
theorem union_asc {a b : List Int} (ha : asc a = true) (hb : asc b = true) : asc (unionL a b) = true := by
  rw [union_merge ha hb]
  refine pw_ascF _ _ (fun v hv => ?_) (merge_pw a b (ascF_pw a _ ha).2 (ascF_pw b _ hb).2)
  rcases (merge_mem a b v).1 hv with q | q
  · exact (ascF_pw a _ ha).1 v q
  · exact (ascF_pw b _ hb).1 v q
def cntL (n : Int) : List Int → Int
  | [] => 0
  | v :: l => (if v < n then 1 else 0) + cntL n l
theorem cnt_step {l : List Int} {k n : Int} (h : 0 ≤ k ∧ k < l.length) : cntL n (l.drop k.toNat) = (if l[k.toNat]! < n then 1 else 0) + cntL n (l.drop (k + 1).toNat) := by
  rw [drop_step l k h]; rfl
theorem cnt_le (n : Int) : ∀ (l : List Int), 0 ≤ cntL n l ∧ cntL n l ≤ l.length
  | [] => by simp [cntL]
  | v :: l => by
    have := cnt_le n l
    simp only [cntL, List.length_cons]
    split <;> omega
theorem cnt_zero {n : Int} : ∀ (l : List Int) (p : Int), ascF p l = true → n ≤ p + 1 → cntL n l = 0
  | [], _, _, _ => rfl
  | v :: l, p, h, hn => by
    simp only [ascF, Bool.and_eq_true, decide_eq_true_eq] at h
    rw [cntL, cnt_zero l v h.2 (by omega), if_neg (by omega)]; rfl
theorem liveG_cnt : ∀ (rs : List Rec) (i : Int) (l : List Int), ascF (i - 1) l = true → ((liveG i rs l).length : Int) + cntL (i + rs.length) l = rs.length
  | [], i, l, h => by
    rw [cnt_zero l _ h (by simp)]; simp [liveG]
  | x :: rs, i, l, h => by
    rw [liveG]
    split
    · rename_i hc
      cases l with
      | nil => simp at hc
      | cons v l =>
        have hv : v = i := hc.2
        simp only [ascF, Bool.and_eq_true, decide_eq_true_eq] at h
        have := liveG_cnt rs (i + 1) l (by rw [show i + 1 - 1 = v by omega]; exact h.2)
        rw [List.drop_one, List.tail_cons, cntL, if_pos (by simp; omega)]
        rw [show i + ((x :: rs).length : Int) = i + 1 + (rs.length : Int) by simp; omega]
        simp only [List.length_cons]; omega
    · rename_i hc
      have hl : ascF (i + 1 - 1) l = true := by
        cases l with
        | nil => rfl
        | cons v l =>
          have hv : v ≠ i := fun q => hc ⟨by simp, q⟩
          simp only [ascF, Bool.and_eq_true, decide_eq_true_eq] at h ⊢
          exact ⟨by omega, h.2⟩
      have := liveG_cnt rs (i + 1) l hl
      rw [show i + ((x :: rs).length : Int) = i + 1 + (rs.length : Int) by simp; omega]
      simp only [List.length_cons]; omega
theorem liveL_cnt {rs : List Rec} {l : List Int} (h : asc l = true) : ((liveL rs l).length : Int) + cntL rs.length l = rs.length := by
  have := liveG_cnt rs 0 l h
  rw [liveL, if_pos h]
  simpa using this

abbrev c_unions_ok : Ct := .fn [.list (.int .i64), .list (.int .i64), .list (.int .i64), .list (.int .i64), .list (.int .i64), .list (.int .i64)] (some (fun (a : List Int) (b : List Int) (x : List Int) (y0 : List Int) (l : List Int) (m : List Int) => (a.length ≤ 1048576) ∧ (b.length ≤ 1048576) ∧ (x.length ≤ 1048576) ∧ (y0.length ≤ 1048576) ∧ (l.length ≤ 1048576) ∧ (m.length ≤ 1048576))) (fun (a : List Int) (b : List Int) (x : List Int) (y0 : List Int) (l : List Int) (m : List Int) => .d .bool true)
set_option maxRecDepth 100000 in
set_option maxHeartbeats 4000000 in
theorem unions_ok : CtOk Try.prog 5 c_unions_ok := by
  refine CtOk.fn tb37_ok mixed [] [] rfl rfl ?_
  rintro ⟨(a : List Int), (b : List Int), (x : List Int), (y0 : List Int), (l : List Int), (m : List Int), _⟩ hpre
  replace hpre := hpre _ rfl
  dsimp only [cu] at hpre
  obtain ⟨ha, hb, hx, hy0, hl, hm⟩ := hpre
  have hv1 := vec_len l 40 (by decide)
  have hv2 := vec_len m 40 (by decide)
  have hsc := kSchema_cols x
  have hlf := loose_few x y0
  have hu1 := union_le a b
  have hu2 := union_le (vec l 40) (vec m 40)
  have hl1 := liveL_le (kLoose (kSchema x) y0 20) a
  have hl2 := liveL_le (kLoose (kSchema x) y0 20) (vec l 40)
  refine ⟨[], ?_⟩
  repeat' (first
    | (with_reducible refine Side.mk ?_
       (try dsimp only [cu, joinT, ckTys, gts, loK, hiK, Prod.eta, List.nil_append])
       first
       | (done)
       | (with_reducible rfl)
       | (omega)
       | (exact Eq.refl _)
       | (simp only [List.length_append, List.length_cons, List.length_nil]; omega)
       | (with_reducible assumption)
       | (exact rows_of hlf.2)
       | (exact rows_of (fun r h => hlf.2 r (liveL_mem _ _ r h)))
       | (omega)
       | (refine ⟨?_, ?_⟩ <;> omega)
       | (refine ⟨?_, ?_, ?_⟩ <;> omega)
       | (exact ⟨by omega, rows_of hlf.2, by omega⟩)
       | (exact ⟨by omega, rows_of (fun r h => hlf.2 r (liveL_mem _ _ r h))⟩))
    | (conv => whnf
       first
        | done
        | exact trivial
        | with_reducible refine NilBr.mk (fun h => ?_) ?_
        | with_reducible refine w_andS ?_ ?_
        | with_reducible refine w_andL ?_ ?_
        | with_reducible refine w_kern (by kernel_rfl) ?_
        | with_reducible refine w_true ?_
        | with_reducible refine w_nd ?_ ?_
        | with_reducible refine w_in ?_ ?_
        | with_reducible refine w_and ?_ ?_
        | (with_reducible refine w_brN (fun h => ?_) (fun h => ?_) <;> (try dsimp only [cu, Prod.eta, List.nil_append] at h) <;> (try (exfalso; omega; done)))
        | (with_reducible refine w_brD (fun h => ?_) (fun h => ?_) <;> (try dsimp only [cu, Prod.eta, List.nil_append] at h) <;> (try (exfalso; omega; done)))
        | (with_reducible refine w_br (fun h => ?_) (fun h => ?_) <;> (try dsimp only [cu, Prod.eta, List.nil_append] at h) <;> (try (exfalso; omega; done)))))
  all_goals (with_reducible refine Leaf.mk ?_
             (try dsimp only [cu, joinT, ckTys, gts, Prod.eta, List.nil_append] at *)
             first
             | (done)
             | (rfl)
             | (simp_all; done))
abbrev tb38 : Tbl := (5, c_unions_ok) :: tb37
theorem tb38_ok : TblOk Try.prog tb38 := TblOk.cons unions_ok tb37_ok

abbrev c_leaves_ok : Ct := .fn [.list (.int .i64), .list (.int .i64), .list (.int .i64), .list (.int .i64)] (some (fun (x : List Int) (y0 : List Int) (l : List Int) (m : List Int) => (x.length ≤ 4611686018427387904) ∧ (y0.length ≤ 4611686018427387904) ∧ (l.length ≤ 4611686018427387904) ∧ (m.length ≤ 4611686018427387904))) (fun (x : List Int) (y0 : List Int) (l : List Int) (m : List Int) => .d .bool true)
set_option maxRecDepth 100000 in
set_option maxHeartbeats 4000000 in
theorem leaves_ok : CtOk Try.prog 6 c_leaves_ok := by
  refine CtOk.fn tb38_ok mixed [] [] rfl rfl ?_
  rintro ⟨(x : List Int), (y0 : List Int), (l : List Int), (m : List Int), _⟩ hpre
  replace hpre := hpre _ rfl
  dsimp only [cu] at hpre
  obtain ⟨hx, hy0, hl, hm⟩ := hpre
  have hv1 := vec_len l 20 (by decide)
  have hv2 := vec_len m 20 (by decide)
  have hsc := kSchema_cols x
  have hlf := loose_few x y0
  have hu := union_le (vec l 20) (vec m 20)
  have hl1 := liveL_le (kLoose (kSchema x) y0 20) (unionL (vec l 20) (vec m 20))
  have hcn := liveL_cnt (rs := kLoose (kSchema x) y0 20) (union_asc (vec_asc l 20).1 (vec_asc m 20).1)
  have hcl := cnt_le ((kLoose (kSchema x) y0 20).length : Int) (unionL (vec l 20) (vec m 20))
  refine ⟨[(0, 12, LA.mk [.sl 33 (.int .i64), .sl 13 (.int .i64)] (fun y => Tag 27 ∧ cu [.int .i64, .int .i64] (fun (k : Int) (c : Int) => (0 ≤ k ∧ k ≤ (unionL (vec l 20) (vec m 20)).length) ∧ (cntL ((kLoose (kSchema x) y0 20).length : Int) (unionL (vec l 20) (vec m 20)) = c + cntL ((kLoose (kSchema x) y0 20).length : Int) ((unionL (vec l 20) (vec m 20)).drop k.toNat)) ∧ (0 ≤ c ∧ c ≤ k)) y) (cu [.int .i64, .int .i64] (fun (k : Int) (c : Int) => (((unionL (vec l 20) (vec m 20)).length : Int) - k).toNat)) (cu [.int .i64, .int .i64] (fun (k : Int) (c : Int) => ([] : List (Nat × Nat × LA)))))], ?_⟩
  repeat' (first
    | (with_reducible refine Side.mk ⟨(⟨⟩ : Tag 27), ?_⟩
       dsimp only [cu, joinT, ckTys, gts, Prod.eta, List.nil_append]
       refine ⟨?_, ?_, ?_⟩
       · omega
       · first
         | (simp; done)
         | (rw [hc, cnt_step (by omega), if_pos (by omega)]
            omega)
         | (rw [hc, cnt_step (by omega), if_neg (by omega)]
            omega)
       · omega)
    | (with_reducible refine Side.mk ?_
       (try dsimp only [cu, joinT, ckTys, gts, loK, hiK, Prod.eta, List.nil_append])
       first
       | (done)
       | (with_reducible rfl)
       | (omega)
       | (exact Eq.refl _)
       | (simp only [List.length_append, List.length_cons, List.length_nil]; omega)
       | (with_reducible assumption)
       | (exact rows_of hlf.2)
       | (exact rows_of (fun r h => hlf.2 r (liveL_mem _ _ r h)))
       | (omega)
       | (refine ⟨?_, ?_⟩ <;> omega)
       | (refine ⟨?_, ?_, ?_⟩ <;> omega)
       | (exact ⟨by omega, rows_of hlf.2, by omega⟩)
       | (exact ⟨by omega, rows_of (fun r h => hlf.2 r (liveL_mem _ _ r h))⟩))
    | (conv => whnf
       first
        | done
        | exact trivial
        | with_reducible refine NilBr.mk (fun h => ?_) ?_
        | with_reducible refine w_andS ?_ ?_
        | with_reducible refine w_andL ?_ ?_
        | with_reducible refine w_kern (by kernel_rfl) ?_
        | with_reducible refine w_true ?_
        | with_reducible refine w_nd ?_ ?_
        | with_reducible refine w_in ?_ ?_
        | with_reducible refine w_and ?_ ?_
        | (with_reducible refine w_brN (fun h => ?_) (fun h => ?_) <;> (try dsimp only [cu, Prod.eta, List.nil_append] at h) <;> (try (exfalso; omega; done)))
        | (with_reducible refine w_brD (fun h => ?_) (fun h => ?_) <;> (try dsimp only [cu, Prod.eta, List.nil_append] at h) <;> (try (exfalso; omega; done)))
        | (with_reducible refine w_br (fun h => ?_) (fun h => ?_) <;> (try dsimp only [cu, Prod.eta, List.nil_append] at h) <;> (try (exfalso; omega; done)))
        | (intro yy (hy : Tag 27 ∧ _)
           obtain ⟨(k : Int), (c : Int), _⟩ := yy
           replace hy := hy.2
           dsimp only [cu, joinT, ckTys, gts, Prod.eta, List.nil_append] at hy
           obtain ⟨hk, hc, hc0⟩ := hy)))
  all_goals (with_reducible refine Leaf.mk ?_
             (try dsimp only [cu, joinT, ckTys, gts, Prod.eta, List.nil_append] at *)
             first
             | (done)
             | (rfl)
             | (have hd : cntL ((kLoose (kSchema x) y0 20).length : Int) ((unionL (vec l 20) (vec m 20)).drop k.toNat) = 0 := by rw [List.drop_eq_nil_of_le (by omega)]; rfl
                rw [decide_eq_true (by omega)])
             | (have hd : cntL ((kLoose (kSchema x) y0 20).length : Int) ((unionL (vec l 20) (vec m 20)).drop k.toNat) = 0 := by rw [List.drop_eq_nil_of_le (by omega)]; rfl
                omega)
             | (simp_all; done))
abbrev tb39 : Tbl := (6, c_leaves_ok) :: tb38
theorem tb39_ok : TblOk Try.prog tb39 := TblOk.cons leaves_ok tb38_ok

end Go.Proofs.Ytojdmkkjamakiaa
