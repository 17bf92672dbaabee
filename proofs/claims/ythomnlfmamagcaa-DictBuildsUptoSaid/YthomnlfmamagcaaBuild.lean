/- Contracts of building a dictionary. -/
import Derived.Test.YthomnlfmamagcaaWords
import Derived.Test.YthomnlfmamagcaaAbsSq
namespace Go.Proofs.Ythomnlfmamagcaa
open Go.Abs
set_option linter.unusedVariables false
set_option linter.unusedSimpArgs false


def wdN (n : Int) : Int := lenI (maxI (n - 1) 0)
def encWB (s : ByteArray) (ws : List ByteArray) : ByteArray := ws.foldl (fun s w => s ++ (ofInts (put (w.size : Int)) ++ w)) s
theorem encWB_step {s : ByteArray} {W : List ByteArray} {k : Int} (h : 0 ≤ k ∧ k < W.length) : encWB s (W.take (k + 1).toNat) = encWB s (W.take k.toNat) ++ (ofInts (put (W[k.toNat]!.size : Int)) ++ W[k.toNat]!) := by
  rw [show (k + 1).toNat = k.toNat + 1 by omega, List.take_succ_eq_append_getElem (by omega)]
  unfold encWB
  rw [List.foldl_append, getElem!_pos W k.toNat (by omega)]
  rfl
theorem encWB_size {B : Nat} : ∀ (W : List ByteArray) (s : ByteArray), (∀ w, w ∈ W → w.size ≤ B) → (encWB s W).size ≤ s.size + W.length * (B + 10)
  | [], s, _ => by simp [encWB]
  | w :: W, s, h => by
    have ih := encWB_size W (s ++ (ofInts (put (w.size : Int)) ++ w)) (fun v hv => h v (by simp [hv]))
    have h1 := h w (by simp)
    have h2 := put_len (w.size : Int)
    have e : (s ++ (ofInts (put (w.size : Int)) ++ w)).size = s.size + ((put (w.size : Int)).length + w.size) := by simp only [ByteArray.size_append, ofInts_len]
    rw [e] at ih
    show (encWB (s ++ (ofInts (put (w.size : Int)) ++ w)) W).size ≤ _
    simp only [List.length_cons, Nat.add_mul]
    omega
def encDict (l : List ByteArray) : ByteArray := if l.length > 4096 then ⟨#[]⟩ else encWB (ofInts (put ((wordsS l).length : Int))) (wordsS l) ++ (packR (codesS l) (wdN (wordsS l).length)).1
theorem wordsS_size {l : List ByteArray} {B : Nat} (h : ∀ w, w ∈ l → w.size ≤ B) : ∀ w, w ∈ wordsS l → w.size ≤ B := fun w hw => h w ((wordsS_mem l w).1 hw)
theorem encWB_take {l : List ByteArray} {v : Int} {k : Nat} (h : ∀ w, w ∈ l → w.size ≤ 1073741824) (hl : l.length ≤ 4096) : (encWB (ofInts (put v)) ((wordsS l).take k)).size ≤ 4398046552074 := by
  have h1 := encWB_size (B := 1073741824) ((wordsS l).take k) (ofInts (put v)) (fun w hw => wordsS_size h w (List.mem_of_mem_take hw))
  have h2 := put_len v
  have h3 := wordsS_len l
  rw [ofInts_len] at h1
  have h4 : ((wordsS l).take k).length ≤ 4096 := by simp; omega
  have h5 : ((wordsS l).take k).length * (1073741824 + 10) ≤ 4096 * (1073741824 + 10) := Nat.mul_le_mul_right _ h4
  omega
theorem codesS_rng (l : List ByteArray) : ∀ c, c ∈ codesS l → 0 ≤ c ∧ c ≤ (wordsS l).length := by
  intro c hc
  obtain ⟨s, _, rfl⟩ := List.mem_map.1 hc
  have := plS_le (wordsS l) s
  omega
theorem codesS_at (l : List ByteArray) (k : Nat) : 0 ≤ (codesS l)[k]! ∧ (codesS l)[k]! ≤ l.length := by
  by_cases h : k < (codesS l).length
  · have := codesS_rng l (codesS l)[k]! (by rw [getElem!_pos _ k h]; exact List.getElem_mem h)
    have := wordsS_len l
    omega
  · rw [getElem!_neg _ k h]; exact ⟨Int.le_refl _, by show (0 : Int) ≤ _; omega⟩
theorem codes_get {l : List ByteArray} {k : Int} (h : 0 ≤ k ∧ k < l.length) : (codesS l)[k.toNat]! = (plS (wordsS l) l[k.toNat]! : Int) := by
  rw [getElem!_pos (codesS l) k.toNat (by rw [codesS_len]; omega), getElem!_pos l k.toNat (by omega)]
  simp [codesS]
theorem codes_take {l : List ByteArray} {k : Int} (h : 0 ≤ k ∧ k < l.length) : (codesS l).take (k + 1).toNat = (codesS l).take k.toNat ++ [(plS (wordsS l) l[k.toNat]! : Int)] := by
  rw [show (k + 1).toNat = k.toNat + 1 by omega, List.take_succ_eq_append_getElem (by rw [codesS_len]; omega), ← codes_get h, getElem!_pos (codesS l) k.toNat (by rw [codesS_len]; omega)]
theorem words_step {l : List ByteArray} {k : Int} (h : 0 ≤ k ∧ k < l.length) : (l.take (k + 1).toNat).foldl insS [] = insS ((l.take k.toNat).foldl insS []) l[k.toNat]! := by
  rw [show (k + 1).toNat = k.toNat + 1 by omega, List.take_succ_eq_append_getElem (by omega), List.foldl_append, getElem!_pos l k.toNat (by omega)]
  rfl
theorem words_take (l : List ByteArray) (k : Nat) : ((l.take k).foldl insS []).length ≤ l.length := by
  have := wordsS_len (l.take k)
  unfold wordsS at this
  simp at this; omega
theorem insS_no {M : List ByteArray} {s : ByteArray} (h : ¬ ((plS M s : Int) = M.length) ) (h2 : M[(plS M s : Int).toNat]! = s) : insS M s = M := by
  rw [Int.toNat_natCast] at h2
  unfold insS
  rw [if_neg]
  rintro (q | q)
  · exact h (by omega)
  · exact q h2
theorem insS_yes {M : List ByteArray} {s : ByteArray} (h : (plS M s : Int) = M.length ∨ ¬ M[(plS M s : Int).toNat]! = s) : insS M s = M.take (plS M s) ++ [s] ++ M.drop (plS M s) := by
  rw [Int.toNat_natCast] at h
  unfold insS
  rw [if_pos]
  rcases h with q | q
  · exact .inl (by omega)
  · exact .inr q
theorem bsI_words (l : List ByteArray) (x : ByteArray) : bsI (compS (sortS l)) x = (plS (wordsS l) x : Int) := by rw [comp_words, bsI_plS (wordsS_asc l)]
theorem comp_len (l : List ByteArray) : (compS (sortS l)).length ≤ l.length := by rw [comp_words]; exact wordsS_len l
theorem packR_nil (w : Int) (h : 0 ≤ w ∧ w ≤ 64) : (packR [] w).1 = ⟨#[]⟩ := by
  have e : (needR ((([] : List Int).length : Nat) : Int) w).toNat = 0 := by
    obtain ⟨h1, _⟩ := need_eq (n := ((([] : List Int).length : Nat) : Int)) (w := w) ⟨⟨by simp, by simp⟩, h⟩
    rw [h1]; simp
  unfold packR
  rw [if_neg (by omega), if_neg (by simp), if_neg (by simp [anyWide]), e]
  rfl
theorem wdN_rng (n : Int) (h : n ≤ 9223372036854775807) : 0 ≤ wdN n ∧ wdN n ≤ 64 := by
  unfold wdN
  have hm : maxI (n - 1) 0 < 18446744073709551616 := by unfold maxI; split <;> omega
  exact lenI_le hm

abbrev c_place_ok : Ct := .fn [.list .str, .str] (some (fun (l : List ByteArray) (s : ByteArray) => (l.length ≤ 4611686018427387904))) (fun (l : List ByteArray) (s : ByteArray) => .d (.int .i64) (plS l s : Int))
set_option maxRecDepth 100000 in
set_option maxHeartbeats 4000000 in
theorem place_ok : CtOk Try.prog 31 c_place_ok := by
  refine CtOk.fn tb15_ok mixed [] [] rfl rfl ?_
  rintro ⟨(l : List ByteArray), (s : ByteArray), _⟩ hpre
  replace hpre := hpre _ rfl
  dsimp only [cu] at hpre
  have hl := hpre
  refine ⟨[(0, 4, LA.mk [.sl 5 (.int .i64)] (fun y => Tag 14 ∧ cu [.int .i64] (fun (i : Int) => (0 ≤ i ∧ i ≤ l.length) ∧ (∀ t : Nat, (t : Int) < i → strLt l[t]! s = true)) y) (cu [.int .i64] (fun (i : Int) => ((l.length : Int) - i).toNat)) (cu [.int .i64] (fun (i : Int) => ([] : List (Nat × Nat × LA)))))], ?_⟩
  repeat' (first
    | (with_reducible refine Side.mk ⟨(⟨⟩ : Tag 14), ?_⟩
       dsimp only [cu, joinT, ckTys, gts, Prod.eta, List.nil_append]
       refine ⟨?_, ?_⟩
       · omega
       · first
         | (intro t ht; omega)
         | (intro t ht
            rcases Int.lt_or_le (t : Int) i with q | q
            · exact hp t q
            · rw [show t = i.toNat by omega]; assumption))
    | (with_reducible refine Side.mk ?_
       (try dsimp only [cu, joinT, ckTys, gts, loK, hiK, Prod.eta, List.nil_append])
       first
       | (done)
       | (with_reducible rfl)
       | (omega)
       | (exact Eq.refl _)
       | (simp only [List.length_append, List.length_cons, List.length_nil]; omega)
       | (omega))
    | (conv => whnf
       first
        | done
        | exact trivial
        | with_reducible refine NilBr.mk (fun h => ?_) ?_
        | with_reducible refine w_andS ?_ ?_
        | with_reducible refine w_andL ?_ ?_
        | with_reducible refine w_kern (by kernel_rfl) ?_
        | with_reducible refine w_true ?_
        | with_reducible refine w_nd ?_ ?_
        | with_reducible refine w_in ?_ ?_
        | with_reducible refine w_and ?_ ?_
        | (with_reducible refine w_brN (fun h => ?_) (fun h => ?_) <;> (try dsimp only [cu, Prod.eta, List.nil_append] at h) <;> (try (exfalso; omega; done)))
        | (with_reducible refine w_brD (fun h => ?_) (fun h => ?_) <;> (try dsimp only [cu, Prod.eta, List.nil_append] at h) <;> (try (exfalso; omega; done)))
        | (with_reducible refine w_br (fun h => ?_) (fun h => ?_) <;> (try dsimp only [cu, Prod.eta, List.nil_append] at h) <;> (try (exfalso; omega; done)))
        | (intro yy (hy : Tag 14 ∧ _)
           obtain ⟨(i : Int), _⟩ := yy
           replace hy := hy.2
           dsimp only [cu, joinT, ckTys, gts, Prod.eta, List.nil_append] at hy
           obtain ⟨hi, hp⟩ := hy)))
  all_goals (with_reducible refine Leaf.mk ?_
             (try dsimp only [cu, joinT, ckTys, gts, Prod.eta, List.nil_append] at *)
             first
             | (done)
             | (have e : i.toNat = l.length := by omega
                have e2 := plS_unique (k := i.toNat) (fun t ht => hp t (by omega)) (by omega) (.inl e)
                show (i : Int) = (plS l s : Int)
                omega)
             | (have e : ¬ strLt l[i.toNat]! s = true := by first | assumption | (simp_all; done)
                have e2 := plS_unique (k := i.toNat) (fun t ht => hp t (by omega)) (by omega) (.inr e)
                show (i : Int) = (plS l s : Int)
                omega))
abbrev tb16 : Tbl := (31, c_place_ok) :: tb15
theorem tb16_ok : TblOk Try.prog tb16 := TblOk.cons place_ok tb15_ok

abbrev c_rbuild_ok : Ct := .fn [.list .str] (some (fun (l : List ByteArray) => (l.length ≤ 1073741824))) (fun (l : List ByteArray) => .tup [.list .str, .list (.int .i64)] (wordsS l, codesS l, ()))
set_option maxRecDepth 100000 in
set_option maxHeartbeats 4000000 in
theorem rbuild_ok : CtOk Try.prog 15 c_rbuild_ok := by
  refine CtOk.fn tb16_ok mixed [] [] rfl rfl ?_
  rintro ⟨(l : List ByteArray), _⟩ hpre
  replace hpre := hpre _ rfl
  dsimp only [cu] at hpre
  have hl := hpre
  refine ⟨[(0, 6, LA.mk [.sl 14 (.int .i64), .lst 4 .str 9] (fun y => Tag 15 ∧ cu [.int .i64, .list .str] (fun (k : Int) (M : List ByteArray) => (0 ≤ k ∧ k ≤ l.length) ∧ (M = (l.take k.toNat).foldl insS [])) y) (cu [.int .i64, .list .str] (fun (k : Int) (M : List ByteArray) => ((l.length : Int) - k).toNat)) (cu [.int .i64, .list .str] (fun (k : Int) (M : List ByteArray) => ([] : List (Nat × Nat × LA))))), (0, 26, LA.mk [.sl 49 (.int .i64), .lst 9 (.int .i64) 3] (fun y => Tag 16 ∧ cu [.int .i64, .list (.int .i64)] (fun (k : Int) (C : List Int) => (0 ≤ k ∧ k ≤ l.length) ∧ (C = (codesS l).take k.toNat)) y) (cu [.int .i64, .list (.int .i64)] (fun (k : Int) (C : List Int) => ((l.length : Int) - k).toNat)) (cu [.int .i64, .list (.int .i64)] (fun (k : Int) (C : List Int) => ([] : List (Nat × Nat × LA)))))], ?_⟩
  repeat' (first
    | (with_reducible refine Side.mk ⟨(⟨⟩ : Tag 15), ?_⟩
       dsimp only [cu, joinT, ckTys, gts, Prod.eta, List.nil_append]
       refine ⟨?_, ?_⟩
       · omega
       · first
         | (rfl)
         | (have e := words_step (l := l) (k := k) (by omega)
            rw [← hM] at e
            have e1 : ¬ ((plS M l[k.toNat]! : Int) = M.length) := by first | omega | (simp_all; done)
            have e2 : M[(plS M l[k.toNat]! : Int).toNat]! = l[k.toNat]! := by simp_all; done
            rw [e, insS_no e1 e2])
         | (have e := words_step (l := l) (k := k) (by omega)
            rw [← hM] at e
            have e1 : (plS M l[k.toNat]! : Int) = M.length ∨ ¬ M[(plS M l[k.toNat]! : Int).toNat]! = l[k.toNat]! := by first | (left; omega) | (right; assumption) | (right; simp_all; done)
            rw [e, insS_yes e1]
            have h0 := plS_le M l[k.toNat]!
            clear hM e e1
            simp only [subL_eq, List.nil_append, Int.toNat_natCast, List.append_nil, List.drop_zero]
            have e4 : ((M.length : Int) - (plS M l[k.toNat]! : Int)).toNat = M.length - plS M l[k.toNat]! := by omega
            (try rw [e4])
            first | (have e5 : plS M l[k.toNat]! = M.length := (by omega); rw [e5]; simp; done) | (have e5 : plS M l[k.toNat]! = 0 := (by omega); rw [e5]; simp; done) | (have e5 : (M.drop (plS M l[k.toNat]!)).take (M.length - plS M l[k.toNat]!) = M.drop (plS M l[k.toNat]!) := List.take_of_length_le (by simp); rw [e5]) | grind))
    | (with_reducible refine Side.mk ⟨(⟨⟩ : Tag 16), ?_⟩
       dsimp only [cu, joinT, ckTys, gts, Prod.eta, List.nil_append]
       refine ⟨?_, ?_⟩
       · omega
       · first
         | (rfl)
         | (rw [codes_take (by omega), ← hC, show wordsS l = M by (unfold wordsS; rw [hM, List.take_of_length_le (by omega)])]))
    | (with_reducible refine Side.mk ?_
       (try dsimp only [cu, joinT, ckTys, gts, loK, hiK, Prod.eta, List.nil_append])
       first
       | (done)
       | (with_reducible rfl)
       | (omega)
       | (exact Eq.refl _)
       | (simp only [List.length_append, List.length_cons, List.length_nil]; omega)
       | (have hw := words_take l k.toNat
          (try rw [← hM] at hw)
          omega)
       | (show M.length ≤ 4611686018427387904
          have hw := words_take l k.toNat
          (try rw [← hM] at hw)
          omega)
       | (rw [hM, List.take_of_length_le (by omega)]
          show (wordsS l).length ≤ 4611686018427387904
          have := wordsS_len l
          omega)
       | (have hw := words_take l k.toNat
          (try rw [← hM] at hw)
          have h0 := plS_le M l[k.toNat]!
          (try simp only [List.length_append, List.length_take, List.length_drop, List.length_cons, List.length_nil, subL_eq])
          omega)
       | (have hw := words_take l k.toNat
          (try rw [← hM] at hw)
          have hcl := congrArg List.length hC
          simp only [List.length_take, List.length_cons, List.length_nil] at hcl ⊢
          omega))
    | (conv => whnf
       first
        | done
        | exact trivial
        | with_reducible refine NilBr.mk (fun h => ?_) ?_
        | with_reducible refine w_andS ?_ ?_
        | with_reducible refine w_andL ?_ ?_
        | with_reducible refine w_kern (by kernel_rfl) ?_
        | with_reducible refine w_true ?_
        | with_reducible refine w_nd ?_ ?_
        | with_reducible refine w_in ?_ ?_
        | with_reducible refine w_and ?_ ?_
        | (with_reducible refine w_brN (fun h => ?_) (fun h => ?_) <;> (try dsimp only [cu, Prod.eta, List.nil_append] at h) <;> (try (exfalso; omega; done)))
        | (with_reducible refine w_brD (fun h => ?_) (fun h => ?_) <;> (try dsimp only [cu, Prod.eta, List.nil_append] at h) <;> (try (exfalso; omega; done)))
        | (with_reducible refine w_br (fun h => ?_) (fun h => ?_) <;> (try dsimp only [cu, Prod.eta, List.nil_append] at h) <;> (try (exfalso; omega; done)))
        | (intro yy (hy : Tag 15 ∧ _)
           obtain ⟨(k : Int), (M : List ByteArray), _⟩ := yy
           replace hy := hy.2
           dsimp only [cu, joinT, ckTys, gts, Prod.eta, List.nil_append] at hy
           obtain ⟨hk, hM⟩ := hy)
        | (intro yy (hy : Tag 16 ∧ _)
           obtain ⟨(k : Int), (C : List Int), _⟩ := yy
           replace hy := hy.2
           dsimp only [cu, joinT, ckTys, gts, Prod.eta, List.nil_append] at hy
           obtain ⟨hk, hC⟩ := hy)))
  all_goals (with_reducible refine Leaf.mk ?_
             (try dsimp only [cu, joinT, ckTys, gts, Prod.eta, List.nil_append] at *)
             first
             | (done)
             | (unfold wordsS
                rw [hM, List.take_of_length_le (by omega)])
             | (rw [hC, List.take_of_length_le (by rw [codesS_len]; omega)]))
abbrev tb17 : Tbl := (15, c_rbuild_ok) :: tb16
theorem tb17_ok : TblOk Try.prog tb17 := TblOk.cons rbuild_ok tb16_ok

end Go.Proofs.Ythomnlfmamagcaa
