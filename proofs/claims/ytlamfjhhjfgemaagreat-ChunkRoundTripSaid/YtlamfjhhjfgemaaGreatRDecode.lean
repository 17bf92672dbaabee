/- Contracts of dictionaries. -/
import Derived.Test.YtlamfjhhjfgemaaGreatUnpack
import Derived.Test.YtlamfjhhjfgemaaGreatAbsSq
namespace Go.Proofs.YtlamfjhhjfgemaaGreat
open Go.Abs
set_option linter.unusedVariables false
set_option linter.unusedSimpArgs false


def sLe (a b : ByteArray) : Bool := strLt a b || decide (a = b)
def wdAt (s : ByteArray) (a : Int) : ByteArray := s.extract (getR s a).2.1.toNat ((getR s a).2.1 + (getR s a).1).toNat
def wdGo (s : ByteArray) : Nat → Int → List ByteArray → List ByteArray × Int × Int
  | 0, a, M => (M, a, 0)
  | n + 1, a, M => if (getR s a).2.2 ≠ 0 then ([], 0, (getR s a).2.2) else if (getR s a).1 > s.size - (getR s a).2.1 then ([], 0, 10)
    else if 0 < M.length ∧ sLe (wdAt s a) M[M.length - 1]! = true then ([], 0, 2) else wdGo s n ((getR s a).2.1 + (getR s a).1) (M ++ [wdAt s a])
termination_by n _ _ => n
theorem wdGo_err {s : ByteArray} {n a : Int} {M : List ByteArray} (h : (M.length : Int) < n) (h1 : ¬ (getR s a).2.2 = 0) : wdGo s (n - M.length).toNat a M = ([], 0, (getR s a).2.2) := by
  rw [show (n - M.length).toNat = (n - M.length - 1).toNat + 1 by omega, wdGo, if_pos h1]
theorem wdGo_short {s : ByteArray} {n a : Int} {M : List ByteArray} (h : (M.length : Int) < n) (h1 : (getR s a).2.2 = 0) (h2 : (getR s a).1 > s.size - (getR s a).2.1) : wdGo s (n - M.length).toNat a M = ([], 0, 10) := by
  rw [show (n - M.length).toNat = (n - M.length - 1).toNat + 1 by omega, wdGo, if_neg (fun q => q h1), if_pos h2]
theorem wdGo_form {s : ByteArray} {n a : Int} {M : List ByteArray} (h : (M.length : Int) < n) (h1 : (getR s a).2.2 = 0) (h2 : ¬ (getR s a).1 > s.size - (getR s a).2.1) (h3 : 0 < M.length ∧ sLe (wdAt s a) M[M.length - 1]! = true) : wdGo s (n - M.length).toNat a M = ([], 0, 2) := by
  rw [show (n - M.length).toNat = (n - M.length - 1).toNat + 1 by omega, wdGo, if_neg (fun q => q h1), if_neg h2, if_pos h3]
theorem wdGo_next {s : ByteArray} {n a : Int} {M : List ByteArray} (h : (M.length : Int) < n) (h1 : (getR s a).2.2 = 0) (h2 : ¬ (getR s a).1 > s.size - (getR s a).2.1) (h3 : ¬ (0 < M.length ∧ sLe (wdAt s a) M[M.length - 1]! = true)) :
    wdGo s (n - M.length).toNat a M = wdGo s (n - (M ++ [wdAt s a]).length).toNat ((getR s a).2.1 + (getR s a).1) (M ++ [wdAt s a]) := by
  rw [show (n - M.length).toNat = (n - (M ++ [wdAt s a]).length).toNat + 1 by simp; omega, wdGo, if_neg (fun q => q h1), if_neg h2, if_neg h3]
theorem wdGo_end {s : ByteArray} {n a : Int} {M : List ByteArray} (h : ¬ (M.length : Int) < n) : wdGo s (n - M.length).toNat a M = (M, a, 0) := by
  rw [show (n - M.length).toNat = 0 by omega, wdGo]
theorem getR_ok {s : ByteArray} {a : Int} (h : (getR s a).2.2 = 0) : 0 ≤ a ∧ a < (getR s a).2.1 ∧ (getR s a).2.1 ≤ s.size := by
  have e : getR s a = ((getR s a).1, (getR s a).2.1, 0) := by
    rw [← h]
  obtain ⟨h1, h2, h3, h4, h5, h6, _⟩ := getR_sound e
  have := put_len (getR s a).1
  exact ⟨h1, by omega, h6⟩
theorem wdGo_ok {s : ByteArray} : ∀ (n : Nat) (a : Int) (M : List ByteArray), (wdGo s n a M).2.2 = 0 → (wdGo s n a M).1.length = M.length + n ∧ ((0 ≤ a ∧ a ≤ s.size) → 0 ≤ (wdGo s n a M).2.1 ∧ (wdGo s n a M).2.1 ≤ s.size)
  | 0, a, M, _ => by rw [wdGo]; exact ⟨rfl, fun h => h⟩
  | n + 1, a, M, h => by
    rw [wdGo] at h ⊢
    split at h
    · rename_i h1; exact absurd h h1
    · rename_i h1
      rw [if_neg h1]
      split at h
      · exact absurd h (by decide)
      · rename_i h2
        rw [if_neg h2]
        split at h
        · exact absurd h (by decide)
        · rename_i h3
          rw [if_neg h3]
          have hg := getR_ok (Decidable.not_not.1 h1)
          have hr := getR_rng s a
          obtain ⟨g1, g2⟩ := wdGo_ok n _ _ h
          exact ⟨by rw [g1]; simp; omega, fun _ => g2 ⟨by omega, by omega⟩⟩

abbrev c_words_ok : Ct := .fn [.str, .int .i64, .int .i64] (some (fun (s : ByteArray) (a0 : Int) (n : Int) => (s.size ≤ 4611686018427387904) ∧ (0 ≤ n ∧ n ≤ 1000000))) (fun (s : ByteArray) (a0 : Int) (n : Int) => .tup [.list .str, .int .i64, .int .i64] ((wdGo s n.toNat a0 []).1, (wdGo s n.toNat a0 []).2.1, (wdGo s n.toNat a0 []).2.2, ()))
set_option maxRecDepth 100000 in
set_option maxHeartbeats 4000000 in
theorem words_ok : CtOk Tryz.prog 79 c_words_ok := by
  refine CtOk.fn tb12_ok mixed [(0, 6, 5)] [] rfl rfl ?_
  rintro ⟨(s : ByteArray), (a0 : Int), (n : Int), _⟩ hpre
  replace hpre := hpre _ rfl
  dsimp only [cu] at hpre
  obtain ⟨hs, hn⟩ := hpre
  refine ⟨[(0, 4, LA.mk [.sl 1 (.int .i64), .lst 9 .str 9] (fun y => Tag 11 ∧ cu [.int .i64, .list .str] (fun (a : Int) (M : List ByteArray) => (wdGo s n.toNat a0 [] = wdGo s (n - M.length).toNat a M) ∧ ((M.length : Int) ≤ n)) y) (cu [.int .i64, .list .str] (fun (a : Int) (M : List ByteArray) => (n - (M.length : Int)).toNat)) (cu [.int .i64, .list .str] (fun (a : Int) (M : List ByteArray) => ([] : List (Nat × Nat × LA)))))], ?_⟩
  repeat' (first
    | (
 with_reducible refine Side.mk ⟨(⟨⟩ : Tag 11), ?_⟩
 dsimp only [cu, joinT, ckTys, gts, Prod.eta, List.nil_append]
 refine ⟨?_, ?_⟩
 · first
   | (rw [List.length_nil]; simp; done)
   | (
  rw [hM]
  exact wdGo_next (by omega) (by assumption) (by assumption) (fun q => by simp_all [sLe, wdAt]))
 · first
   | (simp only [List.length_nil]; omega)
   | (simp only [List.length_append, List.length_cons, List.length_nil]; omega))
    | (
 with_reducible refine Side.mk ?_
 (try dsimp only [cu, joinT, ckTys, gts, loK, hiK, Prod.eta, List.nil_append])
 first
 | (done)
 | (with_reducible rfl)
 | (omega)
 | (exact Eq.refl _)
 | (simp only [List.length_append, List.length_cons, List.length_nil]; omega)
 | (with_reducible assumption)
 | (
  have hr := getR_rng s a
  have hg := getR_ok (s := s) (a := a) (by assumption)
  omega)
 | (
  (try simp only [List.length_cons, List.length_nil])
  omega))
    | (conv => whnf
       first
        | done
        | exact trivial
        | with_reducible refine NilBr.mk (fun h => ?_) ?_
        | with_reducible first | refine w_andS ?_ ?_ | refine w_andL ?_ ?_ | refine w_kern (by kernel_rfl) ?_ | refine w_true ?_ | refine w_nd ?_ ?_ | refine w_in ?_ ?_ | refine w_and ?_ ?_
        | ((with_reducible first | refine w_brN (fun h => ?_) (fun h => ?_) | refine w_brD (fun h => ?_) (fun h => ?_) | refine w_br (fun h => ?_) (fun h => ?_)) <;> (try dsimp only [cu, Prod.eta, List.nil_append] at h) <;> (try (exfalso; omega; done)))
        | (
 intro yy (hy : Tag 11 ∧ _)
 obtain ⟨(a : Int), (M : List ByteArray), _⟩ := yy
 replace hy := hy.2
 dsimp only [cu, joinT, ckTys, gts, Prod.eta, List.nil_append] at hy
 obtain ⟨hM, hl⟩ := hy)))
  all_goals (
 with_reducible refine Leaf.mk ?_
 (try dsimp only [cu, joinT, ckTys, gts, Prod.eta, List.nil_append] at *)
 first
 | (done)
 | (rw [hM, wdGo_err (by omega) (by assumption)])
 | (rw [hM, wdGo_short (by omega) (by assumption) (by assumption)])
 | (rw [hM, wdGo_form (by omega) (by assumption) (by assumption) ⟨by omega, by simp_all [sLe, wdAt]⟩])
 | (rw [hM, wdGo_end (by assumption)])
 | (rw [hM, wdGo_end (by omega)]))
abbrev tb13 : Tbl := (79, c_words_ok) :: tb12
theorem tb13_ok : TblOk Tryz.prog tb13 := TblOk.cons words_ok tb12_ok


def wdN (n : Int) : Int := lenI (maxI (n - 1) 0)
def encWB (s : ByteArray) (ws : List ByteArray) : ByteArray := ws.foldl (fun s w => s ++ (ofInts (put (w.size : Int)) ++ w)) s
theorem encWB_step {s : ByteArray} {W : List ByteArray} {k : Int} (h : 0 ≤ k ∧ k < W.length) : encWB s (W.take (k + 1).toNat) = encWB s (W.take k.toNat) ++ (ofInts (put (W[k.toNat]!.size : Int)) ++ W[k.toNat]!) := by
  rw [show (k + 1).toNat = k.toNat + 1 by omega, List.take_succ_eq_append_getElem (by omega)]
  unfold encWB
  rw [List.foldl_append, getElem!_pos W k.toNat (by omega)]
  rfl
theorem encWB_size {B : Nat} : ∀ (W : List ByteArray) (s : ByteArray), (∀ w, w ∈ W → w.size ≤ B) → (encWB s W).size ≤ s.size + W.length * (B + 10)
  | [], s, _ => by simp [encWB]
  | w :: W, s, h => by
    have ih := encWB_size W (s ++ (ofInts (put (w.size : Int)) ++ w)) (fun v hv => h v (by simp [hv]))
    have h1 := h w (by simp)
    have h2 := put_len (w.size : Int)
    have e : (s ++ (ofInts (put (w.size : Int)) ++ w)).size = s.size + ((put (w.size : Int)).length + w.size) := by simp only [ByteArray.size_append, ofInts_len]
    rw [e] at ih
    show (encWB (s ++ (ofInts (put (w.size : Int)) ++ w)) W).size ≤ _
    simp only [List.length_cons, Nat.add_mul]
    omega
def encDict (l : List ByteArray) : ByteArray := if l.length > 4096 then ⟨#[]⟩ else encWB (ofInts (put ((wordsS l).length : Int))) (wordsS l) ++ (packR (codesS l) (wdN (wordsS l).length)).1
theorem wordsS_size {l : List ByteArray} {B : Nat} (h : ∀ w, w ∈ l → w.size ≤ B) : ∀ w, w ∈ wordsS l → w.size ≤ B := fun w hw => h w ((wordsS_mem l w).1 hw)
theorem encWB_take {l : List ByteArray} {v : Int} {k : Nat} (h : ∀ w, w ∈ l → w.size ≤ 1073741824) (hl : l.length ≤ 4096) : (encWB (ofInts (put v)) ((wordsS l).take k)).size ≤ 4398046552074 := by
  have h1 := encWB_size (B := 1073741824) ((wordsS l).take k) (ofInts (put v)) (fun w hw => wordsS_size h w (List.mem_of_mem_take hw))
  have h2 := put_len v
  have h3 := wordsS_len l
  rw [ofInts_len] at h1
  have h4 : ((wordsS l).take k).length ≤ 4096 := by simp; omega
  have h5 : ((wordsS l).take k).length * (1073741824 + 10) ≤ 4096 * (1073741824 + 10) := Nat.mul_le_mul_right _ h4
  omega
theorem codesS_rng (l : List ByteArray) : ∀ c, c ∈ codesS l → 0 ≤ c ∧ c ≤ (wordsS l).length := by
  intro c hc
  obtain ⟨s, _, rfl⟩ := List.mem_map.1 hc
  have := plS_le (wordsS l) s
  omega
theorem codesS_at (l : List ByteArray) (k : Nat) : 0 ≤ (codesS l)[k]! ∧ (codesS l)[k]! ≤ l.length := by
  by_cases h : k < (codesS l).length
  · have := codesS_rng l (codesS l)[k]! (by rw [getElem!_pos _ k h]; exact List.getElem_mem h)
    have := wordsS_len l
    omega
  · rw [getElem!_neg _ k h]; exact ⟨Int.le_refl _, by show (0 : Int) ≤ _; omega⟩
theorem codes_get {l : List ByteArray} {k : Int} (h : 0 ≤ k ∧ k < l.length) : (codesS l)[k.toNat]! = (plS (wordsS l) l[k.toNat]! : Int) := by
  rw [getElem!_pos (codesS l) k.toNat (by rw [codesS_len]; omega), getElem!_pos l k.toNat (by omega)]
  simp [codesS]
theorem codes_take {l : List ByteArray} {k : Int} (h : 0 ≤ k ∧ k < l.length) : (codesS l).take (k + 1).toNat = (codesS l).take k.toNat ++ [(plS (wordsS l) l[k.toNat]! : Int)] := by
  rw [show (k + 1).toNat = k.toNat + 1 by omega, List.take_succ_eq_append_getElem (by rw [codesS_len]; omega), ← codes_get h, getElem!_pos (codesS l) k.toNat (by rw [codesS_len]; omega)]
theorem words_step {l : List ByteArray} {k : Int} (h : 0 ≤ k ∧ k < l.length) : (l.take (k + 1).toNat).foldl insS [] = insS ((l.take k.toNat).foldl insS []) l[k.toNat]! := by
  rw [show (k + 1).toNat = k.toNat + 1 by omega, List.take_succ_eq_append_getElem (by omega), List.foldl_append, getElem!_pos l k.toNat (by omega)]
  rfl
theorem words_take (l : List ByteArray) (k : Nat) : ((l.take k).foldl insS []).length ≤ l.length := by
  have := wordsS_len (l.take k)
  unfold wordsS at this
  simp at this; omega
theorem insS_no {M : List ByteArray} {s : ByteArray} (h : ¬ ((plS M s : Int) = M.length) ) (h2 : M[(plS M s : Int).toNat]! = s) : insS M s = M := by
  rw [Int.toNat_natCast] at h2
  unfold insS
  rw [if_neg]
  rintro (q | q)
  · exact h (by omega)
  · exact q h2
theorem insS_yes {M : List ByteArray} {s : ByteArray} (h : (plS M s : Int) = M.length ∨ ¬ M[(plS M s : Int).toNat]! = s) : insS M s = M.take (plS M s) ++ [s] ++ M.drop (plS M s) := by
  rw [Int.toNat_natCast] at h
  unfold insS
  rw [if_pos]
  rcases h with q | q
  · exact .inl (by omega)
  · exact .inr q
theorem bsI_words (l : List ByteArray) (x : ByteArray) : bsI (compS (sortS l)) x = (plS (wordsS l) x : Int) := by rw [comp_words, bsI_plS (wordsS_asc l)]
theorem comp_len (l : List ByteArray) : (compS (sortS l)).length ≤ l.length := by rw [comp_words]; exact wordsS_len l
theorem packR_nil (w : Int) (h : 0 ≤ w ∧ w ≤ 64) : (packR [] w).1 = ⟨#[]⟩ := by
  have e : (needR ((([] : List Int).length : Nat) : Int) w).toNat = 0 := by
    obtain ⟨h1, _⟩ := need_eq (n := ((([] : List Int).length : Nat) : Int)) (w := w) ⟨⟨by simp, by simp⟩, h⟩
    rw [h1]; simp
  unfold packR
  rw [if_neg (by omega), if_neg (by simp), if_neg (by simp [anyWide]), e]
  rfl
theorem wdN_rng (n : Int) (h : n ≤ 9223372036854775807) : 0 ≤ wdN n ∧ wdN n ≤ 64 := by
  unfold wdN
  have hm : maxI (n - 1) 0 < 18446744073709551616 := by unfold maxI; split <;> omega
  exact lenI_le hm

abbrev c_place_ok : Ct := .fn [.list .str, .str] (some (fun (l : List ByteArray) (s : ByteArray) => (l.length ≤ 4611686018427387904))) (fun (l : List ByteArray) (s : ByteArray) => .d (.int .i64) (plS l s : Int))
set_option maxRecDepth 100000 in
set_option maxHeartbeats 4000000 in
theorem place_ok : CtOk Tryz.prog 95 c_place_ok := by
  refine CtOk.fn tb13_ok mixed [] [] rfl rfl ?_
  rintro ⟨(l : List ByteArray), (s : ByteArray), _⟩ hpre
  replace hpre := hpre _ rfl
  dsimp only [cu] at hpre
  have hl := hpre
  refine ⟨[(0, 4, LA.mk [.sl 5 (.int .i64)] (fun y => Tag 12 ∧ cu [.int .i64] (fun (i : Int) => (0 ≤ i ∧ i ≤ l.length) ∧ (∀ t : Nat, (t : Int) < i → strLt l[t]! s = true)) y) (cu [.int .i64] (fun (i : Int) => ((l.length : Int) - i).toNat)) (cu [.int .i64] (fun (i : Int) => ([] : List (Nat × Nat × LA)))))], ?_⟩
  repeat' (first
    | (
 with_reducible refine Side.mk ⟨(⟨⟩ : Tag 12), ?_⟩
 dsimp only [cu, joinT, ckTys, gts, Prod.eta, List.nil_append]
 refine ⟨?_, ?_⟩
 · omega
 · first
   | (intro t ht; omega)
   | (
  intro t ht
  rcases Int.lt_or_le (t : Int) i with q | q
  · exact hp t q
  · rw [show t = i.toNat by omega]; assumption))
    | (
 with_reducible refine Side.mk ?_
 (try dsimp only [cu, joinT, ckTys, gts, loK, hiK, Prod.eta, List.nil_append])
 first
 | (done)
 | (with_reducible rfl)
 | (omega)
 | (exact Eq.refl _)
 | (simp only [List.length_append, List.length_cons, List.length_nil]; omega))
    | (conv => whnf
       first
        | done
        | exact trivial
        | with_reducible refine NilBr.mk (fun h => ?_) ?_
        | with_reducible first | refine w_andS ?_ ?_ | refine w_andL ?_ ?_ | refine w_kern (by kernel_rfl) ?_ | refine w_true ?_ | refine w_nd ?_ ?_ | refine w_in ?_ ?_ | refine w_and ?_ ?_
        | ((with_reducible first | refine w_brN (fun h => ?_) (fun h => ?_) | refine w_brD (fun h => ?_) (fun h => ?_) | refine w_br (fun h => ?_) (fun h => ?_)) <;> (try dsimp only [cu, Prod.eta, List.nil_append] at h) <;> (try (exfalso; omega; done)))
        | (
 intro yy (hy : Tag 12 ∧ _)
 obtain ⟨(i : Int), _⟩ := yy
 replace hy := hy.2
 dsimp only [cu, joinT, ckTys, gts, Prod.eta, List.nil_append] at hy
 obtain ⟨hi, hp⟩ := hy)))
  all_goals (
 with_reducible refine Leaf.mk ?_
 (try dsimp only [cu, joinT, ckTys, gts, Prod.eta, List.nil_append] at *)
 first
 | (done)
 | (
  have e : i.toNat = l.length := by omega
  have e2 := plS_unique (k := i.toNat) (fun t ht => hp t (by omega)) (by omega) (.inl e)
  show (i : Int) = (plS l s : Int)
  omega)
 | (
  have e : ¬ strLt l[i.toNat]! s = true := by first | assumption | (simp_all; done)
  have e2 := plS_unique (k := i.toNat) (fun t ht => hp t (by omega)) (by omega) (.inr e)
  show (i : Int) = (plS l s : Int)
  omega))
abbrev tb14 : Tbl := (95, c_place_ok) :: tb13
theorem tb14_ok : TblOk Tryz.prog tb14 := TblOk.cons place_ok tb13_ok

abbrev c_rbuild_ok : Ct := .fn [.list .str] (some (fun (l : List ByteArray) => (l.length ≤ 1073741824))) (fun (l : List ByteArray) => .tup [.list .str, .list (.int .i64)] (wordsS l, codesS l, ()))
set_option maxRecDepth 100000 in
set_option maxHeartbeats 4000000 in
theorem rbuild_ok : CtOk Tryz.prog 83 c_rbuild_ok := by
  refine CtOk.fn tb14_ok mixed [] [] rfl rfl ?_
  rintro ⟨(l : List ByteArray), _⟩ hpre
  replace hpre := hpre _ rfl
  dsimp only [cu] at hpre
  have hl := hpre
  refine ⟨[(0, 6, LA.mk [.sl 14 (.int .i64), .lst 4 .str 9] (fun y => Tag 13 ∧ cu [.int .i64, .list .str] (fun (k : Int) (M : List ByteArray) => (0 ≤ k ∧ k ≤ l.length) ∧ (M = (l.take k.toNat).foldl insS [])) y) (cu [.int .i64, .list .str] (fun (k : Int) (M : List ByteArray) => ((l.length : Int) - k).toNat)) (cu [.int .i64, .list .str] (fun (k : Int) (M : List ByteArray) => ([] : List (Nat × Nat × LA))))), (0, 26, LA.mk [.sl 49 (.int .i64), .lst 9 (.int .i64) 3] (fun y => Tag 14 ∧ cu [.int .i64, .list (.int .i64)] (fun (k : Int) (C : List Int) => (0 ≤ k ∧ k ≤ l.length) ∧ (C = (codesS l).take k.toNat)) y) (cu [.int .i64, .list (.int .i64)] (fun (k : Int) (C : List Int) => ((l.length : Int) - k).toNat)) (cu [.int .i64, .list (.int .i64)] (fun (k : Int) (C : List Int) => ([] : List (Nat × Nat × LA)))))], ?_⟩
  repeat' (first
    | (
 with_reducible refine Side.mk ⟨(⟨⟩ : Tag 13), ?_⟩
 dsimp only [cu, joinT, ckTys, gts, Prod.eta, List.nil_append]
 refine ⟨?_, ?_⟩
 · omega
 · first
   | (rfl)
   | (
  have e := words_step (l := l) (k := k) (by omega)
  rw [← hM] at e
  first
  | (
   have e1 : ¬ ((plS M l[k.toNat]! : Int) = M.length) := by first | omega | (simp_all; done)
   have e2 : M[(plS M l[k.toNat]! : Int).toNat]! = l[k.toNat]! := by simp_all; done
   rw [e, insS_no e1 e2])
  | (
   have e1 : (plS M l[k.toNat]! : Int) = M.length ∨ ¬ M[(plS M l[k.toNat]! : Int).toNat]! = l[k.toNat]! := by first | (left; omega) | (right; assumption) | (right; simp_all; done)
   rw [e, insS_yes e1]
   have h0 := plS_le M l[k.toNat]!
   clear hM e e1
   simp only [subL_eq, List.nil_append, Int.toNat_natCast, List.append_nil, List.drop_zero]
   have e4 : ((M.length : Int) - (plS M l[k.toNat]! : Int)).toNat = M.length - plS M l[k.toNat]! := by omega
   (try rw [e4])
   first | (have e5 : plS M l[k.toNat]! = M.length := (by omega); rw [e5]; simp; done) | (have e5 : plS M l[k.toNat]! = 0 := (by omega); rw [e5]; simp; done) | (have e5 : (M.drop (plS M l[k.toNat]!)).take (M.length - plS M l[k.toNat]!) = M.drop (plS M l[k.toNat]!) := List.take_of_length_le (by simp); rw [e5]) | grind)))
    | (
 with_reducible refine Side.mk ⟨(⟨⟩ : Tag 14), ?_⟩
 dsimp only [cu, joinT, ckTys, gts, Prod.eta, List.nil_append]
 refine ⟨?_, ?_⟩
 · omega
 · first
   | (rfl)
   | (rw [codes_take (by omega), ← hC, show wordsS l = M by (unfold wordsS; rw [hM, List.take_of_length_le (by omega)])]))
    | (
 with_reducible refine Side.mk ?_
 (try dsimp only [cu, joinT, ckTys, gts, loK, hiK, Prod.eta, List.nil_append])
 first
 | (done)
 | (with_reducible rfl)
 | (omega)
 | (exact Eq.refl _)
 | (simp only [List.length_append, List.length_cons, List.length_nil]; omega)
 | (
  have hw := words_take l k.toNat
  (try rw [← hM] at hw)
  omega)
 | (
  show M.length ≤ 4611686018427387904
  have hw := words_take l k.toNat
  (try rw [← hM] at hw)
  omega)
 | (
  rw [hM, List.take_of_length_le (by omega)]
  show (wordsS l).length ≤ 4611686018427387904
  have := wordsS_len l
  omega)
 | (
  have hw := words_take l k.toNat
  (try rw [← hM] at hw)
  first
  | (
   have h0 := plS_le M l[k.toNat]!
   (try simp only [List.length_append, List.length_take, List.length_drop, List.length_cons, List.length_nil, subL_eq])
   omega)
  | (
   have hcl := congrArg List.length hC
   simp only [List.length_take, List.length_cons, List.length_nil] at hcl ⊢
   omega)))
    | (conv => whnf
       first
        | done
        | exact trivial
        | with_reducible refine NilBr.mk (fun h => ?_) ?_
        | with_reducible first | refine w_andS ?_ ?_ | refine w_andL ?_ ?_ | refine w_kern (by kernel_rfl) ?_ | refine w_true ?_ | refine w_nd ?_ ?_ | refine w_in ?_ ?_ | refine w_and ?_ ?_
        | ((with_reducible first | refine w_brN (fun h => ?_) (fun h => ?_) | refine w_brD (fun h => ?_) (fun h => ?_) | refine w_br (fun h => ?_) (fun h => ?_)) <;> (try dsimp only [cu, Prod.eta, List.nil_append] at h) <;> (try (exfalso; omega; done)))
        | (
 intro yy (hy : Tag 13 ∧ _)
 obtain ⟨(k : Int), (M : List ByteArray), _⟩ := yy
 replace hy := hy.2
 dsimp only [cu, joinT, ckTys, gts, Prod.eta, List.nil_append] at hy
 obtain ⟨hk, hM⟩ := hy)
        | (
 intro yy (hy : Tag 14 ∧ _)
 obtain ⟨(k : Int), (C : List Int), _⟩ := yy
 replace hy := hy.2
 dsimp only [cu, joinT, ckTys, gts, Prod.eta, List.nil_append] at hy
 obtain ⟨hk, hC⟩ := hy)))
  all_goals (
 with_reducible refine Leaf.mk ?_
 (try dsimp only [cu, joinT, ckTys, gts, Prod.eta, List.nil_append] at *)
 first
 | (done)
 | (
  unfold wordsS
  rw [hM, List.take_of_length_le (by omega)])
 | (rw [hC, List.take_of_length_le (by rw [codesS_len]; omega)]))
abbrev tb15 : Tbl := (83, c_rbuild_ok) :: tb14
theorem tb15_ok : TblOk Tryz.prog tb15 := TblOk.cons rbuild_ok tb14_ok


theorem size_le {l : List ByteArray} {B : Nat} (h : ∀ w, w ∈ l → w.size ≤ B) (k : Nat) : l[k]!.size ≤ B := by
  by_cases q : k < l.length
  · exact h _ (by rw [getElem!_pos l k q]; exact List.getElem_mem q)
  · rw [getElem!_neg l k q]; exact Nat.zero_le _
theorem words_sz {l : List ByteArray} (h : ∀ w, w ∈ l → w.size ≤ 1073741824) (k : Nat) : (wordsS l)[k]!.size ≤ 1073741824 := size_le (wordsS_size h) k
theorem enc_pack {l : List ByteArray} (h : wordsS l = []) : (packR (codesS l) (wdN (wordsS l).length)).1 = ⟨#[]⟩ := by
  have hl : l = [] := by
    cases l with
    | nil => rfl
    | cons a l =>
      have := (wordsS_mem (a :: l) a).2 (by simp)
      rw [h] at this; simp at this
  subst hl
  exact packR_nil _ (wdN_rng _ (by simp [wordsS]))
theorem bytes_app_nil (s : ByteArray) : s ++ ⟨#[]⟩ = s := by
  show s ++ ByteArray.empty = s
  simp
theorem ofInts_toInts (s : ByteArray) : ofInts (toInts s) = s := by
  apply toInts_inj
  exact toInts_ofInts (fun b hb => toInts_rng hb)
theorem packR_size (l : List Int) (w : Int) : (packR l w).1.size ≤ 32768 := by
  unfold packR
  split
  · exact Nat.zero_le _
  split
  · exact Nat.zero_le _
  split
  · exact Nat.zero_le _
  · rw [ofInts_len, gL_len]
    obtain ⟨h1, h2⟩ := need_eq (n := (l.length : Int)) (w := w) ⟨⟨by omega, by omega⟩, by omega⟩
    rw [h1]; omega
theorem codes_all {l : List ByteArray} {C : List Int} {k : Int} (hc : C.length = (codesS l).length) (hC : C.take k.toNat = (codesS l).take k.toNat) (h : ¬ k < (codesS l).length) : C = codesS l := by
  rw [List.take_of_length_le (by omega), List.take_of_length_le (by omega)] at hC
  exact hC
abbrev tb16 : Tbl := (74, c_sortS_ok) :: tb15
theorem tb16_ok : TblOk Tryz.prog tb16 := TblOk.cons sortS_ok tb15_ok

abbrev tb17 : Tbl := (75, c_compS_ok) :: tb16
theorem tb17_ok : TblOk Tryz.prog tb17 := TblOk.cons compS_ok tb16_ok

abbrev tb18 : Tbl := (76, c_bs_ok) :: tb17
theorem tb18_ok : TblOk Tryz.prog tb18 := TblOk.cons bs_ok tb17_ok

abbrev c_build_ok : Ct := .fn [.list .str] (some (fun (l : List ByteArray) => (l.length ≤ 1073741824))) (fun (l : List ByteArray) => .tup [.list .str, .list (.int .i64)] (wordsS l, codesS l, ()))
set_option maxRecDepth 100000 in
set_option maxHeartbeats 4000000 in
theorem build_ok : CtOk Tryz.prog 50 c_build_ok := by
  refine CtOk.fn tb18_ok mixed [(73, 2, 4000002)] [73] rfl rfl ?_
  rintro ⟨(l : List ByteArray), _⟩ hpre
  replace hpre := hpre _ rfl
  dsimp only [cu] at hpre
  have hl := hpre
  refine ⟨[(0, 12, LA.mk [.sl 19 (.int .i64), .ar 2 (.int .i64) 3] (fun y => Tag 15 ∧ cu [.int .i64, .list (.int .i64)] (fun (k : Int) (C : List Int) => (0 ≤ k ∧ k ≤ l.length) ∧ (C.length = l.length) ∧ (C.take k.toNat = (codesS l).take k.toNat)) y) (cu [.int .i64, .list (.int .i64)] (fun (k : Int) (C : List Int) => ((l.length : Int) - k).toNat)) (cu [.int .i64, .list (.int .i64)] (fun (k : Int) (C : List Int) => ([] : List (Nat × Nat × LA)))))], ?_⟩
  repeat' (first
    | (
 with_reducible refine Side.mk ⟨(⟨⟩ : Tag 15), ?_⟩
 dsimp only [cu, joinT, ckTys, gts, Prod.eta, List.nil_append]
 refine ⟨?_, ?_, ?_⟩
 · omega
 · first
   | (simp; done)
   | (simp; omega)
 · first
   | (rfl)
   | (
  exfalso
  simp_all; omega)
   | (rw [codes_take (by omega), show (k + 1).toNat = k.toNat + 1 by omega, take_set _ _ _ (by omega), hC, bsI_words]))
    | (
 with_reducible refine Side.mk ?_
 (try dsimp only [cu, joinT, ckTys, gts, loK, hiK, Prod.eta, List.nil_append])
 first
 | (done)
 | (with_reducible rfl)
 | (omega)
 | (exact Eq.refl _)
 | (simp only [List.length_append, List.length_cons, List.length_nil]; omega)
 | (
  have := comp_len l
  omega)
 | (simp [sortS_len]; done)
 | (rw [sortS_len]; omega)
 | (
  have := comp_len l
  show (compS (sortS l)).length < 4611686018427387904
  omega)
 | (simp; done)
 | (exfalso; simp_all; omega))
    | (conv => whnf
       first
        | done
        | exact trivial
        | with_reducible refine NilBr.mk (fun h => ?_) ?_
        | with_reducible first | refine w_andS ?_ ?_ | refine w_andL ?_ ?_ | refine w_kern (by kernel_rfl) ?_ | refine w_true ?_ | refine w_nd ?_ ?_ | refine w_in ?_ ?_ | refine w_and ?_ ?_
        | ((with_reducible first | refine w_brN (fun h => ?_) (fun h => ?_) | refine w_brD (fun h => ?_) (fun h => ?_) | refine w_br (fun h => ?_) (fun h => ?_)) <;> (try dsimp only [cu, Prod.eta, List.nil_append] at h) <;> (try (exfalso; omega; done)))
        | (
 intro yy (hy : Tag 15 ∧ _)
 obtain ⟨(k : Int), (C : List Int), _⟩ := yy
 replace hy := hy.2
 dsimp only [cu, joinT, ckTys, gts, Prod.eta, List.nil_append] at hy
 obtain ⟨hk, hcl, hC⟩ := hy)))
  all_goals (
 with_reducible refine Leaf.mk ?_
 (try dsimp only [cu, joinT, ckTys, gts, Prod.eta, List.nil_append] at *)
 first
 | (done)
 | (exact comp_words l)
 | (simp_all; done)
 | (
  have e : k.toNat = l.length := by omega
  rw [e, List.take_of_length_le (by omega), List.take_of_length_le (Nat.le_of_eq (codesS_len l))] at hC
  exact hC)
 | (simp_all [wordsS, codesS]; done))
abbrev tb19 : Tbl := (50, c_build_ok) :: tb18
theorem tb19_ok : TblOk Tryz.prog tb19 := TblOk.cons build_ok tb18_ok

abbrev c_dwidth_ok : Ct := .fn [.int .i64] (some (fun (n : Int) => (0 ≤ n ∧ n ≤ 4611686018427387904))) (fun (n : Int) => .d (.int .i64) (wdN n))
set_option maxRecDepth 100000 in
set_option maxHeartbeats 4000000 in
theorem dwidth_ok : CtOk Tryz.prog 52 c_dwidth_ok := by
  refine CtOk.fn tb19_ok mixed [] [] rfl rfl ?_
  rintro ⟨(n : Int), _⟩ hpre
  replace hpre := hpre _ rfl
  dsimp only [cu] at hpre
  have hn := hpre
  refine ⟨[], ?_⟩
  repeat' (first
    | (
 with_reducible refine Side.mk ?_
 (try dsimp only [cu, joinT, ckTys, gts, loK, hiK, Prod.eta, List.nil_append])
 first
 | (done)
 | (with_reducible rfl)
 | (omega)
 | (exact Eq.refl _)
 | (simp only [List.length_append, List.length_cons, List.length_nil]; omega)
 | (
  have : maxI (n - 1) 0 ≤ 4611686018427387904 ∧ 0 ≤ maxI (n - 1) 0 := by unfold maxI; split <;> omega
  rw [u64_id (by omega)]; omega))
    | (conv => whnf
       first
        | done
        | exact trivial
        | with_reducible refine NilBr.mk (fun h => ?_) ?_
        | with_reducible first | refine w_andS ?_ ?_ | refine w_andL ?_ ?_ | refine w_kern (by kernel_rfl) ?_ | refine w_true ?_ | refine w_nd ?_ ?_ | refine w_in ?_ ?_ | refine w_and ?_ ?_
        | ((with_reducible first | refine w_brN (fun h => ?_) (fun h => ?_) | refine w_brD (fun h => ?_) (fun h => ?_) | refine w_br (fun h => ?_) (fun h => ?_)) <;> (try dsimp only [cu, Prod.eta, List.nil_append] at h) <;> (try (exfalso; omega; done)))))
  all_goals (
 with_reducible refine Leaf.mk ?_
 (try dsimp only [cu, joinT, ckTys, gts, Prod.eta, List.nil_append] at *)
 first
 | (done)
 | (
  have : maxI (n - 1) 0 ≤ 4611686018427387904 ∧ 0 ≤ maxI (n - 1) 0 := by unfold maxI; split <;> omega
  rw [u64_id (by omega)]; rfl))
abbrev tb20 : Tbl := (52, c_dwidth_ok) :: tb19
theorem tb20_ok : TblOk Tryz.prog tb20 := TblOk.cons dwidth_ok tb19_ok

abbrev c_encode_ok : Ct := .fn [.list .str] (some (fun (l : List ByteArray) => (∀ w, w ∈ l → w.size ≤ 1073741824) ∧ (l.length ≤ 1073741824))) (fun (l : List ByteArray) => .d .str (encDict l))
set_option maxRecDepth 100000 in
set_option maxHeartbeats 4000000 in
theorem encode_ok : CtOk Tryz.prog 34 c_encode_ok := by
  refine CtOk.fn tb20_ok mixed [(0, 4, 3000005)] [] rfl rfl ?_
  rintro ⟨(l : List ByteArray), _⟩ hpre
  replace hpre := hpre _ rfl
  dsimp only [cu] at hpre
  obtain ⟨hb, hl⟩ := hpre
  refine ⟨[(0, 12, LA.mk [.sl 28 (.int .i64), .lst 5 (.int .u8) 5] (fun y => Tag 16 ∧ cu [.int .i64, .list (.int .u8)] (fun (k : Int) (M : List Int) => (0 ≤ k ∧ k ≤ (wordsS l).length) ∧ (ofInts M = encWB (ofInts (put ((wordsS l).length : Int))) ((wordsS l).take k.toNat))) y) (cu [.int .i64, .list (.int .u8)] (fun (k : Int) (M : List Int) => (((wordsS l).length : Int) - k).toNat)) (cu [.int .i64, .list (.int .u8)] (fun (k : Int) (M : List Int) => ([] : List (Nat × Nat × LA))))), (0, 26, LA.mk [.sl 47 (.int .i64), .ar 1 (.int .u64) 49] (fun y => Tag 17 ∧ cu [.int .i64, .list (.int .u64)] (fun (k : Int) (C : List Int) => (0 ≤ k ∧ k ≤ (codesS l).length) ∧ (C.length = (codesS l).length) ∧ (C.take k.toNat = (codesS l).take k.toNat)) y) (cu [.int .i64, .list (.int .u64)] (fun (k : Int) (C : List Int) => (((codesS l).length : Int) - k).toNat)) (cu [.int .i64, .list (.int .u64)] (fun (k : Int) (C : List Int) => ([] : List (Nat × Nat × LA)))))], ?_⟩
  repeat' (first
    | (
 with_reducible refine Side.mk ⟨(⟨⟩ : Tag 16), ?_⟩
 dsimp only [cu, joinT, ckTys, gts, Prod.eta, List.nil_append]
 refine ⟨?_, ?_⟩
 · omega
 · first
   | (rw [u64_id (by have := wordsS_len l; omega), ofInts_toInts]; rfl)
   | (
  have hw := wordsS_len l
  have hsz := words_sz hb k.toNat
  rw [encWB_step (by omega), ofInts_app, ofInts_app, hM, ofInts_toInts, ofInts_toInts, u64_id (by omega), ByteArray.append_assoc]))
    | (
 with_reducible refine Side.mk ⟨(⟨⟩ : Tag 17), ?_⟩
 dsimp only [cu, joinT, ckTys, gts, Prod.eta, List.nil_append]
 refine ⟨?_, ?_, ?_⟩
 · omega
 · first
   | (simp; done)
   | (simp; omega)
 · first
   | (rfl)
   | (
  have hc := codesS_at l k.toNat
  rw [show (k + 1).toNat = k.toNat + 1 by omega, take_set _ _ _ (by omega), hC, u64_id (by omega), List.take_succ_eq_append_getElem (by omega), getElem!_pos _ k.toNat (by omega)]))
    | (
 with_reducible refine Side.mk ?_
 (try dsimp only [cu, joinT, ckTys, gts, loK, hiK, Prod.eta, List.nil_append])
 first
 | (done)
 | (with_reducible rfl)
 | (omega)
 | (exact Eq.refl _)
 | (simp only [List.length_append, List.length_cons, List.length_nil]; omega)
 | (
  have := wordsS_len l
  omega)
 | (exact u64_wrap _)
 | (rw [toInts_len]; done)
 | (
  have hp2 := put_len (IntKind.u64.wrap ((wordsS l).length : Int))
  rw [toInts_len, ofInts_len]; omega)
 | (
  have hw := wordsS_len l
  have hsz := words_sz hb k.toNat
  first
  | (omega)
  | (rw [u64_id (by omega)]; omega)
  | (
   have hm := congrArg ByteArray.size hM
   rw [ofInts_len] at hm
   have ht := encWB_take (v := ((wordsS l).length : Int)) (k := k.toNat) hb (by omega)
   have hp := put_len ((wordsS l)[k.toNat]!.size : Int)
   have hp2 := put_len (IntKind.u64.wrap ((wordsS l)[k.toNat]!.size : Int))
   (try simp only [ofInts_len, toInts_len, List.length_append])
   omega))
 | (
  have := codesS_len l
  omega)
 | (
  have e := codes_all hcl hC (by assumption)
  subst e
  refine ⟨fun i => ?_, by rw [codesS_len]; omega⟩
  have := codesS_at l i
  omega)
 | (
  have hm := congrArg ByteArray.size hM
  rw [List.take_of_length_le (by omega)] at hm
  have ht := encWB_take (v := ((wordsS l).length : Int)) (k := (wordsS l).length) hb (by omega)
  rw [List.take_of_length_le (by omega)] at ht
  have := packR_size C (wdN ((wordsS l).length : Int))
  omega))
    | (conv => whnf
       first
        | done
        | exact trivial
        | with_reducible refine NilBr.mk (fun h => ?_) ?_
        | with_reducible first | refine w_andS ?_ ?_ | refine w_andL ?_ ?_ | refine w_kern (by kernel_rfl) ?_ | refine w_true ?_ | refine w_nd ?_ ?_ | refine w_in ?_ ?_ | refine w_and ?_ ?_
        | ((with_reducible first | refine w_brN (fun h => ?_) (fun h => ?_) | refine w_brD (fun h => ?_) (fun h => ?_) | refine w_br (fun h => ?_) (fun h => ?_)) <;> (try dsimp only [cu, Prod.eta, List.nil_append] at h) <;> (try (exfalso; omega; done)))
        | (
 intro yy (hy : Tag 16 ∧ _)
 obtain ⟨(k : Int), (M : List Int), _⟩ := yy
 replace hy := hy.2
 dsimp only [cu, joinT, ckTys, gts, Prod.eta, List.nil_append] at hy
 obtain ⟨hk, hM⟩ := hy)
        | (
 intro yy (hy : Tag 17 ∧ _)
 obtain ⟨(k : Int), (C : List Int), _⟩ := yy
 replace hy := hy.2
 dsimp only [cu, joinT, ckTys, gts, Prod.eta, List.nil_append] at hy
 obtain ⟨hk, hcl, hC⟩ := hy)))
  all_goals (
 with_reducible refine Leaf.mk ?_
 (try dsimp only [cu, joinT, ckTys, gts, Prod.eta, List.nil_append] at *)
 first
 | (done)
 | (
  have e0 : l.length > 4096 := by omega
  rw [encDict, if_pos e0])
 | (
  have e := codes_all hcl hC (by assumption)
  subst e
  rw [encDict, if_neg (by omega), hM, List.take_of_length_le (by omega)]))
abbrev tb21 : Tbl := (34, c_encode_ok) :: tb20
theorem tb21_ok : TblOk Tryz.prog tb21 := TblOk.cons encode_ok tb20_ok

abbrev c_rencode_ok : Ct := .fn [.list .str] (some (fun (l : List ByteArray) => (∀ w, w ∈ l → w.size ≤ 1073741824) ∧ (l.length ≤ 1073741824))) (fun (l : List ByteArray) => .d .str (encDict l))
set_option maxRecDepth 100000 in
set_option maxHeartbeats 4000000 in
theorem rencode_ok : CtOk Tryz.prog 63 c_rencode_ok := by
  refine CtOk.fn tb21_ok mixed [] [] rfl rfl ?_
  rintro ⟨(l : List ByteArray), _⟩ hpre
  replace hpre := hpre _ rfl
  dsimp only [cu] at hpre
  obtain ⟨hb, hl⟩ := hpre
  refine ⟨[(0, 12, LA.mk [.sl 27 (.int .i64), .sl 5 .str] (fun y => Tag 18 ∧ cu [.int .i64, .str] (fun (k : Int) (x : ByteArray) => (0 ≤ k ∧ k ≤ (wordsS l).length) ∧ (x = encWB (ofInts (put ((wordsS l).length : Int))) ((wordsS l).take k.toNat))) y) (cu [.int .i64, .str] (fun (k : Int) (x : ByteArray) => (((wordsS l).length : Int) - k).toNat)) (cu [.int .i64, .str] (fun (k : Int) (x : ByteArray) => ([] : List (Nat × Nat × LA))))), (0, 28, LA.mk [.sl 46 (.int .i64), .lst 8 (.int .u64) 49] (fun y => Tag 19 ∧ cu [.int .i64, .list (.int .u64)] (fun (k : Int) (C : List Int) => (0 ≤ k ∧ k ≤ (codesS l).length) ∧ (C = (codesS l).take k.toNat)) y) (cu [.int .i64, .list (.int .u64)] (fun (k : Int) (C : List Int) => (((codesS l).length : Int) - k).toNat)) (cu [.int .i64, .list (.int .u64)] (fun (k : Int) (C : List Int) => ([] : List (Nat × Nat × LA)))))], ?_⟩
  repeat' (first
    | (
 with_reducible refine Side.mk ⟨(⟨⟩ : Tag 18), ?_⟩
 dsimp only [cu, joinT, ckTys, gts, Prod.eta, List.nil_append]
 refine ⟨?_, ?_⟩
 · omega
 · first
   | (rw [u64_id (by have := wordsS_len l; omega)]; rfl)
   | (
  have hw := wordsS_len l
  have hsz := words_sz hb k.toNat
  rw [encWB_step (by omega), hM, u64_id (by omega)]))
    | (
 with_reducible refine Side.mk ⟨(⟨⟩ : Tag 19), ?_⟩
 dsimp only [cu, joinT, ckTys, gts, Prod.eta, List.nil_append]
 refine ⟨?_, ?_⟩
 · omega
 · first
   | (rfl)
   | (
  have hc := codesS_at l k.toNat
  rw [show (k + 1).toNat = k.toNat + 1 by omega, hC, u64_id (by omega), List.take_succ_eq_append_getElem (by omega), getElem!_pos _ k.toNat (by omega)]))
    | (
 with_reducible refine Side.mk ?_
 (try dsimp only [cu, joinT, ckTys, gts, loK, hiK, Prod.eta, List.nil_append])
 first
 | (done)
 | (with_reducible rfl)
 | (omega)
 | (exact Eq.refl _)
 | (simp only [List.length_append, List.length_cons, List.length_nil]; omega)
 | (
  have := wordsS_len l
  omega)
 | (exact u64_wrap _)
 | (
  have hw := wordsS_len l
  have hsz := words_sz hb k.toNat
  first
  | (omega)
  | (rw [u64_id (by omega)]; omega))
 | (
  have hcl := congrArg List.length hC
  simp only [List.length_take, List.length_cons, List.length_nil] at hcl ⊢
  have := codesS_len l
  omega)
 | (
  have := codesS_len l
  omega)
 | (
  have e : C = codesS l := by rw [hC, List.take_of_length_le (by omega)]
  subst e
  refine ⟨fun i => ?_, by rw [codesS_len]; omega⟩
  have := codesS_at l i
  omega)
 | (
  have hm := congrArg ByteArray.size hM
  first
  | (
   have ht := encWB_take (v := ((wordsS l).length : Int)) (k := k.toNat) hb (by omega)
   have hp := put_len (IntKind.u64.wrap ((wordsS l)[k.toNat]!.size : Int))
   have hsz := words_sz hb k.toNat
   simp only [ByteArray.size_append, ofInts_len]
   omega)
  | (
   rw [List.take_of_length_le (by omega)] at hm
   have ht := encWB_take (v := ((wordsS l).length : Int)) (k := (wordsS l).length) hb (by omega)
   rw [List.take_of_length_le (by omega)] at ht
   have hpk := packR_size C (lenI (IntKind.u64.wrap ((wordsS l).length - 1)))
   omega)))
    | (conv => whnf
       first
        | done
        | exact trivial
        | with_reducible refine NilBr.mk (fun h => ?_) ?_
        | with_reducible first | refine w_andS ?_ ?_ | refine w_andL ?_ ?_ | refine w_kern (by kernel_rfl) ?_ | refine w_true ?_ | refine w_nd ?_ ?_ | refine w_in ?_ ?_ | refine w_and ?_ ?_
        | ((with_reducible first | refine w_brN (fun h => ?_) (fun h => ?_) | refine w_brD (fun h => ?_) (fun h => ?_) | refine w_br (fun h => ?_) (fun h => ?_)) <;> (try dsimp only [cu, Prod.eta, List.nil_append] at h) <;> (try (exfalso; omega; done)))
        | (
 intro yy (hy : Tag 18 ∧ _)
 obtain ⟨(k : Int), (x : ByteArray), _⟩ := yy
 replace hy := hy.2
 dsimp only [cu, joinT, ckTys, gts, Prod.eta, List.nil_append] at hy
 obtain ⟨hk, hM⟩ := hy)
        | (
 intro yy (hy : Tag 19 ∧ _)
 obtain ⟨(k : Int), (C : List Int), _⟩ := yy
 replace hy := hy.2
 dsimp only [cu, joinT, ckTys, gts, Prod.eta, List.nil_append] at hy
 obtain ⟨hk, hC⟩ := hy)))
  all_goals (
 with_reducible refine Leaf.mk ?_
 (try dsimp only [cu, joinT, ckTys, gts, Prod.eta, List.nil_append] at *)
 first
 | (done)
 | (
  have e0 : l.length > 4096 := by omega
  rw [encDict, if_pos e0])
 | (rw [encDict, if_neg (by omega), hM, enc_pack (List.length_eq_zero_iff.1 (by omega)), bytes_app_nil, List.take_of_length_le (by omega)])
 | (
  rw [encDict, if_neg (by omega), hM, List.take_of_length_le (by omega), hC, List.take_of_length_le (by omega), u64_id (by have := wordsS_len l; omega)]
  rw [wdN, show maxI ((wordsS l).length - 1) 0 = (wordsS l).length - 1 by (unfold maxI; split <;> omega)]))
abbrev tb22 : Tbl := (63, c_rencode_ok) :: tb21
theorem tb22_ok : TblOk Tryz.prog tb22 := TblOk.cons rencode_ok tb21_ok


theorem u64_get (l : List Int) (j : Nat) : @getElem! (List Int) Nat Int _ _ (instInhabitedDen (.int .u64)) l j = l[j]! := rfl
def ixGo : List Bool → Bool → Int → Int
  | [], _, _ => -1
  | b :: r, v, k => if v = b then k else ixGo r v (k + 1)
theorem ixGo_step {l : List Bool} {v : Bool} {k : Int} (h : 0 ≤ k ∧ k < l.length) : ixGo (l.drop k.toNat) v k = if v = l[k.toNat]! then k else ixGo (l.drop (k + 1).toNat) v (k + 1) := by
  rw [drop_step l k h, ixGo]
theorem ixGo_end {l : List Bool} {v : Bool} {k : Int} (h : ¬ k < l.length) : ixGo (l.drop k.toNat) v k = -1 := by
  rw [List.drop_eq_nil_of_le (by omega)]; rfl
def hasB (l : List Bool) (v : Bool) : Bool := decide (ixGo l v 0 ≥ 0)
def usedL (k : Nat) (u : List Int) : List Bool := (List.range k).map fun j : Nat => u.any fun c => decide (c = (j : Int))
theorem usedL_len (k : Nat) (u : List Int) : (usedL k u).length = k := by simp [usedL]
theorem usedL_nil (k : Nat) : usedL k [] = List.replicate k false := by
  apply List.ext_getElem <;> simp [usedL]
theorem usedL_step {k : Nat} {u : List Int} {i : Int} (h : 0 ≤ i ∧ i < u.length) (hc : 0 ≤ u[i.toNat]! ∧ u[i.toNat]! < k) : (usedL k (u.take i.toNat)).set u[i.toNat]!.toNat true = usedL k (u.take (i + 1).toNat) := by
  rw [show (i + 1).toNat = i.toNat + 1 by omega, List.take_succ_eq_append_getElem (by omega), ← getElem!_pos u i.toNat (by omega)]
  apply List.ext_getElem
  · simp [usedL]
  · intro j h1 h2
    rw [List.getElem_set]
    simp only [usedL, List.getElem_map, List.getElem_range, List.any_append]
    by_cases q : u[i.toNat]!.toNat = j
    · rw [if_pos q]
      have : u[i.toNat]! = (j : Int) := by omega
      simp only [List.any_cons, List.any_nil, Bool.or_false, decide_eq_true this, Bool.or_true]
    · rw [if_neg q]
      have : ¬ u[i.toNat]! = (j : Int) := by omega
      simp only [List.any_cons, List.any_nil, Bool.or_false, decide_eq_false this]
def decC (W : List ByteArray) (u : List Int) : List ByteArray × Int := if (u.any fun c => decide (c ≥ (W.length : Int))) = true then ([], 2) else if hasB (usedL W.length u) false = true then ([], 2) else (u.map fun c => W[c.toNat]!, 0)
def decB (W : List ByteArray) (p : List Int × Int) : List ByteArray × Int := if ¬ p.2 = 0 then ([], p.2) else decC W p.1
def decA (s : ByteArray) (n : Int) (r : List ByteArray × Int × Int) : List ByteArray × Int := if ¬ r.2.2 = 0 then ([], r.2.2) else decB r.1 (unpackR (s.extract r.2.1.toNat s.size) n (wdN r.1.length))
def decDict (s : ByteArray) (n : Int) : List ByteArray × Int :=
  if n < 0 ∨ n > 4096 then ([], 4) else if ¬ (getR s 0).2.2 = 0 then ([], (getR s 0).2.2)
  else if (getR s 0).1 > n ∨ ((getR s 0).1 = 0 ∧ n > 0) then ([], 2) else decA s n (wdGo s (getR s 0).1.toNat (getR s 0).2.1 [])
theorem unpackR_len {s : ByteArray} {n w : Int} (h : (unpackR s n w).2 = 0) : (unpackR s n w).1.length = n.toNat := by
  unfold unpackR at h ⊢
  split at h
  · exact absurd h (by decide)
  · rename_i h1
    rw [if_neg h1]
    split at h
    · exact absurd h (by decide)
    · rename_i h2
      rw [if_neg h2]
      split at h
      · exact absurd h (by decide)
      · rename_i h3
        rw [if_neg h3]
        split at h
        · exact absurd h (by decide)
        · rename_i h4
          rw [if_neg h4, gL_len]
theorem unpackR_rng (s : ByteArray) (n w : Int) : ∀ i : Nat, 0 ≤ (unpackR s n w).1[i]! := by
  intro i
  have nil : ∀ l : List Int, l = [] → 0 ≤ l[i]! := fun l h => by subst h; exact Int.le_refl _
  unfold unpackR
  split
  · exact nil _ rfl
  split
  · exact nil _ rfl
  split
  · exact nil _ rfl
  split
  · exact nil _ rfl
  · by_cases h : i < n.toNat
    · rw [gL_get h]; exact (gs_lt (sbit01 s) _ _ _ _).1
    · rw [getElem!_neg _ _ (by rw [gL_len]; exact h)]; exact Int.le_refl _
theorem any_take {u : List Int} {i : Int} {K : Int} (h : 0 ≤ i ∧ i < u.length) (h1 : (u.take i.toNat).any (fun c => decide (c ≥ K)) = false) (h2 : ¬ u[i.toNat]! ≥ K) : (u.take (i + 1).toNat).any (fun c => decide (c ≥ K)) = false := by
  rw [show (i + 1).toNat = i.toNat + 1 by omega, List.take_succ_eq_append_getElem (by omega), ← getElem!_pos u i.toNat (by omega), List.any_append, h1]
  simp only [List.any_cons, List.any_nil, Bool.or_false, Bool.false_or, decide_eq_false_iff_not]
  exact h2
theorem any_now {u : List Int} {i : Int} {K : Int} (h : 0 ≤ i ∧ i < u.length) (h2 : u[i.toNat]! ≥ K) : u.any (fun c => decide (c ≥ K)) = true := by
  rw [List.any_eq_true]
  exact ⟨u[i.toNat]!, by rw [getElem!_pos u i.toNat (by omega)]; exact List.getElem_mem _, by simpa using h2⟩
theorem map_take {W : List ByteArray} {u : List Int} {i : Int} (h : 0 ≤ i ∧ i < u.length) : (u.take (i + 1).toNat).map (fun c => W[c.toNat]!) = (u.take i.toNat).map (fun c => W[c.toNat]!) ++ [W[u[i.toNat]!.toNat]!] := by
  rw [show (i + 1).toNat = i.toNat + 1 by omega, List.take_succ_eq_append_getElem (by omega), ← getElem!_pos u i.toNat (by omega), List.map_append]
  rfl
theorem decC_bad {W : List ByteArray} {u : List Int} {i : Int} (h : 0 ≤ i ∧ i < u.length) (h2 : u[i.toNat]! ≥ (W.length : Int)) : decC W u = ([], 2) := by rw [decC, if_pos (any_now h h2)]
theorem decC_un {W : List ByteArray} {u : List Int} {V : List Bool} (hV : V = usedL W.length u) (hA : u.any (fun c => decide (c ≥ (W.length : Int))) = false) (h : hasB V false = true) : decC W u = ([], 2) := by
  rw [decC, if_neg (by rw [hA]; decide), if_pos (by rw [← hV]; exact h)]
theorem decC_ok {W : List ByteArray} {u : List Int} {V : List Bool} (hV : V = usedL W.length u) (hA : u.any (fun c => decide (c ≥ (W.length : Int))) = false) (h : ¬ hasB V false = true) : decC W u = (u.map fun c => W[c.toNat]!, 0) := by
  rw [decC, if_neg (by rw [hA]; decide), if_neg (by rw [← hV]; exact h)]
theorem take_all {α : Type} {u : List α} {i : Int} (h : ¬ i < u.length) : u.take i.toNat = u := List.take_of_length_le (by omega)
theorem dec_a0 {s : ByteArray} {n : Int} {r : List ByteArray × Int × Int} (h : ¬ r.2.2 = 0) : decA s n r = ([], r.2.2) := by rw [decA, if_pos h]
theorem dec_a1 {s : ByteArray} {n : Int} {r : List ByteArray × Int × Int} (h : r.2.2 = 0) : decA s n r = decB r.1 (unpackR (s.extract r.2.1.toNat s.size) n (wdN r.1.length)) := by rw [decA, if_neg (fun q => q h)]
theorem dec_b0 {W : List ByteArray} {p : List Int × Int} (h : ¬ p.2 = 0) : decB W p = ([], p.2) := by rw [decB, if_pos h]
theorem dec_b1 {W : List ByteArray} {p : List Int × Int} (h : p.2 = 0) : decB W p = decC W p.1 := by rw [decB, if_neg (fun q => q h)]
theorem dec_0 {s : ByteArray} {n : Int} (h : n < 0 ∨ n > 4096) : decDict s n = ([], 4) := by rw [decDict, if_pos h]
theorem dec_1 {s : ByteArray} {n : Int} (h : ¬ (n < 0 ∨ n > 4096)) (h1 : ¬ (getR s 0).2.2 = 0) : decDict s n = ([], (getR s 0).2.2) := by rw [decDict, if_neg h, if_pos h1]
theorem dec_2 {s : ByteArray} {n : Int} (h : ¬ (n < 0 ∨ n > 4096)) (h1 : (getR s 0).2.2 = 0) (h2 : (getR s 0).1 > n ∨ ((getR s 0).1 = 0 ∧ n > 0)) : decDict s n = ([], 2) := by rw [decDict, if_neg h, if_neg (fun q => q h1), if_pos h2]
theorem dec_3 {s : ByteArray} {n : Int} (h : ¬ (n < 0 ∨ n > 4096)) (h1 : (getR s 0).2.2 = 0) (h2 : ¬ ((getR s 0).1 > n ∨ ((getR s 0).1 = 0 ∧ n > 0))) : decDict s n = decA s n (wdGo s (getR s 0).1.toNat (getR s 0).2.1 []) := by rw [decDict, if_neg h, if_neg (fun q => q h1), if_neg h2]
theorem wdGo_len (s : ByteArray) : ∀ (n : Nat) (a : Int) (M : List ByteArray), (wdGo s n a M).1.length ≤ M.length + n
  | 0, a, M => by rw [wdGo]; simp
  | n + 1, a, M => by
    rw [wdGo]
    split
    · simp
    split
    · simp
    split
    · simp
    · have := wdGo_len s n ((getR s a).2.1 + (getR s a).1) (M ++ [wdAt s a])
      simp at this; omega
theorem getR_end {s : ByteArray} (h : (getR s 0).2.2 = 0) : 0 ≤ (getR s 0).2.1 ∧ (getR s 0).2.1 ≤ s.size := by have := getR_ok h; omega
theorem wdGo_at {s : ByteArray} {n : Nat} (h0 : (getR s 0).2.2 = 0) (h : (wdGo s n (getR s 0).2.1 []).2.2 = 0) : 0 ≤ (wdGo s n (getR s 0).2.1 []).2.1 ∧ (wdGo s n (getR s 0).2.1 []).2.1 ≤ s.size := (wdGo_ok n _ _ h).2 (getR_end h0)

abbrev c_ix_ok : Ct := .fn [.list .bool, .bool] (some (fun (l : List Bool) (v : Bool) => (l.length ≤ 4611686018427387904))) (fun (l : List Bool) (v : Bool) => .d (.int .i64) (ixGo l v 0))
set_option maxRecDepth 100000 in
set_option maxHeartbeats 4000000 in
theorem ix_ok : CtOk Tryz.prog 92 c_ix_ok := by
  refine CtOk.fn tb22_ok mixed [] [] rfl rfl ?_
  rintro ⟨(l : List Bool), (v : Bool), _⟩ hpre
  replace hpre := hpre _ rfl
  dsimp only [cu] at hpre
  have hl := hpre
  refine ⟨[(0, 4, LA.mk [.sl 8 (.int .i64)] (fun y => Tag 20 ∧ cu [.int .i64] (fun (k : Int) => (0 ≤ k ∧ k ≤ l.length) ∧ (ixGo l v 0 = ixGo (l.drop k.toNat) v k)) y) (cu [.int .i64] (fun (k : Int) => ((l.length : Int) - k).toNat)) (cu [.int .i64] (fun (k : Int) => ([] : List (Nat × Nat × LA)))))], ?_⟩
  repeat' (first
    | (
 with_reducible refine Side.mk ⟨(⟨⟩ : Tag 20), ?_⟩
 dsimp only [cu, joinT, ckTys, gts, Prod.eta, List.nil_append]
 refine ⟨?_, ?_⟩
 · omega
 · first
   | (rfl)
   | (rw [hk2, ixGo_step (by omega), if_neg (by simp_all; done)]))
    | (
 with_reducible refine Side.mk ?_
 (try dsimp only [cu, joinT, ckTys, gts, loK, hiK, Prod.eta, List.nil_append])
 first
 | (done)
 | (with_reducible rfl)
 | (omega)
 | (exact Eq.refl _)
 | (simp only [List.length_append, List.length_cons, List.length_nil]; omega))
    | (conv => whnf
       first
        | done
        | exact trivial
        | with_reducible refine NilBr.mk (fun h => ?_) ?_
        | with_reducible first | refine w_andS ?_ ?_ | refine w_andL ?_ ?_ | refine w_kern (by kernel_rfl) ?_ | refine w_true ?_ | refine w_nd ?_ ?_ | refine w_in ?_ ?_ | refine w_and ?_ ?_
        | ((with_reducible first | refine w_brN (fun h => ?_) (fun h => ?_) | refine w_brD (fun h => ?_) (fun h => ?_) | refine w_br (fun h => ?_) (fun h => ?_)) <;> (try dsimp only [cu, Prod.eta, List.nil_append] at h) <;> (try (exfalso; omega; done)))
        | (
 intro yy (hy : Tag 20 ∧ _)
 obtain ⟨(k : Int), _⟩ := yy
 replace hy := hy.2
 dsimp only [cu, joinT, ckTys, gts, Prod.eta, List.nil_append] at hy
 obtain ⟨hk, hk2⟩ := hy)))
  all_goals (
 with_reducible refine Leaf.mk ?_
 (try dsimp only [cu, joinT, ckTys, gts, Prod.eta, List.nil_append] at *)
 first
 | (done)
 | (rw [hk2, ixGo_step (by omega), if_pos (by simp_all; done)])
 | (rw [hk2, ixGo_end (by omega)]))
abbrev tb23 : Tbl := (92, c_ix_ok) :: tb22
theorem tb23_ok : TblOk Tryz.prog tb23 := TblOk.cons ix_ok tb22_ok

abbrev c_hasb_ok : Ct := .fn [.list .bool, .bool] (some (fun (l : List Bool) (v : Bool) => (l.length ≤ 4611686018427387904))) (fun (l : List Bool) (v : Bool) => .d .bool (hasB l v))
set_option maxRecDepth 100000 in
set_option maxHeartbeats 4000000 in
theorem hasb_ok : CtOk Tryz.prog 81 c_hasb_ok := by
  refine CtOk.fn tb23_ok mixed [] [] rfl rfl ?_
  rintro ⟨(l : List Bool), (v : Bool), _⟩ hpre
  replace hpre := hpre _ rfl
  dsimp only [cu] at hpre
  have hl := hpre
  refine ⟨[], ?_⟩
  repeat' (first
    | (
 with_reducible refine Side.mk ?_
 (try dsimp only [cu, joinT, ckTys, gts, loK, hiK, Prod.eta, List.nil_append])
 first
 | (done)
 | (with_reducible rfl)
 | (omega)
 | (exact Eq.refl _)
 | (simp only [List.length_append, List.length_cons, List.length_nil]; omega)
 | (assumption))
    | (conv => whnf
       first
        | done
        | exact trivial
        | with_reducible refine NilBr.mk (fun h => ?_) ?_
        | with_reducible first | refine w_andS ?_ ?_ | refine w_andL ?_ ?_ | refine w_kern (by kernel_rfl) ?_ | refine w_true ?_ | refine w_nd ?_ ?_ | refine w_in ?_ ?_ | refine w_and ?_ ?_
        | ((with_reducible first | refine w_brN (fun h => ?_) (fun h => ?_) | refine w_brD (fun h => ?_) (fun h => ?_) | refine w_br (fun h => ?_) (fun h => ?_)) <;> (try dsimp only [cu, Prod.eta, List.nil_append] at h) <;> (try (exfalso; omega; done)))))
  all_goals (
 with_reducible refine Leaf.mk ?_
 (try dsimp only [cu, joinT, ckTys, gts, Prod.eta, List.nil_append] at *)
 first
 | (done)
 | (rfl))
abbrev tb24 : Tbl := (81, c_hasb_ok) :: tb23
theorem tb24_ok : TblOk Tryz.prog tb24 := TblOk.cons hasb_ok tb23_ok

abbrev c_decode_ok : Ct := .fn [.str, .int .i64] (some (fun (s : ByteArray) (n : Int) => (s.size ≤ 4611686018427387904))) (fun (s : ByteArray) (n : Int) => .tup [.list .str, .int .i64] ((decDict s n).1, (decDict s n).2, ()))
set_option maxRecDepth 100000 in
set_option maxHeartbeats 4000000 in
theorem decode_ok : CtOk Tryz.prog 58 c_decode_ok := by
  refine CtOk.fn tb24_ok mixed [] [] rfl rfl ?_
  rintro ⟨(s : ByteArray), (n : Int), _⟩ hpre
  replace hpre := hpre _ rfl
  dsimp only [cu] at hpre
  have hs := hpre
  refine ⟨[(0, 34, LA.mk [.sl 75 (.int .i64), .ar 0 .bool 4, .ar 1 .str 9] (fun y => Tag 21 ∧ cu [.int .i64, .list .bool, .list .str] (fun (i : Int) (V : List Bool) (O : List ByteArray) => (0 ≤ i ∧ i ≤ (unpackR (s.extract (wdGo s (getR s 0).1.toNat (getR s 0).2.1 []).2.1.toNat s.size) n (wdN (wdGo s (getR s 0).1.toNat (getR s 0).2.1 []).1.length)).1.length) ∧ (V = usedL (wdGo s (getR s 0).1.toNat (getR s 0).2.1 []).1.length ((unpackR (s.extract (wdGo s (getR s 0).1.toNat (getR s 0).2.1 []).2.1.toNat s.size) n (wdN (wdGo s (getR s 0).1.toNat (getR s 0).2.1 []).1.length)).1.take i.toNat)) ∧ (O.length = n.toNat) ∧ (O.take i.toNat = ((unpackR (s.extract (wdGo s (getR s 0).1.toNat (getR s 0).2.1 []).2.1.toNat s.size) n (wdN (wdGo s (getR s 0).1.toNat (getR s 0).2.1 []).1.length)).1.take i.toNat).map (fun c => (wdGo s (getR s 0).1.toNat (getR s 0).2.1 []).1[c.toNat]!)) ∧ (((unpackR (s.extract (wdGo s (getR s 0).1.toNat (getR s 0).2.1 []).2.1.toNat s.size) n (wdN (wdGo s (getR s 0).1.toNat (getR s 0).2.1 []).1.length)).1.take i.toNat).any (fun c => decide (c ≥ ((wdGo s (getR s 0).1.toNat (getR s 0).2.1 []).1.length : Int))) = false)) y) (cu [.int .i64, .list .bool, .list .str] (fun (i : Int) (V : List Bool) (O : List ByteArray) => (((unpackR (s.extract (wdGo s (getR s 0).1.toNat (getR s 0).2.1 []).2.1.toNat s.size) n (wdN (wdGo s (getR s 0).1.toNat (getR s 0).2.1 []).1.length)).1.length : Int) - i).toNat)) (cu [.int .i64, .list .bool, .list .str] (fun (i : Int) (V : List Bool) (O : List ByteArray) => ([] : List (Nat × Nat × LA)))))], ?_⟩
  repeat' (first
    | (
 with_reducible refine Side.mk ⟨(⟨⟩ : Tag 21), ?_⟩
 dsimp only [cu, joinT, ckTys, gts, Prod.eta, List.nil_append]
 refine ⟨?_, ?_, ?_, ?_, ?_⟩
 · omega
 · first
   | (
  rw [show ((0 : Int).toNat) = 0 from rfl, List.take_zero, usedL_nil]
  simp; done)
   | (
  have hur := unpackR_rng (s.extract (wdGo s (getR s 0).1.toNat (getR s 0).2.1 []).2.1.toNat s.size) n (wdN (wdGo s (getR s 0).1.toNat (getR s 0).2.1 []).1.length) i.toNat
  simp only [u64_get] at *
  have hg := getR_rng s 0
  have hwn := u64_id (n := n) (by omega)
  have hwl := wdGo_len s (getR s 0).1.toNat (getR s 0).2.1 []
  simp only [List.length_nil, Nat.zero_add] at hwl
  have hww := u64_id (n := ((wdGo s (getR s 0).1.toNat (getR s 0).2.1 []).1.length : Int)) (by omega)
  rw [hV, usedL_step (by omega) (by omega)])
 · first
   | (simp; done)
   | (simp; omega)
 · first
   | (
  rw [show ((0 : Int).toNat) = 0 from rfl, List.take_zero]
  rfl)
   | (
  have hu0 : (unpackR (s.extract (wdGo s (getR s 0).1.toNat (getR s 0).2.1 []).2.1.toNat s.size) n (wdN (wdGo s (getR s 0).1.toNat (getR s 0).2.1 []).1.length)).2 = 0 := by assumption
  have hul := unpackR_len hu0
  simp only [u64_get] at *
  rw [map_take (by omega), show (i + 1).toNat = i.toNat + 1 by omega, take_set _ _ _ (by omega), hO])
 · first
   | (
  rw [show ((0 : Int).toNat) = 0 from rfl, List.take_zero]
  rfl)
   | (
  have hg := getR_rng s 0
  have hwn := u64_id (n := n) (by omega)
  have hwl := wdGo_len s (getR s 0).1.toNat (getR s 0).2.1 []
  simp only [List.length_nil, Nat.zero_add] at hwl
  have hww := u64_id (n := ((wdGo s (getR s 0).1.toNat (getR s 0).2.1 []).1.length : Int)) (by omega)
  simp only [u64_get] at *
  exact any_take (by omega) hA (by omega)))
    | (
 with_reducible refine Side.mk ?_
 (try dsimp only [cu, joinT, ckTys, gts, loK, hiK, Prod.eta, List.nil_append])
 first
 | (done)
 | (with_reducible rfl)
 | (omega)
 | (exact Eq.refl _)
 | (simp only [List.length_append, List.length_cons, List.length_nil]; omega)
 | (
  have hg := getR_rng s 0
  have hwn := u64_id (n := n) (by omega)
  omega)
 | (exact ⟨by omega, by omega⟩)
 | (exact wdGo_at (by assumption) (by assumption))
 | (exact ⟨by omega, by have hg := getR_rng s 0; have hwn := u64_id (n := n) (by omega); omega⟩)
 | (
  have hg := getR_rng s 0
  have hwn := u64_id (n := n) (by omega)
  first
  | (exact ⟨hs, by omega, by omega⟩)
  | (
   have hwl := wdGo_len s (getR s 0).1.toNat (getR s 0).2.1 []
   simp only [List.length_nil, Nat.zero_add] at hwl
   have hww := u64_id (n := ((wdGo s (getR s 0).1.toNat (getR s 0).2.1 []).1.length : Int)) (by omega)
   first
   | (omega)
   | (exact ⟨by omega, by omega⟩)))
 | (
  have := wdGo_at (s := s) (by assumption) (by assumption : (wdGo s (getR s 0).1.toNat (getR s 0).2.1 []).2.2 = 0)
  omega)
 | (simp only [ByteArray.size_extract]; omega)
 | (
  have hur := unpackR_rng (s.extract (wdGo s (getR s 0).1.toNat (getR s 0).2.1 []).2.1.toNat s.size) n (wdN (wdGo s (getR s 0).1.toNat (getR s 0).2.1 []).1.length) i.toNat
  simp only [u64_get] at *
  omega)
 | (
  have hg := getR_rng s 0
  have hwn := u64_id (n := n) (by omega)
  have hwl := wdGo_len s (getR s 0).1.toNat (getR s 0).2.1 []
  simp only [List.length_nil, Nat.zero_add] at hwl
  have hww := u64_id (n := ((wdGo s (getR s 0).1.toNat (getR s 0).2.1 []).1.length : Int)) (by omega)
  first
  | (
   have hu0 : (unpackR (s.extract (wdGo s (getR s 0).1.toNat (getR s 0).2.1 []).2.1.toNat s.size) n (wdN (wdGo s (getR s 0).1.toNat (getR s 0).2.1 []).1.length)).2 = 0 := by assumption
   have hul := unpackR_len hu0
   have hur := unpackR_rng (s.extract (wdGo s (getR s 0).1.toNat (getR s 0).2.1 []).2.1.toNat s.size) n (wdN (wdGo s (getR s 0).1.toNat (getR s 0).2.1 []).1.length) i.toNat
   simp only [u64_get] at *
   first
   | (rw [hV, usedL_len]; omega)
   | (omega))
  | (rw [hV, usedL_len]; omega)))
    | (conv => whnf
       first
        | done
        | exact trivial
        | with_reducible refine NilBr.mk (fun h => ?_) ?_
        | with_reducible first | refine w_andS ?_ ?_ | refine w_andL ?_ ?_ | refine w_kern (by kernel_rfl) ?_ | refine w_true ?_ | refine w_nd ?_ ?_ | refine w_in ?_ ?_ | refine w_and ?_ ?_
        | ((with_reducible first | refine w_brN (fun h => ?_) (fun h => ?_) | refine w_brD (fun h => ?_) (fun h => ?_) | refine w_br (fun h => ?_) (fun h => ?_)) <;> (try dsimp only [cu, Prod.eta, List.nil_append] at h) <;> (try (exfalso; omega; done)))
        | (
 intro yy (hy : Tag 21 ∧ _)
 obtain ⟨(i : Int), (V : List Bool), (O : List ByteArray), _⟩ := yy
 replace hy := hy.2
 dsimp only [cu, joinT, ckTys, gts, Prod.eta, List.nil_append] at hy
 obtain ⟨hi, hV, hOl, hO, hA⟩ := hy)))
  all_goals (
 with_reducible refine Leaf.mk ?_
 (try dsimp only [cu, joinT, ckTys, gts, Prod.eta, List.nil_append] at *)
 first
 | (done)
 | (
  have q1 : n < 0 ∨ n > 4096 := by first | omega | (simp_all; done)
  rw [dec_0 q1])
 | (
  have q1 : ¬ (n < 0 ∨ n > 4096) := by first | omega | (simp_all; done)
  have q2 : ¬ (getR s 0).2.2 = 0 := by assumption
  rw [dec_1 q1 q2])
 | (
  have hg := getR_rng s 0
  have hwn := u64_id (n := n) (by omega)
  first
  | (
   have q1 : ¬ (n < 0 ∨ n > 4096) := by first | omega | (simp_all; done)
   have q2 : (getR s 0).2.2 = 0 := by first | assumption | omega | (simp_all; done)
   first
   | (
    have q3 : (getR s 0).1 > n ∨ ((getR s 0).1 = 0 ∧ n > 0) := by first | omega | (simp_all; done)
    rw [dec_2 q1 q2 q3])
   | (
    have q3 : ¬ ((getR s 0).1 > n ∨ ((getR s 0).1 = 0 ∧ n > 0)) := by first | omega | (simp_all; omega) | (simp_all; done)
    rw [dec_3 q1 q2 q3]
    first
    | (
     have q4 : ¬ (wdGo s (getR s 0).1.toNat (getR s 0).2.1 []).2.2 = 0 := by assumption
     rw [dec_a0 q4])
    | (
     have q4 : (wdGo s (getR s 0).1.toNat (getR s 0).2.1 []).2.2 = 0 := by first | assumption | omega
     rw [dec_a1 q4]
     have q5 : ¬ (unpackR (s.extract (wdGo s (getR s 0).1.toNat (getR s 0).2.1 []).2.1.toNat s.size) n (wdN (wdGo s (getR s 0).1.toNat (getR s 0).2.1 []).1.length)).2 = 0 := by assumption
     rw [dec_b0 q5])))
  | (
   have hwl := wdGo_len s (getR s 0).1.toNat (getR s 0).2.1 []
   simp only [List.length_nil, Nat.zero_add] at hwl
   have hww := u64_id (n := ((wdGo s (getR s 0).1.toNat (getR s 0).2.1 []).1.length : Int)) (by omega)
   have q1 : ¬ (n < 0 ∨ n > 4096) := by first | omega | (simp_all; done)
   have q2 : (getR s 0).2.2 = 0 := by first | assumption | omega | (simp_all; done)
   have q3 : ¬ ((getR s 0).1 > n ∨ ((getR s 0).1 = 0 ∧ n > 0)) := by first | omega | (simp_all; omega) | (simp_all; done)
   rw [dec_3 q1 q2 q3]
   have q4 : (wdGo s (getR s 0).1.toNat (getR s 0).2.1 []).2.2 = 0 := by first | assumption | omega
   rw [dec_a1 q4]
   have q5 : (unpackR (s.extract (wdGo s (getR s 0).1.toNat (getR s 0).2.1 []).2.1.toNat s.size) n (wdN (wdGo s (getR s 0).1.toNat (getR s 0).2.1 []).1.length)).2 = 0 := by first | assumption | omega
   rw [dec_b1 q5]
   have q6 : (unpackR (s.extract (wdGo s (getR s 0).1.toNat (getR s 0).2.1 []).2.1.toNat s.size) n (wdN (wdGo s (getR s 0).1.toNat (getR s 0).2.1 []).1.length)).1[i.toNat]! ≥ ((wdGo s (getR s 0).1.toNat (getR s 0).2.1 []).1.length : Int) := by simp only [u64_get] at *; omega
   rw [decC_bad (i := i) (by omega) q6]))
 | (
  have ta0 : ¬ i < ((unpackR (s.extract (wdGo s (getR s 0).1.toNat (getR s 0).2.1 []).2.1.toNat s.size) n (wdN (wdGo s (getR s 0).1.toNat (getR s 0).2.1 []).1.length)).1.length : Int) := by assumption
  have ta := take_all ta0
  rw [ta] at hV hA hO
  first
  | (
   have hg := getR_rng s 0
   have hwn := u64_id (n := n) (by omega)
   have q1 : ¬ (n < 0 ∨ n > 4096) := by first | omega | (simp_all; done)
   have q2 : (getR s 0).2.2 = 0 := by first | assumption | omega | (simp_all; done)
   have q3 : ¬ ((getR s 0).1 > n ∨ ((getR s 0).1 = 0 ∧ n > 0)) := by first | omega | (simp_all; omega) | (simp_all; done)
   rw [dec_3 q1 q2 q3]
   have q4 : (wdGo s (getR s 0).1.toNat (getR s 0).2.1 []).2.2 = 0 := by first | assumption | omega
   rw [dec_a1 q4]
   have q5 : (unpackR (s.extract (wdGo s (getR s 0).1.toNat (getR s 0).2.1 []).2.1.toNat s.size) n (wdN (wdGo s (getR s 0).1.toNat (getR s 0).2.1 []).1.length)).2 = 0 := by first | assumption | omega
   rw [dec_b1 q5]
   have q6 : hasB V false = true := by assumption
   rw [decC_un hV hA q6])
  | (
   have hu0 : (unpackR (s.extract (wdGo s (getR s 0).1.toNat (getR s 0).2.1 []).2.1.toNat s.size) n (wdN (wdGo s (getR s 0).1.toNat (getR s 0).2.1 []).1.length)).2 = 0 := by assumption
   have hul := unpackR_len hu0
   have hg := getR_rng s 0
   have hwn := u64_id (n := n) (by omega)
   have q1 : ¬ (n < 0 ∨ n > 4096) := by first | omega | (simp_all; done)
   have q2 : (getR s 0).2.2 = 0 := by first | assumption | omega | (simp_all; done)
   have q3 : ¬ ((getR s 0).1 > n ∨ ((getR s 0).1 = 0 ∧ n > 0)) := by first | omega | (simp_all; omega) | (simp_all; done)
   rw [dec_3 q1 q2 q3]
   have q4 : (wdGo s (getR s 0).1.toNat (getR s 0).2.1 []).2.2 = 0 := by first | assumption | omega
   rw [dec_a1 q4]
   have q5 : (unpackR (s.extract (wdGo s (getR s 0).1.toNat (getR s 0).2.1 []).2.1.toNat s.size) n (wdN (wdGo s (getR s 0).1.toNat (getR s 0).2.1 []).1.length)).2 = 0 := by first | assumption | omega
   rw [dec_b1 q5]
   have q6 : ¬ hasB V false = true := by simp_all; done
   rw [decC_ok hV hA q6]
   (try rw [List.take_of_length_le (by omega)] at hO)
   first | done | exact hO | rfl)))
abbrev tb25 : Tbl := (58, c_decode_ok) :: tb24
theorem tb25_ok : TblOk Tryz.prog tb25 := TblOk.cons decode_ok tb24_ok


abbrev EMP : ByteArray := ⟨#[]⟩
def vKnown (t : Int) : Bool := decide (1 ≤ t) && decide (t ≤ 5)
def vPermitted (t : Int) (v : Val) : Bool :=
  if t = 2 then decide (v.2.1 = 0) || decide (v.2.1 = 1) else if t = 4 then decide (-719162 ≤ v.2.1) && decide (v.2.1 ≤ 2932896)
  else if t = 5 then decide (-999999999999999999 ≤ v.2.1) && decide (v.2.1 ≤ 999999999999999999) else if t = 3 then decide (v.2.2.size ≤ 64) else true
def vCheck (c : Col) (v : Val) : Int :=
  if vKnown c.2.1 = false then 1 else if (v.1 = true ∨ c.2.1 ≠ 3) ∧ v.2.2 ≠ EMP then 11 else if (v.1 = true ∨ c.2.1 = 3) ∧ v.2.1 ≠ 0 then 11
  else if v.1 = true ∧ c.2.2.2 = false then 12 else if v.1 = false ∧ vPermitted c.2.1 v = false then 4 else 0
def intCmp (a b : Int) : Int := if a < b then -1 else if a > b then 1 else 0
def strCmp (a b : ByteArray) : Int := if strLt a b then -1 else if a = b then 0 else 1
def vCompare (t : Int) (a b : Val) : Int :=
  if a.1 = true ∧ b.1 = true then 0 else if a.1 = true then -1 else if b.1 = true then 1 else if t = 3 then strCmp a.2.2 b.2.2 else intCmp a.2.1 b.2.1
abbrev c_known_ok : Ct := .fn [.int .i64] (none) (fun (t : Int) => .d .bool (vKnown t))
set_option maxRecDepth 100000 in
set_option maxHeartbeats 4000000 in
theorem known_ok : CtOk Tryz.prog 27 c_known_ok := by
  refine CtOk.fn tb25_ok mixed [] [] rfl rfl ?_
  rintro ⟨(t : Int), _⟩ -
  refine ⟨[], ?_⟩
  repeat' (first
    | (
 with_reducible refine Side.mk ?_
 (try dsimp only [cu, joinT, ckTys, gts, loK, hiK, Prod.eta, List.nil_append])
 first
 | (done)
 | (with_reducible rfl)
 | (omega)
 | (exact Eq.refl _)
 | (simp only [List.length_append, List.length_cons, List.length_nil]; omega)
 | (grind))
    | (conv => whnf
       first
        | done
        | exact trivial
        | with_reducible refine NilBr.mk (fun h => ?_) ?_
        | with_reducible first | refine w_andS ?_ ?_ | refine w_andL ?_ ?_ | refine w_kern (by kernel_rfl) ?_ | refine w_true ?_ | refine w_nd ?_ ?_ | refine w_in ?_ ?_ | refine w_and ?_ ?_
        | ((with_reducible first | refine w_brN (fun h => ?_) (fun h => ?_) | refine w_brD (fun h => ?_) (fun h => ?_) | refine w_br (fun h => ?_) (fun h => ?_)) <;> (try dsimp only [cu, Prod.eta, List.nil_append] at h) <;> (try (exfalso; omega; done)))))
  all_goals (
 with_reducible refine Leaf.mk ?_
 (try dsimp only [cu, joinT, ckTys, gts, Prod.eta, List.nil_append] at *)
 first
 | (done)
 | (grind [vKnown]))
abbrev tb26 : Tbl := (27, c_known_ok) :: tb25
theorem tb26_ok : TblOk Tryz.prog tb26 := TblOk.cons known_ok tb25_ok

abbrev c_permitted_ok : Ct := .fn [.int .i64, tVal] (none) (fun (t : Int) (v : Val) => .d .bool (vPermitted t v))
set_option maxRecDepth 100000 in
set_option maxHeartbeats 4000000 in
theorem permitted_ok : CtOk Tryz.prog 28 c_permitted_ok := by
  refine CtOk.fn tb26_ok mixed [] [] rfl rfl ?_
  rintro ⟨(t : Int), (v : Val), _⟩ -
  refine ⟨[], ?_⟩
  repeat' (first
    | (
 with_reducible refine Side.mk ?_
 (try dsimp only [cu, joinT, ckTys, gts, loK, hiK, Prod.eta, List.nil_append])
 first
 | (done)
 | (with_reducible rfl)
 | (omega)
 | (exact Eq.refl _)
 | (simp only [List.length_append, List.length_cons, List.length_nil]; omega)
 | (grind))
    | (conv => whnf
       first
        | done
        | exact trivial
        | with_reducible refine NilBr.mk (fun h => ?_) ?_
        | with_reducible first | refine w_andS ?_ ?_ | refine w_andL ?_ ?_ | refine w_kern (by kernel_rfl) ?_ | refine w_true ?_ | refine w_nd ?_ ?_ | refine w_in ?_ ?_ | refine w_and ?_ ?_
        | ((with_reducible first | refine w_brN (fun h => ?_) (fun h => ?_) | refine w_brD (fun h => ?_) (fun h => ?_) | refine w_br (fun h => ?_) (fun h => ?_)) <;> (try dsimp only [cu, Prod.eta, List.nil_append] at h) <;> (try (exfalso; omega; done)))))
  all_goals (
 with_reducible refine Leaf.mk ?_
 (try dsimp only [cu, joinT, ckTys, gts, Prod.eta, List.nil_append] at *)
 first
 | (done)
 | (grind [vPermitted]))
abbrev tb27 : Tbl := (28, c_permitted_ok) :: tb26
theorem tb27_ok : TblOk Tryz.prog tb27 := TblOk.cons permitted_ok tb26_ok

abbrev c_vCheck_ok : Ct := .fn [tCol, tVal] (none) (fun (c : Col) (v : Val) => .d (.int .i64) (vCheck c v))
set_option maxRecDepth 100000 in
set_option maxHeartbeats 4000000 in
theorem vCheck_ok : CtOk Tryz.prog 14 c_vCheck_ok := by
  refine CtOk.fn tb27_ok mixed [] [] rfl rfl ?_
  rintro ⟨(c : Col), (v : Val), _⟩ -
  refine ⟨[], ?_⟩
  repeat' (first
    | (
 with_reducible refine Side.mk ?_
 (try dsimp only [cu, joinT, ckTys, gts, loK, hiK, Prod.eta, List.nil_append])
 first
 | (done)
 | (with_reducible rfl)
 | (omega)
 | (exact Eq.refl _)
 | (simp only [List.length_append, List.length_cons, List.length_nil]; omega)
 | (grind))
    | (conv => whnf
       first
        | done
        | exact trivial
        | with_reducible refine NilBr.mk (fun h => ?_) ?_
        | with_reducible first | refine w_andS ?_ ?_ | refine w_andL ?_ ?_ | refine w_kern (by kernel_rfl) ?_ | refine w_true ?_ | refine w_nd ?_ ?_ | refine w_in ?_ ?_ | refine w_and ?_ ?_
        | ((with_reducible first | refine w_brN (fun h => ?_) (fun h => ?_) | refine w_brD (fun h => ?_) (fun h => ?_) | refine w_br (fun h => ?_) (fun h => ?_)) <;> (try dsimp only [cu, Prod.eta, List.nil_append] at h) <;> (try (exfalso; omega; done)))))
  all_goals (
 with_reducible refine Leaf.mk ?_
 (try dsimp only [cu, joinT, ckTys, gts, Prod.eta, List.nil_append] at *)
 first
 | (done)
 | (grind [vCheck, vKnown, vPermitted, vCompare, intCmp]))
abbrev tb28 : Tbl := (14, c_vCheck_ok) :: tb27
theorem tb28_ok : TblOk Tryz.prog tb28 := TblOk.cons vCheck_ok tb27_ok

abbrev c_isNaNs_ok : Ct := .fn [.str] (none) (fun (a : ByteArray) => .d .bool false)
set_option maxRecDepth 100000 in
set_option maxHeartbeats 4000000 in
theorem isNaNs_ok : CtOk Tryz.prog 106 c_isNaNs_ok := by
  refine CtOk.fn tb28_ok mixed [] [] rfl rfl ?_
  rintro ⟨(a : ByteArray), _⟩ -
  refine ⟨[], ?_⟩
  repeat' (first
    | (
 with_reducible refine Side.mk ?_
 (try dsimp only [cu, joinT, ckTys, gts, loK, hiK, Prod.eta, List.nil_append])
 first
 | (done)
 | (with_reducible rfl)
 | (omega)
 | (exact Eq.refl _)
 | (simp only [List.length_append, List.length_cons, List.length_nil]; omega)
 | (grind))
    | (conv => whnf
       first
        | done
        | exact trivial
        | with_reducible refine NilBr.mk (fun h => ?_) ?_
        | with_reducible first | refine w_andS ?_ ?_ | refine w_andL ?_ ?_ | refine w_kern (by kernel_rfl) ?_ | refine w_true ?_ | refine w_nd ?_ ?_ | refine w_in ?_ ?_ | refine w_and ?_ ?_
        | ((with_reducible first | refine w_brN (fun h => ?_) (fun h => ?_) | refine w_brD (fun h => ?_) (fun h => ?_) | refine w_br (fun h => ?_) (fun h => ?_)) <;> (try dsimp only [cu, Prod.eta, List.nil_append] at h) <;> (try (exfalso; omega; done)))))
  all_goals (
 with_reducible refine Leaf.mk ?_
 (try dsimp only [cu, joinT, ckTys, gts, Prod.eta, List.nil_append] at *)
 first
 | (done)
 | (simp))
abbrev tb29 : Tbl := (106, c_isNaNs_ok) :: tb28
theorem tb29_ok : TblOk Tryz.prog tb29 := TblOk.cons isNaNs_ok tb28_ok

end Go.Proofs.YtlamfjhhjfgemaaGreat
