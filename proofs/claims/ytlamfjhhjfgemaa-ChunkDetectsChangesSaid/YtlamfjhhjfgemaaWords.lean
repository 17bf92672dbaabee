/- Contracts of dictionaries. -/
import Derived.Test.YtlamfjhhjfgemaaUnpack
import Derived.Test.YtlamfjhhjfgemaaAbsSq
namespace Go.Proofs.Ytlamfjhhjfgemaa
open Go.Abs
set_option linter.unusedVariables false
set_option linter.unusedSimpArgs false


def sLe (a b : ByteArray) : Bool := strLt a b || decide (a = b)
def wdAt (s : ByteArray) (a : Int) : ByteArray := s.extract (getR s a).2.1.toNat ((getR s a).2.1 + (getR s a).1).toNat
def wdGo (s : ByteArray) : Nat → Int → List ByteArray → List ByteArray × Int × Int
  | 0, a, M => (M, a, 0)
  | n + 1, a, M => if (getR s a).2.2 ≠ 0 then ([], 0, (getR s a).2.2) else if (getR s a).1 > s.size - (getR s a).2.1 then ([], 0, 10)
    else if 0 < M.length ∧ sLe (wdAt s a) M[M.length - 1]! = true then ([], 0, 2) else wdGo s n ((getR s a).2.1 + (getR s a).1) (M ++ [wdAt s a])
termination_by n _ _ => n
theorem wdGo_err {s : ByteArray} {n a : Int} {M : List ByteArray} (h : (M.length : Int) < n) (h1 : ¬ (getR s a).2.2 = 0) : wdGo s (n - M.length).toNat a M = ([], 0, (getR s a).2.2) := by
  rw [show (n - M.length).toNat = (n - M.length - 1).toNat + 1 by omega, wdGo, if_pos h1]
theorem wdGo_short {s : ByteArray} {n a : Int} {M : List ByteArray} (h : (M.length : Int) < n) (h1 : (getR s a).2.2 = 0) (h2 : (getR s a).1 > s.size - (getR s a).2.1) : wdGo s (n - M.length).toNat a M = ([], 0, 10) := by
  rw [show (n - M.length).toNat = (n - M.length - 1).toNat + 1 by omega, wdGo, if_neg (fun q => q h1), if_pos h2]
theorem wdGo_form {s : ByteArray} {n a : Int} {M : List ByteArray} (h : (M.length : Int) < n) (h1 : (getR s a).2.2 = 0) (h2 : ¬ (getR s a).1 > s.size - (getR s a).2.1) (h3 : 0 < M.length ∧ sLe (wdAt s a) M[M.length - 1]! = true) : wdGo s (n - M.length).toNat a M = ([], 0, 2) := by
  rw [show (n - M.length).toNat = (n - M.length - 1).toNat + 1 by omega, wdGo, if_neg (fun q => q h1), if_neg h2, if_pos h3]
theorem wdGo_next {s : ByteArray} {n a : Int} {M : List ByteArray} (h : (M.length : Int) < n) (h1 : (getR s a).2.2 = 0) (h2 : ¬ (getR s a).1 > s.size - (getR s a).2.1) (h3 : ¬ (0 < M.length ∧ sLe (wdAt s a) M[M.length - 1]! = true)) :
    wdGo s (n - M.length).toNat a M = wdGo s (n - (M ++ [wdAt s a]).length).toNat ((getR s a).2.1 + (getR s a).1) (M ++ [wdAt s a]) := by
  rw [show (n - M.length).toNat = (n - (M ++ [wdAt s a]).length).toNat + 1 by simp; omega, wdGo, if_neg (fun q => q h1), if_neg h2, if_neg h3]
theorem wdGo_end {s : ByteArray} {n a : Int} {M : List ByteArray} (h : ¬ (M.length : Int) < n) : wdGo s (n - M.length).toNat a M = (M, a, 0) := by
  rw [show (n - M.length).toNat = 0 by omega, wdGo]
theorem getR_ok {s : ByteArray} {a : Int} (h : (getR s a).2.2 = 0) : 0 ≤ a ∧ a < (getR s a).2.1 ∧ (getR s a).2.1 ≤ s.size := by
  have e : getR s a = ((getR s a).1, (getR s a).2.1, 0) := by
    rw [← h]
  obtain ⟨h1, h2, h3, h4, h5, h6, _⟩ := getR_sound e
  have := put_len (getR s a).1
  exact ⟨h1, by omega, h6⟩
theorem wdGo_ok {s : ByteArray} : ∀ (n : Nat) (a : Int) (M : List ByteArray), (wdGo s n a M).2.2 = 0 → (wdGo s n a M).1.length = M.length + n ∧ ((0 ≤ a ∧ a ≤ s.size) → 0 ≤ (wdGo s n a M).2.1 ∧ (wdGo s n a M).2.1 ≤ s.size)
  | 0, a, M, _ => by rw [wdGo]; exact ⟨rfl, fun h => h⟩
  | n + 1, a, M, h => by
    rw [wdGo] at h ⊢
    split at h
    · rename_i h1; exact absurd h h1
    · rename_i h1
      rw [if_neg h1]
      split at h
      · exact absurd h (by decide)
      · rename_i h2
        rw [if_neg h2]
        split at h
        · exact absurd h (by decide)
        · rename_i h3
          rw [if_neg h3]
          have hg := getR_ok (Decidable.not_not.1 h1)
          have hr := getR_rng s a
          obtain ⟨g1, g2⟩ := wdGo_ok n _ _ h
          exact ⟨by rw [g1]; simp; omega, fun _ => g2 ⟨by omega, by omega⟩⟩

abbrev c_words_ok : Ct := .fn [.str, .int .i64, .int .i64] (some (fun (s : ByteArray) (a0 : Int) (n : Int) => (s.size ≤ 4611686018427387904) ∧ (0 ≤ n ∧ n ≤ 1000000))) (fun (s : ByteArray) (a0 : Int) (n : Int) => .tup [.list .str, .int .i64, .int .i64] ((wdGo s n.toNat a0 []).1, (wdGo s n.toNat a0 []).2.1, (wdGo s n.toNat a0 []).2.2, ()))
set_option maxRecDepth 100000 in
set_option maxHeartbeats 4000000 in
theorem words_ok : CtOk Try.prog 102 c_words_ok := by
  refine CtOk.fn tb10_ok mixed [(0, 6, 5)] [] rfl rfl ?_
  rintro ⟨(s : ByteArray), (a0 : Int), (n : Int), _⟩ hpre
  replace hpre := hpre _ rfl
  dsimp only [cu] at hpre
  obtain ⟨hs, hn⟩ := hpre
  refine ⟨[(0, 4, LA.mk [.sl 1 (.int .i64), .lst 9 .str 9] (fun y => Tag 8 ∧ cu [.int .i64, .list .str] (fun (a : Int) (M : List ByteArray) => (wdGo s n.toNat a0 [] = wdGo s (n - M.length).toNat a M) ∧ ((M.length : Int) ≤ n)) y) (cu [.int .i64, .list .str] (fun (a : Int) (M : List ByteArray) => (n - (M.length : Int)).toNat)) (cu [.int .i64, .list .str] (fun (a : Int) (M : List ByteArray) => ([] : List (Nat × Nat × LA)))))], ?_⟩
  repeat' (first
    | (
 with_reducible refine Side.mk ⟨(⟨⟩ : Tag 8), ?_⟩
 dsimp only [cu, joinT, ckTys, gts, Prod.eta, List.nil_append]
 refine ⟨?_, ?_⟩
 · first
   | (rw [List.length_nil]; simp; done)
   | (
  rw [hM]
  exact wdGo_next (by omega) (by assumption) (by assumption) (fun q => by simp_all [sLe, wdAt]))
 · first
   | (simp only [List.length_nil]; omega)
   | (simp only [List.length_append, List.length_cons, List.length_nil]; omega))
    | (
 with_reducible refine Side.mk ?_
 (try dsimp only [cu, joinT, ckTys, gts, loK, hiK, Prod.eta, List.nil_append])
 first
 | (done)
 | (with_reducible rfl)
 | (omega)
 | (exact Eq.refl _)
 | (simp only [List.length_append, List.length_cons, List.length_nil]; omega)
 | (with_reducible assumption)
 | (
  have hr := getR_rng s a
  have hg := getR_ok (s := s) (a := a) (by assumption)
  omega)
 | (
  (try simp only [List.length_cons, List.length_nil])
  omega))
    | (conv => whnf
       first
        | done
        | exact trivial
        | with_reducible refine NilBr.mk (fun h => ?_) ?_
        | with_reducible first | refine w_andS ?_ ?_ | refine w_andL ?_ ?_ | refine w_kern (by kernel_rfl) ?_ | refine w_true ?_ | refine w_nd ?_ ?_ | refine w_in ?_ ?_ | refine w_and ?_ ?_
        | ((with_reducible first | refine w_brN (fun h => ?_) (fun h => ?_) | refine w_brD (fun h => ?_) (fun h => ?_) | refine w_br (fun h => ?_) (fun h => ?_)) <;> (try dsimp only [cu, Prod.eta, List.nil_append] at h) <;> (try (exfalso; omega; done)))
        | (
 intro yy (hy : Tag 8 ∧ _)
 obtain ⟨(a : Int), (M : List ByteArray), _⟩ := yy
 replace hy := hy.2
 dsimp only [cu, joinT, ckTys, gts, Prod.eta, List.nil_append] at hy
 obtain ⟨hM, hl⟩ := hy)))
  all_goals (
 with_reducible refine Leaf.mk ?_
 (try dsimp only [cu, joinT, ckTys, gts, Prod.eta, List.nil_append] at *)
 first
 | (done)
 | (rw [hM, wdGo_err (by omega) (by assumption)])
 | (rw [hM, wdGo_short (by omega) (by assumption) (by assumption)])
 | (rw [hM, wdGo_form (by omega) (by assumption) (by assumption) ⟨by omega, by simp_all [sLe, wdAt]⟩])
 | (rw [hM, wdGo_end (by assumption)])
 | (rw [hM, wdGo_end (by omega)]))
abbrev tb11 : Tbl := (102, c_words_ok) :: tb10
theorem tb11_ok : TblOk Try.prog tb11 := TblOk.cons words_ok tb10_ok


def wdN (n : Int) : Int := lenI (maxI (n - 1) 0)
def encWB (s : ByteArray) (ws : List ByteArray) : ByteArray := ws.foldl (fun s w => s ++ (ofInts (put (w.size : Int)) ++ w)) s
theorem encWB_step {s : ByteArray} {W : List ByteArray} {k : Int} (h : 0 ≤ k ∧ k < W.length) : encWB s (W.take (k + 1).toNat) = encWB s (W.take k.toNat) ++ (ofInts (put (W[k.toNat]!.size : Int)) ++ W[k.toNat]!) := by
  rw [show (k + 1).toNat = k.toNat + 1 by omega, List.take_succ_eq_append_getElem (by omega)]
  unfold encWB
  rw [List.foldl_append, getElem!_pos W k.toNat (by omega)]
  rfl
theorem encWB_size {B : Nat} : ∀ (W : List ByteArray) (s : ByteArray), (∀ w, w ∈ W → w.size ≤ B) → (encWB s W).size ≤ s.size + W.length * (B + 10)
  | [], s, _ => by simp [encWB]
  | w :: W, s, h => by
    have ih := encWB_size W (s ++ (ofInts (put (w.size : Int)) ++ w)) (fun v hv => h v (by simp [hv]))
    have h1 := h w (by simp)
    have h2 := put_len (w.size : Int)
    have e : (s ++ (ofInts (put (w.size : Int)) ++ w)).size = s.size + ((put (w.size : Int)).length + w.size) := by simp only [ByteArray.size_append, ofInts_len]
    rw [e] at ih
    show (encWB (s ++ (ofInts (put (w.size : Int)) ++ w)) W).size ≤ _
    simp only [List.length_cons, Nat.add_mul]
    omega
def encDict (l : List ByteArray) : ByteArray := if l.length > 4096 then ⟨#[]⟩ else encWB (ofInts (put ((wordsS l).length : Int))) (wordsS l) ++ (packR (codesS l) (wdN (wordsS l).length)).1
theorem wordsS_size {l : List ByteArray} {B : Nat} (h : ∀ w, w ∈ l → w.size ≤ B) : ∀ w, w ∈ wordsS l → w.size ≤ B := fun w hw => h w ((wordsS_mem l w).1 hw)
theorem encWB_take {l : List ByteArray} {v : Int} {k : Nat} (h : ∀ w, w ∈ l → w.size ≤ 1073741824) (hl : l.length ≤ 4096) : (encWB (ofInts (put v)) ((wordsS l).take k)).size ≤ 4398046552074 := by
  have h1 := encWB_size (B := 1073741824) ((wordsS l).take k) (ofInts (put v)) (fun w hw => wordsS_size h w (List.mem_of_mem_take hw))
  have h2 := put_len v
  have h3 := wordsS_len l
  rw [ofInts_len] at h1
  have h4 : ((wordsS l).take k).length ≤ 4096 := by simp; omega
  have h5 : ((wordsS l).take k).length * (1073741824 + 10) ≤ 4096 * (1073741824 + 10) := Nat.mul_le_mul_right _ h4
  omega
theorem codesS_rng (l : List ByteArray) : ∀ c, c ∈ codesS l → 0 ≤ c ∧ c ≤ (wordsS l).length := by
  intro c hc
  obtain ⟨s, _, rfl⟩ := List.mem_map.1 hc
  have := plS_le (wordsS l) s
  omega
theorem codesS_at (l : List ByteArray) (k : Nat) : 0 ≤ (codesS l)[k]! ∧ (codesS l)[k]! ≤ l.length := by
  by_cases h : k < (codesS l).length
  · have := codesS_rng l (codesS l)[k]! (by rw [getElem!_pos _ k h]; exact List.getElem_mem h)
    have := wordsS_len l
    omega
  · rw [getElem!_neg _ k h]; exact ⟨Int.le_refl _, by show (0 : Int) ≤ _; omega⟩
theorem codes_get {l : List ByteArray} {k : Int} (h : 0 ≤ k ∧ k < l.length) : (codesS l)[k.toNat]! = (plS (wordsS l) l[k.toNat]! : Int) := by
  rw [getElem!_pos (codesS l) k.toNat (by rw [codesS_len]; omega), getElem!_pos l k.toNat (by omega)]
  simp [codesS]
theorem codes_take {l : List ByteArray} {k : Int} (h : 0 ≤ k ∧ k < l.length) : (codesS l).take (k + 1).toNat = (codesS l).take k.toNat ++ [(plS (wordsS l) l[k.toNat]! : Int)] := by
  rw [show (k + 1).toNat = k.toNat + 1 by omega, List.take_succ_eq_append_getElem (by rw [codesS_len]; omega), ← codes_get h, getElem!_pos (codesS l) k.toNat (by rw [codesS_len]; omega)]
theorem words_step {l : List ByteArray} {k : Int} (h : 0 ≤ k ∧ k < l.length) : (l.take (k + 1).toNat).foldl insS [] = insS ((l.take k.toNat).foldl insS []) l[k.toNat]! := by
  rw [show (k + 1).toNat = k.toNat + 1 by omega, List.take_succ_eq_append_getElem (by omega), List.foldl_append, getElem!_pos l k.toNat (by omega)]
  rfl
theorem words_take (l : List ByteArray) (k : Nat) : ((l.take k).foldl insS []).length ≤ l.length := by
  have := wordsS_len (l.take k)
  unfold wordsS at this
  simp at this; omega
theorem insS_no {M : List ByteArray} {s : ByteArray} (h : ¬ ((plS M s : Int) = M.length) ) (h2 : M[(plS M s : Int).toNat]! = s) : insS M s = M := by
  rw [Int.toNat_natCast] at h2
  unfold insS
  rw [if_neg]
  rintro (q | q)
  · exact h (by omega)
  · exact q h2
theorem insS_yes {M : List ByteArray} {s : ByteArray} (h : (plS M s : Int) = M.length ∨ ¬ M[(plS M s : Int).toNat]! = s) : insS M s = M.take (plS M s) ++ [s] ++ M.drop (plS M s) := by
  rw [Int.toNat_natCast] at h
  unfold insS
  rw [if_pos]
  rcases h with q | q
  · exact .inl (by omega)
  · exact .inr q
theorem bsI_words (l : List ByteArray) (x : ByteArray) : bsI (compS (sortS l)) x = (plS (wordsS l) x : Int) := by rw [comp_words, bsI_plS (wordsS_asc l)]
theorem comp_len (l : List ByteArray) : (compS (sortS l)).length ≤ l.length := by rw [comp_words]; exact wordsS_len l
theorem packR_nil (w : Int) (h : 0 ≤ w ∧ w ≤ 64) : (packR [] w).1 = ⟨#[]⟩ := by
  have e : (needR ((([] : List Int).length : Nat) : Int) w).toNat = 0 := by
    obtain ⟨h1, _⟩ := need_eq (n := ((([] : List Int).length : Nat) : Int)) (w := w) ⟨⟨by simp, by simp⟩, h⟩
    rw [h1]; simp
  unfold packR
  rw [if_neg (by omega), if_neg (by simp), if_neg (by simp [anyWide]), e]
  rfl
theorem wdN_rng (n : Int) (h : n ≤ 9223372036854775807) : 0 ≤ wdN n ∧ wdN n ≤ 64 := by
  unfold wdN
  have hm : maxI (n - 1) 0 < 18446744073709551616 := by unfold maxI; split <;> omega
  exact lenI_le hm

abbrev c_place_ok : Ct := .fn [.list .str, .str] (some (fun (l : List ByteArray) (s : ByteArray) => (l.length ≤ 4611686018427387904))) (fun (l : List ByteArray) (s : ByteArray) => .d (.int .i64) (plS l s : Int))
set_option maxRecDepth 100000 in
set_option maxHeartbeats 4000000 in
theorem place_ok : CtOk Try.prog 93 c_place_ok := by
  refine CtOk.fn tb11_ok mixed [] [] rfl rfl ?_
  rintro ⟨(l : List ByteArray), (s : ByteArray), _⟩ hpre
  replace hpre := hpre _ rfl
  dsimp only [cu] at hpre
  have hl := hpre
  refine ⟨[(0, 4, LA.mk [.sl 5 (.int .i64)] (fun y => Tag 9 ∧ cu [.int .i64] (fun (i : Int) => (0 ≤ i ∧ i ≤ l.length) ∧ (∀ t : Nat, (t : Int) < i → strLt l[t]! s = true)) y) (cu [.int .i64] (fun (i : Int) => ((l.length : Int) - i).toNat)) (cu [.int .i64] (fun (i : Int) => ([] : List (Nat × Nat × LA)))))], ?_⟩
  repeat' (first
    | (
 with_reducible refine Side.mk ⟨(⟨⟩ : Tag 9), ?_⟩
 dsimp only [cu, joinT, ckTys, gts, Prod.eta, List.nil_append]
 refine ⟨?_, ?_⟩
 · omega
 · first
   | (intro t ht; omega)
   | (
  intro t ht
  rcases Int.lt_or_le (t : Int) i with q | q
  · exact hp t q
  · rw [show t = i.toNat by omega]; assumption))
    | (
 with_reducible refine Side.mk ?_
 (try dsimp only [cu, joinT, ckTys, gts, loK, hiK, Prod.eta, List.nil_append])
 first
 | (done)
 | (with_reducible rfl)
 | (omega)
 | (exact Eq.refl _)
 | (simp only [List.length_append, List.length_cons, List.length_nil]; omega))
    | (conv => whnf
       first
        | done
        | exact trivial
        | with_reducible refine NilBr.mk (fun h => ?_) ?_
        | with_reducible first | refine w_andS ?_ ?_ | refine w_andL ?_ ?_ | refine w_kern (by kernel_rfl) ?_ | refine w_true ?_ | refine w_nd ?_ ?_ | refine w_in ?_ ?_ | refine w_and ?_ ?_
        | ((with_reducible first | refine w_brN (fun h => ?_) (fun h => ?_) | refine w_brD (fun h => ?_) (fun h => ?_) | refine w_br (fun h => ?_) (fun h => ?_)) <;> (try dsimp only [cu, Prod.eta, List.nil_append] at h) <;> (try (exfalso; omega; done)))
        | (
 intro yy (hy : Tag 9 ∧ _)
 obtain ⟨(i : Int), _⟩ := yy
 replace hy := hy.2
 dsimp only [cu, joinT, ckTys, gts, Prod.eta, List.nil_append] at hy
 obtain ⟨hi, hp⟩ := hy)))
  all_goals (
 with_reducible refine Leaf.mk ?_
 (try dsimp only [cu, joinT, ckTys, gts, Prod.eta, List.nil_append] at *)
 first
 | (done)
 | (
  have e : i.toNat = l.length := by omega
  have e2 := plS_unique (k := i.toNat) (fun t ht => hp t (by omega)) (by omega) (.inl e)
  show (i : Int) = (plS l s : Int)
  omega)
 | (
  have e : ¬ strLt l[i.toNat]! s = true := by first | assumption | (simp_all; done)
  have e2 := plS_unique (k := i.toNat) (fun t ht => hp t (by omega)) (by omega) (.inr e)
  show (i : Int) = (plS l s : Int)
  omega))
abbrev tb12 : Tbl := (93, c_place_ok) :: tb11
theorem tb12_ok : TblOk Try.prog tb12 := TblOk.cons place_ok tb11_ok

abbrev c_rbuild_ok : Ct := .fn [.list .str] (some (fun (l : List ByteArray) => (l.length ≤ 1073741824))) (fun (l : List ByteArray) => .tup [.list .str, .list (.int .i64)] (wordsS l, codesS l, ()))
set_option maxRecDepth 100000 in
set_option maxHeartbeats 4000000 in
theorem rbuild_ok : CtOk Try.prog 70 c_rbuild_ok := by
  refine CtOk.fn tb12_ok mixed [] [] rfl rfl ?_
  rintro ⟨(l : List ByteArray), _⟩ hpre
  replace hpre := hpre _ rfl
  dsimp only [cu] at hpre
  have hl := hpre
  refine ⟨[(0, 6, LA.mk [.sl 14 (.int .i64), .lst 4 .str 9] (fun y => Tag 10 ∧ cu [.int .i64, .list .str] (fun (k : Int) (M : List ByteArray) => (0 ≤ k ∧ k ≤ l.length) ∧ (M = (l.take k.toNat).foldl insS [])) y) (cu [.int .i64, .list .str] (fun (k : Int) (M : List ByteArray) => ((l.length : Int) - k).toNat)) (cu [.int .i64, .list .str] (fun (k : Int) (M : List ByteArray) => ([] : List (Nat × Nat × LA))))), (0, 26, LA.mk [.sl 49 (.int .i64), .lst 9 (.int .i64) 3] (fun y => Tag 11 ∧ cu [.int .i64, .list (.int .i64)] (fun (k : Int) (C : List Int) => (0 ≤ k ∧ k ≤ l.length) ∧ (C = (codesS l).take k.toNat)) y) (cu [.int .i64, .list (.int .i64)] (fun (k : Int) (C : List Int) => ((l.length : Int) - k).toNat)) (cu [.int .i64, .list (.int .i64)] (fun (k : Int) (C : List Int) => ([] : List (Nat × Nat × LA)))))], ?_⟩
  repeat' (first
    | (
 with_reducible refine Side.mk ⟨(⟨⟩ : Tag 10), ?_⟩
 dsimp only [cu, joinT, ckTys, gts, Prod.eta, List.nil_append]
 refine ⟨?_, ?_⟩
 · omega
 · first
   | (rfl)
   | (
  have e := words_step (l := l) (k := k) (by omega)
  rw [← hM] at e
  first
  | (
   have e1 : ¬ ((plS M l[k.toNat]! : Int) = M.length) := by first | omega | (simp_all; done)
   have e2 : M[(plS M l[k.toNat]! : Int).toNat]! = l[k.toNat]! := by simp_all; done
   rw [e, insS_no e1 e2])
  | (
   have e1 : (plS M l[k.toNat]! : Int) = M.length ∨ ¬ M[(plS M l[k.toNat]! : Int).toNat]! = l[k.toNat]! := by first | (left; omega) | (right; assumption) | (right; simp_all; done)
   rw [e, insS_yes e1]
   have h0 := plS_le M l[k.toNat]!
   clear hM e e1
   simp only [subL_eq, List.nil_append, Int.toNat_natCast, List.append_nil, List.drop_zero]
   have e4 : ((M.length : Int) - (plS M l[k.toNat]! : Int)).toNat = M.length - plS M l[k.toNat]! := by omega
   (try rw [e4])
   first | (have e5 : plS M l[k.toNat]! = M.length := (by omega); rw [e5]; simp; done) | (have e5 : plS M l[k.toNat]! = 0 := (by omega); rw [e5]; simp; done) | (have e5 : (M.drop (plS M l[k.toNat]!)).take (M.length - plS M l[k.toNat]!) = M.drop (plS M l[k.toNat]!) := List.take_of_length_le (by simp); rw [e5]) | grind)))
    | (
 with_reducible refine Side.mk ⟨(⟨⟩ : Tag 11), ?_⟩
 dsimp only [cu, joinT, ckTys, gts, Prod.eta, List.nil_append]
 refine ⟨?_, ?_⟩
 · omega
 · first
   | (rfl)
   | (rw [codes_take (by omega), ← hC, show wordsS l = M by (unfold wordsS; rw [hM, List.take_of_length_le (by omega)])]))
    | (
 with_reducible refine Side.mk ?_
 (try dsimp only [cu, joinT, ckTys, gts, loK, hiK, Prod.eta, List.nil_append])
 first
 | (done)
 | (with_reducible rfl)
 | (omega)
 | (exact Eq.refl _)
 | (simp only [List.length_append, List.length_cons, List.length_nil]; omega)
 | (
  have hw := words_take l k.toNat
  (try rw [← hM] at hw)
  omega)
 | (
  show M.length ≤ 4611686018427387904
  have hw := words_take l k.toNat
  (try rw [← hM] at hw)
  omega)
 | (
  rw [hM, List.take_of_length_le (by omega)]
  show (wordsS l).length ≤ 4611686018427387904
  have := wordsS_len l
  omega)
 | (
  have hw := words_take l k.toNat
  (try rw [← hM] at hw)
  first
  | (
   have h0 := plS_le M l[k.toNat]!
   (try simp only [List.length_append, List.length_take, List.length_drop, List.length_cons, List.length_nil, subL_eq])
   omega)
  | (
   have hcl := congrArg List.length hC
   simp only [List.length_take, List.length_cons, List.length_nil] at hcl ⊢
   omega)))
    | (conv => whnf
       first
        | done
        | exact trivial
        | with_reducible refine NilBr.mk (fun h => ?_) ?_
        | with_reducible first | refine w_andS ?_ ?_ | refine w_andL ?_ ?_ | refine w_kern (by kernel_rfl) ?_ | refine w_true ?_ | refine w_nd ?_ ?_ | refine w_in ?_ ?_ | refine w_and ?_ ?_
        | ((with_reducible first | refine w_brN (fun h => ?_) (fun h => ?_) | refine w_brD (fun h => ?_) (fun h => ?_) | refine w_br (fun h => ?_) (fun h => ?_)) <;> (try dsimp only [cu, Prod.eta, List.nil_append] at h) <;> (try (exfalso; omega; done)))
        | (
 intro yy (hy : Tag 10 ∧ _)
 obtain ⟨(k : Int), (M : List ByteArray), _⟩ := yy
 replace hy := hy.2
 dsimp only [cu, joinT, ckTys, gts, Prod.eta, List.nil_append] at hy
 obtain ⟨hk, hM⟩ := hy)
        | (
 intro yy (hy : Tag 11 ∧ _)
 obtain ⟨(k : Int), (C : List Int), _⟩ := yy
 replace hy := hy.2
 dsimp only [cu, joinT, ckTys, gts, Prod.eta, List.nil_append] at hy
 obtain ⟨hk, hC⟩ := hy)))
  all_goals (
 with_reducible refine Leaf.mk ?_
 (try dsimp only [cu, joinT, ckTys, gts, Prod.eta, List.nil_append] at *)
 first
 | (done)
 | (
  unfold wordsS
  rw [hM, List.take_of_length_le (by omega)])
 | (rw [hC, List.take_of_length_le (by rw [codesS_len]; omega)]))
abbrev tb13 : Tbl := (70, c_rbuild_ok) :: tb12
theorem tb13_ok : TblOk Try.prog tb13 := TblOk.cons rbuild_ok tb12_ok


theorem size_le {l : List ByteArray} {B : Nat} (h : ∀ w, w ∈ l → w.size ≤ B) (k : Nat) : l[k]!.size ≤ B := by
  by_cases q : k < l.length
  · exact h _ (by rw [getElem!_pos l k q]; exact List.getElem_mem q)
  · rw [getElem!_neg l k q]; exact Nat.zero_le _
theorem words_sz {l : List ByteArray} (h : ∀ w, w ∈ l → w.size ≤ 1073741824) (k : Nat) : (wordsS l)[k]!.size ≤ 1073741824 := size_le (wordsS_size h) k
theorem enc_pack {l : List ByteArray} (h : wordsS l = []) : (packR (codesS l) (wdN (wordsS l).length)).1 = ⟨#[]⟩ := by
  have hl : l = [] := by
    cases l with
    | nil => rfl
    | cons a l =>
      have := (wordsS_mem (a :: l) a).2 (by simp)
      rw [h] at this; simp at this
  subst hl
  exact packR_nil _ (wdN_rng _ (by simp [wordsS]))
theorem bytes_app_nil (s : ByteArray) : s ++ ⟨#[]⟩ = s := by
  show s ++ ByteArray.empty = s
  simp
theorem ofInts_toInts (s : ByteArray) : ofInts (toInts s) = s := by
  apply toInts_inj
  exact toInts_ofInts (fun b hb => toInts_rng hb)
theorem packR_size (l : List Int) (w : Int) : (packR l w).1.size ≤ 32768 := by
  unfold packR
  split
  · exact Nat.zero_le _
  split
  · exact Nat.zero_le _
  split
  · exact Nat.zero_le _
  · rw [ofInts_len, gL_len]
    obtain ⟨h1, h2⟩ := need_eq (n := (l.length : Int)) (w := w) ⟨⟨by omega, by omega⟩, by omega⟩
    rw [h1]; omega
theorem codes_all {l : List ByteArray} {C : List Int} {k : Int} (hc : C.length = (codesS l).length) (hC : C.take k.toNat = (codesS l).take k.toNat) (h : ¬ k < (codesS l).length) : C = codesS l := by
  rw [List.take_of_length_le (by omega), List.take_of_length_le (by omega)] at hC
  exact hC
theorem codesS_u64 (l : List ByteArray) (hl : l.length ≤ 1073741824) : ∀ v, v ∈ codesS l → 0 ≤ v ∧ v < 18446744073709551616 := by
  intro v hv
  have := codesS_rng l v hv
  have := wordsS_len l
  omega

abbrev tb14 : Tbl := (111, c_sortS_ok) :: tb13
theorem tb14_ok : TblOk Try.prog tb14 := TblOk.cons sortS_ok tb13_ok

abbrev tb15 : Tbl := (112, c_compS_ok) :: tb14
theorem tb15_ok : TblOk Try.prog tb15 := TblOk.cons compS_ok tb14_ok

abbrev tb16 : Tbl := (113, c_bs_ok) :: tb15
theorem tb16_ok : TblOk Try.prog tb16 := TblOk.cons bs_ok tb15_ok

abbrev c_dwidth_ok : Ct := .fn [.int .i64] (some (fun (n : Int) => (0 ≤ n ∧ n ≤ 4611686018427387904))) (fun (n : Int) => .d (.int .i64) (wdN n))
set_option maxRecDepth 100000 in
set_option maxHeartbeats 4000000 in
theorem dwidth_ok : CtOk Try.prog 91 c_dwidth_ok := by
  refine CtOk.fn tb16_ok mixed [] [] rfl rfl ?_
  rintro ⟨(n : Int), _⟩ hpre
  replace hpre := hpre _ rfl
  dsimp only [cu] at hpre
  have hn := hpre
  refine ⟨[], ?_⟩
  repeat' (first
    | (
 with_reducible refine Side.mk ?_
 (try dsimp only [cu, joinT, ckTys, gts, loK, hiK, Prod.eta, List.nil_append])
 first
 | (done)
 | (with_reducible rfl)
 | (omega)
 | (exact Eq.refl _)
 | (simp only [List.length_append, List.length_cons, List.length_nil]; omega)
 | (
  have : maxI (n - 1) 0 ≤ 4611686018427387904 ∧ 0 ≤ maxI (n - 1) 0 := by unfold maxI; split <;> omega
  rw [u64_id (by omega)]; omega))
    | (conv => whnf
       first
        | done
        | exact trivial
        | with_reducible refine NilBr.mk (fun h => ?_) ?_
        | with_reducible first | refine w_andS ?_ ?_ | refine w_andL ?_ ?_ | refine w_kern (by kernel_rfl) ?_ | refine w_true ?_ | refine w_nd ?_ ?_ | refine w_in ?_ ?_ | refine w_and ?_ ?_
        | ((with_reducible first | refine w_brN (fun h => ?_) (fun h => ?_) | refine w_brD (fun h => ?_) (fun h => ?_) | refine w_br (fun h => ?_) (fun h => ?_)) <;> (try dsimp only [cu, Prod.eta, List.nil_append] at h) <;> (try (exfalso; omega; done)))))
  all_goals (
 with_reducible refine Leaf.mk ?_
 (try dsimp only [cu, joinT, ckTys, gts, Prod.eta, List.nil_append] at *)
 first
 | (done)
 | (
  have : maxI (n - 1) 0 ≤ 4611686018427387904 ∧ 0 ≤ maxI (n - 1) 0 := by unfold maxI; split <;> omega
  rw [u64_id (by omega)]; rfl))
abbrev tb17 : Tbl := (91, c_dwidth_ok) :: tb16
theorem tb17_ok : TblOk Try.prog tb17 := TblOk.cons dwidth_ok tb16_ok

abbrev c_rencode_ok : Ct := .fn [.list .str] (some (fun (l : List ByteArray) => (∀ w, w ∈ l → w.size ≤ 1073741824) ∧ (l.length ≤ 1073741824))) (fun (l : List ByteArray) => .d .str (encDict l))
set_option maxRecDepth 100000 in
set_option maxHeartbeats 4000000 in
theorem rencode_ok : CtOk Try.prog 47 c_rencode_ok := by
  refine CtOk.fn tb17_ok mixed [] [] rfl rfl ?_
  rintro ⟨(l : List ByteArray), _⟩ hpre
  replace hpre := hpre _ rfl
  dsimp only [cu] at hpre
  obtain ⟨hb, hl⟩ := hpre
  refine ⟨[(0, 12, LA.mk [.sl 27 (.int .i64), .sl 5 .str] (fun y => Tag 12 ∧ cu [.int .i64, .str] (fun (k : Int) (x : ByteArray) => (0 ≤ k ∧ k ≤ (wordsS l).length) ∧ (x = encWB (ofInts (put ((wordsS l).length : Int))) ((wordsS l).take k.toNat))) y) (cu [.int .i64, .str] (fun (k : Int) (x : ByteArray) => (((wordsS l).length : Int) - k).toNat)) (cu [.int .i64, .str] (fun (k : Int) (x : ByteArray) => ([] : List (Nat × Nat × LA))))), (0, 28, LA.mk [.sl 46 (.int .i64), .lst 8 (.int .u64) 56] (fun y => Tag 13 ∧ cu [.int .i64, .list (.int .u64)] (fun (k : Int) (C : List Int) => (0 ≤ k ∧ k ≤ (codesS l).length) ∧ (C = (codesS l).take k.toNat)) y) (cu [.int .i64, .list (.int .u64)] (fun (k : Int) (C : List Int) => (((codesS l).length : Int) - k).toNat)) (cu [.int .i64, .list (.int .u64)] (fun (k : Int) (C : List Int) => ([] : List (Nat × Nat × LA)))))], ?_⟩
  repeat' (first
    | (
 with_reducible refine Side.mk ⟨(⟨⟩ : Tag 12), ?_⟩
 dsimp only [cu, joinT, ckTys, gts, Prod.eta, List.nil_append]
 refine ⟨?_, ?_⟩
 · omega
 · first
   | (rw [u64_id (by have := wordsS_len l; omega)]; rfl)
   | (
  have hw := wordsS_len l
  have hsz := words_sz hb k.toNat
  rw [encWB_step (by omega), hM, u64_id (by omega)]))
    | (
 with_reducible refine Side.mk ⟨(⟨⟩ : Tag 13), ?_⟩
 dsimp only [cu, joinT, ckTys, gts, Prod.eta, List.nil_append]
 refine ⟨?_, ?_⟩
 · omega
 · first
   | (rfl)
   | (
  have hc := codesS_at l k.toNat
  rw [show (k + 1).toNat = k.toNat + 1 by omega, hC, u64_id (by omega), List.take_succ_eq_append_getElem (by omega), getElem!_pos _ k.toNat (by omega)]))
    | (
 with_reducible refine Side.mk ?_
 (try dsimp only [cu, joinT, ckTys, gts, loK, hiK, Prod.eta, List.nil_append])
 first
 | (done)
 | (with_reducible rfl)
 | (omega)
 | (exact Eq.refl _)
 | (simp only [List.length_append, List.length_cons, List.length_nil]; omega)
 | (
  have := wordsS_len l
  omega)
 | (exact u64_wrap _)
 | (
  have hw := wordsS_len l
  have hsz := words_sz hb k.toNat
  first
  | (omega)
  | (rw [u64_id (by omega)]; omega))
 | (
  have hcl := congrArg List.length hC
  simp only [List.length_take, List.length_cons, List.length_nil] at hcl ⊢
  have := codesS_len l
  omega)
 | (
  have := codesS_len l
  omega)
 | (
  have e : C = codesS l := by rw [hC, List.take_of_length_le (by omega)]
  subst e
  refine ⟨fun i => ?_, by rw [codesS_len]; omega⟩
  have := codesS_at l i
  omega)
 | (
  have hm := congrArg ByteArray.size hM
  first
  | (
   have ht := encWB_take (v := ((wordsS l).length : Int)) (k := k.toNat) hb (by omega)
   have hp := put_len (IntKind.u64.wrap ((wordsS l)[k.toNat]!.size : Int))
   have hsz := words_sz hb k.toNat
   simp only [ByteArray.size_append, ofInts_len]
   omega)
  | (
   rw [List.take_of_length_le (by omega)] at hm
   have ht := encWB_take (v := ((wordsS l).length : Int)) (k := (wordsS l).length) hb (by omega)
   rw [List.take_of_length_le (by omega)] at ht
   have hpk := packR_size C (lenI (IntKind.u64.wrap ((wordsS l).length - 1)))
   omega)))
    | (conv => whnf
       first
        | done
        | exact trivial
        | with_reducible refine NilBr.mk (fun h => ?_) ?_
        | with_reducible first | refine w_andS ?_ ?_ | refine w_andL ?_ ?_ | refine w_kern (by kernel_rfl) ?_ | refine w_true ?_ | refine w_nd ?_ ?_ | refine w_in ?_ ?_ | refine w_and ?_ ?_
        | ((with_reducible first | refine w_brN (fun h => ?_) (fun h => ?_) | refine w_brD (fun h => ?_) (fun h => ?_) | refine w_br (fun h => ?_) (fun h => ?_)) <;> (try dsimp only [cu, Prod.eta, List.nil_append] at h) <;> (try (exfalso; omega; done)))
        | (
 intro yy (hy : Tag 12 ∧ _)
 obtain ⟨(k : Int), (x : ByteArray), _⟩ := yy
 replace hy := hy.2
 dsimp only [cu, joinT, ckTys, gts, Prod.eta, List.nil_append] at hy
 obtain ⟨hk, hM⟩ := hy)
        | (
 intro yy (hy : Tag 13 ∧ _)
 obtain ⟨(k : Int), (C : List Int), _⟩ := yy
 replace hy := hy.2
 dsimp only [cu, joinT, ckTys, gts, Prod.eta, List.nil_append] at hy
 obtain ⟨hk, hC⟩ := hy)))
  all_goals (
 with_reducible refine Leaf.mk ?_
 (try dsimp only [cu, joinT, ckTys, gts, Prod.eta, List.nil_append] at *)
 first
 | (done)
 | (
  have e0 : l.length > 4096 := by omega
  rw [encDict, if_pos e0])
 | (rw [encDict, if_neg (by omega), hM, enc_pack (List.length_eq_zero_iff.1 (by omega)), bytes_app_nil, List.take_of_length_le (by omega)])
 | (
  rw [encDict, if_neg (by omega), hM, List.take_of_length_le (by omega), hC, List.take_of_length_le (by omega), u64_id (by have := wordsS_len l; omega)]
  rw [wdN, show maxI ((wordsS l).length - 1) 0 = (wordsS l).length - 1 by (unfold maxI; split <;> omega)]))
abbrev tb18 : Tbl := (47, c_rencode_ok) :: tb17
theorem tb18_ok : TblOk Try.prog tb18 := TblOk.cons rencode_ok tb17_ok

end Go.Proofs.Ytlamfjhhjfgemaa
