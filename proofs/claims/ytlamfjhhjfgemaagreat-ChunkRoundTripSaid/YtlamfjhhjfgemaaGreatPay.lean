/- Contracts of payloads; laws of chunks. -/
import Derived.Test.YtlamfjhhjfgemaaGreatSeal
namespace Go.Proofs.YtlamfjhhjfgemaaGreat
open Go.Abs
set_option linter.unusedVariables false
set_option linter.unusedSimpArgs false


/- Payloads and chunks. -/
def numsV (l : List Val) : List Int := l.map fun v => v.2.1
def strsV (l : List Val) : List ByteArray := l.map fun v => v.2.2
def okV (v : Val) : Prop := v.2.2.size ≤ 1048576 ∧ inI v.2.1
def plV (t : Int) (v : Val) : ByteArray := if t = 3 then ofInts (put v.2.2.size) ++ v.2.2 else ofInts (put (zigS v.2.1))
def plL (t : Int) : List Val → ByteArray
  | [] => ByteArray.empty
  | v :: r => plV t v ++ plL t r
def payS (t k : Int) (l : List Val) : ByteArray := if k = 2 then encRuns (numsV l) else if k = 3 then encDict (strsV l) else if k = 4 then encDelta (numsV l) else plL t l
def someV (l : List Val) : List Val := l.filter fun v => !v.1
def nullsV (l : List Val) : List Bool := l.map fun v => v.1
def headS (k : Int) (l : List Val) : ByteArray := (ofInts [IntKind.u8.wrap k] ++ ofInts (put l.length)) ++ ofInts (put ((l.length : Int) - (someV l).length))
def chunkB (t k : Int) (l : List Val) : ByteArray := (if (someV l).length < l.length then headS k l ++ packB (nullsV l) else headS k l) ++ payS t k (someV l)
def buildS (t k : Int) (l : List Val) : ByteArray := sealS (chunkB t k l)
theorem plL_step {t : Int} {l : List Val} {k : Int} (h : 0 ≤ k ∧ k < l.length) : plL t (l.drop k.toNat) = plV t l[k.toNat]! ++ plL t (l.drop (k + 1).toNat) := by
  rw [drop_step l k h]; rfl
theorem okV_at {l : List Val} (h : ∀ v, v ∈ l → okV v) (k : Nat) : okV l[k]! := by
  by_cases q : k < l.length
  · rw [getElem!_pos l k q]; exact h _ (List.getElem_mem q)
  · rw [getElem!_neg l k q]; exact ⟨by decide, by unfold inI; exact ⟨by decide, by decide⟩⟩
theorem plV_size {t : Int} {v : Val} (h : okV v) : (plV t v).size ≤ 1048586 := by
  unfold plV
  have h1 := put_size (v.2.2.size : Int)
  have h2 := put_size (zigS v.2.1)
  have := h.1
  split
  · rw [ByteArray.size_append]; omega
  · omega
theorem plL_size (t : Int) : ∀ (l : List Val), (∀ v, v ∈ l → okV v) → (plL t l).size ≤ 1048586 * l.length
  | [], _ => Nat.zero_le _
  | v :: r, h => by
    have h1 := plV_size (t := t) (h v (by simp))
    have h2 := plL_size t r (fun x hx => h x (by simp [hx]))
    rw [plL, ByteArray.size_append, List.length_cons]; omega
theorem nums_in {l : List Val} (h : ∀ v, v ∈ l → okV v) : ∀ x, x ∈ numsV l → inI x := fun x hx => by
  obtain ⟨v, hv, rfl⟩ := List.mem_map.1 hx
  exact (h v hv).2
theorem strs_le {l : List Val} (h : ∀ v, v ∈ l → okV v) : ∀ x, x ∈ strsV l → x.size ≤ 1073741824 := fun x hx => by
  obtain ⟨v, hv, rfl⟩ := List.mem_map.1 hx
  have := (h v hv).1
  omega
theorem some_ok {l : List Val} (h : ∀ v, v ∈ l → okV v) : ∀ v, v ∈ someV l → okV v := fun v hv => h v (List.mem_filter.1 hv).1
theorem some_len (l : List Val) : (someV l).length ≤ l.length := List.length_filter_le _ _
theorem encDict_size {l : List ByteArray} (h : ∀ w, w ∈ l → w.size ≤ 1073741824) : (encDict l).size ≤ 4398046584842 := by
  unfold encDict
  split
  · exact Nat.zero_le _
  · rw [ByteArray.size_append]
    have h1 := encWB_take (v := ((wordsS l).length : Int)) (k := (wordsS l).length) h (by omega)
    rw [List.take_of_length_le (Nat.le_refl _)] at h1
    have h2 := packR_size (codesS l) (wdN ((wordsS l).length : Int))
    omega
theorem runs_len : ∀ (n : Nat) (l : List Int), l.length ≤ n → (encR (runs l)).length ≤ 20 * l.length
  | n, [], _ => by rw [runs]; exact Nat.zero_le _
  | n, v :: l, h => by
    obtain ⟨m, rfl⟩ : ∃ m, n = m + 1 := ⟨n - 1, by simp at h; omega⟩
    rw [runs, encR]
    have h1 := put_len ((runLen v l : Int) + 1)
    have h2 := put_len (zigS v)
    have h3 := runs_len m (l.drop (runLen v l)) (by simp at h ⊢; omega)
    simp only [List.length_append, List.length_cons, List.length_drop] at h3 ⊢
    omega
theorem encRuns_size (l : List Int) : (encRuns l).size ≤ 20 * l.length := by
  unfold encRuns; rw [ofInts_len]; exact runs_len _ l (Nat.le_refl _)
theorem pay_size {t k : Int} {l : List Val} (h : ∀ v, v ∈ l → okV v) (hl : l.length ≤ 4096) : (payS t k l).size ≤ 4398046584842 := by
  unfold payS
  split
  · have := encRuns_size (numsV l)
    have e : (numsV l).length = l.length := by simp [numsV]
    omega
  · split
    · exact encDict_size (strs_le h)
    · split
      · have := encDelta_size (numsV l); omega
      · have := plL_size t l h; omega
theorem packB_size {l : List Bool} (h : l.length ≤ 4096) : (packB l).size ≤ 512 := by
  unfold packB
  rw [ofInts_len, gL_len, Int.tdiv_eq_ediv_of_nonneg (by omega)]; omega
theorem head_size (k : Int) (l : List Val) : (headS k l).size ≤ 21 ∧ 1 ≤ (headS k l).size := by
  unfold headS
  have h1 := put_size (l.length : Int)
  have h2 := put_size ((l.length : Int) - (someV l).length)
  rw [ByteArray.size_append, ByteArray.size_append, ofInts_len [_]]
  simp only [List.length_cons, List.length_nil]
  omega
theorem chunkB_size {t k : Int} {l : List Val} (h : ∀ v, v ∈ l → okV v) (hl : l.length ≤ 4096) : (chunkB t k l).size ≤ 4398046585375 ∧ 1 ≤ (chunkB t k l).size := by
  unfold chunkB
  have h1 := head_size k l
  have h2 := pay_size (t := t) (k := k) (some_ok h) (by have := some_len l; omega)
  have h3 := packB_size (l := nullsV l) (by simp [nullsV]; omega)
  split
  · rw [ByteArray.size_append, ByteArray.size_append]; omega
  · rw [ByteArray.size_append]; omega
theorem takeV_get {l : List Val} {k : Int} (h : 0 ≤ k ∧ k < l.length) : l.take (k + 1).toNat = l.take k.toNat ++ [l[k.toNat]!] := by
  rw [show (k + 1).toNat = k.toNat + 1 by omega, List.take_succ_eq_append_getElem (by omega), getElem!_pos l k.toNat (by omega)]
def usesB (t k : Int) : Bool := if t = 3 then decide (k = 1) || decide (k = 3) else decide (k = 1) || decide (k = 2) || decide (k = 4)

abbrev c_numbers_ok : Ct := .fn [.list tVal] (some (fun (l : List Val) => (l.length ≤ 1073741824))) (fun (l : List Val) => .d (.list (.int .i64)) (numsV l))
set_option maxRecDepth 100000 in
set_option maxHeartbeats 4000000 in
theorem numbers_ok : CtOk Tryz.prog 62 c_numbers_ok := by
  refine CtOk.fn tb57_ok mixed [] [] rfl rfl ?_
  rintro ⟨(l : List Val), _⟩ hpre
  replace hpre := hpre _ rfl
  dsimp only [cu] at hpre
  have hl := hpre
  refine ⟨[(0, 6, LA.mk [.sl 8 (.int .i64), .lst 3 (.int .i64) 2] (fun y => Tag 46 ∧ cu [.int .i64, .list (.int .i64)] (fun (k : Int) (M : List Int) => (0 ≤ k ∧ k ≤ l.length) ∧ (M = numsV (l.take k.toNat))) y) (cu [.int .i64, .list (.int .i64)] (fun (k : Int) (M : List Int) => ((l.length : Int) - k).toNat)) (cu [.int .i64, .list (.int .i64)] (fun (k : Int) (M : List Int) => ([] : List (Nat × Nat × LA)))))], ?_⟩
  repeat' (first
    | (
 with_reducible refine Side.mk ⟨(⟨⟩ : Tag 46), ?_⟩
 dsimp only [cu, joinT, ckTys, gts, Prod.eta, List.nil_append]
 refine ⟨?_, ?_⟩
 · omega
 · first
   | (rfl)
   | (
  unfold numsV
  rw [takeV_get (by omega), List.map_append]
  show _ = numsV (l.take k.toNat) ++ _
  rw [← hM]
  rfl))
    | (
 with_reducible refine Side.mk ?_
 (try dsimp only [cu, joinT, ckTys, gts, loK, hiK, Prod.eta, List.nil_append])
 first
 | (done)
 | (with_reducible rfl)
 | (omega)
 | (exact Eq.refl _)
 | (simp only [List.length_append, List.length_cons, List.length_nil]; omega)
 | (
  have hml := congrArg List.length hM
  simp only [numsV, List.length_map, List.length_take] at hml
  (try simp only [List.length_cons, List.length_nil])
  omega))
    | (conv => whnf
       first
        | done
        | exact trivial
        | with_reducible refine NilBr.mk (fun h => ?_) ?_
        | with_reducible first | refine w_andS ?_ ?_ | refine w_andL ?_ ?_ | refine w_kern (by kernel_rfl) ?_ | refine w_true ?_ | refine w_nd ?_ ?_ | refine w_in ?_ ?_ | refine w_and ?_ ?_
        | ((with_reducible first | refine w_brN (fun h => ?_) (fun h => ?_) | refine w_brD (fun h => ?_) (fun h => ?_) | refine w_br (fun h => ?_) (fun h => ?_)) <;> (try dsimp only [cu, Prod.eta, List.nil_append] at h) <;> (try (exfalso; omega; done)))
        | (
 intro yy (hy : Tag 46 ∧ _)
 obtain ⟨(k : Int), (M : List Int), _⟩ := yy
 replace hy := hy.2
 dsimp only [cu, joinT, ckTys, gts, Prod.eta, List.nil_append] at hy
 obtain ⟨hk, hM⟩ := hy)))
  all_goals (
 with_reducible refine Leaf.mk ?_
 (try dsimp only [cu, joinT, ckTys, gts, Prod.eta, List.nil_append] at *)
 first
 | (done)
 | (rw [hM, List.take_of_length_le (by omega)]))
abbrev tb58 : Tbl := (62, c_numbers_ok) :: tb57
theorem tb58_ok : TblOk Tryz.prog tb58 := TblOk.cons numbers_ok tb57_ok

abbrev c_strings_ok : Ct := .fn [.list tVal] (some (fun (l : List Val) => (l.length ≤ 1073741824))) (fun (l : List Val) => .d (.list .str) (strsV l))
set_option maxRecDepth 100000 in
set_option maxHeartbeats 4000000 in
theorem strings_ok : CtOk Tryz.prog 64 c_strings_ok := by
  refine CtOk.fn tb58_ok mixed [] [] rfl rfl ?_
  rintro ⟨(l : List Val), _⟩ hpre
  replace hpre := hpre _ rfl
  dsimp only [cu] at hpre
  have hl := hpre
  refine ⟨[(0, 6, LA.mk [.sl 8 (.int .i64), .lst 3 .str 9] (fun y => Tag 47 ∧ cu [.int .i64, .list .str] (fun (k : Int) (M : List ByteArray) => (0 ≤ k ∧ k ≤ l.length) ∧ (M = strsV (l.take k.toNat))) y) (cu [.int .i64, .list .str] (fun (k : Int) (M : List ByteArray) => ((l.length : Int) - k).toNat)) (cu [.int .i64, .list .str] (fun (k : Int) (M : List ByteArray) => ([] : List (Nat × Nat × LA)))))], ?_⟩
  repeat' (first
    | (
 with_reducible refine Side.mk ⟨(⟨⟩ : Tag 47), ?_⟩
 dsimp only [cu, joinT, ckTys, gts, Prod.eta, List.nil_append]
 refine ⟨?_, ?_⟩
 · omega
 · first
   | (rfl)
   | (
  unfold strsV
  rw [takeV_get (by omega), List.map_append]
  show _ = strsV (l.take k.toNat) ++ _
  rw [← hM]
  rfl))
    | (
 with_reducible refine Side.mk ?_
 (try dsimp only [cu, joinT, ckTys, gts, loK, hiK, Prod.eta, List.nil_append])
 first
 | (done)
 | (with_reducible rfl)
 | (omega)
 | (exact Eq.refl _)
 | (simp only [List.length_append, List.length_cons, List.length_nil]; omega)
 | (
  have hml := congrArg List.length hM
  simp only [strsV, List.length_map, List.length_take] at hml
  (try simp only [List.length_cons, List.length_nil])
  omega))
    | (conv => whnf
       first
        | done
        | exact trivial
        | with_reducible refine NilBr.mk (fun h => ?_) ?_
        | with_reducible first | refine w_andS ?_ ?_ | refine w_andL ?_ ?_ | refine w_kern (by kernel_rfl) ?_ | refine w_true ?_ | refine w_nd ?_ ?_ | refine w_in ?_ ?_ | refine w_and ?_ ?_
        | ((with_reducible first | refine w_brN (fun h => ?_) (fun h => ?_) | refine w_brD (fun h => ?_) (fun h => ?_) | refine w_br (fun h => ?_) (fun h => ?_)) <;> (try dsimp only [cu, Prod.eta, List.nil_append] at h) <;> (try (exfalso; omega; done)))
        | (
 intro yy (hy : Tag 47 ∧ _)
 obtain ⟨(k : Int), (M : List ByteArray), _⟩ := yy
 replace hy := hy.2
 dsimp only [cu, joinT, ckTys, gts, Prod.eta, List.nil_append] at hy
 obtain ⟨hk, hM⟩ := hy)))
  all_goals (
 with_reducible refine Leaf.mk ?_
 (try dsimp only [cu, joinT, ckTys, gts, Prod.eta, List.nil_append] at *)
 first
 | (done)
 | (rw [hM, List.take_of_length_le (by omega)]))
abbrev tb59 : Tbl := (64, c_strings_ok) :: tb58
theorem tb59_ok : TblOk Tryz.prog tb59 := TblOk.cons strings_ok tb58_ok

abbrev c_pay_ok : Ct := .fn [.int .i64, .int .i64, .list tVal] (some (fun (t : Int) (c : Int) (l : List Val) => (l.length ≤ 4096) ∧ (∀ v, v ∈ l → okV v))) (fun (t : Int) (c : Int) (l : List Val) => .d .str (payS t c l))
set_option maxRecDepth 100000 in
set_option maxHeartbeats 4000000 in
theorem pay_ok : CtOk Tryz.prog 43 c_pay_ok := by
  refine CtOk.fn tb59_ok mixed [] [] rfl rfl ?_
  rintro ⟨(t : Int), (c : Int), (l : List Val), _⟩ hpre
  replace hpre := hpre _ rfl
  dsimp only [cu] at hpre
  obtain ⟨hl, hv⟩ := hpre
  refine ⟨[(0, 20, LA.mk [.sl 28 (.int .i64), .sl 7 .str] (fun y => Tag 48 ∧ cu [.int .i64, .str] (fun (k : Int) (x : ByteArray) => (0 ≤ k ∧ k ≤ l.length) ∧ (plL t l = x ++ plL t (l.drop k.toNat)) ∧ ((x.size : Int) ≤ 1048586 * k)) y) (cu [.int .i64, .str] (fun (k : Int) (x : ByteArray) => ((l.length : Int) - k).toNat)) (cu [.int .i64, .str] (fun (k : Int) (x : ByteArray) => ([] : List (Nat × Nat × LA)))))], ?_⟩
  repeat' (first
    | (
 with_reducible refine Side.mk ⟨(⟨⟩ : Tag 48), ?_⟩
 dsimp only [cu, joinT, ckTys, gts, Prod.eta, List.nil_append]
 refine ⟨?_, ?_, ?_⟩
 · omega
 · first
   | (rw [show (⟨#[]⟩ : ByteArray) = ByteArray.empty from rfl, ByteArray.empty_append]; rfl)
   | (
  have hat := okV_at hv k.toNat
  have hat1 := hat.1
  have h64 := u64_id (n := (l[k.toNat]!.2.2.size : Int)) (by omega)
  have p1 := put_size (l[k.toNat]!.2.2.size : Int)
  have p2 := put_size (zigS l[k.toNat]!.2.1)
  first
  | (
   have ht : t = 3 := by with_reducible assumption
   rw [hx, plL_step (by omega), plV, if_pos ht, h64, ← ByteArray.append_assoc])
  | (
   have ht : ¬ t = 3 := by with_reducible assumption
   rw [hx, plL_step (by omega), plV, if_neg ht, ← ByteArray.append_assoc]))
 · first
   | (exact Int.le_refl _)
   | (
  have hat := okV_at hv k.toNat
  have hat1 := hat.1
  have h64 := u64_id (n := (l[k.toNat]!.2.2.size : Int)) (by omega)
  have p1 := put_size (l[k.toNat]!.2.2.size : Int)
  have p2 := put_size (zigS l[k.toNat]!.2.1)
  simp only [ByteArray.size_append, h64]
  omega))
    | (
 with_reducible refine Side.mk ?_
 (try dsimp only [cu, joinT, ckTys, gts, loK, hiK, Prod.eta, List.nil_append])
 first
 | (done)
 | (with_reducible rfl)
 | (omega)
 | (exact Eq.refl _)
 | (simp only [List.length_append, List.length_cons, List.length_nil]; omega)
 | (
  have hat := okV_at hv k.toNat
  have hat1 := hat.1
  have h64 := u64_id (n := (l[k.toNat]!.2.2.size : Int)) (by omega)
  have p1 := put_size (l[k.toNat]!.2.2.size : Int)
  have p2 := put_size (zigS l[k.toNat]!.2.1)
  first
  | (omega)
  | (exact zig_rng hat.2)
  | (exact hat.2))
 | (exact u64_wrap _)
 | (
  have hat := okV_at hv k.toNat
  have hat1 := hat.1
  have h64 := u64_id (n := (l[k.toNat]!.2.2.size : Int)) (by omega)
  have p1 := put_size (l[k.toNat]!.2.2.size : Int)
  have p2 := put_size (zigS l[k.toNat]!.2.1)
  first
  | (
   rw [h64]
   omega)
  | (
   simp only [ByteArray.size_append, h64]
   omega))
 | (refine ⟨by simp [numsV]; omega, nums_in hv⟩)
 | (refine ⟨strs_le hv, by simp [strsV]; omega⟩))
    | (conv => whnf
       first
        | done
        | exact trivial
        | with_reducible refine NilBr.mk (fun h => ?_) ?_
        | with_reducible first | refine w_andS ?_ ?_ | refine w_andL ?_ ?_ | refine w_kern (by kernel_rfl) ?_ | refine w_true ?_ | refine w_nd ?_ ?_ | refine w_in ?_ ?_ | refine w_and ?_ ?_
        | ((with_reducible first | refine w_brN (fun h => ?_) (fun h => ?_) | refine w_brD (fun h => ?_) (fun h => ?_) | refine w_br (fun h => ?_) (fun h => ?_)) <;> (try dsimp only [cu, Prod.eta, List.nil_append] at h) <;> (try (exfalso; omega; done)))
        | (
 intro yy (hy : Tag 48 ∧ _)
 obtain ⟨(k : Int), (x : ByteArray), _⟩ := yy
 replace hy := hy.2
 dsimp only [cu, joinT, ckTys, gts, Prod.eta, List.nil_append] at hy
 obtain ⟨hk, hx, hz⟩ := hy)))
  all_goals (
 with_reducible refine Leaf.mk ?_
 (try dsimp only [cu, joinT, ckTys, gts, Prod.eta, List.nil_append] at *)
 first
 | (done)
 | (
  have hc : c = 2 := by with_reducible assumption
  rw [payS, if_pos hc])
 | (
  have hc : ¬ c = 2 := by with_reducible assumption
  first
  | (
   have hc3 : c = 3 := by with_reducible assumption
   rw [payS, if_neg hc, if_pos hc3])
  | (
   have hc3 : ¬ c = 3 := by with_reducible assumption
   first
   | (
    have hc4 : c = 4 := by with_reducible assumption
    rw [payS, if_neg hc, if_neg hc3, if_pos hc4])
   | (
    have hc4 : ¬ c = 4 := by with_reducible assumption
    rw [payS, if_neg hc, if_neg hc3, if_neg hc4, hx, List.drop_eq_nil_of_le (by omega), plL, ByteArray.append_empty]))))
abbrev tb60 : Tbl := (43, c_pay_ok) :: tb59
theorem tb60_ok : TblOk Tryz.prog tb60 := TblOk.cons pay_ok tb59_ok


theorem some_step {l : List Val} {k : Int} (h : 0 ≤ k ∧ k < l.length) : someV (l.take (k + 1).toNat) = someV (l.take k.toNat) ++ (if l[k.toNat]!.1 = true then [] else [l[k.toNat]!]) := by
  rw [takeV_get h]
  unfold someV
  rw [List.filter_append]
  generalize l[k.toNat]! = x
  by_cases q : x.1 = true
  · rw [if_pos q]; simp [q]
  · rw [if_neg q]; simp [q]
theorem nulls_step {l : List Val} {k : Int} (h : 0 ≤ k ∧ k < l.length) : nullsV (l.take (k + 1).toNat) = nullsV (l.take k.toNat) ++ [l[k.toNat]!.1] := by
  rw [takeV_get h]; simp [nullsV]
theorem chunkB_y {t k : Int} {l : List Val} (h : (someV l).length < l.length) : chunkB t k l = (headS k l ++ packB (nullsV l)) ++ payS t k (someV l) := by rw [chunkB, if_pos h]
theorem chunkB_n {t k : Int} {l : List Val} (h : ¬ (someV l).length < l.length) : chunkB t k l = headS k l ++ payS t k (someV l) := by rw [chunkB, if_neg h]

abbrev c_build8_ok : Ct := .fn [tCol, .int .i64, .list tVal] (some (fun (c : Col) (k : Int) (l : List Val) => (l.length ≤ 4096) ∧ (∀ v, v ∈ l → okV v))) (fun (c : Col) (k : Int) (l : List Val) => .d .str (buildS c.2.1 k l))
set_option maxRecDepth 100000 in
set_option maxHeartbeats 4000000 in
theorem build8_ok : CtOk Tryz.prog 24 c_build8_ok := by
  refine CtOk.fn tb60_ok mixed [] [] rfl rfl ?_
  rintro ⟨(c : Col), (k : Int), (l : List Val), _⟩ hpre
  replace hpre := hpre _ rfl
  dsimp only [cu] at hpre
  obtain ⟨hl, hv⟩ := hpre
  refine ⟨[(0, 8, LA.mk [.sl 14 (.int .i64), .lst 7 tVal 36, .lst 8 .bool 4] (fun y => Tag 49 ∧ cu [.int .i64, .list tVal, .list .bool] (fun (i : Int) (P : List Val) (N : List Bool) => (0 ≤ i ∧ i ≤ l.length) ∧ (P = someV (l.take i.toNat)) ∧ (N = nullsV (l.take i.toNat))) y) (cu [.int .i64, .list tVal, .list .bool] (fun (i : Int) (P : List Val) (N : List Bool) => ((l.length : Int) - i).toNat)) (cu [.int .i64, .list tVal, .list .bool] (fun (i : Int) (P : List Val) (N : List Bool) => ([] : List (Nat × Nat × LA)))))], ?_⟩
  repeat' (first
    | (
 with_reducible refine Side.mk ⟨(⟨⟩ : Tag 49), ?_⟩
 dsimp only [cu, joinT, ckTys, gts, Prod.eta, List.nil_append]
 refine ⟨?_, ?_, ?_⟩
 · omega
 · first
   | (rfl)
   | (
  have hb : l[i.toNat]!.1 = true := by first | with_reducible assumption | exact nz_t (by with_reducible assumption)
  rw [some_step (by omega), ← hP, if_pos hb, List.append_nil])
   | (
  have hb : ¬ l[i.toNat]!.1 = true := by first | with_reducible assumption | (simp_all; done)
  rw [some_step (by omega), ← hP, if_neg hb])
 · first
   | (rfl)
   | (rw [nulls_step (by omega), ← hN]))
    | (
 with_reducible refine Side.mk ?_
 (try dsimp only [cu, joinT, ckTys, gts, loK, hiK, Prod.eta, List.nil_append])
 first
 | (done)
 | (with_reducible rfl)
 | (omega)
 | (exact Eq.refl _)
 | (simp only [List.length_append, List.length_cons, List.length_nil]; omega)
 | (
  have hpl := some_len (l.take i.toNat)
  rw [← hP, List.length_take] at hpl
  first
  | (omega)
  | (
   (try simp only [List.length_cons, List.length_nil])
   omega))
 | (
  have hnl := congrArg List.length hN
  simp only [nullsV, List.length_map, List.length_take] at hnl
  (try simp only [List.length_cons, List.length_nil])
  omega)
 | (exact u64_wrap _)
 | (
  have hpl := some_len (l.take i.toNat)
  rw [← hP, List.length_take] at hpl
  have w1 := u64_id (n := (l.length : Int)) (by omega)
  have w2 := u64_id (n := (l.length : Int) - P.length) (by omega)
  first
  | (omega)
  | (
   rw [w1]
   omega)
  | (
   rw [w2]
   omega)
  | (
   have hF : P = someV l := by rw [hP, List.take_of_length_le (by omega)]
   have hG : N = nullsV l := by rw [hN, List.take_of_length_le (by omega)]
   have hh := head_size k l
   have hp := pay_size (t := c.2.1) (k := k) (some_ok hv) (by have := some_len l; omega)
   have hq := packB_size (l := nullsV l) (by simp [nullsV]; omega)
   have p1 := put_size (l.length : Int)
   have p2 := put_size ((l.length : Int) - P.length)
   rw [← hF] at hp
   rw [← hG] at hq
   simp only [ByteArray.size_append, w1, w2, one_size, ofInts_len [_], four_size, List.length_cons, List.length_nil]
   omega))
 | (
  have hF : P = someV l := by rw [hP, List.take_of_length_le (by omega)]
  have hG : N = nullsV l := by rw [hN, List.take_of_length_le (by omega)]
  have hpl := some_len (l.take i.toNat)
  rw [← hP, List.length_take] at hpl
  refine ⟨by omega, ?_⟩
  rw [hF]
  exact some_ok hv)
 | (
  have hnl := congrArg List.length hN
  simp only [nullsV, List.length_map, List.length_take] at hnl
  omega))
    | (conv => whnf
       first
        | done
        | exact trivial
        | with_reducible refine NilBr.mk (fun h => ?_) ?_
        | with_reducible first | refine w_andS ?_ ?_ | refine w_andL ?_ ?_ | refine w_kern (by kernel_rfl) ?_ | refine w_true ?_ | refine w_nd ?_ ?_ | refine w_in ?_ ?_ | refine w_and ?_ ?_
        | ((with_reducible first | refine w_brN (fun h => ?_) (fun h => ?_) | refine w_brD (fun h => ?_) (fun h => ?_) | refine w_br (fun h => ?_) (fun h => ?_)) <;> (try dsimp only [cu, Prod.eta, List.nil_append] at h) <;> (try (exfalso; omega; done)))
        | (
 intro yy (hy : Tag 49 ∧ _)
 obtain ⟨(i : Int), (P : List Val), (N : List Bool), _⟩ := yy
 replace hy := hy.2
 dsimp only [cu, joinT, ckTys, gts, Prod.eta, List.nil_append] at hy
 obtain ⟨hi, hP, hN⟩ := hy)))
  all_goals (
 with_reducible refine Leaf.mk ?_
 (try dsimp only [cu, joinT, ckTys, gts, Prod.eta, List.nil_append] at *)
 first
 | (done)
 | (
  have hpl := some_len (l.take i.toNat)
  rw [← hP, List.length_take] at hpl
  have w1 := u64_id (n := (l.length : Int)) (by omega)
  have w2 := u64_id (n := (l.length : Int) - P.length) (by omega)
  have hF : P = someV l := by rw [hP, List.take_of_length_le (by omega)]
  have hG : N = nullsV l := by rw [hN, List.take_of_length_le (by omega)]
  first
  | (
   have hlt : (someV l).length < l.length := by rw [← hF]; omega
   rw [w1, w2, buildS, sealS, chunkB_y hlt, hF, hG]
   (try rfl))
  | (
   have hlt : ¬ (someV l).length < l.length := by rw [← hF]; omega
   rw [w1, w2, buildS, sealS, chunkB_n hlt, hF]
   (try rfl))))
abbrev tb61 : Tbl := (24, c_build8_ok) :: tb60
theorem tb61_ok : TblOk Tryz.prog tb61 := TblOk.cons build8_ok tb60_ok


/- Decoding of chunks. -/
abbrev ZV : Val := (false, 0, ⟨#[]⟩)
def nV (n : Int) : Val := (false, n, ⟨#[]⟩)
def sV (s : ByteArray) : Val := (false, 0, s)
abbrev NV : Val := (true, 0, ⟨#[]⟩)
/-- n values of the plain codec, from a on. -/
def pvGo (t : Int) (s : ByteArray) : Nat → Int → List Val → List Val × Bool
  | 0, a, M => (M, decide (a = s.size))
  | k + 1, a, M => if (getR s a).2.2 ≠ 0 then ([], false)
    else if t = 3 then (if (getR s a).1 > s.size - (getR s a).2.1 then ([], false) else pvGo t s k ((getR s a).2.1 + (getR s a).1) (M ++ [sV (s.extract (getR s a).2.1.toNat ((getR s a).2.1 + (getR s a).1).toNat)]))
    else pvGo t s k (getR s a).2.1 (M ++ [nV (zagS (getR s a).1)])
def padV (n : Int) (l : List Val) : List Val := l ++ List.replicate (n - l.length).toNat ZV
def rstS (t k : Int) (s : ByteArray) (n : Int) : List Val × Bool :=
  if k = 1 then pvGo t s n.toNat 0 [] else if k = 3 then ((decDict s n).1.map sV, decide ((decDict s n).2 = 0))
  else if k = 4 then ((decDelta s n).1.map nV, decide ((decDelta s n).2 = 0)) else ((decRuns s n).1.map nV, decide ((decRuns s n).2 = 0))
def unpS (t k : Int) (s : ByteArray) (n : Int) : List Val × Bool := if k = 1 then pvGo t s n.toNat 0 [] else (padV n (rstS t k s n).1, (rstS t k s n).2)
theorem pv_err {t : Int} {s : ByteArray} {n a : Int} {M : List Val} (h : (M.length : Int) < n) (h1 : ¬ (getR s a).2.2 = 0) : pvGo t s (n - M.length).toNat a M = ([], false) := by
  rw [show (n - M.length).toNat = (n - M.length - 1).toNat + 1 by omega, pvGo, if_pos h1]
theorem pv_short {t : Int} {s : ByteArray} {n a : Int} {M : List Val} (h : (M.length : Int) < n) (h1 : (getR s a).2.2 = 0) (ht : t = 3) (h2 : (getR s a).1 > s.size - (getR s a).2.1) : pvGo t s (n - M.length).toNat a M = ([], false) := by
  rw [show (n - M.length).toNat = (n - M.length - 1).toNat + 1 by omega, pvGo, if_neg (fun q => q h1), if_pos ht, if_pos h2]
theorem pv_str {t : Int} {s : ByteArray} {n a : Int} {M : List Val} (h : (M.length : Int) < n) (h1 : (getR s a).2.2 = 0) (ht : t = 3) (h2 : ¬ (getR s a).1 > s.size - (getR s a).2.1) :
    pvGo t s (n - M.length).toNat a M = pvGo t s (n - (M ++ [sV (s.extract (getR s a).2.1.toNat ((getR s a).2.1 + (getR s a).1).toNat)]).length).toNat ((getR s a).2.1 + (getR s a).1) (M ++ [sV (s.extract (getR s a).2.1.toNat ((getR s a).2.1 + (getR s a).1).toNat)]) := by
  rw [show (n - M.length).toNat = (n - M.length - 1).toNat + 1 by omega, pvGo, if_neg (fun q => q h1), if_pos ht, if_neg h2]
  congr 1
  simp; omega
theorem pv_num {t : Int} {s : ByteArray} {n a : Int} {M : List Val} (h : (M.length : Int) < n) (h1 : (getR s a).2.2 = 0) (ht : ¬ t = 3) :
    pvGo t s (n - M.length).toNat a M = pvGo t s (n - (M ++ [nV (zagS (getR s a).1)]).length).toNat (getR s a).2.1 (M ++ [nV (zagS (getR s a).1)]) := by
  rw [show (n - M.length).toNat = (n - M.length - 1).toNat + 1 by omega, pvGo, if_neg (fun q => q h1), if_neg ht]
  congr 1
  simp; omega
theorem pv_end {t : Int} {s : ByteArray} {n a : Int} {M : List Val} (h : ¬ (M.length : Int) < n) : pvGo t s (n - M.length).toNat a M = (M, decide (a = s.size)) := by
  rw [show (n - M.length).toNat = 0 by omega, pvGo]
theorem pv_len {t : Int} {s : ByteArray} : ∀ (k : Nat) (a : Int) (M : List Val), (pvGo t s k a M).2 = true → (pvGo t s k a M).1.length = M.length + k
  | 0, a, M, h => rfl
  | k + 1, a, M, h => by
    rw [pvGo] at h ⊢
    split at h
    · cases h
    · rename_i h1
      rw [if_neg h1]
      split at h
      · rename_i ht
        rw [if_pos ht]
        split at h
        · cases h
        · rename_i h2
          rw [if_neg h2, pv_len k _ _ h]; simp; omega
      · rename_i ht
        rw [if_neg ht, pv_len k _ _ h]; simp; omega
theorem dGo_len {s : ByteArray} {n : Int} : ∀ (m : Nat) (a : Int) (M : List Int), (n - M.length).toNat ≤ m → (M.length : Int) ≤ n → ((dGo s n a M).2 = 0 → ((dGo s n a M).1.length : Int) = n) ∧ ((dGo s n a M).2 ≠ 0 → (dGo s n a M).1 = [])
  | m, a, M, hm, hM => by
    rw [dGo]
    split
    · split
      · rename_i h1; exact ⟨fun q => absurd q h1, fun _ => rfl⟩
      · split
        · exact ⟨fun q => absurd q (by decide), fun _ => rfl⟩
        · rename_i h2
          split
          · rename_i h3; exact ⟨fun q => absurd q h3, fun _ => rfl⟩
          · split
            · exact ⟨fun q => absurd q (by decide), fun _ => rfl⟩
            · have hg := getR_rng s a
              obtain ⟨m, rfl⟩ : ∃ m', m = m' + 1 := ⟨m - 1, by omega⟩
              exact dGo_len m _ _ (by simp only [List.length_append, List.length_replicate]; omega) (by simp only [List.length_append, List.length_replicate]; omega)
    · split
      · exact ⟨fun q => absurd q (by decide), fun _ => rfl⟩
      · exact ⟨fun _ => by show ((M.length : Nat) : Int) = n; omega, fun q => absurd rfl q⟩
theorem runs_ok {s : ByteArray} {n : Int} : ((decRuns s n).2 = 0 → ((decRuns s n).1.length : Int) = n) ∧ ((decRuns s n).2 ≠ 0 → (decRuns s n).1 = []) := by
  unfold decRuns
  split
  · exact ⟨fun q => absurd q (by decide), fun _ => rfl⟩
  · exact dGo_len _ _ _ (Nat.le_refl _) (by simp; omega)
theorem dd_len {s : ByteArray} {n : Int} : ∀ (m : Nat) (a : Int) (M : List Int), (n - M.length).toNat ≤ m → (M.length : Int) ≤ n → ((dd s n a M).2 = 0 → ((dd s n a M).1.length : Int) = n) ∧ ((dd s n a M).2 ≠ 0 → (dd s n a M).1 = [])
  | m, a, M, hm, hM => by
    rw [dd]
    split
    · rename_i h
      split
      · rename_i h2
        have hk := kB_rng h
        have hb := (blkD_ok h2).1
        obtain ⟨m, rfl⟩ : ∃ m', m = m' + 1 := ⟨m - 1, by omega⟩
        exact dd_len m _ _ (by simp only [List.length_append, sumW_len]; omega) (by simp only [List.length_append, sumW_len]; omega)
      · rename_i h2; exact ⟨fun q => absurd q h2, fun _ => rfl⟩
    · split
      · exact ⟨fun q => absurd q (by decide), fun _ => rfl⟩
      · exact ⟨fun _ => by show ((M.length : Nat) : Int) = n; omega, fun q => absurd rfl q⟩
theorem delta_ok {s : ByteArray} {n : Int} : ((decDelta s n).2 = 0 → ((decDelta s n).1.length : Int) = n) ∧ ((decDelta s n).2 ≠ 0 → (decDelta s n).1 = []) := by
  unfold decDelta
  split
  · exact ⟨fun q => absurd q (by decide), fun _ => rfl⟩
  · split
    · rename_i hn
      split
      · exact ⟨fun _ => by subst hn; rfl, fun q => absurd rfl q⟩
      · exact ⟨fun q => absurd q (by decide), fun _ => rfl⟩
    · split
      · rename_i h1; exact ⟨fun q => absurd q h1, fun _ => rfl⟩
      · exact dd_len _ _ _ (Nat.le_refl _) (by simp only [List.length_cons, List.length_nil]; omega)


theorem decDict_ok {s : ByteArray} {n : Int} : ((decDict s n).2 = 0 → ((decDict s n).1.length : Int) = n) ∧ ((decDict s n).2 ≠ 0 → (decDict s n).1 = []) := by
  unfold decDict decA decB decC
  split
  · exact ⟨fun q => absurd q (by decide), fun _ => rfl⟩
  rename_i q1
  split
  · rename_i h; exact ⟨fun q => absurd q h, fun _ => rfl⟩
  split
  · exact ⟨fun q => absurd q (by decide), fun _ => rfl⟩
  split
  · rename_i h; exact ⟨fun q => absurd q h, fun _ => rfl⟩
  split
  · rename_i h; exact ⟨fun q => absurd q h, fun _ => rfl⟩
  rename_i q5
  split
  · exact ⟨fun q => absurd q (by decide), fun _ => rfl⟩
  split
  · exact ⟨fun q => absurd q (by decide), fun _ => rfl⟩
  · have := unpackR_len (Decidable.not_not.1 q5)
    refine ⟨fun _ => ?_, fun q => absurd rfl q⟩
    simp only [List.length_map]; omega
theorem rst_len {t k : Int} {s : ByteArray} {n : Int} (h0 : 0 ≤ n) (h : (rstS t k s n).2 = true) : ((rstS t k s n).1.length : Int) = n := by
  unfold rstS at h ⊢
  split at h
  · rename_i h1
    rw [if_pos h1, pv_len _ _ _ h]; simp; omega
  · rename_i h1
    rw [if_neg h1]
    split at h
    · rename_i h2
      rw [if_pos h2]
      have := decDict_ok.1 (of_decide_eq_true h)
      simp only [List.length_map]; exact this
    · rename_i h2
      rw [if_neg h2]
      split at h
      · rename_i h3
        rw [if_pos h3]
        have := delta_ok.1 (of_decide_eq_true h)
        simp only [List.length_map]; exact this
      · rename_i h3
        rw [if_neg h3]
        have := runs_ok.1 (of_decide_eq_true h)
        simp only [List.length_map]; exact this
theorem unp_2 (t k : Int) (s : ByteArray) (n : Int) : (unpS t k s n).2 = (rstS t k s n).2 := by
  unfold unpS
  split
  · rename_i h; rw [rstS, if_pos h]
  · rfl
theorem unp_1 {t k : Int} {s : ByteArray} {n : Int} (h0 : 0 ≤ n) (h : (rstS t k s n).2 = true) : (unpS t k s n).1 = (rstS t k s n).1 := by
  have hl := rst_len h0 h
  unfold unpS
  split
  · rename_i h1; rw [rstS, if_pos h1]
  · show padV n (rstS t k s n).1 = _
    unfold padV
    rw [show (n - (rstS t k s n).1.length).toNat = 0 by omega]; simp
def pkV (b : Bool) (R : List Val) : Val := if b = true then NV else R[0]!
def rsV (b : Bool) (R : List Val) : List Val := if b = true then R else R.drop 1
def asm (c : Col) : List Bool → List Val → List Val → List Val × Bool
  | [], _, M => (M, true)
  | b :: r, R, M => if vCheck c (pkV b R) ≠ 0 then ([], false) else asm c r (rsV b R) (M ++ [pkV b R])
def cntF : List Bool → Nat
  | [] => 0
  | b :: r => (if b = true then 0 else 1) + cntF r
def nulS (s : ByteArray) (a n k : Int) : List Bool × Bool × Int :=
  if k > 0 then (if a + (n + 7).tdiv 8 > s.size ∨ (unpB (s.extract a.toNat (a + (n + 7).tdiv 8).toNat) n).2 ≠ 0 ∨ cntB (s.extract a.toNat (a + (n + 7).tdiv 8).toNat) ≠ k then ([], false, 0)
    else ((unpB (s.extract a.toNat (a + (n + 7).tdiv 8).toNat) n).1, true, a + (n + 7).tdiv 8))
  else (List.replicate n.toNat false, true, a)
def bodB (c : Col) (N : List Bool) (r : List Val × Bool) : List Val × Bool := if r.2 = false then ([], false) else asm c N r.1 []
def bodA (c : Col) (s : ByteArray) (n k : Int) (x : List Bool × Bool × Int) : List Val × Bool := if x.2.1 = false then ([], false) else bodB c x.1 (rstS c.2.1 (byteAt s (0 : Int).toNat) (s.extract x.2.2.toNat s.size) (n - k))
def bodS (c : Col) (s : ByteArray) : List Val × Bool :=
  if usesB c.2.1 (byteAt s (0 : Int).toNat) = false ∨ (getR s 1).2.2 ≠ 0 ∨ (getR s 1).1 > 4096 then ([], false)
  else if (getR s (getR s 1).2.1).2.2 ≠ 0 ∨ (getR s (getR s 1).2.1).1 > (getR s 1).1 then ([], false)
  else bodA c s (getR s 1).1 (getR s (getR s 1).2.1).1 (nulS s (getR s (getR s 1).2.1).2.1 (getR s 1).1 (getR s (getR s 1).2.1).1)
def decV (c : Col) (s : ByteArray) : List Val × Int :=
  if vKnown c.2.1 = false then ([], 1) else if openE s ≠ 0 then ([], openE s) else if (bodS c (bodyS s)).2 = false then ([], 2) else ((bodS c (bodyS s)).1, 0)
theorem asm_step {c : Col} {N : List Bool} {R M : List Val} {i : Int} (h : 0 ≤ i ∧ i < N.length) : asm c (N.drop i.toNat) R M = if vCheck c (pkV N[i.toNat]! R) ≠ 0 then ([], false) else asm c (N.drop (i + 1).toNat) (rsV N[i.toNat]! R) (M ++ [pkV N[i.toNat]! R]) := by
  rw [drop_step N i h]; rfl
theorem asm_end {c : Col} {N : List Bool} {R M : List Val} {i : Int} (h : ¬ i < N.length) (h0 : 0 ≤ i) : asm c (N.drop i.toNat) R M = (M, true) := by
  rw [List.drop_eq_nil_of_le (by omega)]; rfl
theorem cntF_step {N : List Bool} {i : Int} (h : 0 ≤ i ∧ i < N.length) : cntF (N.drop i.toNat) = (if N[i.toNat]! = true then 0 else 1) + cntF (N.drop (i + 1).toNat) := by
  rw [drop_step N i h]; rfl
theorem cntF_app (a b : List Bool) : cntF (a ++ b) = cntF a + cntF b := by
  induction a with
  | nil => simp [cntF]
  | cons x a ih => simp only [List.cons_append, cntF, ih]; omega
theorem cntF_rep (n : Nat) : cntF (List.replicate n false) = n := by
  induction n with
  | zero => rfl
  | succ n ih => rw [List.replicate_succ, cntF, ih]; simp; omega
theorem cntF_bits (s : ByteArray) : ∀ m : Nat, ((cntF (bitsB s m) : Nat) : Int) + cntTo s m = m
  | 0 => rfl
  | m + 1 => by
    have ih := cntF_bits s m
    have e := bitsB_succ s (k := (m : Int)) (by omega)
    rw [show ((m : Int) + 1).toNat = m + 1 by omega, show ((m : Int)).toNat = m by omega] at e
    rw [e, cntF_app, cntTo]
    have hb := sbit01 s m
    by_cases q : bitB s m = true
    · have := bitB_t q
      simp only [cntF, q]; simp; omega
    · have := bitB_f (by simpa using q : bitB s m = false)
      simp only [cntF, q]; simp; omega
theorem cntTo_same {s : ByteArray} {n : Nat} : ∀ d : Nat, (∀ q : Nat, n ≤ q → q < n + d → sbit s q ≠ 1) → cntTo s (n + d) = cntTo s n
  | 0, _ => rfl
  | d + 1, h => by
    have h1 := h (n + d) (by omega) (by omega)
    have h2 := sbit01 s (n + d)
    rw [show n + (d + 1) = n + d + 1 by omega, cntTo, cntTo_same d (fun q g1 g2 => h q g1 (by omega))]; omega


theorem unpB_ok {s : ByteArray} {n : Int} (h : (unpB s n).2 = 0) : 0 ≤ n ∧ n ≤ 4096 ∧ (unpB s n).1 = bitsB s n.toNat ∧ ((cntF (unpB s n).1 : Nat) : Int) + cntB s = n := by
  unfold unpB at h ⊢
  split at h
  · exact absurd h (by decide)
  · rename_i h1
    rw [if_neg h1]
    split at h
    · exact absurd h (by decide)
    · rename_i h2
      rw [if_neg h2]
      split at h
      · exact absurd h (by decide)
      · rename_i h3
        rw [if_neg h3]
        split at h
        · exact absurd h (by decide)
        · rename_i h4
          rw [if_neg h4]
          refine ⟨by omega, by omega, rfl, ?_⟩
          have hd := tdiv8 (n := n + 7) (by omega)
          have e1 := cntF_bits s n.toNat
          have e2 := cntTo_same (s := s) (n := n.toNat) (8 * s.size - n.toNat) (fun q g1 g2 g3 => h4 (tail_yes g1 (by omega) g3))
          rw [show n.toNat + (8 * s.size - n.toNat) = 8 * s.size by omega] at e2
          show ((cntF (bitsB s n.toNat) : Nat) : Int) + cntB s = n
          unfold cntB
          omega
theorem nul_0 {s : ByteArray} {a n k : Int} (h : ¬ k > 0) : nulS s a n k = (List.replicate n.toNat false, true, a) := by rw [nulS, if_neg h]
theorem nul_1 {s : ByteArray} {a n k : Int} (h : k > 0) (h1 : a + (n + 7).tdiv 8 > s.size ∨ (unpB (s.extract a.toNat (a + (n + 7).tdiv 8).toNat) n).2 ≠ 0 ∨ cntB (s.extract a.toNat (a + (n + 7).tdiv 8).toNat) ≠ k) : nulS s a n k = ([], false, 0) := by rw [nulS, if_pos h, if_pos h1]
theorem nul_2 {s : ByteArray} {a n k : Int} (h : k > 0) (h1 : ¬ a + (n + 7).tdiv 8 > s.size) (h2 : (unpB (s.extract a.toNat (a + (n + 7).tdiv 8).toNat) n).2 = 0) (h3 : cntB (s.extract a.toNat (a + (n + 7).tdiv 8).toNat) = k) :
    nulS s a n k = ((unpB (s.extract a.toNat (a + (n + 7).tdiv 8).toNat) n).1, true, a + (n + 7).tdiv 8) := by
  rw [nulS, if_pos h, if_neg (fun q => by rcases q with q | q | q <;> contradiction)]
/-- What the bits of the nulls leave. -/
theorem nul_ok {s : ByteArray} {a n k : Int} (hn : 0 ≤ n ∧ n ≤ 4096) (ha : 0 ≤ a ∧ a ≤ s.size) (hk : 0 ≤ k ∧ k ≤ n) (h : (nulS s a n k).2.1 = true) : ((nulS s a n k).1.length : Int) = n ∧ ((cntF (nulS s a n k).1 : Nat) : Int) = n - k ∧ 0 ≤ (nulS s a n k).2.2 ∧ (nulS s a n k).2.2 ≤ s.size := by
  by_cases h0 : k > 0
  · by_cases h1 : a + (n + 7).tdiv 8 > s.size ∨ (unpB (s.extract a.toNat (a + (n + 7).tdiv 8).toNat) n).2 ≠ 0 ∨ cntB (s.extract a.toNat (a + (n + 7).tdiv 8).toNat) ≠ k
    · rw [nul_1 h0 h1] at h; cases h
    · have g1 : ¬ a + (n + 7).tdiv 8 > s.size := fun q => h1 (.inl q)
      have g2 : (unpB (s.extract a.toNat (a + (n + 7).tdiv 8).toNat) n).2 = 0 := Decidable.not_not.1 fun q => h1 (.inr (.inl q))
      have g3 : cntB (s.extract a.toNat (a + (n + 7).tdiv 8).toNat) = k := Decidable.not_not.1 fun q => h1 (.inr (.inr q))
      rw [nul_2 h0 g1 g2 g3]
      obtain ⟨_, _, e1, e2⟩ := unpB_ok g2
      have hd := tdiv8 (n := n + 7) (by omega)
      refine ⟨?_, by show ((cntF (unpB _ n).1 : Nat) : Int) = n - k; omega, by show 0 ≤ a + (n + 7).tdiv 8; omega, by show a + (n + 7).tdiv 8 ≤ s.size; omega⟩
      show ((unpB _ n).1.length : Int) = n
      rw [e1, bitsB_len]; omega
  · rw [nul_0 h0]
    refine ⟨by show ((List.replicate n.toNat false).length : Int) = n; rw [List.length_replicate]; omega, by show ((cntF (List.replicate n.toNat false) : Nat) : Int) = n - k; rw [cntF_rep]; omega, ha.1, ha.2⟩
theorem bod_1 {c : Col} {s : ByteArray} (h : usesB c.2.1 (byteAt s (0 : Int).toNat) = false ∨ (getR s 1).2.2 ≠ 0 ∨ (getR s 1).1 > 4096) : bodS c s = ([], false) := by rw [bodS, if_pos h]
theorem bod_2 {c : Col} {s : ByteArray} (h : ¬ (usesB c.2.1 (byteAt s (0 : Int).toNat) = false ∨ (getR s 1).2.2 ≠ 0 ∨ (getR s 1).1 > 4096)) (h2 : (getR s (getR s 1).2.1).2.2 ≠ 0 ∨ (getR s (getR s 1).2.1).1 > (getR s 1).1) : bodS c s = ([], false) := by rw [bodS, if_neg h, if_pos h2]
theorem bod_3 {c : Col} {s : ByteArray} (h : ¬ (usesB c.2.1 (byteAt s (0 : Int).toNat) = false ∨ (getR s 1).2.2 ≠ 0 ∨ (getR s 1).1 > 4096)) (h2 : ¬ ((getR s (getR s 1).2.1).2.2 ≠ 0 ∨ (getR s (getR s 1).2.1).1 > (getR s 1).1)) :
    bodS c s = bodA c s (getR s 1).1 (getR s (getR s 1).2.1).1 (nulS s (getR s (getR s 1).2.1).2.1 (getR s 1).1 (getR s (getR s 1).2.1).1) := by rw [bodS, if_neg h, if_neg h2]
theorem bodA_no {c : Col} {s : ByteArray} {n k : Int} {x : List Bool × Bool × Int} (h : x.2.1 = false) : bodA c s n k x = ([], false) := by rw [bodA, if_pos h]
theorem bodA_r2 {c : Col} {s : ByteArray} {n k A : Int} {N : List Bool} (h1 : (rstS c.2.1 (byteAt s (0 : Int).toNat) (s.extract A.toNat s.size) (n - k)).2 = false) : bodA c s n k (N, true, A) = ([], false) := by
  rw [bodA, if_neg (fun q => Bool.noConfusion q), bodB, if_pos h1]
theorem bodA_ok2 {c : Col} {s : ByteArray} {n k A : Int} {N : List Bool} (h1 : (rstS c.2.1 (byteAt s (0 : Int).toNat) (s.extract A.toNat s.size) (n - k)).2 = true) : bodA c s n k (N, true, A) = asm c N (rstS c.2.1 (byteAt s (0 : Int).toNat) (s.extract A.toNat s.size) (n - k)).1 [] := by
  rw [bodA, if_neg (fun q => Bool.noConfusion q), bodB, if_neg (by rw [h1]; decide)]
theorem decV_0 {c : Col} {s : ByteArray} (h : vKnown c.2.1 = false) : decV c s = ([], 1) := by rw [decV, if_pos h]
theorem decV_1 {c : Col} {s : ByteArray} (h : vKnown c.2.1 = true) (h1 : ¬ openE s = 0) : decV c s = ([], openE s) := by rw [decV, if_neg (by rw [h]; decide), if_pos h1]
theorem decV_2 {c : Col} {s : ByteArray} (h : vKnown c.2.1 = true) (h1 : openE s = 0) (h2 : (bodS c (bodyS s)).2 = false) : decV c s = ([], 2) := by rw [decV, if_neg (by rw [h]; decide), if_neg (fun q => q h1), if_pos h2]
theorem decV_3 {c : Col} {s : ByteArray} (h : vKnown c.2.1 = true) (h1 : openE s = 0) (h2 : (bodS c (bodyS s)).2 = true) : decV c s = ((bodS c (bodyS s)).1, 0) := by rw [decV, if_neg (by rw [h]; decide), if_neg (fun q => q h1), if_neg (by rw [h2]; decide)]


theorem padV_len {n : Int} {l : List Val} (h : (l.length : Int) ≤ n) : ((padV n l).length : Int) = n := by
  unfold padV; rw [List.length_append, List.length_replicate]; omega
theorem padV_nil (n : Int) : padV n [] = List.replicate n.toNat ZV := by
  unfold padV; simp
theorem padV_get {n : Int} {l : List Val} {i : Int} (hi : i = (l.length : Int)) (h : i < n) : (padV n l)[i.toNat]! = ZV := by
  unfold padV
  rw [List.getElem!_eq_getElem?_getD, List.getElem?_append_right (by omega), List.getElem?_replicate, if_pos (by omega)]
  rfl
theorem padV_set {n : Int} {l : List Val} {i : Int} (v : Val) (hi : i = (l.length : Int)) (h : i < n) : (padV n l).set i.toNat v = padV n (l ++ [v]) := by
  unfold padV
  rw [List.set_append_right _ _ (by omega), show i.toNat - l.length = 0 by omega]
  obtain ⟨m, hm⟩ : ∃ m, (n - l.length).toNat = m + 1 := ⟨(n - l.length).toNat - 1, by omega⟩
  rw [hm, List.replicate_succ, List.set_cons_zero, List.append_assoc]
  have : (n - (l ++ [v]).length).toNat = m := by simp; omega
  rw [this]; rfl
theorem mapS_take {W : List ByteArray} {i : Int} (h : 0 ≤ i ∧ i < W.length) : (W.take (i + 1).toNat).map sV = (W.take i.toNat).map sV ++ [sV W[i.toNat]!] := by
  rw [show (i + 1).toNat = i.toNat + 1 by omega, List.take_succ_eq_append_getElem (by omega), getElem!_pos W i.toNat (by omega), List.map_append]; rfl
theorem take_len {α : Type} {W : List α} {i : Int} (h : 0 ≤ i ∧ i ≤ W.length) : ((W.take i.toNat).length : Int) = i := by
  rw [List.length_take]; omega
theorem dict_le {s : ByteArray} {n : Int} (h : 0 ≤ n) : ((decDict s n).1.length : Int) ≤ n := by
  by_cases q : (decDict s n).2 = 0
  · have := decDict_ok.1 q; omega
  · rw [decDict_ok.2 q]; simpa using h
theorem runs_le {s : ByteArray} {n : Int} (h : 0 ≤ n) : ((decRuns s n).1.length : Int) ≤ n := by
  by_cases q : (decRuns s n).2 = 0
  · have := runs_ok.1 q; omega
  · rw [runs_ok.2 q]; simpa using h
theorem delta_le {s : ByteArray} {n : Int} (h : 0 ≤ n) : ((decDelta s n).1.length : Int) ≤ n := by
  by_cases q : (decDelta s n).2 = 0
  · have := delta_ok.1 q; omega
  · rw [delta_ok.2 q]; simpa using h
theorem rst_1 {t k : Int} {s : ByteArray} {n : Int} (h : k = 1) : rstS t k s n = pvGo t s n.toNat 0 [] := by rw [rstS, if_pos h]
theorem rst_3 {t k : Int} {s : ByteArray} {n : Int} (h : k = 3) : rstS t k s n = ((decDict s n).1.map sV, decide ((decDict s n).2 = 0)) := by rw [rstS, if_neg (by omega), if_pos h]
theorem rst_4 {t k : Int} {s : ByteArray} {n : Int} (h : k = 4) : rstS t k s n = ((decDelta s n).1.map nV, decide ((decDelta s n).2 = 0)) := by rw [rstS, if_neg (by omega), if_neg (by omega), if_pos h]
theorem rst_2 {t k : Int} {s : ByteArray} {n : Int} (h1 : ¬ k = 1) (h3 : ¬ k = 3) (h4 : ¬ k = 4) : rstS t k s n = ((decRuns s n).1.map nV, decide ((decRuns s n).2 = 0)) := by rw [rstS, if_neg h1, if_neg h3, if_neg h4]
theorem unp_p {t k : Int} {s : ByteArray} {n : Int} (h : k = 1) : unpS t k s n = pvGo t s n.toNat 0 [] := by rw [unpS, if_pos h]
theorem unp_r {t k : Int} {s : ByteArray} {n : Int} (h : ¬ k = 1) : unpS t k s n = (padV n (rstS t k s n).1, (rstS t k s n).2) := by rw [unpS, if_neg h]
def codL (t : Int) : List Int := if t = 3 then [1, 3] else [1, 2, 4]
theorem codL_len (t : Int) : (codL t).length ≤ 3 := by unfold codL; split <;> simp
theorem codL_uses (t k : Int) : (codL t).any (fun x => decide (x = k)) = usesB t k := by
  unfold codL usesB
  split <;> simp [Bool.or_assoc, eq_comm]
theorem anyL_step {l : List Int} {i k : Int} (h : 0 ≤ i ∧ i < l.length) : (l.take (i + 1).toNat).any (fun x => decide (x = k)) = ((l.take i.toNat).any (fun x => decide (x = k)) || decide (l[i.toNat]! = k)) := by
  rw [take_get h]; simp
theorem uses_cod {t k : Int} (h : usesB t k = true) : 1 ≤ k ∧ k ≤ 4 := by
  unfold usesB at h
  split at h <;> simp at h <;> omega
theorem setV_take {L : List Val} {i : Int} {v : Val} (h : 0 ≤ i ∧ i < L.length) : (L.set i.toNat v).take (i + 1).toNat = L.take i.toNat ++ [v] := by
  rw [show (i + 1).toNat = i.toNat + 1 by omega, take_set _ _ _ (by omega)]
theorem setV_at {L : List Val} {i : Int} {v : Val} (h : 0 ≤ i ∧ i < L.length) : (L.set i.toNat v)[i.toNat]! = v := by
  rw [getElem!_pos _ _ (by rw [List.length_set]; omega)]; simp
theorem setV_rest {L : List Val} {i : Int} {v : Val} (h : 0 ≤ i) (hz : ∀ j : Nat, i ≤ j → L[j]! = ZV) : ∀ j : Nat, i + 1 ≤ j → (L.set i.toNat v)[j]! = ZV := fun j hj => by
  have := hz j (by omega)
  rw [List.getElem!_eq_getElem?_getD] at this ⊢
  rw [List.getElem?_set_ne (by omega)]; exact this
theorem repl_at (n : Nat) : ∀ j : Nat, (0 : Int) ≤ j → (List.replicate n ZV)[j]! = ZV := fun j _ => by
  rw [List.getElem!_eq_getElem?_getD, List.getElem?_replicate]; split <;> rfl
theorem ext_le (s : ByteArray) (a b : Nat) : (s.extract a b).size ≤ s.size := by simp; omega

abbrev tRdr : Ty := .pair .str (.int .i64)
abbrev Rdr : Type := ByteArray × Int
@[reducible] instance : Inhabited Rdr := instInhabitedDen tRdr

end Go.Proofs.YtlamfjhhjfgemaaGreat
