/- Contracts of the reference of the object store. -/
import Derived.Test.YtpjgjkoajoiopaaStore2
namespace Go.Proofs.Ytpjgjkoajoiopaa
open Go.Abs
set_option linter.unusedVariables false
set_option linter.unusedSimpArgs false


def rfI (l : List Obj) (n : ByteArray) : Int := if hasS l n = true then (posS l n : Int) else -1
theorem rfI_yes {l : List Obj} {n : ByteArray} (h : hasS l n = true) : rfI l n = (posS l n : Int) := if_pos h
theorem rfI_no {l : List Obj} {n : ByteArray} (h : hasS l n = false) : rfI l n = -1 := if_neg (by rw [h]; decide)
theorem rfI_at {l : List Obj} {n : ByteArray} (ha : ascS (nmS l)) {k : Int} (hk : 0 ≤ k ∧ k < l.length) (h : (l[k.toNat]!).1 = n) : k = rfI l n := by
  have hlt : k.toNat < l.length := by omega
  have e : posS l n = k.toNat := by
    have := plS_idx ha (i := k.toNat) (by rw [nm_len]; exact hlt)
    have e2 : (nmS l)[k.toNat]! = n := by rw [nm_get l hlt]; exact h
    exact (congrArg (plS (nmS l)) e2.symm).trans this
  have hh : hasS l n = true := by rw [hasS, e, nm_get l hlt, h]; simp [hlt]
  rw [rfI_yes hh, e]; omega
theorem rfI_end {l : List Obj} {n : ByteArray} {k : Int} (hk : (l.length : Int) ≤ k) (hf : ∀ t : Nat, (t : Int) < k → ¬ (l[t]!).1 = n) : -1 = rfI l n := by
  have hh : hasS l n = false := by
    rw [Bool.eq_false_iff]
    intro q
    have := has_lt q
    exact hf _ (by omega) this.2
  rw [rfI_no hh]
theorem known_0 {q : St} {n : ByteArray} (h : knownQ q n = 0) : q.2.2.1 = false ∧ hasS q.2.1 n = true := by
  unfold knownQ at h
  split at h
  · exact absurd h (by decide)
  · split at h
    · exact absurd h (by decide)
    · rename_i h1 h2
      exact ⟨by simpa using h1, by simpa using h2⟩
theorem known_rf {q : St} {n : ByteArray} (h : knownQ q n = 0) : rfI q.2.1 n = (posS q.2.1 n : Int) ∧ posS q.2.1 n < q.2.1.length := ⟨rfI_yes (known_0 h).2, (has_lt (known_0 h).2).1⟩
theorem ext_all (d : ByteArray) : d.extract 0 ((d.size : Nat) : Int).toNat = d := by rw [Int.toNat_natCast]; exact ByteArray.extract_zero_size
theorem cut_size {o : Obj} {m : Int} (hm : 0 ≤ m) (hz : 0 ≤ o.2.2 ∧ o.2.2 ≤ o.2.1.size) (h : m < (o.2.1.size : Int) - o.2.2) : ((o.2.1.extract 0 (o.2.2 + m).toNat).size : Int) = o.2.2 + m := by
  rw [ByteArray.size_extract]; omega
theorem fall_succ {l : List Obj} {k m : Int} (hk : 0 ≤ k ∧ k < l.length) : fallS (l.take (k + 1).toNat) m = fallS (l.take k.toNat) m ++ (if goneO (cutO m l[k.toNat]!) = true then [] else [cutO m l[k.toNat]!]) := by
  have hlt : k.toNat < l.length := by omega
  rw [show (k + 1).toNat = k.toNat + 1 by omega, fallS, fallS, List.take_add_one, List.getElem?_eq_getElem hlt, List.map_append, List.filter_append, getElem!_pos l _ hlt]
  by_cases q : goneO (cutO m l[k.toNat]) = true
  · simp [q]
  · simp [q]
theorem gone_iff (m : Int) (o : Obj) : goneO (cutO m o) = true ↔ (cutD m o).size = 0 := by
  unfold goneO cutO
  rw [decide_eq_true_eq]
  exact ⟨fun h => by have h : cutD m o = EMP := h; rw [h]; rfl, fun h => ByteArray.ext (Array.eq_empty_of_size_eq_zero h)⟩
theorem rfall_cut {l L : List Obj} {k m : Int} (hL : L = fallS (l.take k.toNat) m) (hz : ∀ o, o ∈ l → 0 ≤ o.2.2 ∧ o.2.2 ≤ o.2.1.size ∧ o.2.1.size ≤ 1073741824) (hm : 0 ≤ m) (hk : 0 ≤ k ∧ k < l.length) (h : m < (l[k.toNat]!.2.1.size : Int) - l[k.toNat]!.2.2) (h0 : l[k.toNat]!.2.2 + m > 0) :
    L ++ [(l[k.toNat]!.1, l[k.toNat]!.2.1.extract 0 (l[k.toNat]!.2.2 + m).toNat, l[k.toNat]!.2.2 + m)] = fallS (l.take (k + 1).toNat) m := by
  have hz := hz l[k.toNat]! (by rw [getElem!_pos l _ (by omega)]; exact List.getElem_mem _)
  have hs := cut_size hm ⟨hz.1, hz.2.1⟩ h
  have hd : cutD m l[k.toNat]! = l[k.toNat]!.2.1.extract 0 (l[k.toNat]!.2.2 + m).toNat := if_pos h
  rw [fall_succ hk, if_neg (by rw [gone_iff, hd]; omega), ← hL, cutO, hd, hs]
theorem rfall_keep {l L : List Obj} {k m : Int} (hL : L = fallS (l.take k.toNat) m) (hk : 0 ≤ k ∧ k < l.length) (h : ¬ m < (l[k.toNat]!.2.1.size : Int) - l[k.toNat]!.2.2) (h0 : (l[k.toNat]!.2.1.size : Int) > 0) :
    L ++ [(l[k.toNat]!.1, l[k.toNat]!.2.1.extract 0 ((l[k.toNat]!.2.1.size : Nat) : Int).toNat, (l[k.toNat]!.2.1.size : Int))] = fallS (l.take (k + 1).toNat) m := by
  have hd : cutD m l[k.toNat]! = l[k.toNat]!.2.1 := if_neg h
  rw [fall_succ hk, if_neg (by rw [gone_iff, hd]; omega), ← hL, cutO, hd, ext_all]
theorem rfall_gone1 {l L : List Obj} {k m : Int} (hL : L = fallS (l.take k.toNat) m) (hz : ∀ o, o ∈ l → 0 ≤ o.2.2 ∧ o.2.2 ≤ o.2.1.size ∧ o.2.1.size ≤ 1073741824) (hm : 0 ≤ m) (hk : 0 ≤ k ∧ k < l.length) (h : m < (l[k.toNat]!.2.1.size : Int) - l[k.toNat]!.2.2) (h0 : ¬ l[k.toNat]!.2.2 + m > 0) :
    L = fallS (l.take (k + 1).toNat) m := by
  have hz := hz l[k.toNat]! (by rw [getElem!_pos l _ (by omega)]; exact List.getElem_mem _)
  have hs := cut_size hm ⟨hz.1, hz.2.1⟩ h
  have hd : cutD m l[k.toNat]! = l[k.toNat]!.2.1.extract 0 (l[k.toNat]!.2.2 + m).toNat := if_pos h
  rw [fall_succ hk, if_pos (by rw [gone_iff, hd]; omega), ← hL, List.append_nil]
theorem rfall_gone2 {l L : List Obj} {k m : Int} (hL : L = fallS (l.take k.toNat) m) (hk : 0 ≤ k ∧ k < l.length) (h : ¬ m < (l[k.toNat]!.2.1.size : Int) - l[k.toNat]!.2.2) (h0 : ¬ (l[k.toNat]!.2.1.size : Int) > 0) : L = fallS (l.take (k + 1).toNat) m := by
  have hd : cutD m l[k.toNat]! = l[k.toNat]!.2.1 := if_neg h
  rw [fall_succ hk, if_pos (by rw [gone_iff, hd]; omega), ← hL, List.append_nil]
theorem rfall_end {l L : List Obj} {k m : Int} (hL : L = fallS (l.take k.toNat) m) (hk : (l.length : Int) ≤ k) : L = fallS l m := by rw [hL, List.take_of_length_le (by omega)]
theorem rfall_len {l L : List Obj} {k m : Int} (hL : L = fallS (l.take k.toNat) m) (hl : l.length ≤ 4096) : L.length ≤ 4096 := by
  rw [hL, fallS]
  refine Nat.le_trans (List.length_filter_le _ _) ?_
  rw [List.length_map, List.length_take]; omega
theorem toInts_get (s : ByteArray) (k : Nat) : (toInts s)[k]! = byteAt s k := by
  obtain ⟨d⟩ := s
  show (d.toList.map fun u => (u.toNat : Int))[k]! = ((d[k]!).toNat : Int)
  by_cases h : k < d.size
  · rw [getElem!_pos _ k (by rw [List.length_map, Array.length_toList]; exact h), getElem!_pos d k h, List.getElem_map, Array.getElem_toList]
  · rw [getElem!_neg _ k (by rw [List.length_map, Array.length_toList]; exact h), getElem!_neg d k h]; rfl
theorem flip_eq {d : ByteArray} {a b : Int} (ha : 0 ≤ a ∧ a < d.size) : d.extract 0 a.toNat ++ ⟨#[UInt8.ofNat (bXor .u8 (byteAt d a.toNat) b).toNat]⟩ ++ d.extract (a + 1).toNat d.size = flipD d a b := by
  rw [show (⟨#[UInt8.ofNat (bXor .u8 (byteAt d a.toNat) b).toNat]⟩ : ByteArray) = ofInts [bXor .u8 (byteAt d a.toNat) b] from rfl]
  have hlt : a.toNat < d.size := by omega
  have hl : d.data.toList.length = d.size := Array.length_toList
  rw [flipD, toInts_get]
  have e : ∀ x y : ByteArray, x.data.toList = y.data.toList → x = y := fun x y h => by cases x; cases y; simp at h; rw [h]
  have hof : ∀ l : List Int, (ofInts l).data.toList = l.map fun n => UInt8.ofNat n.toNat := fun l => by simp [ofInts]
  apply e
  rw [hof, List.map_set]
  have hm : (toInts d).map (fun n => UInt8.ofNat n.toNat) = d.data.toList := by simp [toInts, Function.comp_def]
  rw [hm]
  simp only [ByteArray.data_append, Array.toList_append, ByteArray.data_extract, Array.toList_extract, hof, List.map_cons, List.map_nil, List.extract_eq_take_drop, Nat.sub_zero, List.drop_zero]
  rw [show (a + 1).toNat = a.toNat + 1 by omega, List.set_eq_take_append_cons_drop, if_pos (by omega)]
  rw [List.take_of_length_le (i := d.size - (a.toNat + 1)) (by rw [List.length_drop, hl]; exact Nat.le_refl _)]
  rw [List.append_assoc, List.singleton_append]
theorem list_on {l : List Obj} {m : List ByteArray} {cr : Bool} {g : Int} (h : m = if cr = true then [] else nmS (l.take g.toNat)) (hg : 0 ≤ g ∧ g < l.length) (hc : (!cr) = true) : m ++ [l[g.toNat]!.1] = if cr = true then [] else nmS (l.take (g + 1).toNat) := by
  have hc : cr = false := by simpa using hc
  subst hc
  exact nm_succ h hg
theorem list_off {l : List Obj} {m : List ByteArray} {cr : Bool} {g : Int} (h : m = if cr = true then [] else nmS (l.take g.toNat)) (hc : (!cr) = false) : m = if cr = true then [] else nmS (l.take (g + 1).toNat) := by
  have hc : cr = true := by simpa using hc
  subst hc
  exact h
theorem list_len {l : List Obj} {m : List ByteArray} {cr : Bool} {g : Int} (h : m = if cr = true then [] else nmS (l.take g.toNat)) (hl : l.length ≤ 4096) : m.length ≤ 4096 := by
  rw [h]
  split
  · simp
  · rw [nm_len, List.length_take]; omega
theorem rapp_z {l : List Obj} {n d : ByteArray} {c w k : Int} {cr ar : Bool} (hkn : knownQ (c, l, cr, ar, w, k) n = 0) (hz : ∀ o, o ∈ l → 0 ≤ o.2.2 ∧ o.2.2 ≤ o.2.1.size ∧ o.2.1.size ≤ 1073741824) (hu : usedS l ≤ c) (hc : 1 ≤ c ∧ c ≤ 1073741824) (hd : ¬ (d.size : Int) > c - usedS l) :
    ∀ p, p ∈ l.set (rfI l n).toNat (l[(rfI l n).toNat]!.1, l[(rfI l n).toNat]!.2.1 ++ d, l[(rfI l n).toNat]!.2.2) → 0 ≤ p.2.2 ∧ p.2.2 ≤ p.2.1.size ∧ p.2.1.size ≤ 1073741824 := by
  have h := (known_0 hkn).2
  dsimp only at h
  rw [rfI_yes h]
  exact fall_z hz (app_z hz hu hc (by rw [h]; rfl) hd) _
theorem del_l1 {l : List Obj} {r : Int} (h : 0 = r) (hl : r < l.length) : subL l (r + 1).toNat ((l.length : Int) - (r + 1)).toNat = l.eraseIdx r.toNat := by
  subst h
  rw [List.eraseIdx_eq_take_drop_succ, subL_eq, List.take_of_length_le (by simp)]
  rfl
theorem del_l2 {l : List Obj} {r : Int} (h : r + 1 = (l.length : Int)) (h0 : 0 ≤ r) : subL l 0 r.toNat ++ [] = l.eraseIdx r.toNat := by
  rw [List.eraseIdx_eq_take_drop_succ, subL_eq, List.drop_eq_nil_of_le (i := r.toNat + 1) (by omega), List.drop_zero]
theorem del_l3 {l : List Obj} {r : Int} (h0 : 0 ≤ r) (hl : r < l.length) : subL l 0 r.toNat ++ subL l (r + 1).toNat ((l.length : Int) - (r + 1)).toNat = l.eraseIdx r.toNat := by
  rw [List.eraseIdx_eq_take_drop_succ, subL_eq, subL_eq, List.drop_zero, List.take_of_length_le (l := l.drop (r + 1).toNat) (by rw [List.length_drop]; omega), show (r + 1).toNat = r.toNat + 1 by omega]
theorem rfI_ge {l : List Obj} {n : ByteArray} (h : rfI l n ≥ 0) : hasS l n = true := by
  unfold rfI at h
  split at h
  · assumption
  · omega
theorem rfI_lt {l : List Obj} {n : ByteArray} (h : ¬ rfI l n ≥ 0) : hasS l n = false := by
  unfold rfI at h
  split at h
  · omega
  · simpa using ‹¬ hasS l n = true›
theorem ins_eq {l : List Obj} {n : ByteArray} {k : Int} (hk : 0 ≤ k ∧ k ≤ l.length) (h1 : ∀ t : Nat, (t : Int) < k → strLt (l[t]!).1 n = true) (h2 : k = l.length ∨ ¬ strLt (l[k.toNat]!).1 n = true) : k = (posS l n : Int) := by
  have : posS l n = k.toNat := plS_unique (fun t ht => by have e := nm_get l (i := t) (by omega); exact (congrArg (fun x => strLt x n = true) e).mpr (h1 t (by omega))) (by rw [nm_len]; omega) (by
    rw [nm_len]
    rcases h2 with h2 | h2
    · exact .inl (by omega)
    · by_cases q : k.toNat < l.length
      · exact .inr (fun p => h2 ((congrArg (fun x => strLt x n = true) (nm_get l q)).mp p))
      · exact .inl (by omega))
  omega
theorem insL_at {l X : List Obj} {n : ByteArray} {g : Int} {o : Obj} (e : g = (posS l n : Int)) (h : X = l.take g.toNat ++ [o] ++ l.drop g.toNat) : X = insL l (posS l n) o := by
  rw [h, show g.toNat = posS l n by omega, insL]; simp
theorem create_l {c w k : Int} {l : List Obj} {cr ar : Bool} {n : ByteArray} (h0 : cr = false) (h1 : (!permS n) = false) (h2 : ¬ rfI l n ≥ 0) (h3 : ¬ (l.length : Int) ≥ 4096) (h4 : (!ar) = true ∨ ¬ w - 1 < 0) : insL l (posS l n) (n, EMP, 0) = (createQ (c, l, cr, ar, w, k) n).1.2.1 := by
  have hh := rfI_lt h2
  have hp : permS n = true := by simpa using h1
  have hf : fireB (c, l, cr, ar, w, k) = false := by
    rcases h4 with h4 | h4
    · have h4 : ar = false := by simpa using h4
      simp [fireB, h4]
    · simp [fireB]; intros; omega
  have hl : ¬ l.length ≥ 4096 := by omega
  subst h0
  simp only [createQ, hp, hh, doQ, hf, if_neg hl]
  simp only [fireQ]
  cases ar <;> simp
theorem ins_eq2 {l : List Obj} {n : ByteArray} {k : Int} (hk : 0 ≤ k ∧ k ≤ l.length) (h1 : ∀ t : Nat, (t : Int) < k → strLt (l[t]!).1 n = true) (h2 : strLt (l[k.toNat]!).1 n = false) : k = (posS l n : Int) := ins_eq hk h1 (.inr (by rw [h2]; decide))
theorem insL_1 {l : List Obj} {n : ByteArray} {g : Int} {o : Obj} (e : g = (posS l n : Int)) (h : 0 = g) : [o] ++ subL l g.toNat ((l.length : Int) - g).toNat = insL l (posS l n) o := by
  refine insL_at e ?_
  subst h
  simp [subL_eq]
theorem insL_2 {l : List Obj} {n : ByteArray} {g : Int} {o : Obj} (e : g = (posS l n : Int)) (hg : 0 ≤ g ∧ g ≤ l.length) : subL l 0 g.toNat ++ [o] ++ subL l g.toNat ((l.length : Int) - g).toNat = insL l (posS l n) o := by
  refine insL_at e ?_
  rw [subL_eq, subL_eq, List.drop_zero, List.take_of_length_le (l := l.drop g.toNat) (by rw [List.length_drop]; omega)]
theorem insL_3 {l : List Obj} {n : ByteArray} {g : Int} {o : Obj} (e : g = (posS l n : Int)) (h : l.length = 0) : [o] ++ [] = insL l (posS l n) o := by
  refine insL_at e ?_
  rw [List.length_eq_zero_iff.1 h]; simp
theorem insL_4 {l : List Obj} {n : ByteArray} {g : Int} {o : Obj} (e : g = (posS l n : Int)) (h : g = (l.length : Int)) : subL l 0 g.toNat ++ [o] ++ [] = insL l (posS l n) o := by
  refine insL_at e ?_
  rw [subL_eq, List.drop_zero, List.drop_eq_nil_of_le (by omega)]
theorem insL_make {l : List Obj} {k : Nat} {o : Obj} : l.take k ++ [o] ++ l.drop k = insL l k o := by rw [insL]; simp

abbrev c_rperm_ok : Ct := .fn [.str] (some (fun (n : ByteArray) => (n.size ≤ 140737488355328))) (fun (n : ByteArray) => .d .bool (permS n))
set_option maxRecDepth 100000 in
set_option maxHeartbeats 4000000 in
theorem rperm_ok : CtOk Try.prog 50 c_rperm_ok := by
  refine CtOk.fn tb21_ok mixed [] [] rfl rfl ?_
  rintro ⟨(n : ByteArray), _⟩ hpre
  replace hpre := hpre _ rfl
  dsimp only [cu] at hpre
  have hn := hpre
  refine ⟨[(0, 8, LA.mk [.sl 3 (.int .i64)] (fun y => Tag 11 ∧ cu [.int .i64] (fun (k : Int) => (0 ≤ k ∧ k ≤ n.size) ∧ (∀ t : Nat, (t : Int) < k → 33 ≤ byteAt n t ∧ byteAt n t ≤ 126)) y) (cu [.int .i64] (fun (k : Int) => ((n.size : Int) - k).toNat)) (cu [.int .i64] (fun (k : Int) => ([] : List (Nat × Nat × LA)))))], ?_⟩
  repeat' (first
    | (
 with_reducible refine Side.mk ⟨(⟨⟩ : Tag 11), ?_⟩
 dsimp only [cu, joinT, ckTys, gts, Prod.eta, List.nil_append]
 refine ⟨?_, ?_⟩
 · omega
 · first
   | (
  intro t ht
  first
  | (omega)
  | (
   rcases Int.lt_or_eq_of_le (Int.lt_add_one_iff.1 ht) with q | q
   · exact hp t q
   · rw [show t = k.toNat by omega]; omega)))
    | (
 with_reducible refine Side.mk ?_
 (try dsimp only [cu, joinT, ckTys, gts, loK, hiK, Prod.eta, List.nil_append])
 first
 | (done)
 | (with_reducible rfl)
 | (omega)
 | (exact Eq.refl _)
 | (simp only [List.length_append, List.length_cons, List.length_nil]; omega))
    | (conv => whnf
       first
        | done
        | exact trivial
        | with_reducible refine NilBr.mk (fun h => ?_) ?_
        | with_reducible first | refine w_andS ?_ ?_ | refine w_andL ?_ ?_ | refine w_kern (by kernel_rfl) ?_ | refine w_true ?_ | refine w_nd ?_ ?_ | refine w_in ?_ ?_ | refine w_and ?_ ?_
        | ((with_reducible first | refine w_brN (fun h => ?_) (fun h => ?_) | refine w_brD (fun h => ?_) (fun h => ?_) | refine w_br (fun h => ?_) (fun h => ?_)) <;> (try dsimp only [cu, Prod.eta, List.nil_append] at h) <;> (try (exfalso; omega; done)))
        | (
 intro yy (hy : Tag 11 ∧ _)
 obtain ⟨(k : Int), _⟩ := yy
 replace hy := hy.2
 dsimp only [cu, joinT, ckTys, gts, Prod.eta, List.nil_append] at hy
 obtain ⟨hk, hp⟩ := hy)))
  all_goals (
 with_reducible refine Leaf.mk ?_
 (try dsimp only [cu, joinT, ckTys, gts, Prod.eta, List.nil_append] at *)
 first
 | (done)
 | (with_reducible exact (perm_no (t := k.toNat) (by omega) (by omega)).symm)
 | (with_reducible exact perm_yes hp (by omega) (by omega))
 | (with_reducible exact perm_size (by omega)))
abbrev tb22 : Tbl := (50, c_rperm_ok) :: tb21
theorem tb22_ok : TblOk Try.prog tb22 := TblOk.cons rperm_ok tb21_ok

abbrev c_rnew_ok : Ct := .mo [.val (.int .i64)] (none) [.optp 76 shB0, .val (.int .i64)] (fun (c : Int) => ((decide (1 ≤ c ∧ c ≤ 1073741824), capN c, [], false, false, 0, 0), if 1 ≤ c ∧ c ≤ 1073741824 then 0 else 4, ())) (fun (c : Int) => (c, ()))
set_option maxRecDepth 100000 in
set_option maxHeartbeats 4000000 in
theorem rnew_ok : CtOk Try.prog 31 c_rnew_ok := by
  refine CtOk.mo tb22_ok mixed [(0, 3, 6000000)] [] rfl rfl ?_
  rintro ⟨(c : Int), _⟩ -
  all_goals refine ⟨[], ?_⟩
  repeat' (first
    | (
 with_reducible refine Side.mk ?_
 (try dsimp only [cu, joinT, ckTys, gts, loK, hiK, Prod.eta, List.nil_append])
 first
 | (done)
 | (with_reducible rfl)
 | (omega)
 | (exact Eq.refl _)
 | (simp only [List.length_append, List.length_cons, List.length_nil]; omega))
    | (conv => whnf
       first
        | done
        | exact trivial
        | with_reducible refine NilBr.mk (fun h => ?_) ?_
        | with_reducible first | refine w_andS ?_ ?_ | refine w_andL ?_ ?_ | refine w_kern (by kernel_rfl) ?_ | refine w_true ?_ | refine w_nd ?_ ?_ | refine w_in ?_ ?_ | refine w_and ?_ ?_
        | ((with_reducible first | refine w_brN (fun h => ?_) (fun h => ?_) | refine w_brD (fun h => ?_) (fun h => ?_) | refine w_br (fun h => ?_) (fun h => ?_)) <;> (try dsimp only [cu, Prod.eta, List.nil_append] at h) <;> (try (exfalso; omega; done)))))
  all_goals (
 with_reducible refine Leaf.mk ?_
 (try dsimp only [cu, joinT, ckTys, gts, Prod.eta, List.nil_append] at *)
 first
 | (done)
 | (rfl)
 | (simp only [capN]; split <;> first | rfl | omega)
 | (simp; omega)
 | (rw [if_neg (by omega)])
 | (rw [if_pos (by omega)]))
abbrev tb23 : Tbl := (31, c_rnew_ok) :: tb22
theorem tb23_ok : TblOk Try.prog tb23 := TblOk.cons rnew_ok tb22_ok

abbrev c_rfind_ok : Ct := .rd tSt [.str] (some (fun (q : St) (n : ByteArray) => (ascS (nmS q.2.1)) ∧ (q.2.1.length ≤ 4096))) (fun (q : St) (n : ByteArray) => .d (.int .i64) (rfI q.2.1 n))
set_option maxRecDepth 100000 in
set_option maxHeartbeats 4000000 in
theorem rfind_ok : CtOk Try.prog 51 c_rfind_ok := by
  refine CtOk.rd tb23_ok mixed [] [] rfl rfl ?_
  rintro ⟨(c : Int), (l : List Obj), (r : Rest)⟩ ⟨(n : ByteArray), _⟩ hpre
  replace hpre := hpre _ rfl
  dsimp only [cu] at hpre
  obtain ⟨ha, hl⟩ := hpre
  refine ⟨[(0, 4, LA.mk [.sl 11 (.int .i64)] (fun y => Tag 12 ∧ cu [.int .i64] (fun (k : Int) => (0 ≤ k ∧ k ≤ l.length) ∧ (∀ t : Nat, (t : Int) < k → ¬ (l[t]!).1 = n)) y) (cu [.int .i64] (fun (k : Int) => ((l.length : Int) - k).toNat)) (cu [.int .i64] (fun (k : Int) => ([] : List (Nat × Nat × LA)))))], ?_⟩
  repeat' (first
    | (
 with_reducible refine Side.mk ⟨(⟨⟩ : Tag 12), ?_⟩
 dsimp only [cu, joinT, ckTys, gts, Prod.eta, List.nil_append]
 refine ⟨?_, ?_⟩
 · omega
 · first
   | (
  intro t ht
  first
  | (omega)
  | (
   rcases Int.lt_or_eq_of_le (Int.lt_add_one_iff.1 ht) with q | q
   · exact hf t q
   · rw [show t = k.toNat by omega]; assumption)))
    | (
 with_reducible refine Side.mk ?_
 (try dsimp only [cu, joinT, ckTys, gts, loK, hiK, Prod.eta, List.nil_append])
 first
 | (done)
 | (with_reducible rfl)
 | (omega)
 | (exact Eq.refl _)
 | (simp only [List.length_append, List.length_cons, List.length_nil]; omega))
    | (conv => whnf
       first
        | done
        | exact trivial
        | with_reducible refine NilBr.mk (fun h => ?_) ?_
        | with_reducible first | refine w_andS ?_ ?_ | refine w_andL ?_ ?_ | refine w_kern (by kernel_rfl) ?_ | refine w_true ?_ | refine w_nd ?_ ?_ | refine w_in ?_ ?_ | refine w_and ?_ ?_
        | ((with_reducible first | refine w_brN (fun h => ?_) (fun h => ?_) | refine w_brD (fun h => ?_) (fun h => ?_) | refine w_br (fun h => ?_) (fun h => ?_)) <;> (try dsimp only [cu, Prod.eta, List.nil_append] at h) <;> (try (exfalso; omega; done)))
        | (
 intro yy (hy : Tag 12 ∧ _)
 obtain ⟨(k : Int), _⟩ := yy
 replace hy := hy.2
 dsimp only [cu, joinT, ckTys, gts, Prod.eta, List.nil_append] at hy
 obtain ⟨hk, hf⟩ := hy)))
  all_goals (
 with_reducible refine Leaf.mk ?_
 (try dsimp only [cu, joinT, ckTys, gts, Prod.eta, List.nil_append] at *)
 first
 | (done)
 | (with_reducible exact rfI_at ha (by omega) (by assumption))
 | (with_reducible exact rfI_end (by omega) hf))
abbrev tb24 : Tbl := (51, c_rfind_ok) :: tb23
theorem tb24_ok : TblOk Try.prog tb24 := TblOk.cons rfind_ok tb23_ok

abbrev c_rknown_ok : Ct := .rd tSt [.str] (some (fun (q : St) (n : ByteArray) => (ascS (nmS q.2.1)) ∧ (q.2.1.length ≤ 4096))) (fun (q : St) (n : ByteArray) => .d (.int .i64) (knownQ q n))
set_option maxRecDepth 100000 in
set_option maxHeartbeats 4000000 in
theorem rknown_ok : CtOk Try.prog 54 c_rknown_ok := by
  refine CtOk.rd tb24_ok mixed [] [] rfl rfl ?_
  rintro ⟨(c : Int), (l : List Obj), (cr : Bool), (ar : Bool), (w : Int), (k : Int)⟩ ⟨(n : ByteArray), _⟩ hpre
  replace hpre := hpre _ rfl
  dsimp only [cu] at hpre
  obtain ⟨ha, hl⟩ := hpre
  refine ⟨[], ?_⟩
  repeat' (first
    | (
 with_reducible refine Side.mk ?_
 (try dsimp only [cu, joinT, ckTys, gts, loK, hiK, Prod.eta, List.nil_append])
 first
 | (done)
 | (with_reducible rfl)
 | (omega)
 | (exact Eq.refl _)
 | (simp only [List.length_append, List.length_cons, List.length_nil]; omega)
 | (exact ⟨ha, hl⟩))
    | (conv => whnf
       first
        | done
        | exact trivial
        | with_reducible refine NilBr.mk (fun h => ?_) ?_
        | with_reducible first | refine w_andS ?_ ?_ | refine w_andL ?_ ?_ | refine w_kern (by kernel_rfl) ?_ | refine w_true ?_ | refine w_nd ?_ ?_ | refine w_in ?_ ?_ | refine w_and ?_ ?_
        | ((with_reducible first | refine w_brN (fun h => ?_) (fun h => ?_) | refine w_brD (fun h => ?_) (fun h => ?_) | refine w_br (fun h => ?_) (fun h => ?_)) <;> (try dsimp only [cu, Prod.eta, List.nil_append] at h) <;> (try (exfalso; omega; done)))))
  all_goals (
 with_reducible refine Leaf.mk ?_
 (try dsimp only [cu, joinT, ckTys, gts, Prod.eta, List.nil_append] at *)
 first
 | (done)
 | (
  simp only [knownQ, rfI] at *
  first
  | (simp_all; done)
  | (split at * <;> simp_all <;> omega)))
abbrev tb25 : Tbl := (54, c_rknown_ok) :: tb24
theorem tb25_ok : TblOk Try.prog tb25 := TblOk.cons rknown_ok tb24_ok

abbrev c_rcrashed_ok : Ct := .rd tSt [] (none) (fun (q : St) => .d .bool q.2.2.1)
set_option maxRecDepth 100000 in
set_option maxHeartbeats 4000000 in
theorem rcrashed_ok : CtOk Try.prog 59 c_rcrashed_ok := by
  refine CtOk.rd tb25_ok mixed [] [] rfl rfl ?_
  rintro ⟨(c : Int), (l : List Obj), (cr : Bool), (ar : Bool), (w : Int), (k : Int)⟩ ⟨⟩ -
  refine ⟨[], ?_⟩
  repeat' (first
    | (
 with_reducible refine Side.mk ?_
 (try dsimp only [cu, joinT, ckTys, gts, loK, hiK, Prod.eta, List.nil_append])
 first
 | (done)
 | (with_reducible rfl)
 | (omega)
 | (exact Eq.refl _)
 | (simp only [List.length_append, List.length_cons, List.length_nil]; omega))
    | (conv => whnf
       first
        | done
        | exact trivial
        | with_reducible refine NilBr.mk (fun h => ?_) ?_
        | with_reducible first | refine w_andS ?_ ?_ | refine w_andL ?_ ?_ | refine w_kern (by kernel_rfl) ?_ | refine w_true ?_ | refine w_nd ?_ ?_ | refine w_in ?_ ?_ | refine w_and ?_ ?_
        | ((with_reducible first | refine w_brN (fun h => ?_) (fun h => ?_) | refine w_brD (fun h => ?_) (fun h => ?_) | refine w_br (fun h => ?_) (fun h => ?_)) <;> (try dsimp only [cu, Prod.eta, List.nil_append] at h) <;> (try (exfalso; omega; done)))))
  all_goals (
 with_reducible refine Leaf.mk ?_
 (try dsimp only [cu, joinT, ckTys, gts, Prod.eta, List.nil_append] at *)
 first
 | (done)
 | (rfl))
abbrev tb26 : Tbl := (59, c_rcrashed_ok) :: tb25
theorem tb26_ok : TblOk Try.prog tb26 := TblOk.cons rcrashed_ok tb25_ok

abbrev c_rused_ok : Ct := .rd tSt [] (some (fun (q : St) => (q.2.1.length ≤ 4096) ∧ (usedS q.2.1 ≤ 1073741824))) (fun (q : St) => .d (.int .i64) (usedS q.2.1))
set_option maxRecDepth 100000 in
set_option maxHeartbeats 4000000 in
theorem rused_ok : CtOk Try.prog 55 c_rused_ok := by
  refine CtOk.rd tb26_ok mixed [] [] rfl rfl ?_
  rintro ⟨(c : Int), (l : List Obj), (r : Rest)⟩ ⟨⟩ hpre
  replace hpre := hpre _ rfl
  dsimp only [cu] at hpre
  obtain ⟨hl, hu⟩ := hpre
  refine ⟨[(0, 6, LA.mk [.sl 11 (.int .i64), .sl 3 (.int .i64)] (fun y => Tag 13 ∧ cu [.int .i64, .int .i64] (fun (k : Int) (s : Int) => (0 ≤ k ∧ k ≤ l.length) ∧ (s = usedS (l.take k.toNat))) y) (cu [.int .i64, .int .i64] (fun (k : Int) (s : Int) => ((l.length : Int) - k).toNat)) (cu [.int .i64, .int .i64] (fun (k : Int) (s : Int) => ([] : List (Nat × Nat × LA)))))], ?_⟩
  repeat' (first
    | (
 with_reducible refine Side.mk ⟨(⟨⟩ : Tag 13), ?_⟩
 dsimp only [cu, joinT, ckTys, gts, Prod.eta, List.nil_append]
 refine ⟨?_, ?_⟩
 · omega
 · first
   | (rfl)
   | (rw [used_succ (by omega), hs]))
    | (
 with_reducible refine Side.mk ?_
 (try dsimp only [cu, joinT, ckTys, gts, loK, hiK, Prod.eta, List.nil_append])
 first
 | (done)
 | (with_reducible rfl)
 | (omega)
 | (exact Eq.refl _)
 | (simp only [List.length_append, List.length_cons, List.length_nil]; omega)
 | (
  have h1 := used_take l k.toNat
  have h2 := used_take l (k + 1).toNat
  rw [used_succ (by omega)] at h2
  omega))
    | (conv => whnf
       first
        | done
        | exact trivial
        | with_reducible refine NilBr.mk (fun h => ?_) ?_
        | with_reducible first | refine w_andS ?_ ?_ | refine w_andL ?_ ?_ | refine w_kern (by kernel_rfl) ?_ | refine w_true ?_ | refine w_nd ?_ ?_ | refine w_in ?_ ?_ | refine w_and ?_ ?_
        | ((with_reducible first | refine w_brN (fun h => ?_) (fun h => ?_) | refine w_brD (fun h => ?_) (fun h => ?_) | refine w_br (fun h => ?_) (fun h => ?_)) <;> (try dsimp only [cu, Prod.eta, List.nil_append] at h) <;> (try (exfalso; omega; done)))
        | (
 intro yy (hy : Tag 13 ∧ _)
 obtain ⟨(k : Int), (s : Int), _⟩ := yy
 replace hy := hy.2
 dsimp only [cu, joinT, ckTys, gts, Prod.eta, List.nil_append] at hy
 obtain ⟨hk, hs⟩ := hy)))
  all_goals (
 with_reducible refine Leaf.mk ?_
 (try dsimp only [cu, joinT, ckTys, gts, Prod.eta, List.nil_append] at *)
 first
 | (done)
 | (rw [hs]; exact used_all (by omega)))
abbrev tb27 : Tbl := (55, c_rused_ok) :: tb26
theorem tb27_ok : TblOk Try.prog tb27 := TblOk.cons rused_ok tb26_ok

abbrev c_rfall_ok : Ct := .mo [shB, .val (.int .i64)] (some (fun (b : (shB).ty.den) (m : Int) => (b.2.1.length ≤ 4096) ∧ (∀ o, o ∈ b.2.1 → 0 ≤ o.2.2 ∧ o.2.2 ≤ o.2.1.size ∧ o.2.1.size ≤ 1073741824) ∧ (0 ≤ m ∧ m ≤ 9223372036854775807))) [] (fun (b : (shB).ty.den) (m : Int) => ()) (fun (b : (shB).ty.den) (m : Int) => (fallQ b m, m, ()))
set_option maxRecDepth 100000 in
set_option maxHeartbeats 4000000 in
theorem rfall_ok : CtOk Try.prog 53 c_rfall_ok := by
  refine CtOk.mo tb27_ok mixed [] [] rfl rfl ?_
  rintro ⟨⟨(c : Int), (l : List Obj), (cr : Bool), (ar : Bool), (w : Int), (k : Int)⟩, (m : Int), _⟩ hpre
  replace hpre := hpre _ rfl
  dsimp only [cu] at hpre
  obtain ⟨hl, hz, hm⟩ := hpre
  (try dsimp only at hl hz)
  all_goals refine ⟨[(0, 4, LA.mk [.sl 13 (.int .i64), .lst 4 tObj 42] (fun y => Tag 14 ∧ cu [.int .i64, .list tObj] (fun (g : Int) (L : List Obj) => (0 ≤ g ∧ g ≤ l.length) ∧ (L = fallS (l.take g.toNat) m)) y) (cu [.int .i64, .list tObj] (fun (g : Int) (L : List Obj) => ((l.length : Int) - g).toNat)) (cu [.int .i64, .list tObj] (fun (g : Int) (L : List Obj) => ([] : List (Nat × Nat × LA)))))], ?_⟩
  repeat' (first
    | (
 with_reducible refine Side.mk ⟨(⟨⟩ : Tag 14), ?_⟩
 dsimp only [cu, joinT, ckTys, gts, Prod.eta, List.nil_append]
 refine ⟨?_, ?_⟩
 · omega
 · first
   | (rfl)
   | (with_reducible exact rfall_cut hL hz hm.1 (by omega) (by assumption) (by assumption))
   | (with_reducible exact rfall_keep hL (by omega) (by assumption) (by assumption))
   | (with_reducible exact rfall_gone1 hL hz hm.1 (by omega) (by assumption) (by assumption))
   | (with_reducible exact rfall_gone2 hL (by omega) (by assumption) (by assumption)))
    | (
 with_reducible refine Side.mk ?_
 (try dsimp only [cu, joinT, ckTys, gts, loK, hiK, Prod.eta, List.nil_append])
 first
 | (done)
 | (with_reducible rfl)
 | (omega)
 | (exact Eq.refl _)
 | (simp only [List.length_append, List.length_cons, List.length_nil]; omega)
 | (
  have q := hb (by assumption)
  omega)
 | (
  have q := rfall_len hL hl
  simp only [List.length_cons, List.length_nil]
  omega))
    | (conv => whnf
       first
        | done
        | exact trivial
        | with_reducible refine NilBr.mk (fun h => ?_) ?_
        | with_reducible first | refine w_andS ?_ ?_ | refine w_andL ?_ ?_ | refine w_kern (by kernel_rfl) ?_ | refine w_true ?_ | refine w_nd ?_ ?_ | refine w_in ?_ ?_ | refine w_and ?_ ?_
        | ((with_reducible first | refine w_brN (fun h => ?_) (fun h => ?_) | refine w_brD (fun h => ?_) (fun h => ?_) | refine w_br (fun h => ?_) (fun h => ?_)) <;> (try dsimp only [cu, Prod.eta, List.nil_append] at h) <;> (try (exfalso; omega; done)))
        | (
 intro yy (hy : Tag 14 ∧ _)
 obtain ⟨(g : Int), (L : List Obj), _⟩ := yy
 replace hy := hy.2
 dsimp only [cu, joinT, ckTys, gts, Prod.eta, List.nil_append] at hy
 obtain ⟨hg, hL⟩ := hy
 have hb : g < l.length → 0 ≤ l[g.toNat]!.2.2 ∧ l[g.toNat]!.2.2 ≤ l[g.toNat]!.2.1.size ∧ l[g.toNat]!.2.1.size ≤ 1073741824 := fun q => hz _ (by rw [getElem!_pos l _ (by omega)]; exact List.getElem_mem _))))
  all_goals (
 with_reducible refine Leaf.mk ?_
 (try dsimp only [cu, joinT, ckTys, gts, Prod.eta, List.nil_append] at *)
 first
 | (done)
 | (rfl)
 | (exact rfall_end (l := l) (m := m) hL (by omega)))
abbrev tb28 : Tbl := (53, c_rfall_ok) :: tb27
theorem tb28_ok : TblOk Try.prog tb28 := TblOk.cons rfall_ok tb27_ok

end Go.Proofs.Ytpjgjkoajoiopaa
