/- Decoding a dictionary is the inverse of encoding it. -/
import Derived.Test.YthomnlfmamagcaaPackM
namespace Go.Proofs.Ythomnlfmamagcaa
open Go.Abs
set_option linter.unusedVariables false
set_option linter.unusedSimpArgs false


def flatW (t : List ByteArray) : List Int := t.flatMap fun w => put (w.size : Int) ++ toInts w
theorem encWB_ints : ∀ (W : List ByteArray) (s : ByteArray), (∀ w, w ∈ W → w.size < 18446744073709551616) → toInts (encWB s W) = toInts s ++ flatW W
  | [], s, _ => by simp [encWB, flatW]
  | w :: W, s, h => by
    have hw := h w (by simp)
    show toInts (encWB (s ++ (ofInts (put (w.size : Int)) ++ w)) W) = _
    rw [encWB_ints W _ (fun v hv => h v (by simp [hv])), toInts_app, toInts_app, toInts_ofInts (put_rng ⟨by omega, by omega⟩)]
    simp [flatW]
theorem ints_extract (s : ByteArray) (a b : Nat) : toInts (s.extract a b) = ((toInts s).drop a).take (b - a) := by
  unfold toInts
  simp [List.map_take, List.map_drop, List.take_drop]
theorem sLe_not {a b : ByteArray} (h : strLt b a = true) : ¬ sLe a b = true := by
  unfold sLe
  have h1 := sLt_asym h
  have h2 : ¬ a = b := fun q => sLt_irrefl b (by rw [q] at h; exact h)
  simp [h1, h2]
theorem not_sLe {a b : ByteArray} (h : ¬ sLe a b = true) : strLt b a = true := by
  unfold sLe at h
  rcases sLt_tri a b with q | q | q
  · simp [q] at h
  · simp [q] at h
  · exact q
theorem asc_snoc {M : List ByteArray} {w : ByteArray} (hM : ascS M) (h : ¬ (0 < M.length ∧ sLe w M[M.length - 1]! = true)) : ascS (M ++ [w]) := by
  unfold ascS at *
  rw [List.pairwise_append]
  refine ⟨hM, by simp, fun a ha b hb => ?_⟩
  rw [List.mem_singleton] at hb; subst hb
  obtain ⟨i, hi, rfl⟩ := List.mem_iff_getElem.1 ha
  have hl : strLt M[M.length - 1]! b = true := not_sLe fun q => h ⟨by omega, q⟩
  rcases Nat.eq_or_lt_of_le (show i ≤ M.length - 1 by omega) with q | q
  · rw [getElem!_pos M (M.length - 1) (by omega)] at hl
    simpa [q] using hl
  · have h1 : strLt M[i]! M[M.length - 1]! = true := ascS_get hM q (by omega)
    rw [getElem!_pos M i hi] at h1
    exact sLt_trans h1 hl
theorem asc_last {M : List ByteArray} {w : ByteArray} {t : List ByteArray} (h : ascS (M ++ w :: t)) : ¬ (0 < M.length ∧ sLe w M[M.length - 1]! = true) := by
  rintro ⟨h0, h1⟩
  refine sLe_not ?_ h1
  unfold ascS at h
  rw [List.pairwise_append] at h
  refine h.2.2 _ ?_ w (by simp)
  rw [getElem!_pos M (M.length - 1) (by omega)]; exact List.getElem_mem _
theorem word_at {s : ByteArray} {a : Nat} {w : ByteArray} {r : List Int} (hw : w.size < 18446744073709551616) (h : (toInts s).drop a = put (w.size : Int) ++ (toInts w ++ r)) :
    getR s a = ((w.size : Int), (a : Int) + (put (w.size : Int)).length, 0) ∧ ¬ (w.size : Int) > s.size - ((a : Int) + (put (w.size : Int)).length) ∧ wdAt s a = w ∧ (toInts s).drop (a + (put (w.size : Int)).length + w.size) = r := by
  have hg := getR_complete (s := s) (a := a) (u := (w.size : Int)) ⟨by omega, by omega⟩ h
  have hl := congrArg List.length h
  simp only [List.length_drop, List.length_append, toInts_len] at hl
  have hp := put_len (w.size : Int)
  have d1 : (toInts s).drop (a + (put (w.size : Int)).length) = toInts w ++ r := by
    rw [← List.drop_drop, h, List.drop_left]
  refine ⟨hg, by omega, ?_, ?_⟩
  · unfold wdAt
    rw [hg]
    simp only
    apply toInts_inj
    rw [ints_extract, show ((a : Int) + ((put (w.size : Int)).length : Int)).toNat = a + (put (w.size : Int)).length by omega, show ((a : Int) + ((put (w.size : Int)).length : Int) + (w.size : Int)).toNat - (a + (put (w.size : Int)).length) = (toInts w).length by rw [toInts_len]; omega, d1, List.take_left]
  · rw [← List.drop_drop, d1, ← toInts_len w, List.drop_left]
theorem wdGo_complete {s : ByteArray} : ∀ (t : List ByteArray) (a : Nat) (M : List ByteArray) (r : List Int), (toInts s).drop a = flatW t ++ r → ascS (M ++ t) → (∀ w, w ∈ t → w.size < 18446744073709551616) →
    wdGo s t.length a M = (M ++ t, ((a + (flatW t).length : Nat) : Int), 0) ∧ (toInts s).drop (a + (flatW t).length) = r
  | [], a, M, r, h, _, _ => by
    rw [List.length_nil, wdGo]
    simpa [flatW] using h
  | w :: t, a, M, r, h, hM, hsz => by
    have e : flatW (w :: t) = put (w.size : Int) ++ toInts w ++ flatW t := by simp [flatW]
    obtain ⟨g1, g2, g3, g4⟩ := word_at (s := s) (a := a) (w := w) (r := flatW t ++ r) (hsz w (by simp)) (by rw [h, e]; simp)
    obtain ⟨i1, i2⟩ := wdGo_complete t (a + (put (w.size : Int)).length + w.size) (M ++ [w]) r g4 (by simpa using hM) (fun v hv => hsz v (by simp [hv]))
    have el : (flatW (w :: t)).length = (put (w.size : Int)).length + w.size + (flatW t).length := by rw [e]; simp only [List.length_append, toInts_len]
    rw [List.length_cons, wdGo, g1]
    simp only
    rw [if_neg (by decide), if_neg g2, g3, if_neg (asc_last hM)]
    rw [show (a : Int) + ((put (w.size : Int)).length : Int) + (w.size : Int) = ((a + (put (w.size : Int)).length + w.size : Nat) : Int) by push_cast; rfl, i1, el]
    have e5 : a + ((put (w.size : Int)).length + w.size + (flatW t).length) = a + (put (w.size : Int)).length + w.size + (flatW t).length := by omega
    refine ⟨?_, by rw [e5]; exact i2⟩
    rw [e5, List.append_assoc]; rfl
theorem wdGo_sound {s : ByteArray} : ∀ (n : Nat) (a : Int) (M W : List ByteArray) (e : Int), 0 ≤ a → a ≤ s.size → ascS M → wdGo s n a M = (W, e, 0) →
    ∃ t, W = M ++ t ∧ t.length = n ∧ ascS W ∧ (∀ w, w ∈ t → w.size < 18446744073709551616) ∧ 0 ≤ e ∧ e ≤ s.size ∧ (toInts s).drop a.toNat = flatW t ++ (toInts s).drop e.toNat
  | 0, a, M, W, e, h0, h1, hM, h => by
    rw [wdGo] at h
    injection h with e1 e2; injection e2 with e2 _
    subst e1 e2
    exact ⟨[], by simp, rfl, hM, by simp, h0, h1, by simp [flatW]⟩
  | n + 1, a, M, W, e, h0, h1, hM, h => by
    rw [wdGo] at h
    split at h
    · injection h with e1 e2; injection e2 with e2 e3; rename_i q; exact absurd e3 q
    rename_i q1
    split at h
    · injection h with e1 e2; injection e2 with e2 e3; exact absurd e3 (by decide)
    rename_i q2
    split at h
    · injection h with e1 e2; injection e2 with e2 e3; exact absurd e3 (by decide)
    rename_i q3
    have hg0 := Decidable.not_not.1 q1
    have hg := getR_ok hg0
    have hrng := getR_rng s a
    generalize hge : getR s a = p at *
    obtain ⟨sz, nx, ec⟩ := p
    simp only at hg0 hg hrng q2 h
    subst hg0
    obtain ⟨_, _, _, _, s5, s6, s7⟩ := getR_sound hge
    have hwd : wdAt s a = s.extract nx.toNat (nx + sz).toNat := by unfold wdAt; rw [hge]
    have hws : (wdAt s a).size = sz.toNat := by
      rw [hwd, ByteArray.size_extract]; omega
    have hints : toInts (wdAt s a) = ((toInts s).drop nx.toNat).take sz.toNat := by
      rw [hwd, ints_extract]; congr 1; omega
    obtain ⟨t, t1, t2, t3, t4, t5, t6, t7⟩ := wdGo_sound n (nx + sz) (M ++ [wdAt s a]) W e (by omega) (by omega) (asc_snoc hM q3) h
    refine ⟨wdAt s a :: t, by rw [t1]; simp, by simp [t2], t3, ?_, t5, t6, ?_⟩
    · intro w hw
      rcases List.mem_cons.1 hw with q | q
      · subst q; omega
      · exact t4 w q
    · have ef : flatW (wdAt s a :: t) = put ((wdAt s a).size : Int) ++ (toInts (wdAt s a) ++ flatW t) := by simp [flatW]
      rw [ef, s7, hws, show ((sz.toNat : Nat) : Int) = sz by omega, hints, List.append_assoc, List.append_assoc, ← t7, show (nx + sz).toNat = nx.toNat + sz.toNat by omega, ← List.drop_drop, List.take_append_drop]
theorem drop_ext (s : ByteArray) (e : Nat) : toInts (s.extract e s.size) = (toInts s).drop e := by
  rw [ints_extract, List.take_of_length_le (by simp [toInts_len])]
theorem ixGo_no : ∀ (l : List Bool) (k : Int), (∀ b, b ∈ l → b = true) → ixGo l false k = -1
  | [], _, _ => rfl
  | b :: l, k, h => by
    rw [ixGo, if_neg (by rw [h b (by simp)]; decide), ixGo_no l _ (fun c hc => h c (by simp [hc]))]
theorem ixGo_all : ∀ (l : List Bool) (k : Int), 0 ≤ k → ¬ ixGo l false k ≥ 0 → ∀ b, b ∈ l → b = true
  | [], _, _, _, b, hb => by simp at hb
  | c :: l, k, hk, h, b, hb => by
    rw [ixGo] at h
    split at h
    · exact absurd hk (by omega)
    · rename_i q
      rcases List.mem_cons.1 hb with r | r
      · subst r; cases b
        · exact absurd rfl q
        · rfl
      · exact ixGo_all l (k + 1) (by omega) h b r
theorem usedL_all {k : Nat} {u : List Int} : (¬ hasB (usedL k u) false = true) ↔ ∀ j : Nat, j < k → (j : Int) ∈ u := by
  unfold hasB
  rw [decide_eq_true_iff]
  constructor
  · intro h j hj
    have := ixGo_all _ 0 (by omega) h (u.any fun c => decide (c = (j : Int))) (by
      unfold usedL; rw [List.mem_map]; exact ⟨j, by simpa using hj, rfl⟩)
    rw [List.any_eq_true] at this
    obtain ⟨c, hc, hq⟩ := this
    rw [decide_eq_true_iff] at hq
    subst hq; exact hc
  · intro h
    rw [ixGo_no]
    · decide
    · intro b hb
      unfold usedL at hb
      obtain ⟨j, hj, rfl⟩ := List.mem_map.1 hb
      rw [List.any_eq_true]
      exact ⟨(j : Int), h j (by simpa using hj), by simp⟩
theorem wdN_nat (k : Nat) : ∃ w : Nat, (k ≤ 9223372036854775807 → w ≤ 64) ∧ wdN (k : Int) = w ∧ (k ≤ 9223372036854775807 → ∀ c : Int, 0 ≤ c → c < k → c < 2 ^ w) := by
  have h0 : 0 ≤ wdN (k : Int) := by unfold wdN lenI; omega
  refine ⟨(wdN (k : Int)).toNat, fun h => ?_, by omega, fun h c h1 h2 => ?_⟩
  · have := wdN_rng (k : Int) (by omega); omega
  · have hm : maxI ((k : Int) - 1) 0 = (k : Int) - 1 := by unfold maxI; split <;> omega
    have := lenI_lt (v := (k : Int) - 1) (by omega)
    unfold wdN
    rw [hm]; omega
theorem codes_lt {l : List ByteArray} : ∀ c, c ∈ codesS l → 0 ≤ c ∧ c < (wordsS l).length := by
  intro c hc
  obtain ⟨s, hs, rfl⟩ := List.mem_map.1 hc
  have := (plS_mem (wordsS_asc l) ((wordsS_mem l s).2 hs)).1
  omega
/-- What is encoded is decoded again. -/
theorem dict_round {x : List ByteArray} (hl : x.length ≤ 4096) (hs : ∀ w, w ∈ x → w.size < 18446744073709551616) : decDict (encDict x) x.length = (x, 0) := by
  have hwl := wordsS_len x
  have hcl := codesS_len x
  obtain ⟨w, w1, w2, w3⟩ := wdN_nat (wordsS x).length
  have hws : ∀ v, v ∈ wordsS x → v.size < 18446744073709551616 := fun v hv => hs v ((wordsS_mem x v).1 hv)
  have hup := unpack_pack (u := codesS x) (w := w) (by omega) (w1 (by omega)) (fun v hv => ⟨(codes_lt v hv).1, w3 (by omega) v (codes_lt v hv).1 (codes_lt v hv).2⟩)
  have hi : toInts (encDict x) = put ((wordsS x).length : Int) ++ (flatW (wordsS x) ++ toInts (packR (codesS x) w).1) := by
    rw [encDict, if_neg (by omega), toInts_app, encWB_ints _ _ hws, toInts_ofInts (put_rng ⟨by omega, by omega⟩), w2, List.append_assoc]
  generalize encDict x = s at hi
  have hg := getR_complete (s := s) (a := 0) (u := ((wordsS x).length : Int)) ⟨by omega, by omega⟩ (by simpa using hi)
  have hd : (toInts s).drop (put ((wordsS x).length : Int)).length = flatW (wordsS x) ++ toInts (packR (codesS x) w).1 := by rw [hi, List.drop_left]
  obtain ⟨g1, g2⟩ := wdGo_complete (s := s) (wordsS x) _ [] _ hd (by simpa using wordsS_asc x) hws
  have hg' : getR s 0 = (((wordsS x).length : Int), ((put ((wordsS x).length : Int)).length : Int), 0) := by simpa using hg
  have hne : ¬ (((wordsS x).length : Int) > (x.length : Int) ∨ (((wordsS x).length : Int) = 0 ∧ (x.length : Int) > 0)) := by
    rintro (q | ⟨q1, q2⟩)
    · omega
    · cases x with
      | nil => simp at q2
      | cons a x =>
        have := (wordsS_mem (a :: x) a).2 (by simp)
        rw [List.length_eq_zero_iff.1 (show (wordsS (a :: x)).length = 0 by omega)] at this
        simp at this
  rw [dec_3 (by omega) (by rw [hg']) (by rw [hg']; exact hne), hg']
  simp only [Int.toNat_natCast]
  rw [g1]
  have hex : s.extract ((((put ((wordsS x).length : Int)).length + (flatW (wordsS x)).length : Nat) : Int)).toNat s.size = (packR (codesS x) w).1 := by
    apply toInts_inj
    rw [Int.toNat_natCast, drop_ext, g2]
  rw [dec_a1 (by rfl)]
  simp only [List.nil_append]
  rw [hex, w2, ← hcl, hup, dec_b1 (by rfl)]
  simp only
  have hmap : ∀ v, v ∈ x → (wordsS x)[plS (wordsS x) v]! = v := fun v hv => (plS_mem (wordsS_asc x) ((wordsS_mem x v).2 hv)).2
  have hall : ∀ j : Nat, j < (wordsS x).length → (j : Int) ∈ codesS x := fun j hj => by
    unfold codesS
    rw [List.mem_map]
    refine ⟨(wordsS x)[j]!, (wordsS_mem x _).1 (by rw [getElem!_pos _ j hj]; exact List.getElem_mem hj), ?_⟩
    exact congrArg (fun n : Nat => (n : Int)) (plS_idx (wordsS_asc x) hj)
  rw [decC_ok (V := usedL (wordsS x).length (codesS x)) rfl (by
    rw [List.any_eq_false]
    intro c hc
    have := codes_lt c hc
    simp; omega) (usedL_all.2 hall)]
  rw [Prod.mk.injEq]
  refine ⟨?_, rfl⟩
  unfold codesS
  rw [List.map_map]
  conv => rhs; rw [← List.map_id x]
  exact List.map_congr_left fun v hv => by simpa using hmap v hv
/-- What is decoded is the only encoding of its result. -/
theorem dict_uniq {s : ByteArray} {n : Int} {a : List ByteArray} (h : decDict s n = (a, 0)) : encDict a = s ∧ (a.length : Int) = n := by
  by_cases q1 : n < 0 ∨ n > 4096
  · rw [dec_0 q1] at h; injection h with _ h; exact absurd h (by decide)
  by_cases q2 : ¬ (getR s 0).2.2 = 0
  · rw [dec_1 q1 q2] at h; injection h with _ h; exact absurd h q2
  replace q2 := Decidable.not_not.1 q2
  by_cases q3 : (getR s 0).1 > n ∨ ((getR s 0).1 = 0 ∧ n > 0)
  · rw [dec_2 q1 q2 q3] at h; injection h with _ h; exact absurd h (by decide)
  rw [dec_3 q1 q2 q3] at h
  have hrng := getR_rng s 0
  generalize hge : getR s 0 = p at *
  obtain ⟨k, at', ec⟩ := p
  simp only at q2 q3 h hrng
  subst q2
  obtain ⟨_, _, _, _, s5, s6, s7⟩ := getR_sound hge
  by_cases q4 : ¬ (wdGo s k.toNat at' []).2.2 = 0
  · rw [dec_a0 q4] at h; injection h with _ h; exact absurd h q4
  replace q4 := Decidable.not_not.1 q4
  rw [dec_a1 q4] at h
  generalize hwg : wdGo s k.toNat at' [] = r at *
  obtain ⟨W, e, ec⟩ := r
  simp only at q4 h
  subst q4
  obtain ⟨t, t1, t2, t3, t4, t5, t6, t7⟩ := wdGo_sound k.toNat at' [] W e (by omega) s6 List.Pairwise.nil hwg
  rw [List.nil_append] at t1
  subst t1
  by_cases q5 : ¬ (unpackR (s.extract e.toNat s.size) n (wdN W.length)).2 = 0
  · rw [dec_b0 q5] at h; injection h with _ h; exact absurd h q5
  replace q5 := Decidable.not_not.1 q5
  have hul := unpackR_len q5
  have hur := unpackR_rng (s.extract e.toNat s.size) n (wdN W.length)
  rw [dec_b1 q5] at h
  generalize hup : unpackR (s.extract e.toNat s.size) n (wdN W.length) = p at *
  obtain ⟨u, ec⟩ := p
  simp only at q5 h hul hur
  subst q5
  rw [decC] at h
  split at h
  · injection h with _ h; exact absurd h (by decide)
  rename_i c1
  split at h
  · injection h with _ h; exact absurd h (by decide)
  rename_i c2
  injection h with h _
  have hlt : ∀ c, c ∈ u → 0 ≤ c ∧ c < W.length := fun c hc => by
    refine ⟨?_, ?_⟩
    · obtain ⟨i, hi, rfl⟩ := List.mem_iff_getElem.1 hc
      have := hur i
      rwa [getElem!_pos u i hi] at this
    · have c1' : (u.any fun c => decide (c ≥ (W.length : Int))) = false := by simpa using c1
      rw [List.any_eq_false] at c1'
      have := c1' c hc
      simp at this; omega
  have hall := usedL_all.1 c2
  have hal : (a.length : Int) = n := by rw [← h, List.length_map, hul]; omega
  have hword : wordsS a = W := ascS_ext (wordsS_asc a) t3 fun v => by
    rw [wordsS_mem, ← h, List.mem_map]
    constructor
    · rintro ⟨c, hc, rfl⟩
      have := hlt c hc
      rw [getElem!_pos W c.toNat (by omega)]; exact List.getElem_mem _
    · intro hv
      obtain ⟨i, hi, rfl⟩ := List.mem_iff_getElem.1 hv
      exact ⟨(i : Int), hall i hi, by rw [Int.toNat_natCast, getElem!_pos W i hi]⟩
  have hcode : codesS a = u := by
    unfold codesS
    rw [hword, ← h, List.map_map]
    conv => rhs; rw [← List.map_id u]
    refine List.map_congr_left fun c hc => ?_
    have := hlt c hc
    have hi : plS W W[c.toNat]! = c.toNat := plS_idx t3 (by omega)
    show (plS W W[c.toNat]! : Int) = c
    rw [hi]; omega
  refine ⟨?_, hal⟩
  obtain ⟨w, w1, w2, _⟩ := wdN_nat W.length
  have hkl : (W.length : Int) = k := by omega
  rw [w2] at hup
  have hpk := pack_unpack (t := s.extract e.toNat s.size) (n := n.toNat) (w := w) (u := u) (by omega) (w1 (by omega)) (by rw [show ((n.toNat : Nat) : Int) = n by omega]; exact hup)
  apply toInts_inj
  rw [encDict, if_neg (by omega), hword, hcode, toInts_app, encWB_ints _ _ t4, toInts_ofInts (put_rng ⟨by omega, by omega⟩), w2, hpk, drop_ext, List.append_assoc, ← t7, hkl]
  exact s7.symm

end Go.Proofs.Ythomnlfmamagcaa
