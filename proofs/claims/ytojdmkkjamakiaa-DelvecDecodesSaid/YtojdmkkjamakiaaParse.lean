/- Decoding is the inverse of encoding. -/
import Derived.Test.YtojdmkkjamakiaaNum
namespace Go.Proofs.Ytojdmkkjamakiaa
open Go.Abs
set_option linter.unusedVariables false
set_option linter.unusedSimpArgs false


theorem toInts_app (a b : ByteArray) : toInts (a ++ b) = toInts a ++ toInts b := by
  unfold toInts; simp
theorem toInts_ofInts {l : List Int} (h : ∀ b, b ∈ l → 0 ≤ b ∧ b < 256) : toInts (ofInts l) = l := by
  unfold toInts ofInts
  simp only [List.map_map]
  conv => rhs; rw [← List.map_id l]
  refine List.map_congr_left fun b hb => ?_
  have := h b hb
  show ((UInt8.ofNat b.toNat).toNat : Int) = b
  have hb' : b.toNat < 256 := by omega
  rw [UInt8.toNat_ofNat_of_lt' hb']
  omega
theorem toInts_inj {a b : ByteArray} (h : toInts a = toInts b) : a = b := by
  apply ByteArray.ext
  apply Array.ext'
  unfold toInts at h
  refine List.map_inj_right (f := fun u : UInt8 => (u.toNat : Int)) (fun x y hxy => ?_) |>.1 h
  exact UInt8.toNat_inj.1 (Int.ofNat.inj hxy)
theorem putF_rng : ∀ (n : Nat) (v : Int), 0 ≤ v → v < 128 ^ (n + 1) → ∀ b, b ∈ putF n v → 0 ≤ b ∧ b < 256
  | 0, v, h0, h, b, hb => by
    simp [putF] at hb
    have : v < 128 := by simpa using h
    rw [hb]; omega
  | n + 1, v, h0, h, b, hb => by
    unfold putF at hb
    split at hb
    · simp at hb; omega
    · rcases List.mem_cons.1 hb with q | q
      · omega
      · exact putF_rng n (v / 128) (Int.ediv_nonneg h0 (by decide)) (by
          rw [Int.pow_succ] at h
          exact Int.ediv_lt_of_lt_mul (by decide) h) b q
theorem put_rng {v : Int} (h : 0 ≤ v ∧ v < 18446744073709551616) : ∀ b, b ∈ put v → 0 ≤ b ∧ b < 256 :=
  putF_rng 9 v h.1 (by have : (128 : Int) ^ (9 + 1) = 1180591620717411303424 := by decide
                       rw [this]; omega)
theorem encG_rng : ∀ (l : List Int) (p : Int), -1 ≤ p → ascF p l = true → (∀ v, v ∈ l → v < 18446744073709551616) → ∀ b, b ∈ encG p l → 0 ≤ b ∧ b < 256
  | [], p, _, _, _, b, hb => by simp [encG] at hb
  | v :: l, p, hp, ha, hv, b, hb => by
    simp only [ascF, Bool.and_eq_true, decide_eq_true_eq] at ha
    simp only [encG, List.mem_append] at hb
    have := hv v (by simp)
    rcases hb with q | q
    · exact put_rng (by omega) b q
    · exact encG_rng l v (by omega) ha.2 (fun x hx => hv x (by simp [hx])) b q
theorem getR_rng (s : ByteArray) (a : Int) : 0 ≤ (getR s a).1 ∧ (getR s a).1 < 18446744073709551616 := by
  have go : ∀ (n : Nat) (k v : Int), 0 ≤ v ∧ v < 18446744073709551616 → 0 ≤ (getGo s a n k v).1 ∧ (getGo s a n k v).1 < 18446744073709551616 := by
    intro n
    induction n with
    | zero => intro k v h; simp [getGo]
    | succ n ih =>
      intro k v h
      rw [getGo]
      repeat' split
      · simp
      · simp
      · exact ih _ _ (u64_wrap _)
      · simp
      · exact u64_wrap _
  unfold getR
  split
  · simp
  · exact go _ _ _ (by decide)
def pGo (s : ByteArray) (lim : Int) : Nat → Int → Int → List Int → Option (List Int × Int)
  | 0, a, _, acc => some (acc, a)
  | n + 1, a, q, acc => if (getR s a).2.2 ≠ 0 ∨ (getR s a).1 > lim then none else pGo s lim n (getR s a).2.1 (q + (getR s a).1 + 1) (acc ++ [q + (getR s a).1])
theorem pGo_sound (s : ByteArray) (lim : Int) : ∀ (n : Nat) (a q : Int) (acc l : List Int) (e : Int), 0 ≤ a → a ≤ s.size → pGo s lim n a q acc = some (l, e) →
    ∃ t, l = acc ++ t ∧ t.length = n ∧ e = a + (encG (q - 1) t).length ∧ e ≤ s.size ∧ (toInts s).drop a.toNat = encG (q - 1) t ++ (toInts s).drop e.toNat ∧ ascF (q - 1) t = true
  | 0, a, q, acc, l, e, h0, h1, h => by
    simp [pGo] at h
    obtain ⟨rfl, rfl⟩ := h
    exact ⟨[], by simp, rfl, by simp [encG], h1, by simp [encG], rfl⟩
  | n + 1, a, q, acc, l, e, h0, h1, h => by
    rw [pGo] at h
    split at h
    · cases h
    · rename_i hc
      have hg : getR s a = ((getR s a).1, (getR s a).2.1, 0) := by
        have : (getR s a).2.2 = 0 := by omega
        rw [← this]
      obtain ⟨s0, s1, s2, s3, s4, s5, s6⟩ := getR_sound hg
      generalize (getR s a).1 = v at *
      generalize (getR s a).2.1 = b at *
      obtain ⟨t, t1, t2, t3, t4, t5, t6⟩ := pGo_sound s lim n b (q + v + 1) (acc ++ [q + v]) l e (by omega) s5 h
      have eq1 : q + v + 1 - 1 = q + v := by omega
      rw [eq1] at t3 t5 t6
      have eq2 : encG (q - 1) ((q + v) :: t) = put v ++ encG (q + v) t := by
        rw [encG, show q + v - (q - 1 + 1) = v by omega]
      refine ⟨(q + v) :: t, by rw [t1]; simp, by simp [t2], ?_, t4, ?_, ?_⟩
      · rw [eq2]; simp; omega
      · rw [eq2, s6, t5]; simp
      · simp only [ascF, Bool.and_eq_true, decide_eq_true_eq]
        exact ⟨by omega, t6⟩
theorem pGo_complete (s : ByteArray) (lim : Int) (hlim : lim ≤ 1024) : ∀ (t : List Int) (a : Nat) (q : Int) (acc r : List Int), 0 ≤ q → ascF (q - 1) t = true → (∀ v, v ∈ t → v ≤ lim) → (toInts s).drop a = encG (q - 1) t ++ r →
    pGo s lim t.length a q acc = some (acc ++ t, (a : Int) + (encG (q - 1) t).length)
  | [], a, q, acc, r, h0, h1, h2, hd => by simp [pGo, encG]
  | v :: t, a, q, acc, r, h0, h1, h2, hd => by
    simp only [ascF, Bool.and_eq_true, decide_eq_true_eq] at h1
    have hv := h2 v (by simp)
    have eq2 : encG (q - 1) (v :: t) = put (v - q) ++ encG v t := by
      rw [encG, show v - (q - 1 + 1) = v - q by omega]
    rw [eq2, List.append_assoc] at hd
    have hg := getR_complete (u := v - q) (by omega) hd
    have hd2 : (toInts s).drop (a + (put (v - q)).length) = encG v t ++ r := by
      rw [← List.drop_drop, hd, List.drop_left]
    rw [List.length_cons, pGo, hg, if_neg (by simp; omega), eq2]
    simp only
    rw [show q + (v - q) + 1 = v + 1 by omega, show q + (v - q) = v by omega]
    rw [show (a : Int) + ((put (v - q)).length : Int) = ((a + (put (v - q)).length : Nat) : Int) by push_cast; rfl]
    rw [pGo_complete s lim hlim t _ (v + 1) _ r (by omega) (by rw [show v + 1 - 1 = v by omega]; exact h1.2) (fun x hx => h2 x (by simp [hx])) (by rw [show v + 1 - 1 = v by omega]; exact hd2)]
    rw [show v + 1 - 1 = v by omega]
    simp; omega
def dOpt (b s : ByteArray) (rows : Int) : Option (List Int) :=
  if (getR b 4).2.2 ≠ 0 then none else if (getR b (getR b 4).2.1).2.2 ≠ 0 then none else if (getR b (getR b 4).2.1).1 > 1024 then none
  else match pGo b 1024 (getR b (getR b 4).2.1).1.toNat (getR b (getR b 4).2.1).2.1 0 [] with
    | none => none
    | some l => if encE l.1 rows ≠ 0 ∨ encS l.1 rows ≠ s then none else some l.1
def rOpt (b s : ByteArray) (rows : Int) : Option (List Int) :=
  if s.extract 0 4 ≠ DEL1 ∨ rows < 1 ∨ rows > 1024 then none else if (getR b 4).2.2 ≠ 0 ∨ (getR b 4).1 ≠ rows then none
  else if (getR b (getR b 4).2.1).2.2 ≠ 0 ∨ (getR b (getR b 4).2.1).1 > (getR b 4).1 then none
  else match pGo b (getR b 4).1 (getR b (getR b 4).2.1).1.toNat (getR b (getR b 4).2.1).2.1 0 [] with
    | none => none
    | some l => if l.2 ≠ b.size ∨ chk l.1 rows = false then none else some l.1
theorem chk_mem {l : List Int} {rows : Int} (h : chk l rows = true) : ∀ v, v ∈ l → 0 ≤ v ∧ v < rows := by
  intro v hv
  obtain ⟨i, hi, rfl⟩ := List.mem_iff_getElem.1 hv
  have := (chk_len h).2.2.2.2 i hi
  rwa [getElem!_pos l i hi] at this
theorem chk_len2 {l : List Int} {rows : Int} (h : chk l rows = true) : (l.length : Int) ≤ rows := by
  obtain ⟨h1, h2, h3, h4, h5⟩ := chk_len h
  rcases Nat.eq_zero_or_pos l.length with q | q
  · omega
  · have := (ascF_get l _ h4 (l.length - 1) (by omega)).1
    have := h5 (l.length - 1) (by omega)
    omega
theorem encB_ints {l : List Int} {rows : Int} (h : chk l rows = true) : toInts (encB l rows) = [68, 69, 76, 49] ++ (put rows ++ (put l.length ++ encG (-1) l)) := by
  obtain ⟨h1, h2, h3, h4, _⟩ := chk_len h
  unfold encB
  rw [toInts_app, toInts_app, toInts_app, toInts_ofInts (put_rng (by omega)), toInts_ofInts (put_rng (by omega)), toInts_ofInts (encG_rng l (-1) (by omega) h4 (fun v hv => by have := chk_mem h v hv; omega))]
  rw [show toInts DEL1 = [68, 69, 76, 49] from rfl]
  simp
theorem dOpt_of {b s : ByteArray} {rows : Int} {l : List Int} (h : chk l rows = true) (hb : b = encB l rows) (hs : encS l rows = s) : dOpt b s rows = some l ∧ (s.extract 0 4 = DEL1 → rOpt b s rows = some l) := by
  obtain ⟨h1, h2, h3, h4, h5⟩ := chk_len h
  have hlr := chk_len2 h
  have hi : toInts b = [68, 69, 76, 49] ++ (put rows ++ (put l.length ++ encG (-1) l)) := by rw [hb, encB_ints h]
  have d1 : (toInts b).drop 4 = put rows ++ (put l.length ++ encG (-1) l) := by rw [hi]; rfl
  have g0 := getR_complete (s := b) (a := 4) (u := rows) (by omega) d1
  have d2 : (toInts b).drop (4 + (put rows).length) = put l.length ++ encG (-1) l := by rw [← List.drop_drop, d1, List.drop_left]
  have g1 := getR_complete (s := b) (a := 4 + (put rows).length) (u := l.length) (by omega) d2
  have d3 : (toInts b).drop (4 + (put rows).length + (put l.length).length) = encG (0 - 1) l ++ [] := by rw [← List.drop_drop, d2, List.drop_left]; simp
  have p1 : ∀ lim, lim ≤ 1024 → rows - 1 ≤ lim → pGo b lim l.length ((4 + (put rows).length + (put l.length).length : Nat) : Int) 0 [] = some (l, (b.size : Int)) := by
    intro lim hl1 hl2
    rw [pGo_complete b lim hl1 l _ 0 [] [] (by omega) h4 (fun v hv => by have := chk_mem h v hv; omega) d3]
    have hsz : (toInts b).length = b.size := toInts_len b
    rw [hi] at hsz
    simp at hsz ⊢
    omega
  have c1 : ((4 : Nat) : Int) = 4 := rfl
  rw [c1] at g0
  have c2 : ((4 + (put rows).length : Nat) : Int) = 4 + ((put rows).length : Int) := by push_cast; rfl
  rw [c2] at g1
  have c3 : ((4 + (put rows).length + (put l.length).length : Nat) : Int) = 4 + ((put rows).length : Int) + ((put (l.length : Int)).length : Int) := by push_cast; rfl
  rw [c3] at p1
  constructor
  · unfold dOpt
    rw [g0]; simp only
    rw [g1]; simp only [ne_eq, not_true, if_false]
    rw [if_neg (by omega), Int.toNat_natCast, p1 1024 (by omega) (by omega)]
    simp [encE, h, hs]
  · intro hx
    unfold rOpt
    rw [if_neg (by rw [hx]; simp; omega), g0]; simp only
    rw [g1]; simp only [ne_eq, not_true, if_false, false_or]
    rw [if_neg (by omega), Int.toNat_natCast, p1 rows (by omega) (by omega)]
    simp [h]
theorem dOpt_some {b s : ByteArray} {rows : Int} {l : List Int} (h : dOpt b s rows = some l) : chk l rows = true ∧ encS l rows = s := by
  unfold dOpt at h
  repeat' split at h
  all_goals first | (cases h; done) | skip
  rename_i h2
  injection h with h
  subst h
  simp only [not_or, ne_eq, Decidable.not_not] at h2
  refine ⟨?_, h2.2⟩
  have := h2.1
  unfold encE at this
  split at this
  · assumption
  · omega
theorem rOpt_some {b s : ByteArray} {rows : Int} {l : List Int} (h : rOpt b s rows = some l) (hb : b.extract 0 4 = s.extract 0 4) : chk l rows = true ∧ b = encB l rows := by
  unfold rOpt at h
  split at h
  · cases h
  rename_i h1
  split at h
  · cases h
  rename_i h2
  split at h
  · cases h
  rename_i h3
  split at h
  · cases h
  rename_i x hx
  split at h
  · cases h
  rename_i h4
  injection h with h
  subst h
  obtain ⟨l, e⟩ := x
  simp only [not_or, ne_eq, Decidable.not_not, Bool.not_eq_false] at h1 h2 h3 h4
  have g0 : getR b 4 = ((getR b 4).1, (getR b 4).2.1, 0) := by rw [← h2.1]
  have g1 : getR b (getR b 4).2.1 = ((getR b (getR b 4).2.1).1, (getR b (getR b 4).2.1).2.1, 0) := by rw [← h3.1]
  obtain ⟨a1, a2, a3, a4, a5, a6, a7⟩ := getR_sound g0
  obtain ⟨b1, b2, b3, b4, b5, b6, b7⟩ := getR_sound g1
  obtain ⟨t, t1, t2, t3, t4, t5, t6⟩ := pGo_sound b _ _ _ _ _ _ _ (by omega) b6 hx
  have t1' : l = t := by simpa using t1
  subst t1'
  refine ⟨h4.2, toInts_inj ?_⟩
  rw [encB_ints h4.2]
  have f4 : (toInts b).take 4 = [68, 69, 76, 49] := by
    have e1 : toInts (b.extract 0 4) = (toInts b).take 4 := by
      unfold toInts; simp [List.map_take]
    rw [← e1, hb, h1.1]; rfl
  have hend : (toInts b).drop e.toNat = [] := by
    rw [List.drop_eq_nil_of_le]; rw [toInts_len]; have h41 := h4.1; omega
  have hl : (getR b (getR b 4).2.1).1 = (l.length : Int) := by omega
  rw [← List.take_append_drop 4 (toInts b), f4]
  congr 1
  have a7' : (toInts b).drop 4 = put (getR b 4).1 ++ (toInts b).drop (getR b 4).2.1.toNat := a7
  rw [a7', b7, t5, hend, h2.2, hl, List.append_nil]
  rfl
def decR (s : ByteArray) (rows : Int) : List Int × Int := if s.size < 8 then ([], 10) else if sealS (s.extract 0 ((s.size : Int) - 4).toNat) ≠ s then ([], 9) else match dOpt (s.extract 0 ((s.size : Int) - 4).toNat) s rows with
  | none => ([], 2)
  | some l => (l, 0)
def rdecR (s : ByteArray) (rows : Int) : List Int × Int := if s.size < 8 then ([], 10) else if sealS (s.extract 0 ((s.size : Int) - 4).toNat) ≠ s then ([], 9) else match rOpt (s.extract 0 ((s.size : Int) - 4).toNat) s rows with
  | none => ([], 2)
  | some l => (l, 0)
theorem seal_body (b : ByteArray) : (sealS b).extract 0 (((sealS b).size : Int) - 4).toNat = b := by
  apply toInts_inj
  have e : ∀ (x : ByteArray) (n : Nat), toInts (x.extract 0 n) = (toInts x).take n := fun x n => by unfold toInts; simp [List.map_take]
  have hz : (sealS b).size = b.size + 4 := by unfold sealS; rw [ByteArray.size_append, four_size]
  rw [e, hz, show (((b.size + 4 : Nat) : Int) - 4).toNat = b.size by omega]
  unfold sealS
  rw [toInts_app, List.take_append_of_le_length (by rw [toInts_len]; omega), List.take_of_length_le (by rw [toInts_len]; omega)]
theorem body_pre {s : ByteArray} (h : ¬ s.size < 8) : ((s.extract 0 ((s.size : Int) - 4).toNat)).extract 0 4 = s.extract 0 4 := by
  apply toInts_inj
  have e : ∀ (x : ByteArray) (n : Nat), toInts (x.extract 0 n) = (toInts x).take n := fun x n => by unfold toInts; simp [List.map_take]
  rw [e, e, e, List.take_take, show min 4 ((s.size : Int) - 4).toNat = 4 by omega]
theorem encB_pre {l : List Int} {rows : Int} (h : chk l rows = true) : (encB l rows).extract 0 4 = DEL1 := by
  apply toInts_inj
  have e : ∀ (x : ByteArray) (n : Nat), toInts (x.extract 0 n) = (toInts x).take n := fun x n => by unfold toInts; simp [List.map_take]
  rw [e, encB_ints h]; rfl
/-- Decoding by its result. -/
theorem dOpt_iff {s : ByteArray} {rows : Int} {l : List Int} (h8 : ¬ s.size < 8) (hs : sealS (s.extract 0 ((s.size : Int) - 4).toNat) = s) : (dOpt (s.extract 0 ((s.size : Int) - 4).toNat) s rows = some l ↔ chk l rows = true ∧ encS l rows = s) ∧ (rOpt (s.extract 0 ((s.size : Int) - 4).toNat) s rows = some l ↔ chk l rows = true ∧ encS l rows = s) := by
  have back : chk l rows = true → encS l rows = s → (s.extract 0 ((s.size : Int) - 4).toNat) = encB l rows := fun h1 h2 => by
    have h3 : sealS (encB l rows) = s := by rw [← h2, encS, if_pos h1]
    rw [← h3, seal_body]
  refine ⟨⟨dOpt_some, fun ⟨h1, h2⟩ => (dOpt_of h1 (back h1 h2) h2).1⟩, fun h => ?_, fun ⟨h1, h2⟩ => ?_⟩
  · obtain ⟨h1, h2⟩ := rOpt_some h (body_pre h8)
    exact ⟨h1, by rw [encS, if_pos h1, ← h2, hs]⟩
  · have hb := back h1 h2
    exact (dOpt_of h1 hb h2).2 (by rw [← body_pre h8, hb, encB_pre h1])
theorem decR_eq (s : ByteArray) (rows : Int) : decR s rows = rdecR s rows := by
  unfold decR rdecR
  split
  · rfl
  · rename_i h8
    split
    · rfl
    · rename_i hs
      simp only [ne_eq, Decidable.not_not] at hs
      have : dOpt (s.extract 0 ((s.size : Int) - 4).toNat) s rows = rOpt (s.extract 0 ((s.size : Int) - 4).toNat) s rows := by
        apply Option.ext
        intro l
        rw [(dOpt_iff h8 hs).1, (dOpt_iff h8 hs).2]
      rw [this]

end Go.Proofs.Ytojdmkkjamakiaa
