/- Contracts of the statements of layer 12. -/
import Derived.Test.YtlamfjhhjfgemaaGreatChunks
namespace Go.Proofs.YtlamfjhhjfgemaaGreat
open Go.Abs
set_option linter.unusedVariables false
set_option linter.unusedSimpArgs false


def colS (t : Int) (null : Bool) : Col := (⟨#[120]⟩, 1 + pick t 5, 0, null)
def three : List Val := [(false, 5, ⟨#[]⟩), (false, 5, ⟨#[]⟩), (false, 5, ⟨#[]⟩)]
theorem three_ok : ∀ v, v ∈ three → okV v := fun v hv => by
  have h : okV (false, 5, ⟨#[]⟩) := ⟨Nat.zero_le _, by unfold inI; exact ⟨by decide, by decide⟩⟩
  unfold three at hv
  rcases List.mem_cons.1 hv with q | hv
  · rw [q]; exact h
  rcases List.mem_cons.1 hv with q | hv
  · rw [q]; exact h
  rcases List.mem_cons.1 hv with q | hv
  · rw [q]; exact h
  cases hv
theorem open_seal {b : ByteArray} (h : 1 ≤ b.size) : openE (sealS b) = 0 ∧ bodyS (sealS b) = b := by
  have hb : bodyS (sealS b) = b := seal_body b
  refine ⟨?_, hb⟩
  rw [openE, if_neg (by rw [seal_size]; omega), hb, if_neg (fun q => q rfl)]
theorem at_app {a b : ByteArray} {k : Nat} (h : k < a.size) : byteAt (a ++ b) k = byteAt a k := by
  rw [← toInts_get, ← toInts_get, toInts_app, List.getElem!_eq_getElem?_getD, List.getElem?_append_left (by rw [toInts_len]; exact h), ← List.getElem!_eq_getElem?_getD]
theorem head_at {k : Int} (h : 0 ≤ k ∧ k < 256) (l : List Val) : byteAt (headS k l) 0 = k := by
  unfold headS
  have h1 : (ofInts [IntKind.u8.wrap k]).size = 1 := rfl
  rw [at_app (by rw [ByteArray.size_append]; omega), at_app (by omega), ← toInts_get, toInts_ofInts (fun b hb => by rw [List.mem_singleton.1 hb]; exact u8_wrap k)]
  show IntKind.u8.wrap k = k
  exact u8_id h
theorem chunkB_at {t k : Int} (h : 0 ≤ k ∧ k < 256) (l : List Val) : byteAt (chunkB t k l) 0 = k := by
  have h1 := head_size k l
  by_cases q : (someV l).length < l.length
  · rw [chunkB_y q, at_app (by rw [ByteArray.size_append]; omega), at_app (by omega), head_at h]
  · rw [chunkB_n q, at_app (by omega), head_at h]
theorem codec_build {t k : Int} {l : List Val} (h : 1 ≤ k ∧ k ≤ 4) (hv : ∀ v, v ∈ l → okV v) (hl : l.length ≤ 4096) : codecS (buildS t k l) = (k, 0) := by
  have hs := (chunkB_size (t := t) (k := k) hv hl).2
  have ho := open_seal hs
  have e : byteAt (sealS (chunkB t k l)) 0 = k := by
    unfold sealS
    rw [at_app (by omega), chunkB_at (by omega)]
  rw [buildS, cod_2 ho.1 (by rw [e]; omega), e]
theorem build_size {t k : Int} {l : List Val} (hv : ∀ v, v ∈ l → okV v) (hl : l.length ≤ 4096) : (buildS t k l).size ≤ 4398046585379 ∧ 5 ≤ (buildS t k l).size := by
  have := chunkB_size (t := t) (k := k) hv hl
  rw [buildS, seal_size]; omega

abbrev c_three_ok' : Ct := .fn [] (none) (.d (.list tVal) three)
set_option maxRecDepth 100000 in
set_option maxHeartbeats 4000000 in
theorem three_ok' : CtOk Tryz.prog 25 c_three_ok' := by
  refine CtOk.fn tb73_ok mixed [] [] rfl rfl ?_
  rintro ⟨⟩ -
  refine ⟨[], ?_⟩
  repeat' (first
    | (
 with_reducible refine Side.mk ?_
 (try dsimp only [cu, joinT, ckTys, gts, loK, hiK, Prod.eta, List.nil_append])
 first
 | (done)
 | (with_reducible rfl)
 | (omega)
 | (exact Eq.refl _)
 | (simp only [List.length_append, List.length_cons, List.length_nil]; omega)
 | (grind))
    | (conv => whnf
       first
        | done
        | exact trivial
        | with_reducible refine NilBr.mk (fun h => ?_) ?_
        | with_reducible first | refine w_andS ?_ ?_ | refine w_andL ?_ ?_ | refine w_kern (by kernel_rfl) ?_ | refine w_true ?_ | refine w_nd ?_ ?_ | refine w_in ?_ ?_ | refine w_and ?_ ?_
        | ((with_reducible first | refine w_brN (fun h => ?_) (fun h => ?_) | refine w_brD (fun h => ?_) (fun h => ?_) | refine w_br (fun h => ?_) (fun h => ?_)) <;> (try dsimp only [cu, Prod.eta, List.nil_append] at h) <;> (try (exfalso; omega; done)))))
  all_goals (
 with_reducible refine Leaf.mk ?_
 (try dsimp only [cu, joinT, ckTys, gts, Prod.eta, List.nil_append] at *)
 first
 | (done)
 | (rfl))
abbrev tb74 : Tbl := (25, c_three_ok') :: tb73
theorem tb74_ok : TblOk Tryz.prog tb74 := TblOk.cons three_ok' tb73_ok

abbrev c_awake_ok : Ct := .fn [] (none) (.d .bool true)
set_option maxRecDepth 100000 in
set_option maxHeartbeats 4000000 in
theorem awake_ok : CtOk Tryz.prog 8 c_awake_ok := by
  refine CtOk.fn tb74_ok mixed [] [] rfl rfl ?_
  rintro ⟨⟩ -
  refine ⟨[], ?_⟩
  repeat' (first
    | (
 with_reducible refine Side.mk ?_
 (try dsimp only [cu, joinT, ckTys, gts, loK, hiK, Prod.eta, List.nil_append])
 first
 | (done)
 | (with_reducible rfl)
 | (omega)
 | (exact Eq.refl _)
 | (simp only [List.length_append, List.length_cons, List.length_nil]; omega)
 | (exact three_ok)
 | (refine ⟨by decide, three_ok⟩)
 | (exact ⟨by decide, three_ok⟩)
 | (
  have := (build_size (t := 1) (k := 4) three_ok (by decide)).1
  omega))
    | (conv => whnf
       first
        | done
        | exact trivial
        | with_reducible refine NilBr.mk (fun h => ?_) ?_
        | with_reducible first | refine w_andS ?_ ?_ | refine w_andL ?_ ?_ | refine w_kern (by kernel_rfl) ?_ | refine w_true ?_ | refine w_nd ?_ ?_ | refine w_in ?_ ?_ | refine w_and ?_ ?_
        | ((with_reducible first | refine w_brN (fun h => ?_) (fun h => ?_) | refine w_brD (fun h => ?_) (fun h => ?_) | refine w_br (fun h => ?_) (fun h => ?_)) <;> (try dsimp only [cu, Prod.eta, List.nil_append] at h) <;> (try (exfalso; omega; done)))))
  all_goals (
 with_reducible refine Leaf.mk ?_
 (try dsimp only [cu, joinT, ckTys, gts, Prod.eta, List.nil_append] at *)
 first
 | (done)
 | (with_reducible rfl)
 | (
  have hcb := codec_build (t := 1) (k := 4) (by decide) three_ok (by decide)
  have h1 := congrArg Prod.fst hcb
  have h2 := congrArg Prod.snd hcb
  dsimp only at h1 h2
  first | (exact (decide_eq_true h2)) | (exact (decide_eq_true h2).symm) | (exact (decide_eq_true h1)) | contradiction | (simp only [h1, h2]; done) | (exfalso; simp_all; done)))
abbrev tb75 : Tbl := (8, c_awake_ok) :: tb74
theorem tb75_ok : TblOk Tryz.prog tb75 := TblOk.cons awake_ok tb74_ok

abbrev c_column_ok : Ct := .fn [.int .i64, .bool] (none) (fun (t : Int) (null : Bool) => .d tCol (colS t null))
set_option maxRecDepth 100000 in
set_option maxHeartbeats 4000000 in
theorem column_ok : CtOk Tryz.prog 4 c_column_ok := by
  refine CtOk.fn tb75_ok mixed [] [] rfl rfl ?_
  rintro ⟨(t : Int), (null : Bool), _⟩ -
  refine ⟨[], ?_⟩
  repeat' (first
    | (
 with_reducible refine Side.mk ?_
 (try dsimp only [cu, joinT, ckTys, gts, loK, hiK, Prod.eta, List.nil_append])
 first
 | (done)
 | (with_reducible rfl)
 | (omega)
 | (exact Eq.refl _)
 | (simp only [List.length_append, List.length_cons, List.length_nil]; omega)
 | (exact u64_ne (by decide))
 | (
  have := pick_lt (v := t) (n := 5) (by decide)
  omega))
    | (conv => whnf
       first
        | done
        | exact trivial
        | with_reducible refine NilBr.mk (fun h => ?_) ?_
        | with_reducible first | refine w_andS ?_ ?_ | refine w_andL ?_ ?_ | refine w_kern (by kernel_rfl) ?_ | refine w_true ?_ | refine w_nd ?_ ?_ | refine w_in ?_ ?_ | refine w_and ?_ ?_
        | ((with_reducible first | refine w_brN (fun h => ?_) (fun h => ?_) | refine w_brD (fun h => ?_) (fun h => ?_) | refine w_br (fun h => ?_) (fun h => ?_)) <;> (try dsimp only [cu, Prod.eta, List.nil_append] at h) <;> (try (exfalso; omega; done)))))
  all_goals (
 with_reducible refine Leaf.mk ?_
 (try dsimp only [cu, joinT, ckTys, gts, Prod.eta, List.nil_append] at *)
 first
 | (done)
 | (rfl))
abbrev tb76 : Tbl := (4, c_column_ok) :: tb75
theorem tb76_ok : TblOk Tryz.prog tb76 := TblOk.cons column_ok tb75_ok


theorem bl_lt : ∀ (f x : Nat), x < 2 ^ f → x < 2 ^ Lib.bitLenAux f x
  | 0, x, h => by simpa [Lib.bitLenAux] using h
  | f + 1, x, h => by
    rw [Lib.bitLenAux]
    split
    · rename_i q; subst q; simp
    · have := bl_lt f (x / 2) (by rw [Nat.pow_succ] at h; omega)
      rw [Nat.add_comm, Nat.pow_succ]; omega
/-- A number lies below the power of two of its width. -/
theorem lenI_lt {v : Int} (h : 0 ≤ v ∧ v < 18446744073709551616) : v < 2 ^ (lenI v).toNat := by
  have h1 := bl_lt 64 v.toNat (by have : (2 : Nat) ^ 64 = 18446744073709551616 := by decide
                                  omega)
  unfold lenI Lib.bitLen
  rw [Int.toNat_natCast, ← two_pow_cast]; omega
theorem lenI_of_lt {v : Int} {w : Nat} (hw : w ≤ 64) (h : 0 ≤ v ∧ v < 2 ^ w) : lenI v ≤ w := by
  have := two_pow_cast w
  have := Lib.bitLen_le v.toNat w hw (by omega)
  unfold lenI; omega
theorem byteAt_ofInts {l : List Int} (h : ∀ b, b ∈ l → 0 ≤ b ∧ b < 256) (k : Nat) : byteAt (ofInts l) k = l[k]! := by
  rw [← toInts_get, toInts_ofInts h]
theorem gL_byte {f : Nat → Int} (hf : bit01 f) (m n : Nat) : ∀ b, b ∈ gL f m 8 n → 0 ≤ b ∧ b < 256 := by
  intro b hb
  obtain ⟨i, _, rfl⟩ := List.mem_map.1 hb
  have := gs_lt hf m 8 i 8
  simpa using this
/-- The bits of a packed string. -/
theorem sbit_pack {f : Nat → Int} (hf : bit01 f) {m n q : Nat} (h : q < 8 * n) : sbit (ofInts (gL f m 8 n)) q = if q < m then f q else 0 := by
  unfold sbit
  rw [byteAt_ofInts (gL_byte hf m n), gL_get (by omega), gs_bit hf (Nat.mod_lt _ (by decide))]
  rw [show q / 8 * 8 + q % 8 = q by omega]
theorem needR_nat {n w : Nat} (hn : n ≤ 4096) (hw : w ≤ 64) : needR (n : Int) (w : Int) = (((n * w + 7) / 8 : Nat) : Int) := by
  obtain ⟨h1, h2⟩ := need_eq (n := (n : Int)) (w := (w : Int)) ⟨⟨by omega, by omega⟩, by omega, by omega⟩
  rw [h1]; push_cast; rfl
/-- Packed numbers are unpacked again. -/
theorem unpack_pack {u : List Int} {w : Nat} (hn : u.length ≤ 4096) (hw : w ≤ 64) (h : ∀ v, v ∈ u → 0 ≤ v ∧ v < 2 ^ w) : unpackR (packR u w).1 u.length w = (u, 0) := by
  have hnd := needR_nat hn hw
  have hwide : ¬ anyWide u w = true := by
    rw [wide_no]
    · decide
    · intro j hj
      exact lenI_of_lt hw (h _ (by rw [getElem!_pos u j hj]; exact List.getElem_mem hj))
  have hp : (packR u w).1 = ofInts (gL (vbit u w) (u.length * w) 8 ((u.length * w + 7) / 8)) := by
    unfold packR
    rw [if_neg (by omega), if_neg (by omega), if_neg hwide, hnd]
    simp only [Int.toNat_natCast]
    rw [show ((u.length : Int) * (w : Int)).toNat = u.length * w by rw [← Int.natCast_mul, Int.toNat_natCast]]
  have hsz : (packR u w).1.size = (u.length * w + 7) / 8 := by rw [hp, ofInts_len, gL_len]
  have hperm : ¬ ¬ permB (u.length : Int) (w : Int) = true := fun q => q ((permB_iff _ _).2 (by omega))
  have hm : ((u.length : Int) * (w : Int)).toNat = u.length * w := by rw [← Int.natCast_mul, Int.toNat_natCast]
  have htail : ¬ tailBad (packR u w).1 ((u.length : Int) * (w : Int)).toNat = true := by
    rw [hm]
    refine tail_no fun q h1 h2 => ?_
    rw [hsz] at h2
    rw [hp, sbit_pack (vbit01 u w) h2, if_neg (by omega)]; decide
  rw [unpackR, if_neg hperm, if_neg (by rw [hsz, hnd]; omega), if_neg (by rw [hsz, hnd]; omega), if_neg htail, hm]
  congr 1
  apply List.ext_getElem
  · rw [gL_len]; simp
  · intro i h1 h2
    have hi : i < u.length := by rw [gL_len] at h1; simpa using h1
    have e1 : (gL (sbit (packR u w).1) (u.length * w) (w : Int).toNat (u.length : Int).toNat)[i] = gs (sbit (packR u w).1) (u.length * w) w i w := by
      simp [gL]
    rw [e1]
    have hu := h u[i] (List.getElem_mem hi)
    have hle : i * w + w ≤ u.length * w := by
      have := Nat.mul_le_mul_right w (show i + 1 ≤ u.length by omega)
      rw [Nat.add_mul, Nat.one_mul] at this; exact this
    rw [gs_self hu.1 w (fun t ht => ⟨by omega, ?_⟩), Int.emod_eq_of_lt hu.1 hu.2]
    rw [hp, sbit_pack (vbit01 u w) (by omega), if_pos (by omega)]
    obtain ⟨q1, q2⟩ := div_mod_of (i := i) (w := w) (t := t) (m := i * w + t) ht rfl
    unfold vbit
    rw [← q1, ← q2, getElem!_pos u i hi]
def flatW (t : List ByteArray) : List Int := t.flatMap fun w => put (w.size : Int) ++ toInts w
theorem encWB_ints : ∀ (W : List ByteArray) (s : ByteArray), (∀ w, w ∈ W → w.size < 18446744073709551616) → toInts (encWB s W) = toInts s ++ flatW W
  | [], s, _ => by simp [encWB, flatW]
  | w :: W, s, h => by
    have hw := h w (by simp)
    show toInts (encWB (s ++ (ofInts (put (w.size : Int)) ++ w)) W) = _
    rw [encWB_ints W _ (fun v hv => h v (by simp [hv])), toInts_app, toInts_app, toInts_ofInts (put_rng ⟨by omega, by omega⟩)]
    simp [flatW]
theorem ints_extract (s : ByteArray) (a b : Nat) : toInts (s.extract a b) = ((toInts s).drop a).take (b - a) := by
  unfold toInts
  simp [List.map_take, List.map_drop, List.take_drop]
theorem sLe_not {a b : ByteArray} (h : strLt b a = true) : ¬ sLe a b = true := by
  unfold sLe
  have h1 := sLt_asym h
  have h2 : ¬ a = b := fun q => sLt_irrefl b (by rw [q] at h; exact h)
  simp [h1, h2]
theorem asc_last {M : List ByteArray} {w : ByteArray} {t : List ByteArray} (h : ascS (M ++ w :: t)) : ¬ (0 < M.length ∧ sLe w M[M.length - 1]! = true) := by
  rintro ⟨h0, h1⟩
  refine sLe_not ?_ h1
  unfold ascS at h
  rw [List.pairwise_append] at h
  refine h.2.2 _ ?_ w (by simp)
  rw [getElem!_pos M (M.length - 1) (by omega)]; exact List.getElem_mem _
theorem word_at {s : ByteArray} {a : Nat} {w : ByteArray} {r : List Int} (hw : w.size < 18446744073709551616) (h : (toInts s).drop a = put (w.size : Int) ++ (toInts w ++ r)) :
    getR s a = ((w.size : Int), (a : Int) + (put (w.size : Int)).length, 0) ∧ ¬ (w.size : Int) > s.size - ((a : Int) + (put (w.size : Int)).length) ∧ wdAt s a = w ∧ (toInts s).drop (a + (put (w.size : Int)).length + w.size) = r := by
  have hg := getR_complete (s := s) (a := a) (u := (w.size : Int)) ⟨by omega, by omega⟩ h
  have hl := congrArg List.length h
  simp only [List.length_drop, List.length_append, toInts_len] at hl
  have hp := put_len (w.size : Int)
  have d1 : (toInts s).drop (a + (put (w.size : Int)).length) = toInts w ++ r := by
    rw [← List.drop_drop, h, List.drop_left]
  refine ⟨hg, by omega, ?_, ?_⟩
  · unfold wdAt
    rw [hg]
    simp only
    apply toInts_inj
    rw [ints_extract, show ((a : Int) + ((put (w.size : Int)).length : Int)).toNat = a + (put (w.size : Int)).length by omega, show ((a : Int) + ((put (w.size : Int)).length : Int) + (w.size : Int)).toNat - (a + (put (w.size : Int)).length) = (toInts w).length by rw [toInts_len]; omega, d1, List.take_left]
  · rw [← List.drop_drop, d1, ← toInts_len w, List.drop_left]
theorem wdGo_complete {s : ByteArray} : ∀ (t : List ByteArray) (a : Nat) (M : List ByteArray) (r : List Int), (toInts s).drop a = flatW t ++ r → ascS (M ++ t) → (∀ w, w ∈ t → w.size < 18446744073709551616) →
    wdGo s t.length a M = (M ++ t, ((a + (flatW t).length : Nat) : Int), 0) ∧ (toInts s).drop (a + (flatW t).length) = r
  | [], a, M, r, h, _, _ => by
    rw [List.length_nil, wdGo]
    simpa [flatW] using h
  | w :: t, a, M, r, h, hM, hsz => by
    have e : flatW (w :: t) = put (w.size : Int) ++ toInts w ++ flatW t := by simp [flatW]
    obtain ⟨g1, g2, g3, g4⟩ := word_at (s := s) (a := a) (w := w) (r := flatW t ++ r) (hsz w (by simp)) (by rw [h, e]; simp)
    obtain ⟨i1, i2⟩ := wdGo_complete t (a + (put (w.size : Int)).length + w.size) (M ++ [w]) r g4 (by simpa using hM) (fun v hv => hsz v (by simp [hv]))
    have el : (flatW (w :: t)).length = (put (w.size : Int)).length + w.size + (flatW t).length := by rw [e]; simp only [List.length_append, toInts_len]
    rw [List.length_cons, wdGo, g1]
    simp only
    rw [if_neg (by decide), if_neg g2, g3, if_neg (asc_last hM)]
    rw [show (a : Int) + ((put (w.size : Int)).length : Int) + (w.size : Int) = ((a + (put (w.size : Int)).length + w.size : Nat) : Int) by push_cast; rfl, i1, el]
    have e5 : a + ((put (w.size : Int)).length + w.size + (flatW t).length) = a + (put (w.size : Int)).length + w.size + (flatW t).length := by omega
    refine ⟨?_, by rw [e5]; exact i2⟩
    rw [e5, List.append_assoc]; rfl
theorem drop_ext (s : ByteArray) (e : Nat) : toInts (s.extract e s.size) = (toInts s).drop e := by
  rw [ints_extract, List.take_of_length_le (by simp [toInts_len])]
theorem ixGo_no : ∀ (l : List Bool) (k : Int), (∀ b, b ∈ l → b = true) → ixGo l false k = -1
  | [], _, _ => rfl
  | b :: l, k, h => by
    rw [ixGo, if_neg (by rw [h b (by simp)]; decide), ixGo_no l _ (fun c hc => h c (by simp [hc]))]
theorem ixGo_all : ∀ (l : List Bool) (k : Int), 0 ≤ k → ¬ ixGo l false k ≥ 0 → ∀ b, b ∈ l → b = true
  | [], _, _, _, b, hb => by simp at hb
  | c :: l, k, hk, h, b, hb => by
    rw [ixGo] at h
    split at h
    · exact absurd hk (by omega)
    · rename_i q
      rcases List.mem_cons.1 hb with r | r
      · subst r; cases b
        · exact absurd rfl q
        · rfl
      · exact ixGo_all l (k + 1) (by omega) h b r
theorem usedL_all {k : Nat} {u : List Int} : (¬ hasB (usedL k u) false = true) ↔ ∀ j : Nat, j < k → (j : Int) ∈ u := by
  unfold hasB
  rw [decide_eq_true_iff]
  constructor
  · intro h j hj
    have := ixGo_all _ 0 (by omega) h (u.any fun c => decide (c = (j : Int))) (by
      unfold usedL; rw [List.mem_map]; exact ⟨j, by simpa using hj, rfl⟩)
    rw [List.any_eq_true] at this
    obtain ⟨c, hc, hq⟩ := this
    rw [decide_eq_true_iff] at hq
    subst hq; exact hc
  · intro h
    rw [ixGo_no]
    · decide
    · intro b hb
      unfold usedL at hb
      obtain ⟨j, hj, rfl⟩ := List.mem_map.1 hb
      rw [List.any_eq_true]
      exact ⟨(j : Int), h j (by simpa using hj), by simp⟩
theorem wdN_nat (k : Nat) : ∃ w : Nat, (k ≤ 9223372036854775807 → w ≤ 64) ∧ wdN (k : Int) = w ∧ (k ≤ 9223372036854775807 → ∀ c : Int, 0 ≤ c → c < k → c < 2 ^ w) := by
  have h0 : 0 ≤ wdN (k : Int) := by unfold wdN lenI; omega
  refine ⟨(wdN (k : Int)).toNat, fun h => ?_, by omega, fun h c h1 h2 => ?_⟩
  · have := wdN_rng (k : Int) (by omega); omega
  · have hm : maxI ((k : Int) - 1) 0 = (k : Int) - 1 := by unfold maxI; split <;> omega
    have := lenI_lt (v := (k : Int) - 1) (by omega)
    unfold wdN
    rw [hm]; omega
theorem codes_lt {l : List ByteArray} : ∀ c, c ∈ codesS l → 0 ≤ c ∧ c < (wordsS l).length := by
  intro c hc
  obtain ⟨s, hs, rfl⟩ := List.mem_map.1 hc
  have := (plS_mem (wordsS_asc l) ((wordsS_mem l s).2 hs)).1
  omega
/-- What is encoded is decoded again. -/
theorem dict_round {x : List ByteArray} (hl : x.length ≤ 4096) (hs : ∀ w, w ∈ x → w.size < 18446744073709551616) : decDict (encDict x) x.length = (x, 0) := by
  have hwl := wordsS_len x
  have hcl := codesS_len x
  obtain ⟨w, w1, w2, w3⟩ := wdN_nat (wordsS x).length
  have hws : ∀ v, v ∈ wordsS x → v.size < 18446744073709551616 := fun v hv => hs v ((wordsS_mem x v).1 hv)
  have hup := unpack_pack (u := codesS x) (w := w) (by omega) (w1 (by omega)) (fun v hv => ⟨(codes_lt v hv).1, w3 (by omega) v (codes_lt v hv).1 (codes_lt v hv).2⟩)
  have hi : toInts (encDict x) = put ((wordsS x).length : Int) ++ (flatW (wordsS x) ++ toInts (packR (codesS x) w).1) := by
    rw [encDict, if_neg (by omega), toInts_app, encWB_ints _ _ hws, toInts_ofInts (put_rng ⟨by omega, by omega⟩), w2, List.append_assoc]
  generalize encDict x = s at hi
  have hg := getR_complete (s := s) (a := 0) (u := ((wordsS x).length : Int)) ⟨by omega, by omega⟩ (by simpa using hi)
  have hd : (toInts s).drop (put ((wordsS x).length : Int)).length = flatW (wordsS x) ++ toInts (packR (codesS x) w).1 := by rw [hi, List.drop_left]
  obtain ⟨g1, g2⟩ := wdGo_complete (s := s) (wordsS x) _ [] _ hd (by simpa using wordsS_asc x) hws
  have hg' : getR s 0 = (((wordsS x).length : Int), ((put ((wordsS x).length : Int)).length : Int), 0) := by simpa using hg
  have hne : ¬ (((wordsS x).length : Int) > (x.length : Int) ∨ (((wordsS x).length : Int) = 0 ∧ (x.length : Int) > 0)) := by
    rintro (q | ⟨q1, q2⟩)
    · omega
    · cases x with
      | nil => simp at q2
      | cons a x =>
        have := (wordsS_mem (a :: x) a).2 (by simp)
        rw [List.length_eq_zero_iff.1 (show (wordsS (a :: x)).length = 0 by omega)] at this
        simp at this
  rw [dec_3 (by omega) (by rw [hg']) (by rw [hg']; exact hne), hg']
  simp only [Int.toNat_natCast]
  rw [g1]
  have hex : s.extract ((((put ((wordsS x).length : Int)).length + (flatW (wordsS x)).length : Nat) : Int)).toNat s.size = (packR (codesS x) w).1 := by
    apply toInts_inj
    rw [Int.toNat_natCast, drop_ext, g2]
  rw [dec_a1 (by rfl)]
  simp only [List.nil_append]
  rw [hex, w2, ← hcl, hup, dec_b1 (by rfl)]
  simp only
  have hmap : ∀ v, v ∈ x → (wordsS x)[plS (wordsS x) v]! = v := fun v hv => (plS_mem (wordsS_asc x) ((wordsS_mem x v).2 hv)).2
  have hall : ∀ j : Nat, j < (wordsS x).length → (j : Int) ∈ codesS x := fun j hj => by
    unfold codesS
    rw [List.mem_map]
    refine ⟨(wordsS x)[j]!, (wordsS_mem x _).1 (by rw [getElem!_pos _ j hj]; exact List.getElem_mem hj), ?_⟩
    exact congrArg (fun n : Nat => (n : Int)) (plS_idx (wordsS_asc x) hj)
  rw [decC_ok (V := usedL (wordsS x).length (codesS x)) rfl (by
    rw [List.any_eq_false]
    intro c hc
    have := codes_lt c hc
    simp; omega) (usedL_all.2 hall)]
  rw [Prod.mk.injEq]
  refine ⟨?_, rfl⟩
  unfold codesS
  rw [List.map_map]
  conv => rhs; rw [← List.map_id x]
  exact List.map_congr_left fun v hv => by simpa using hmap v hv
theorem fmaxI : ∀ (l : List Int) (x : Int), x ≤ l.foldl maxI x ∧ ∀ y, y ∈ l → y ≤ l.foldl maxI x
  | [], x => ⟨Int.le_refl _, by simp⟩
  | z :: l, x => by
    obtain ⟨h1, h2⟩ := fmaxI l (maxI x z)
    have h4 : x ≤ maxI x z ∧ z ≤ maxI x z := by unfold maxI; split <;> omega
    refine ⟨by rw [List.foldl_cons]; omega, fun y hy => ?_⟩
    rw [List.foldl_cons]
    rcases List.mem_cons.1 hy with q | q
    · subst q; omega
    · exact h2 y q
theorem mxL_ge {l : List Int} {y : Int} (h : y ∈ l) : y ≤ mxL l := by
  cases l with
  | nil => simp at h
  | cons x l =>
    obtain ⟨h1, h2⟩ := fmaxI l x
    rcases List.mem_cons.1 h with q | q
    · subst q; exact h1
    · exact h2 y q
theorem mxL_u64' {l : List Int} (h : ∀ v, v ∈ l → 0 ≤ v ∧ v < 18446744073709551616) (hne : l ≠ []) : 0 ≤ mxL l ∧ mxL l < 18446744073709551616 := by
  cases l with
  | nil => exact absurd rfl hne
  | cons x l =>
    show 0 ≤ List.foldl maxI x l ∧ List.foldl maxI x l < 18446744073709551616
    rcases mx_mem (l := l) (x := x) with q | q
    · rw [q]; exact h x (by simp)
    · exact h _ (by simp [q])
theorem pow2_le {a b : Nat} (h : a ≤ b) : (2 : Int) ^ a ≤ 2 ^ b := by
  have := Nat.pow_le_pow_right (show 0 < 2 by decide) h
  rw [← two_pow_cast, ← two_pow_cast]; omega


/- Round trips: plain values and runs. -/
def fitV (t : Int) (v : Val) : Prop := v.1 = false ∧ inI v.2.1 ∧ (t = 3 → v.2.1 = 0 ∧ v.2.2.size ≤ 1048576) ∧ (¬ t = 3 → v.2.2 = ⟨#[]⟩)
theorem at_end {s : ByteArray} {a : Nat} (h : (toInts s).drop a = []) (h1 : a ≤ s.size) : a = s.size := by
  have := congrArg List.length h
  simp only [List.length_drop, List.length_nil, toInts_len] at this
  omega
theorem num_at {s : ByteArray} {a : Nat} {u : Int} {r : List Int} (hu : 0 ≤ u ∧ u < 18446744073709551616) (h : (toInts s).drop a = put u ++ r) :
    getR s a = (u, ((a + (put u).length : Nat) : Int), 0) ∧ (toInts s).drop (a + (put u).length) = r ∧ a + (put u).length ≤ s.size := by
  have hg := getR_complete hu h
  have hl := congrArg List.length h
  simp only [List.length_drop, List.length_append, toInts_len] at hl
  have hp := put_len u
  exact ⟨by rw [hg, Int.natCast_add], by rw [← List.drop_drop, h, List.drop_left], by omega⟩
theorem ints_empty : toInts ByteArray.empty = [] := rfl
theorem ne_zero_no {x : Int} (h : x = 0) : ¬ x ≠ 0 := fun q => q h
theorem pv_round {t : Int} {s : ByteArray} : ∀ (l : List Val) (a : Nat) (M : List Val), (∀ v, v ∈ l → fitV t v) → a ≤ s.size → (toInts s).drop a = toInts (plL t l) → pvGo t s l.length (a : Int) M = (M ++ l, true)
  | [], a, M, _, ha, h => by
    have h0 := at_end (h.trans ints_empty) ha
    rw [List.length_nil, pvGo, List.append_nil, h0, decide_eq_true rfl]
  | v :: l, a, M, hv, ha, h => by
    obtain ⟨f1, f2, f3, f4⟩ := hv v (by simp)
    have hl : ∀ x, x ∈ l → fitV t x := fun x hx => hv x (List.mem_cons_of_mem _ hx)
    rw [plL, toInts_app] at h
    by_cases ht : t = 3
    · obtain ⟨f5, f6⟩ := f3 ht
      rw [plV, if_pos ht, toInts_app, toInts_ofInts (put_rng ⟨by omega, by omega⟩), List.append_assoc] at h
      obtain ⟨g1, g2, g3, g4⟩ := word_at (s := s) (a := a) (w := v.2.2) (r := toInts (plL t l)) (by omega) h
      have e : s.extract (getR s a).2.1.toNat ((getR s a).2.1 + (getR s a).1).toNat = v.2.2 := g3
      have q1 : ¬ (getR s a).2.2 ≠ 0 := ne_zero_no (by rw [g1])
      have q2 : ¬ (getR s a).1 > s.size - (getR s a).2.1 := by rw [g1]; exact g2
      have q3 : (getR s a).2.1 + (getR s a).1 = ((a + (put (v.2.2.size : Int)).length + v.2.2.size : Nat) : Int) := by rw [g1]; show (a : Int) + _ + _ = _; omega
      have hvv : sV v.2.2 = v := by
        obtain ⟨x, y, z⟩ := v
        have e1 : x = false := f1
        have e2 : y = 0 := f5
        subst e1 e2; rfl
      rw [List.length_cons, pvGo, if_neg q1, if_pos ht, if_neg q2, e, hvv, q3, pv_round l _ _ hl (by omega) g4, List.append_assoc]
      rfl
    · rw [plV, if_neg ht, toInts_ofInts (put_rng (zig_rng f2))] at h
      obtain ⟨g1, g2, g3⟩ := num_at (zig_rng f2) h
      have q1 : ¬ (getR s a).2.2 ≠ 0 := ne_zero_no (by rw [g1])
      have q3 : (getR s a).2.1 = ((a + (put (zigS v.2.1)).length : Nat) : Int) := by rw [g1]
      have hvv : nV (zagS (getR s a).1) = v := by
        rw [g1]
        show nV (zagS (zigS v.2.1)) = v
        rw [zag_zig]
        have e3 := f4 ht
        obtain ⟨x, y, z⟩ := v
        have e1 : x = false := f1
        have e2 : z = ⟨#[]⟩ := e3
        subst e1 e2; rfl
      rw [List.length_cons, pvGo, if_neg q1, if_neg ht, hvv, q3, pv_round l _ _ hl g3 g2, List.append_assoc]
      rfl
theorem run_split : ∀ (v : Int) (l : List Int), List.replicate (runLen v l) v ++ l.drop (runLen v l) = l
  | v, [] => rfl
  | v, x :: l => by
    unfold runLen
    split
    · rename_i q
      rw [List.replicate_succ, List.cons_append, List.drop_succ_cons, run_split v l, q]
    · rfl
theorem run_next : ∀ (v : Int) (l : List Int), l.drop (runLen v l) ≠ [] → (l.drop (runLen v l))[0]! ≠ v
  | v, [], h => absurd rfl h
  | v, x :: l, h => by
    unfold runLen at h ⊢
    split at h
    · rename_i q
      rw [if_pos q, List.drop_succ_cons]
      rw [List.drop_succ_cons] at h
      exact run_next v l h
    · rename_i q
      rw [if_neg q]
      exact q
theorem lastI_rep (M : List Int) (c : Nat) (v : Int) : lastI (M ++ List.replicate (c + 1) v) = v := by
  rw [List.replicate_succ', ← List.append_assoc, lastI_one]
theorem dGo_round {s : ByteArray} {n : Int} : ∀ (m : Nat) (l : List Int) (a : Nat) (M : List Int), l.length ≤ m → (∀ x, x ∈ l → inI x) → a ≤ s.size → (toInts s).drop a = encR (runs l) → (M.length : Int) + l.length = n → n ≤ 4096 →
    (M ≠ [] → l ≠ [] → lastI M ≠ l[0]!) → dGo s n a M = (M ++ l, 0)
  | m, [], a, M, _, _, ha, h, hn, _, _ => by
    rw [runs, encR] at h
    have h0 := at_end h ha
    rw [dGo_6 (by simp at hn; omega), if_neg (by omega), List.append_nil]
  | 0, v :: r, a, M, hm, _, _, _, _, _, _ => by simp at hm
  | m + 1, v :: r, a, M, hm, hi, ha, h, hn, h4, hl => by
    have hc := runLen_le v r
    rw [List.length_cons] at hm hn
    rw [runs, encR] at h
    obtain ⟨g1, g2, g3⟩ := num_at (u := (runLen v r : Int) + 1) ⟨by omega, by omega⟩ h
    have hv := hi v (by simp)
    obtain ⟨k1, k2, k3⟩ := num_at (zig_rng hv) g2
    have e1 : (getR s a).2.1 = ((a + (put ((runLen v r : Int) + 1)).length : Nat) : Int) := by rw [g1]
    have e2 : (getR s (getR s a).2.1) = (zigS v, ((a + (put ((runLen v r : Int) + 1)).length + (put (zigS v)).length : Nat) : Int), 0) := by rw [e1, k1]
    have e3 : zagS (getR s (getR s a).2.1).1 = v := by rw [e2]; exact zag_zig v
    have e4 : (getR s a).1 = (runLen v r : Int) + 1 := by rw [g1]
    have e5 : (getR s a).1.toNat = runLen v r + 1 := by rw [e4]; omega
    have e6 : (getR s (getR s a).2.1).2.1 = ((a + (put ((runLen v r : Int) + 1)).length + (put (zigS v)).length : Nat) : Int) := by rw [e2]
    have q4 : ¬ (0 < M.length ∧ M[M.length - 1]! = zagS (getR s (getR s a).2.1).1) := by
      rw [e3]
      rintro ⟨p1, p2⟩
      exact hl (fun p => by rw [p] at p1; simp at p1) (by simp) p2
    rw [dGo_5 (by omega) (by rw [g1]) (by rw [e4]; omega) (by rw [e2]) q4, e3, e5, e6]
    rw [dGo_round m (r.drop (runLen v r)) _ _ (by rw [List.length_drop]; omega) (fun x hx => hi x (List.mem_cons_of_mem _ (List.mem_of_mem_drop hx))) k3 k2 (by simp only [List.length_append, List.length_replicate, List.length_drop]; omega) h4 (fun _ p => by rw [lastI_rep]; exact fun q => run_next v r p q.symm)]
    rw [List.append_assoc, List.replicate_succ, List.cons_append, run_split]
theorem encR_rng : ∀ (l : List (Int × Int)), (∀ p, p ∈ l → (0 ≤ p.1 ∧ p.1 < 18446744073709551616) ∧ inI p.2) → ∀ b, b ∈ encR l → 0 ≤ b ∧ b < 256
  | [], _, b, hb => by cases hb
  | (n, v) :: l, h, b, hb => by
    have h1 := h (n, v) (by simp)
    rw [encR] at hb
    rcases List.mem_append.1 hb with q | q
    · exact put_rng h1.1 b q
    · rcases List.mem_append.1 q with q | q
      · exact put_rng (zig_rng h1.2) b q
      · exact encR_rng l (fun p hp => h p (List.mem_cons_of_mem _ hp)) b q
theorem runs_mem : ∀ (m : Nat) (l : List Int), l.length ≤ m → m ≤ 4096 → (∀ x, x ∈ l → inI x) → ∀ p, p ∈ runs l → (0 ≤ p.1 ∧ p.1 < 18446744073709551616) ∧ inI p.2
  | m, [], _, _, _, p, hp => by rw [runs] at hp; cases hp
  | 0, v :: r, hm, _, _, _, _ => by simp at hm
  | m + 1, v :: r, hm, h4, hi, p, hp => by
    have hc := runLen_le v r
    rw [List.length_cons] at hm
    rw [runs] at hp
    rcases List.mem_cons.1 hp with q | q
    · rw [q]; exact ⟨by show 0 ≤ (runLen v r : Int) + 1 ∧ (runLen v r : Int) + 1 < 18446744073709551616; omega, hi v (by simp)⟩
    · exact runs_mem m (r.drop (runLen v r)) (by rw [List.length_drop]; omega) (by omega) (fun x hx => hi x (List.mem_cons_of_mem _ (List.mem_of_mem_drop hx))) p q
theorem runs_round {l : List Int} (hl : l.length ≤ 4096) (hi : ∀ x, x ∈ l → inI x) : decRuns (encRuns l) l.length = (l, 0) := by
  have e : toInts (encRuns l) = encR (runs l) := toInts_ofInts (encR_rng _ (runs_mem _ l (Nat.le_refl _) hl hi))
  rw [decRuns, if_neg (by omega)]
  exact dGo_round l.length l 0 [] (Nat.le_refl _) hi (Nat.zero_le _) e (by simp) (by omega) (fun p => absurd rfl p)


/- Round trips: differences. -/
theorem wr_back {m d : Int} (h : inI d) : IntKind.i64.wrap (m + IntKind.u64.wrap (IntKind.i64.wrap (d - m))) = d := by
  unfold inI at h; simp [IntKind.wrap, IntKind.bits, IntKind.signed]; omega
theorem us_val {m d : Int} (hd : inI d) (hm : inI m) (h : m ≤ d) : IntKind.u64.wrap (IntKind.i64.wrap (d - m)) = d - m := by
  unfold inI at hd hm; simp [IntKind.wrap, IntKind.bits, IntKind.signed]; omega
theorem us_all {D : List Int} (hi : ∀ d, d ∈ D → inI d) (hne : D ≠ []) : (∀ v, v ∈ usL (mnL D) D → 0 ≤ v ∧ v < 18446744073709551616) ∧ (0 : Int) ∈ usL (mnL D) D ∧ (usL (mnL D) D).map (fun v => IntKind.i64.wrap (mnL D + v)) = D := by
  have hm := mnL_mem hne
  refine ⟨fun v hv => ?_, ?_, ?_⟩
  · obtain ⟨d, _, rfl⟩ := List.mem_map.1 hv
    exact u64_wrap _
  · refine List.mem_map.2 ⟨mnL D, hm, ?_⟩
    rw [us_val (hi _ hm) (hi _ hm) (Int.le_refl _)]; omega
  · unfold usL
    rw [List.map_map]
    conv => rhs; rw [← List.map_id D]
    exact List.map_congr_left fun d hd => wr_back (hi d hd)
theorem pack_size2 {u : List Int} {w : Int} (hn : u.length ≤ 4096) (hw : 0 ≤ w ∧ w ≤ 64) (h : unpackR (packR u w).1 u.length w = (u, 0)) : (((packR u w).1.size : Nat) : Int) = needR u.length w := by
  unfold unpackR at h
  split at h
  · have := congrArg Prod.snd h; simp at this
  · split at h
    · have := congrArg Prod.snd h; simp at this
    · split at h
      · have := congrArg Prod.snd h; simp at this
      · omega
theorem blk_round {s : ByteArray} {a : Nat} {D r : List Int} (h : (toInts s).drop a = toInts (blkE D) ++ r) (hD : 1 ≤ D.length ∧ D.length ≤ 32) (hi : ∀ d, d ∈ D → inI d) :
    ∃ b : Nat, blkD s a D.length = (D, (b : Int), 0) ∧ (toInts s).drop b = r ∧ b ≤ s.size := by
  have hne : D ≠ [] := fun e => by rw [e] at hD; simp at hD
  obtain ⟨u1, u2, u3⟩ := us_all hi hne
  have hw := mwL_us (mnL D) D
  have hmi := hi _ (mnL_mem hne)
  have hul : (usL (mnL D) D).length = D.length := by simp [usL]
  have hune : usL (mnL D) D ≠ [] := fun e => by rw [e] at hul; simp at hul; omega
  obtain ⟨w, hww⟩ : ∃ w : Nat, mwL (usL (mnL D) D) = (w : Int) := ⟨(mwL (usL (mnL D) D)).toNat, by omega⟩
  have hmx := mw_mx hune u1
  have hup : unpackR (packR (usL (mnL D) D) w).1 (usL (mnL D) D).length w = (usL (mnL D) D, 0) := by
    refine unpack_pack (by omega) (by omega) (fun v hv => ⟨(u1 v hv).1, ?_⟩)
    have h1 := lenI_lt (u1 v hv)
    have hle : v ≤ mxL (usL (mnL D) D) := mxL_ge hv
    have h2 := lenI_mono hle (mxL_u64' u1 hune).2
    rw [← hmx, hww] at h2
    exact Int.lt_of_lt_of_le h1 (pow2_le (by omega))
  have hsz := pack_size2 (by omega) (by omega) hup
  rw [blkE, hww, toInts_app, toInts_app, toInts_ofInts (put_rng (zig_rng hmi)), toInts_ofInts (fun b hb => by rw [List.mem_singleton.1 hb]; exact u8_wrap _), u8_id (by omega), List.append_assoc, List.append_assoc] at h
  obtain ⟨g1, g2, g3⟩ := num_at (zig_rng hmi) h
  have hb := congrArg List.length g2
  simp only [List.length_drop, List.length_append, List.length_cons, List.length_nil, toInts_len] at hb
  have d1 := drop_byte (s := s) (i := a + (put (zigS (mnL D))).length) (by omega)
  rw [g2] at d1
  have c1 : byteAt s (a + (put (zigS (mnL D))).length) = (w : Int) := ((List.cons.inj d1).1).symm
  have c2 : (toInts s).drop (a + (put (zigS (mnL D))).length + 1) = toInts (packR (usL (mnL D) D) w).1 ++ r := ((List.cons.inj d1).2).symm
  have eW : dW s a = w := by
    show byteAt s (getR s a).2.1.toNat = w
    rw [g1]; exact c1
  rw [hul] at hup hsz
  have eE : dE s a D.length = ((a + (put (zigS (mnL D))).length + 1 + (packR (usL (mnL D) D) w).1.size : Nat) : Int) := by
    show (getR s a).2.1 + 1 + needR (D.length : Int) (dW s a) = _
    rw [g1, eW, ← hsz]; show ((_ : Nat) : Int) + 1 + _ = _; omega
  have eX : s.extract ((getR s a).2.1 + 1).toNat (dE s a D.length).toNat = (packR (usL (mnL D) D) w).1 := by
    apply toInts_inj
    rw [ints_extract, eE, g1]
    show ((toInts s).drop (((a + (put (zigS (mnL D))).length : Nat) : Int) + 1).toNat).take _ = _
    rw [show (((a + (put (zigS (mnL D))).length : Nat) : Int) + 1).toNat = a + (put (zigS (mnL D))).length + 1 by omega, c2, show (((a + (put (zigS (mnL D))).length + 1 + (packR (usL (mnL D) D) w).1.size : Nat) : Int)).toNat - (a + (put (zigS (mnL D))).length + 1) = (toInts (packR (usL (mnL D) D) w).1).length by rw [toInts_len]; omega, List.take_left]
  have eU : dU s a D.length = (usL (mnL D) D, 0) := by
    show unpackR (s.extract ((getR s a).2.1 + 1).toNat (dE s a D.length).toNat) (D.length : Int) (dW s a) = _
    rw [eX, eW, hup]
  have eL : dL s a = mnL D := by
    show zagS (getR s a).1 = _
    rw [g1]; exact zag_zig _
  have eDs : dDs s a D.length = D := by
    show (dU s a D.length).1.map (fun v => IntKind.i64.wrap (dL s a + v)) = D
    rw [eU, eL]; exact u3
  have hok : dOk s a D.length = true := by
    rw [dOk_iff, eDs, eU, eL, eW]
    refine ⟨rfl, (mn_zero hune (fun v hv => (u1 v hv).1)).2 ?_, ?_, rfl⟩
    · rw [List.any_eq_true]; exact ⟨0, u2, by decide⟩
    · rw [← hmx, hww]
  refine ⟨a + (put (zigS (mnL D))).length + 1 + (packR (usL (mnL D) D) w).1.size, ?_, ?_, by omega⟩
  · rw [blk_ok (by rw [g1]) (by rw [g1]; show ¬ ((_ : Nat) : Int) = _; omega) (by rw [eW]; omega) (by rw [eE]; omega) hok, eDs, eE]
  · rw [← List.drop_drop, c2, ← toInts_len (packR (usL (mnL D) D) w).1, List.drop_left]
theorem sum_app : ∀ (A B M : List Int), M ++ sumW (lastI M) (A ++ B) = (M ++ sumW (lastI M) A) ++ sumW (lastI (M ++ sumW (lastI M) A)) B
  | [], B, M => by simp [sumW]
  | d :: A, B, M => by
    have h := sum_app A B (M ++ [IntKind.i64.wrap (lastI M + d)])
    rw [lastI_one] at h
    simp only [List.cons_append, sumW]
    simpa using h
theorem dd_round {s : ByteArray} {n : Int} : ∀ (m : Nat) (D : List Int) (a : Nat) (M : List Int), D.length ≤ m → (∀ d, d ∈ D → inI d) → a ≤ s.size → (toInts s).drop a = toInts (encBs D) → (M.length : Int) + D.length = n → dd s n a M = (M ++ sumW (lastI M) D, 0)
  | m, [], a, M, _, _, ha, h, hn => by
    rw [encBs, dif_pos (by rfl)] at h
    have h0 := at_end (h.trans ints_empty) ha
    rw [dd_end (by simp at hn; omega), if_neg (by omega), sumW, List.append_nil]
  | 0, d :: D, _, _, hm, _, _, _, _ => by simp at hm
  | m + 1, d :: D, a, M, hm, hi, ha, h, hn => by
    have hlen : ((d :: D).take 32).length = min 32 (d :: D).length := List.length_take ..
    have hl1 : 1 ≤ (d :: D).length := by simp
    rw [encBs, dif_neg (by simp), toInts_app] at h
    obtain ⟨b, g1, g2, g3⟩ := blk_round h ⟨by omega, by omega⟩ (fun x hx => hi x (List.mem_of_mem_take hx))
    have ek : minI 32 (n - (M.length : Int)) = (((d :: D).take 32).length : Int) := by unfold minI; split <;> omega
    rw [dd_next (by omega) (by rw [ek, g1]), ek, g1]
    show dd s n (b : Int) (M ++ sumW (lastI M) ((d :: D).take 32)) = _
    rw [dd_round m ((d :: D).drop 32) b _ (by rw [List.length_drop]; omega) (fun x hx => hi x (List.mem_of_mem_drop hx)) g3 g2 (by simp only [List.length_append, sumW_len, List.length_drop]; omega), ← sum_app, List.take_append_drop]
theorem dfs_cons (x y : Int) (r : List Int) : dfs (x :: y :: r) = IntKind.i64.wrap (y - x) :: dfs (y :: r) := by
  unfold dfs
  simp only [List.length_cons, Nat.add_sub_cancel]
  rw [List.range_succ_eq_map, List.map_cons, List.map_map]
  rfl
theorem wr_diff {x y : Int} (h : inI y) : IntKind.i64.wrap (x + IntKind.i64.wrap (y - x)) = y := by
  unfold inI at h; simp [IntKind.wrap, IntKind.bits, IntKind.signed]; omega
theorem sum_dfs : ∀ (r : List Int) (x : Int), (∀ y, y ∈ r → inI y) → sumW x (dfs (x :: r)) = r
  | [], x, _ => rfl
  | y :: r, x, h => by
    rw [dfs_cons, sumW, wr_diff (h y (by simp)), sum_dfs r y (fun z hz => h z (List.mem_cons_of_mem _ hz))]
theorem delta_round {l : List Int} (hl : l.length ≤ 4096) (hi : ∀ x, x ∈ l → inI x) : decDelta (encDelta l) l.length = (l, 0) := by
  cases l with
  | nil =>
    have e0 : encDelta [] = ⟨#[]⟩ := by rw [encDelta, if_pos (.inl rfl)]
    rw [decDelta, if_neg (by decide), if_pos (show ((([] : List Int).length : Nat) : Int) = 0 from rfl), e0, if_pos rfl]
  | cons x r =>
    have hlen : 1 ≤ (x :: r).length := by simp
    have hx := hi x (by simp)
    have e0 : toInts (encDelta (x :: r)) = put (zigS x) ++ toInts (encBs (dfs (x :: r))) := by
      rw [encDelta, if_neg (by simp; simpa using hl), toInts_app, toInts_ofInts (put_rng (zig_rng (show inI (x :: r)[0]! from hx)))]; rfl
    obtain ⟨g1, g2, g3⟩ := num_at (a := 0) (zig_rng hx) e0
    have g0 : getR (encDelta (x :: r)) 0 = (zigS x, ((0 + (put (zigS x)).length : Nat) : Int), 0) := g1
    rw [decDelta, if_neg (by omega), if_neg (by omega), if_neg (ne_zero_no (by rw [g0])), g0]
    show dd (encDelta (x :: r)) ((x :: r).length : Int) ((0 + (put (zigS x)).length : Nat) : Int) [zagS (zigS x)] = _
    rw [zag_zig, dd_round (dfs (x :: r)).length (dfs (x :: r)) _ _ (Nat.le_refl _) (fun d hd => by
      unfold dfs at hd
      obtain ⟨j, _, rfl⟩ := List.mem_map.1 hd
      exact wrap_in _) g3 g2 (by rw [dfs_len]; simp only [List.length_cons, List.length_nil]; omega)]
    show ([x] ++ sumW x (dfs (x :: r)), (0 : Int)) = _
    rw [sum_dfs r x (fun y hy => hi y (List.mem_cons_of_mem _ hy))]; rfl


/- Round trips: chunks. -/
theorem packB_len {N : List Bool} (h : N.length ≤ 4096) : ((packB N).size : Int) = ((N.length : Int) + 7) / 8 := by
  unfold packB
  rw [ofInts_len, gL_len, tdiv8 (by omega)]; omega
theorem packB_sbit {N : List Bool} {q : Nat} (hl : N.length ≤ 4096) (h : q < 8 * (packB N).size) : sbit (packB N) q = if q < N.length then fB N q else 0 := by
  have hs : (packB N).size = (((N.length : Int) + 7).tdiv 8).toNat := by unfold packB; rw [ofInts_len, gL_len]
  rw [hs] at h
  exact sbit_pack (fB01 N) h
theorem packB_un {N : List Bool} (h : N.length ≤ 4096) : unpB (packB N) N.length = (N, 0) := by
  have hz := packB_len h
  have ht := tdiv8 (n := (N.length : Int) + 7) (by omega)
  have h4 : ¬ tailBad (packB N) ((N.length : Int)).toNat = true := tail_no (fun q g1 g2 => by
    rw [packB_sbit h g2, if_neg (by omega)]; decide)
  rw [unpB, if_neg (by omega), if_neg (by omega), if_neg (by omega), if_neg h4]
  have e : bitsB (packB N) ((N.length : Int)).toNat = N := by
    refine List.ext_getElem (by rw [bitsB_len]; omega) fun i h1 h2 => ?_
    simp only [bitsB, List.getElem_map, List.getElem_range]
    unfold bitB
    rw [packB_sbit h (by omega), if_pos h2]
    unfold fB
    rw [getElem!_pos N i h2]
    cases N[i] <;> simp
  rw [e]
theorem check_null {c : Col} {v : Val} (h : vCheck c v = 0) (hn : v.1 = true) : v = NV := by
  obtain ⟨x, y, z⟩ := v
  have e1 : x = true := hn
  subst e1
  unfold vCheck at h
  split at h
  · cases h
  · split at h
    · cases h
    · rename_i h2
      split at h
      · cases h
      · rename_i h3
        have e2 : z = EMP := Decidable.not_not.1 fun q => h2 ⟨.inl rfl, q⟩
        have e3 : y = 0 := Decidable.not_not.1 fun q => h3 ⟨.inl rfl, q⟩
        subst e2 e3; rfl
theorem check_fit {c : Col} {v : Val} (h : vCheck c v = 0) (hn : v.1 = false) (ho : okV v) : fitV c.2.1 v := by
  refine ⟨hn, ho.2, fun ht => ⟨?_, ho.1⟩, fun ht => ?_⟩
  · unfold vCheck at h
    split at h
    · cases h
    · split at h
      · cases h
      · split at h
        · cases h
        · rename_i h3
          exact Decidable.not_not.1 fun q => h3 ⟨.inr ht, q⟩
  · unfold vCheck at h
    split at h
    · cases h
    · split at h
      · cases h
      · rename_i h2
        exact Decidable.not_not.1 fun q => h2 ⟨.inr ht, q⟩
theorem asm_round {c : Col} : ∀ (l M : List Val), (∀ v, v ∈ l → vCheck c v = 0) → asm c (nullsV l) (someV l) M = (M ++ l, true)
  | [], M, _ => by
    show (M, true) = _
    rw [List.append_nil]
  | v :: l, M, h => by
    have hv := h v (by simp)
    have hl : ∀ x, x ∈ l → vCheck c x = 0 := fun x hx => h x (List.mem_cons_of_mem _ hx)
    have e0 : nullsV (v :: l) = v.1 :: nullsV l := rfl
    by_cases hn : v.1 = true
    · have e1 : someV (v :: l) = someV l := List.filter_cons_of_neg (by simp [hn])
      have e2 := check_null hv hn
      have e3 : pkV v.1 (someV l) = v := by rw [hn, e2]; rfl
      have e4 : rsV v.1 (someV l) = someV l := by rw [hn]; rfl
      rw [e0, e1, asm, e3, e4, if_neg (ne_zero_no hv), asm_round l _ hl, List.append_assoc]; rfl
    · have hn : v.1 = false := by simpa using hn
      have e1 : someV (v :: l) = v :: someV l := List.filter_cons_of_pos (by simp [hn])
      have e3 : pkV v.1 (v :: someV l) = v := by rw [hn]; rfl
      have e4 : rsV v.1 (v :: someV l) = someV l := by rw [hn]; rfl
      rw [e0, e1, asm, e3, e4, if_neg (ne_zero_no hv), asm_round l _ hl, List.append_assoc]; rfl
theorem map_back {S : List Val} {t : Int} (h : ∀ v, v ∈ S → fitV t v) : (t = 3 → (strsV S).map sV = S) ∧ (¬ t = 3 → (numsV S).map nV = S) := by
  refine ⟨fun ht => ?_, fun ht => ?_⟩
  · unfold strsV
    rw [List.map_map]
    conv => rhs; rw [← List.map_id S]
    refine List.map_congr_left fun v hv => ?_
    obtain ⟨f1, f2, f3, f4⟩ := h v hv
    have f5 := (f3 ht).1
    obtain ⟨x, y, z⟩ := v
    have e1 : x = false := f1
    have e2 : y = 0 := f5
    subst e1 e2; rfl
  · unfold numsV
    rw [List.map_map]
    conv => rhs; rw [← List.map_id S]
    refine List.map_congr_left fun v hv => ?_
    obtain ⟨f1, f2, f3, f4⟩ := h v hv
    have f5 := f4 ht
    obtain ⟨x, y, z⟩ := v
    have e1 : x = false := f1
    have e2 : z = ⟨#[]⟩ := f5
    subst e1 e2; rfl
theorem rst_round {t k : Int} {S : List Val} (hk : usesB t k = true) (hl : S.length ≤ 4096) (h : ∀ v, v ∈ S → fitV t v) : rstS t k (payS t k S) S.length = (S, true) := by
  have hb := map_back h
  have hnl : (numsV S).length = S.length := by simp [numsV]
  have hsl : (strsV S).length = S.length := by simp [strsV]
  have hni : ∀ x, x ∈ numsV S → inI x := fun x hx => by
    obtain ⟨v, hv, rfl⟩ := List.mem_map.1 hx
    exact (h v hv).2.1
  unfold usesB at hk
  by_cases k1 : k = 1
  · rw [rst_1 k1, payS, if_neg (by omega), if_neg (by omega), if_neg (by omega)]
    have := pv_round (s := plL t S) S 0 [] h (Nat.zero_le _) rfl
    simpa using this
  · by_cases k3 : k = 3
    · have ht : t = 3 := by
        refine Decidable.not_not.1 fun q => ?_
        rw [if_neg q] at hk
        simp [k3] at hk
      have hd := dict_round (x := strsV S) (by omega) (fun w hw => by
        obtain ⟨v, hv, rfl⟩ := List.mem_map.1 hw
        have := ((h v hv).2.2.1 ht).2
        omega)
      rw [hsl] at hd
      rw [rst_3 k3, payS, if_neg (by omega), if_pos k3, hd]
      show ((strsV S).map sV, decide ((0 : Int) = 0)) = _
      rw [hb.1 ht]; rfl
    · have ht : ¬ t = 3 := fun q => by
        rw [if_pos q] at hk
        simp [k1, k3] at hk
      by_cases k4 : k = 4
      · have hd := delta_round (l := numsV S) (by omega) hni
        rw [hnl] at hd
        rw [rst_4 k4, payS, if_neg (by omega), if_neg (by omega), if_pos k4, hd]
        show ((numsV S).map nV, decide ((0 : Int) = 0)) = _
        rw [hb.2 ht]; rfl
      · have k2 : k = 2 := by
          rw [if_neg ht] at hk
          simpa [k1, k4] using hk
        have hd := runs_round (l := numsV S) (by omega) hni
        rw [hnl] at hd
        rw [rst_2 k1 k3 k4, payS, if_pos k2, hd]
        show ((numsV S).map nV, decide ((0 : Int) = 0)) = _
        rw [hb.2 ht]; rfl
theorem cntF_nulls : ∀ l : List Val, cntF (nullsV l) = (someV l).length
  | [] => rfl
  | v :: l => by
    show (if v.1 = true then 0 else 1) + cntF (nullsV l) = _
    rw [cntF_nulls l]
    unfold someV
    by_cases hn : v.1 = true
    · rw [if_pos hn, List.filter_cons_of_neg (by simp [hn])]; omega
    · rw [if_neg hn, List.filter_cons_of_pos (by simp [hn]), List.length_cons]; omega
theorem bod_round {c : Col} {k : Int} {l : List Val} (hk : usesB c.2.1 k = true) (hl : l.length ≤ 4096) (hv : ∀ v, v ∈ l → vCheck c v = 0 ∧ okV v) : bodS c (chunkB c.2.1 k l) = (l, true) := by
  have hkr := uses_cod hk
  have hat := chunkB_at (t := c.2.1) (k := k) (by omega) l
  have hat : byteAt (chunkB c.2.1 k l) (0 : Int).toNat = k := hat
  have hsl := some_len l
  have hfit : ∀ v, v ∈ someV l → fitV c.2.1 v := fun v hv2 => by
    have h1 := List.mem_filter.1 hv2
    exact check_fit (hv v h1.1).1 (by simpa using h1.2) (hv v h1.1).2
  have hhead : toInts (headS k l) = [k] ++ (put l.length ++ put ((l.length : Int) - (someV l).length)) := by
    unfold headS
    rw [toInts_app, toInts_app, toInts_ofInts (fun b hb => by rw [List.mem_singleton.1 hb]; exact u8_wrap k), toInts_ofInts (put_rng ⟨by omega, by omega⟩), toInts_ofInts (put_rng ⟨by omega, by omega⟩), u8_id (by omega), List.append_assoc]
  have hus : usesB c.2.1 (byteAt (chunkB c.2.1 k l) (0 : Int).toNat) = true := by rw [hat]; exact hk
  have hrr := rst_round hk (Nat.le_trans hsl hl) hfit
  have hasm := asm_round (c := c) l [] (fun v hx => (hv v hx).1)
  by_cases hm : (someV l).length < l.length
  · have hB : toInts (chunkB c.2.1 k l) = k :: (put l.length ++ (put ((l.length : Int) - (someV l).length) ++ (toInts (packB (nullsV l)) ++ toInts (payS c.2.1 k (someV l))))) := by
      rw [chunkB_y hm, toInts_app, toInts_app, hhead]; simp
    have d1 : (toInts (chunkB c.2.1 k l)).drop 1 = put l.length ++ (put ((l.length : Int) - (someV l).length) ++ (toInts (packB (nullsV l)) ++ toInts (payS c.2.1 k (someV l)))) := by rw [hB]; rfl
    obtain ⟨g1, g2, g3⟩ := num_at (u := (l.length : Int)) ⟨by omega, by omega⟩ d1
    obtain ⟨k1, k2, k3⟩ := num_at (u := (l.length : Int) - (someV l).length) ⟨by omega, by omega⟩ g2
    have g1 : getR (chunkB c.2.1 k l) 1 = ((l.length : Int), ((1 + (put (l.length : Int)).length : Nat) : Int), 0) := g1
    have e1 : (getR (chunkB c.2.1 k l) 1).2.1 = ((1 + (put (l.length : Int)).length : Nat) : Int) := by rw [g1]
    have e2 : getR (chunkB c.2.1 k l) (getR (chunkB c.2.1 k l) 1).2.1 = ((l.length : Int) - (someV l).length, ((1 + (put (l.length : Int)).length + (put ((l.length : Int) - (someV l).length)).length : Nat) : Int), 0) := by rw [e1, k1]
    generalize hA : 1 + (put (l.length : Int)).length + (put ((l.length : Int) - (someV l).length)).length = A at e2 k2 k3
    have hnl : (nullsV l).length = l.length := by simp [nullsV]
    have hz := packB_len (N := nullsV l) (by omega)
    have hun := packB_un (N := nullsV l) (by omega)
    have hkl := congrArg List.length k2
    simp only [List.length_drop, List.length_append, toInts_len] at hkl
    have ht := tdiv8 (n := (l.length : Int) + 7) (by omega)
    have hx : (chunkB c.2.1 k l).extract ((A : Int)).toNat ((A : Int) + ((l.length : Int) + 7).tdiv 8).toNat = packB (nullsV l) := by
      apply toInts_inj
      rw [ints_extract, show ((A : Int)).toNat = A by omega, k2, show ((A : Int) + ((l.length : Int) + 7).tdiv 8).toNat - A = (toInts (packB (nullsV l))).length by rw [toInts_len]; omega, List.take_left]
    have hcn : cntB (packB (nullsV l)) = (l.length : Int) - (someV l).length := by
      have h1 := (unpB_ok (s := packB (nullsV l)) (n := ((nullsV l).length : Int)) (by rw [hun])).2.2.2
      rw [hun] at h1
      have h2 := cntF_nulls l
      have h1 : ((cntF (nullsV l) : Nat) : Int) + cntB (packB (nullsV l)) = ((nullsV l).length : Int) := h1
      omega
    rw [hnl] at hun
    have eN : nulS (chunkB c.2.1 k l) (A : Int) (l.length : Int) ((l.length : Int) - (someV l).length) = (nullsV l, true, (A : Int) + ((l.length : Int) + 7).tdiv 8) := by
      rw [nul_2 (by omega) (by omega) (by rw [hx, hun]) (by rw [hx, hcn]), hx, hun]
    have hp := bod_pre (c := c) hus (by rw [g1]) (by rw [g1]; show (l.length : Int) ≤ 4096; omega) (by rw [e2]) (by rw [e2, g1]; show (l.length : Int) - (someV l).length ≤ (l.length : Int); omega)
    rw [hp, e2, g1]
    show bodA c _ (l.length : Int) ((l.length : Int) - (someV l).length) (nulS (chunkB c.2.1 k l) (A : Int) (l.length : Int) ((l.length : Int) - (someV l).length)) = _
    have hpay : (chunkB c.2.1 k l).extract ((A : Int) + ((l.length : Int) + 7).tdiv 8).toNat (chunkB c.2.1 k l).size = payS c.2.1 k (someV l) := by
      apply toInts_inj
      rw [drop_ext, show ((A : Int) + ((l.length : Int) + 7).tdiv 8).toNat = A + (toInts (packB (nullsV l))).length by rw [toInts_len]; omega, ← List.drop_drop, k2, List.drop_left]
    have hr : rstS c.2.1 (byteAt (chunkB c.2.1 k l) (0 : Int).toNat) ((chunkB c.2.1 k l).extract ((A : Int) + ((l.length : Int) + 7).tdiv 8).toNat (chunkB c.2.1 k l).size) ((l.length : Int) - ((l.length : Int) - (someV l).length)) = (someV l, true) := by
      rw [hat, hpay, show (l.length : Int) - ((l.length : Int) - (someV l).length) = ((someV l).length : Int) by omega, hrr]
    rw [eN, bodA_ok2 (by rw [hr]), hr, hasm]; rfl
  · have hB : toInts (chunkB c.2.1 k l) = k :: (put l.length ++ (put ((l.length : Int) - (someV l).length) ++ toInts (payS c.2.1 k (someV l)))) := by
      rw [chunkB_n hm, toInts_app, hhead]; simp
    have d1 : (toInts (chunkB c.2.1 k l)).drop 1 = put l.length ++ (put ((l.length : Int) - (someV l).length) ++ toInts (payS c.2.1 k (someV l))) := by rw [hB]; rfl
    obtain ⟨g1, g2, g3⟩ := num_at (u := (l.length : Int)) ⟨by omega, by omega⟩ d1
    obtain ⟨k1, k2, k3⟩ := num_at (u := (l.length : Int) - (someV l).length) ⟨by omega, by omega⟩ g2
    have g1 : getR (chunkB c.2.1 k l) 1 = ((l.length : Int), ((1 + (put (l.length : Int)).length : Nat) : Int), 0) := g1
    have e1 : (getR (chunkB c.2.1 k l) 1).2.1 = ((1 + (put (l.length : Int)).length : Nat) : Int) := by rw [g1]
    have e2 : getR (chunkB c.2.1 k l) (getR (chunkB c.2.1 k l) 1).2.1 = ((l.length : Int) - (someV l).length, ((1 + (put (l.length : Int)).length + (put ((l.length : Int) - (someV l).length)).length : Nat) : Int), 0) := by rw [e1, k1]
    generalize hA : 1 + (put (l.length : Int)).length + (put ((l.length : Int) - (someV l).length)).length = A at e2 k2 k3
    have hnf : nullsV l = List.replicate l.length false := by
      refine List.eq_replicate_iff.2 ⟨by simp [nullsV], fun b hb => ?_⟩
      obtain ⟨v, hvm, rfl⟩ := List.mem_map.1 hb
      have hlen0 : (someV l).length = l.length := by omega
      have hlen : (l.filter fun v => !v.1).length = l.length := hlen0
      have h1 : someV l = l := List.filter_eq_self.2 (List.length_filter_eq_length_iff.1 hlen)
      have h2 := (List.mem_filter.1 (show v ∈ someV l by rw [h1]; exact hvm)).2
      simpa using h2
    have eN : nulS (chunkB c.2.1 k l) (A : Int) (l.length : Int) ((l.length : Int) - (someV l).length) = (nullsV l, true, (A : Int)) := by
      rw [nul_0 (by omega), hnf, show ((l.length : Int)).toNat = l.length by omega]
    have hp := bod_pre (c := c) hus (by rw [g1]) (by rw [g1]; show (l.length : Int) ≤ 4096; omega) (by rw [e2]) (by rw [e2, g1]; show (l.length : Int) - (someV l).length ≤ (l.length : Int); omega)
    rw [hp, e2, g1]
    show bodA c _ (l.length : Int) ((l.length : Int) - (someV l).length) (nulS (chunkB c.2.1 k l) (A : Int) (l.length : Int) ((l.length : Int) - (someV l).length)) = _
    have hpay : (chunkB c.2.1 k l).extract ((A : Int)).toNat (chunkB c.2.1 k l).size = payS c.2.1 k (someV l) := by
      apply toInts_inj
      rw [drop_ext, show ((A : Int)).toNat = A by omega, k2]
    have hr : rstS c.2.1 (byteAt (chunkB c.2.1 k l) (0 : Int).toNat) ((chunkB c.2.1 k l).extract ((A : Int)).toNat (chunkB c.2.1 k l).size) ((l.length : Int) - ((l.length : Int) - (someV l).length)) = (someV l, true) := by
      rw [hat, hpay, show (l.length : Int) - ((l.length : Int) - (someV l).length) = ((someV l).length : Int) by omega, hrr]
    rw [eN, bodA_ok2 (by rw [hr]), hr, hasm]; rfl
theorem dec_round {c : Col} {k : Int} {l : List Val} (hc : vKnown c.2.1 = true) (hk : usesB c.2.1 k = true) (hl : l.length ≤ 4096) (hv : ∀ v, v ∈ l → vCheck c v = 0 ∧ okV v) : decV c (buildS c.2.1 k l) = (l, 0) := by
  have hs := (chunkB_size (t := c.2.1) (k := k) (fun v hx => (hv v hx).2) hl).2
  obtain ⟨h1, h2⟩ := open_seal hs
  have hb := bod_round hk hl hv
  rw [buildS, decV_3 hc h1 (by rw [h2, hb]), h2, hb]
/- The made values are valid. -/
theorem bitAnd1 (n : Int) : bitAnd n 1 = 0 ∨ bitAnd n 1 = 1 := by
  unfold bitAnd
  have e : (BitVec.ofInt IntKind.i64.bits n &&& BitVec.ofInt IntKind.i64.bits 1).toNat = (BitVec.ofInt IntKind.i64.bits n).toNat % 2 := by
    rw [BitVec.toNat_and, show (BitVec.ofInt IntKind.i64.bits 1).toNat = 1 from rfl, Nat.and_one_is_mod]
  rw [e]
  rcases Nat.mod_two_eq_zero_or_one (BitVec.ofInt IntKind.i64.bits n).toNat with q | q <;> rw [q]
  · left; rfl
  · right; rfl
theorem tmod_rng (n : Int) {m : Int} (h : 0 < m) : -m < Int.tmod n m ∧ Int.tmod n m < m := by
  refine ⟨?_, Int.tmod_lt_of_pos n h⟩
  have := Int.tmod_lt_of_pos (-n) h
  rw [Int.neg_tmod] at this; omega
theorem colS_type (t : Int) (null : Bool) : 1 ≤ (colS t null).2.1 ∧ (colS t null).2.1 ≤ 5 := by
  have := pick_lt (v := t) (n := 5) (by decide)
  show 1 ≤ 1 + pick t 5 ∧ 1 + pick t 5 ≤ 5
  omega
theorem kFin_check {c : Col} (hc : 1 ≤ c.2.1 ∧ c.2.1 ≤ 5) (n : Int) (s : Src) : vCheck c (kFin c n s).1 = 0 := by
  have hk : vKnown c.2.1 = true := by simp [vKnown, hc]
  have p3 := Src.pick_lt (s := s) (n := 4) (by decide)
  have hls := lettersGo_size (Src.pick s 4).toNat (Src.next s) EMP
  have h0 : EMP.size = 0 := rfl
  unfold kFin
  split
  · rename_i h2
    have hb := bitAnd1 n
    have hp : vPermitted c.2.1 ((false, bitAnd n 1, EMP) : Val) = true := by
      unfold vPermitted; rw [if_pos h2]; simpa using hb
    unfold vCheck
    rw [if_neg (by rw [hk]; decide), if_neg (fun q => q.2 rfl), if_neg (fun q => by rcases q.1 with p | p <;> first | (cases p; done) | omega), if_neg (fun q => by cases q.1), if_neg (fun q => by rw [hp] at q; cases q.2)]
  · rename_i h2
    split
    · rename_i h3
      have hp : vPermitted c.2.1 ((false, 0, (lettersGo (Src.pick s 4).toNat (Src.next s) EMP).1) : Val) = true := by
        unfold vPermitted; rw [if_neg h2, if_neg (by omega), if_neg (by omega), if_pos h3]
        simp only [decide_eq_true_eq]
        show (lettersGo (Src.pick s 4).toNat (Src.next s) EMP).1.size ≤ 64
        omega
      unfold vCheck
      rw [if_neg (by rw [hk]; decide), if_neg (fun q => by rcases q.1 with p | p <;> first | (cases p; done) | exact p h3), if_neg (fun q => q.2 rfl), if_neg (fun q => by cases q.1), if_neg (fun q => by rw [hp] at q; cases q.2)]
    · rename_i h3
      split
      · rename_i h4
        have hr := tmod_rng n (m := 700000) (by decide)
        have hp : vPermitted c.2.1 ((false, Int.tmod n 700000, EMP) : Val) = true := by
          unfold vPermitted; rw [if_neg h2, if_pos h4]
          simp only [Bool.and_eq_true, decide_eq_true_eq]
          show -719162 ≤ Int.tmod n 700000 ∧ Int.tmod n 700000 ≤ 2932896
          omega
        unfold vCheck
        rw [if_neg (by rw [hk]; decide), if_neg (fun q => q.2 rfl), if_neg (fun q => by rcases q.1 with p | p <;> first | (cases p; done) | omega), if_neg (fun q => by cases q.1), if_neg (fun q => by rw [hp] at q; cases q.2)]
      · rename_i h4
        split
        · rename_i h5
          have hr := tmod_rng n (m := 1000000000000000000) (by decide)
          have hp : vPermitted c.2.1 ((false, Int.tmod n 1000000000000000000, EMP) : Val) = true := by
            unfold vPermitted; rw [if_neg h2, if_neg h4, if_pos h5]
            simp only [Bool.and_eq_true, decide_eq_true_eq]
            show -999999999999999999 ≤ Int.tmod n 1000000000000000000 ∧ Int.tmod n 1000000000000000000 ≤ 999999999999999999
            omega
          unfold vCheck
          rw [if_neg (by rw [hk]; decide), if_neg (fun q => q.2 rfl), if_neg (fun q => by rcases q.1 with p | p <;> first | (cases p; done) | omega), if_neg (fun q => by cases q.1), if_neg (fun q => by rw [hp] at q; cases q.2)]
        · rename_i h5
          have hp : vPermitted c.2.1 ((false, n, EMP) : Val) = true := by
            unfold vPermitted; rw [if_neg h2, if_neg h4, if_neg h5, if_neg h3]
          unfold vCheck
          rw [if_neg (by rw [hk]; decide), if_neg (fun q => q.2 rfl), if_neg (fun q => by rcases q.1 with p | p <;> first | (cases p; done) | omega), if_neg (fun q => by cases q.1), if_neg (fun q => by rw [hp] at q; cases q.2)]
theorem kValue_check {c : Col} (hc : 1 ≤ c.2.1 ∧ c.2.1 ≤ 5) (s : Src) : vCheck c (kValue s c).1 = 0 := by
  unfold kValue
  split
  · rename_i h
    have hn : c.2.2.2 = true := by
      unfold kNull at h
      exact (Bool.and_eq_true _ _ ▸ h).1
    have hk : vKnown c.2.1 = true := by simp [vKnown, hc]
    unfold vCheck
    rw [if_neg (by rw [hk]; decide), if_neg (fun q => q.2 rfl), if_neg (fun q => q.2 rfl), if_neg (fun q => by rw [hn] at q; cases q.2), if_neg (fun q => by cases q.1)]
  · exact kFin_check hc _ _
theorem kVals_check {c : Col} (hc : 1 ≤ c.2.1 ∧ c.2.1 ≤ 5) : ∀ (n : Nat) (s : Src) (M : List Val), (∀ v, v ∈ M → vCheck c v = 0) → ∀ v, v ∈ (kVals n s c M).1 → vCheck c v = 0
  | 0, s, M, hM => hM
  | n + 1, s, M, hM => kVals_check hc n (kValue s c).2 (M ++ [(kValue s c).1]) (fun v hv => by
    rcases List.mem_append.1 hv with q | q
    · exact hM v q
    · rw [List.mem_singleton.1 q]; exact kValue_check hc s)
theorem kValues_check {l : List Int} (t : Int) (null : Bool) : ∀ v, v ∈ kValuesS (colS t null) l → vCheck (colS t null) v = 0 :=
  kVals_check (colS_type t null) _ _ [] (fun v hv => by cases hv)
/- Encoding of chunks. -/
def chkAll (c : Col) : List Val → Int
  | [] => 0
  | v :: r => if vCheck c v ≠ 0 then vCheck c v else chkAll c r
def bst (t : Int) (l : List Val) : Nat → Int → ByteArray → ByteArray
  | 0, _, b => b
  | n + 1, k, b => bst t l n (k + 1) (if usesB t k = true then (if b = ⟨#[]⟩ ∨ (buildS t k l).size < b.size then buildS t k l else b) else b)
def encV (c : Col) (l : List Val) : ByteArray × Int :=
  if vKnown c.2.1 = false then (⟨#[]⟩, 1) else if l.length > 4096 then (⟨#[]⟩, 7) else if chkAll c l ≠ 0 then (⟨#[]⟩, chkAll c l) else (bst c.2.1 l 4 1 ⟨#[]⟩, 0)
theorem chkAll_step {c : Col} {l : List Val} {k : Int} (h : 0 ≤ k ∧ k < l.length) : chkAll c (l.drop k.toNat) = if vCheck c l[k.toNat]! ≠ 0 then vCheck c l[k.toNat]! else chkAll c (l.drop (k + 1).toNat) := by
  rw [drop_step l k h]; rfl
theorem chkAll_ok {c : Col} : ∀ {l : List Val}, chkAll c l = 0 → ∀ v, v ∈ l → vCheck c v = 0
  | [], _, v, hv => by cases hv
  | x :: r, h, v, hv => by
    rw [chkAll] at h
    split at h
    · rename_i q; exact absurd h q
    · rename_i q
      rcases List.mem_cons.1 hv with p | p
      · rw [p]; exact Decidable.not_not.1 q
      · exact chkAll_ok h v p
theorem check_okV {c : Col} {v : Val} (h : vCheck c v = 0) (hi : inI v.2.1) : okV v := by
  refine ⟨?_, hi⟩
  by_cases hn : v.1 = true
  · rw [check_null h hn]; exact Nat.zero_le _
  · have hn : v.1 = false := by simpa using hn
    unfold vCheck at h
    split at h
    · cases h
    · split at h
      · cases h
      · rename_i h2
        split at h
        · cases h
        · split at h
          · cases h
          · split at h
            · cases h
            · rename_i h5
              by_cases ht : c.2.1 = 3
              · have hp : vPermitted c.2.1 v = true := by
                  refine Decidable.not_not.1 fun q => h5 ⟨hn, by simpa using q⟩
                unfold vPermitted at hp
                rw [if_neg (by omega), if_neg (by omega), if_neg (by omega), if_pos ht] at hp
                have := of_decide_eq_true hp
                omega
              · have e : v.2.2 = EMP := Decidable.not_not.1 fun q => h2 ⟨.inr ht, q⟩
                rw [e]; exact Nat.zero_le _
end Go.Proofs.YtlamfjhhjfgemaaGreat
