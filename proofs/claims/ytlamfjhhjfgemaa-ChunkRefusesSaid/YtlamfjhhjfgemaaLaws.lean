/- Contracts of statements of layer 12. -/
import Derived.Test.YtlamfjhhjfgemaaCenc
namespace Go.Proofs.Ytlamfjhhjfgemaa
open Go.Abs
set_option linter.unusedVariables false
set_option linter.unusedSimpArgs false

noncomputable section

/- What Encode makes of valid values. -/
theorem chk_zero {c : Col} : ∀ {l : List Val}, (∀ v, v ∈ l → vCheck c v = 0) → chkAll c l = 0
  | [], _ => rfl
  | v :: r, h => by
    rw [chkAll, if_neg (fun q => q (h v (by simp))), chk_zero (fun x hx => h x (List.mem_cons_of_mem _ hx))]
theorem chk_app {c : Col} : ∀ {A B : List Val}, (∀ v, v ∈ A → vCheck c v = 0) → chkAll c (A ++ B) = chkAll c B
  | [], _, _ => rfl
  | v :: r, B, h => by
    rw [List.cons_append, chkAll, if_neg (fun q => q (h v (by simp))), chk_app (fun x hx => h x (List.mem_cons_of_mem _ hx))]
theorem codT_uses {t k : Int} (h : k = 1 ∨ k ∈ (codL t).drop (Int.toNat 1)) : usesB t k = true := by
  rw [← codL_uses, List.any_eq_true]
  refine ⟨k, ?_, by simp⟩
  rcases h with h | h
  · subst h; unfold codL; split <;> simp
  · exact List.mem_of_mem_drop h
theorem best_uses (t : Int) (P : List Val) : usesB t (bestK t P ((codL t).drop (Int.toNat 1)) 1) = true := codT_uses (bestK_mem t P _ 1)
theorem uses_rng {t k : Int} (h : usesB t k = true) : 1 ≤ k ∧ k ≤ 4 := by
  unfold usesB at h
  split at h <;> (simp at h; omega)

abbrev c_encodes_ok : Ct := .fn [tCol, .list tVal, .int .i64, .bool, .list (.int .i64)] (some (fun (c : Col) (raw : List Val) (t : Int) (null : Bool) (l : List Int) => (raw.length ≤ 9223372036854775807) ∧ (∀ v, v ∈ raw → inI v.2.1) ∧ (l.length ≤ 9223372036854775807) ∧ (∀ x, x ∈ l → inI x))) (fun (c : Col) (raw : List Val) (t : Int) (null : Bool) (l : List Int) => .d .bool true)
set_option maxRecDepth 100000 in
set_option maxHeartbeats 4000000 in
theorem encodes_ok : CtOk Try.prog 7 c_encodes_ok := by
  refine CtOk.fn tb67_ok mixed [] [] rfl rfl ?_
  rintro ⟨(c : Col), (raw : List Val), (t : Int), (null : Bool), (l : List Int), _⟩ hpre
  replace hpre := hpre _ rfl
  dsimp only [cu] at hpre
  obtain ⟨hw, hr, hl, hi⟩ := hpre
  refine ⟨[], ?_⟩
  repeat' (first
    | (
 with_reducible refine Side.mk ?_
 (try dsimp only [cu, joinT, ckTys, gts, loK, hiK, Prod.eta, List.nil_append])
 first
 | (done)
 | (with_reducible rfl)
 | (omega)
 | (exact Eq.refl _)
 | (simp only [List.length_append, List.length_cons, List.length_nil]; omega)
 | (with_reducible assumption)
 | (exact ⟨hw, hr⟩)
 | (
  have hkv := kValues_ok (l := l) (colS t null) hi
  exact ⟨Nat.le_trans hkv.2 (by decide), fun v hv => (hkv.1 v hv).2⟩))
    | (conv => whnf
       first
        | done
        | exact trivial
        | with_reducible refine NilBr.mk (fun h => ?_) ?_
        | with_reducible first | refine w_andS ?_ ?_ | refine w_andL ?_ ?_ | refine w_kern (by kernel_rfl) ?_ | refine w_true ?_ | refine w_nd ?_ ?_ | refine w_in ?_ ?_ | refine w_and ?_ ?_
        | ((with_reducible first | refine w_brN (fun h => ?_) (fun h => ?_) | refine w_brD (fun h => ?_) (fun h => ?_) | refine w_br (fun h => ?_) (fun h => ?_)) <;> (try dsimp only [cu, Prod.eta, List.nil_append] at h) <;> (try (exfalso; omega; done)))))
  all_goals (
 with_reducible refine Leaf.mk ?_
 (try dsimp only [cu, joinT, ckTys, gts, Prod.eta, List.nil_append] at *)
 first
 | (done)
 | (with_reducible rfl)
 | (exact (decide_eq_true rfl).symm)
 | (exact decide_eq_true rfl)
 | (exact absurd rfl (by with_reducible assumption))
 | (simp; done)
 | (simp_all; done))
abbrev tb68 : Tbl := (7, c_encodes_ok) :: tb67
theorem tb68_ok : TblOk Try.prog tb68 := TblOk.cons encodes_ok tb67_ok


/- The example. -/
theorem put_small {n : Int} (h : 0 ≤ n ∧ n < 128) : put n = [n] := by
  show putF (8 + 1) n = [n]
  rw [putF, if_pos (by omega)]
theorem runs_three : runs [5, 5, 5] = [(3, 5)] := by
  rw [runs]
  have e : runLen 5 [5, 5] = 2 := by decide
  rw [e]
  show _ :: runs [] = _
  rw [runs]; rfl
theorem pay2_three : payS 1 2 three = ⟨#[3, 10]⟩ := by
  show ofInts (encR (runs [5, 5, 5])) = _
  rw [runs_three, encR, encR, put_small (by decide), show zigS 5 = 10 from rfl, put_small (by decide)]
  rfl
theorem pay1_three : payS 1 1 three = ⟨#[10, 10, 10]⟩ := by
  show plL 1 three = _
  unfold three
  rw [plL, plL, plL, plL]
  have e : plV 1 ((false, 5, ⟨#[]⟩) : Val) = ⟨#[10]⟩ := by
    show ofInts (put (zigS 5)) = _
    rw [show zigS 5 = 10 from rfl, put_small (by decide)]; rfl
  rw [e]; rfl
theorem pay4_three : 2 ≤ (payS 1 4 three).size := by
  show 2 ≤ (encDelta [5, 5, 5]).size
  rw [encDelta, if_neg (by decide), encBs, dif_neg (by decide), ByteArray.size_append, ByteArray.size_append]
  have h1 := put_size (zigS ([5, 5, 5] : List Int)[0]!)
  have h2 : 2 ≤ (blkE ((dfs [5, 5, 5]).take 32)).size := by
    unfold blkE
    have h3 := put_size (zigS (mnL ((dfs [5, 5, 5]).take 32)))
    rw [ByteArray.size_append, ByteArray.size_append, ofInts_len [_]]
    simp only [List.length_cons, List.length_nil]
    omega
  omega
def exS : ByteArray := sealS ⟨#[2, 3, 0, 3, 10]⟩
theorem three_ex : ∃ l : List Val, l = three := ⟨_, rfl⟩
/-- The list, by a name that is not computed. -/
noncomputable def threeO : List Val := Classical.choose three_ex
theorem threeO_eq : threeO = three := Classical.choose_spec three_ex
theorem enc_three : encV (⟨#[]⟩, 1, 0, false) threeO = (exS, 0) := by
  rw [threeO_eq]
  have hc : ∀ v, v ∈ three → vCheck (⟨#[]⟩, 1, 0, false) v = 0 := by
    intro v hv
    have : v = (false, 5, ⟨#[]⟩) := by
      unfold three at hv
      rcases List.mem_cons.1 hv with q | hv
      · exact q
      rcases List.mem_cons.1 hv with q | hv
      · exact q
      rcases List.mem_cons.1 hv with q | hv
      · exact q
      cases hv
    subst this
    decide
  rw [encV_ok (by decide) (by decide) (chk_zero hc)]
  have hs : someV three = three := by rfl
  have hb : bestK 1 three ((codL 1).drop (Int.toNat 1)) 1 = 2 := by
    show bestK 1 three [2, 4] 1 = 2
    rw [bestK, if_pos (by rw [pay2_three, pay1_three]; decide), bestK, if_neg (by have := pay4_three; rw [pay2_three]; show ¬ _ < 2; omega), bestK]
  show (buildS 1 (bestK 1 (someV three) ((codL 1).drop (Int.toNat 1)) 1) three, (0 : Int)) = _
  rw [hs, hb, buildS]
  unfold exS
  congr 2
  rw [chunkB, if_neg (by decide), hs, pay2_three]
  unfold headS
  rw [show ((three.length : Nat) : Int) = 3 from rfl, hs, show (3 : Int) - (three.length : Nat) = 0 from rfl, put_small (by decide), put_small (by decide)]
  rfl
theorem exS_facts : exS.size = 9 ∧ exS.extract 0 (Int.toNat 5) = ⟨#[2, 3, 0, 3, 10]⟩ ∧ codecS exS = (2, 0) := by
  have h1 : (sealS ⟨#[2, 3, 0, 3, 10]⟩).size = 9 := by rw [seal_size]; rfl
  refine ⟨h1, ?_, ?_⟩
  · have := seal_body ⟨#[2, 3, 0, 3, 10]⟩
    rw [h1] at this
    exact this
  · have ho := open_seal (b := ⟨#[2, 3, 0, 3, 10]⟩) (by decide)
    have e : byteAt exS 0 = 2 := by
      unfold exS sealS
      rw [at_app (by decide)]; rfl
    unfold exS at e ⊢
    rw [cod_2 ho.1 (by rw [e]; decide), e]

abbrev c_threeO_ok : Ct := .fn [] (none) (.d (.list tVal) threeO)
set_option maxRecDepth 100000 in
set_option maxHeartbeats 4000000 in
theorem threeO_ok : CtOk Try.prog 22 c_threeO_ok := by
  refine CtOk.fn tb68_ok mixed [] [] rfl rfl ?_
  rintro ⟨⟩ -
  refine ⟨[], ?_⟩
  repeat' (first
    | (
 with_reducible refine Side.mk ?_
 (try dsimp only [cu, joinT, ckTys, gts, loK, hiK, Prod.eta, List.nil_append])
 first
 | (done)
 | (with_reducible rfl)
 | (omega)
 | (exact Eq.refl _)
 | (simp only [List.length_append, List.length_cons, List.length_nil]; omega)
 | (grind))
    | (conv => whnf
       first
        | done
        | exact trivial
        | with_reducible refine NilBr.mk (fun h => ?_) ?_
        | with_reducible first | refine w_andS ?_ ?_ | refine w_andL ?_ ?_ | refine w_kern (by kernel_rfl) ?_ | refine w_true ?_ | refine w_nd ?_ ?_ | refine w_in ?_ ?_ | refine w_and ?_ ?_
        | ((with_reducible first | refine w_brN (fun h => ?_) (fun h => ?_) | refine w_brD (fun h => ?_) (fun h => ?_) | refine w_br (fun h => ?_) (fun h => ?_)) <;> (try dsimp only [cu, Prod.eta, List.nil_append] at h) <;> (try (exfalso; omega; done)))))
  all_goals (
 with_reducible refine Leaf.mk ?_
 (try dsimp only [cu, joinT, ckTys, gts, Prod.eta, List.nil_append] at *)
 first
 | (done)
 | (exact threeO_eq.symm)
 | (
  rw [threeO_eq]
  rfl))
abbrev tb69 : Tbl := (22, c_threeO_ok) :: tb68
theorem tb69_ok : TblOk Try.prog tb69 := TblOk.cons threeO_ok tb68_ok

abbrev c_examples_ok : Ct := .fn [] (none) (.d .bool true)
set_option maxRecDepth 100000 in
set_option maxHeartbeats 4000000 in
theorem examples_ok : CtOk Try.prog 6 c_examples_ok := by
  refine CtOk.fn tb69_ok mixed [] [] rfl rfl ?_
  rintro ⟨⟩ -
  have hf := exS_facts
  have h1 : (encV (⟨#[]⟩, 1, 0, false) threeO).1 = exS := by rw [enc_three]
  have h2 : (encV (⟨#[]⟩, 1, 0, false) threeO).2 = 0 := by rw [enc_three]
  refine ⟨[], ?_⟩
  repeat' (first
    | (
 with_reducible refine Side.mk ?_
 (try dsimp only [cu, joinT, ckTys, gts, loK, hiK, Prod.eta, List.nil_append])
 first
 | (done)
 | (with_reducible rfl)
 | (omega)
 | (exact Eq.refl _)
 | (simp only [List.length_append, List.length_cons, List.length_nil]; omega)
 | (
  rw [threeO_eq]
  exact ⟨by decide, fun v hv => (three_ok v hv).2⟩)
 | (
  rw [h1, hf.1]
  decide)
 | (rw [h1, hf.1]; omega))
    | (conv => whnf
       first
        | done
        | exact trivial
        | with_reducible refine NilBr.mk (fun h => ?_) ?_
        | with_reducible first | refine w_andS ?_ ?_ | refine w_andL ?_ ?_ | refine w_kern (by kernel_rfl) ?_ | refine w_true ?_ | refine w_nd ?_ ?_ | refine w_in ?_ ?_ | refine w_and ?_ ?_
        | ((with_reducible first | refine w_brN (fun h => ?_) (fun h => ?_) | refine w_brD (fun h => ?_) (fun h => ?_) | refine w_br (fun h => ?_) (fun h => ?_)) <;> (try dsimp only [cu, Prod.eta, List.nil_append] at h) <;> (try (exfalso; omega; done)))))
  all_goals (
 with_reducible refine Leaf.mk ?_
 (try dsimp only [cu, joinT, ckTys, gts, Prod.eta, List.nil_append] at *)
 first
 | (done)
 | (with_reducible rfl)
 | (
  rw [h1] at *
  obtain ⟨f1, f2, f3⟩ := hf
  simp_all; done)
 | (
  exfalso
  rw [h1] at *
  obtain ⟨f1, f2, f3⟩ := hf
  simp_all; done)
 | (exfalso; omega)
 | (
  simp only [h1, h2, hf.1, hf.2.1, hf.2.2]
  (try decide)
  (try rfl)))
abbrev tb70 : Tbl := (6, c_examples_ok) :: tb69
theorem tb70_ok : TblOk Try.prog tb70 := TblOk.cons examples_ok tb69_ok


/-- No codec of the list, and not the one at the start, is better; those ahead are worse. -/
theorem bestK_least (t : Int) (P : List Val) : ∀ (L : List Int) (q : Int), (∀ k, k ∈ L → q < k) → L.Pairwise (· < ·) → ∀ i, (i = q ∨ i ∈ L) → (payS t (bestK t P L q) P).size ≤ (payS t i P).size ∧ (i < bestK t P L q → (payS t (bestK t P L q) P).size < (payS t i P).size)
  | [], q, _, _, i, hi => by
    rcases hi with rfl | hi
    · exact ⟨Nat.le_refl _, fun h => absurd h (Int.lt_irrefl _)⟩
    · cases hi
  | k :: ks, q, h, hp, i, hi => by
    rw [bestK]
    have hp' := List.pairwise_cons.1 hp
    split
    · rename_i hlt
      have ih := fun i hi => bestK_least t P ks k (fun x hx => hp'.1 x hx) hp'.2 i hi
      rcases hi with rfl | hi
      · have h1 := ih k (.inl rfl)
        exact ⟨by omega, fun _ => by omega⟩
      · rcases List.mem_cons.1 hi with rfl | hi
        · exact ih i (.inl rfl)
        · exact ih i (.inr hi)
    · rename_i hlt
      have ih := fun i hi => bestK_least t P ks q (fun x hx => h x (List.mem_cons_of_mem _ hx)) hp'.2 i hi
      rcases hi with rfl | hi
      · exact ih i (.inl rfl)
      · rcases List.mem_cons.1 hi with rfl | hi
        · have h1 := ih q (.inl rfl)
          refine ⟨by omega, fun hb => ?_⟩
          by_cases e : bestK t P ks q = q
          · rw [e] at hb; have := h i (by simp); omega
          · have hm := (bestK_mem t P ks q).resolve_left e
            have h2 := h i (by simp)
            have h3 := h1.2
            have h4 := h _ (List.mem_cons_of_mem _ hm)
            have h5 := h3 h4
            omega
        · exact ih i (.inr hi)
theorem least_made {l : List Int} (t : Int) (null : Bool) (hi : ∀ x, x ∈ l → inI x) :
    (encV (colS t null) (kValuesS (colS t null) l)).2 = 0 ∧ (encV (colS t null) (kValuesS (colS t null) l)).1.size ≤ 4398046585379 ∧
    (codecS (encV (colS t null) (kValuesS (colS t null) l)).1).2 = 0 ∧ usesB (colS t null).2.1 (codecS (encV (colS t null) (kValuesS (colS t null) l)).1).1 = true ∧
    ∀ i, usesB (colS t null).2.1 i = true → (encV (colS t null) (kValuesS (colS t null) l)).1.size ≤ (buildS (colS t null).2.1 i (kValuesS (colS t null) l)).size ∧
      (i < (codecS (encV (colS t null) (kValuesS (colS t null) l)).1).1 → (encV (colS t null) (kValuesS (colS t null) l)).1.size < (buildS (colS t null).2.1 i (kValuesS (colS t null) l)).size) := by
  have hkv := kValues_ok (l := l) (colS t null) hi
  have hck := kValues_check (l := l) t null
  have hct := colS_type t null
  have hc : vKnown (colS t null).2.1 = true := by simp [vKnown, hct]
  generalize kValuesS (colS t null) l = x at *
  have hl : x.length ≤ 4096 := by omega
  rw [encV_ok (by rw [hc]; decide) (by omega) (chk_zero hck)]
  have hu := best_uses (colS t null).2.1 (someV x)
  have hr := uses_rng hu
  have hcb := codec_build (t := (colS t null).2.1) hr hkv.1 hl
  have hbs := build_size (t := (colS t null).2.1) (k := bestK (colS t null).2.1 (someV x) ((codL (colS t null).2.1).drop (Int.toNat 1)) 1) hkv.1 hl
  dsimp only
  rw [hcb]
  refine ⟨rfl, hbs.1, rfl, hu, fun i hui => ?_⟩
  have hmem : i = 1 ∨ i ∈ (codL (colS t null).2.1).drop (Int.toNat 1) := by
    rw [← codL_uses, List.any_eq_true] at hui
    obtain ⟨k, hk, e⟩ := hui
    have e : k = i := by simpa using e
    subst e
    unfold codL at hk ⊢
    split at hk <;> (rename_i h3; first | rw [if_pos h3] | rw [if_neg h3]) <;> (simp [show Int.toNat 1 = 1 from rfl] at hk ⊢; omega)
  have hb := bestK_least (colS t null).2.1 (someV x) ((codL (colS t null).2.1).drop (Int.toNat 1)) 1 (by unfold codL; split <;> decide) (by unfold codL; split <;> decide) i hmem
  refine ⟨?_, fun h => (build_lt _ _ _ _).2 (hb.2 h)⟩
  rcases Nat.lt_or_ge (buildS (colS t null).2.1 i x).size (buildS (colS t null).2.1 (bestK (colS t null).2.1 (someV x) ((codL (colS t null).2.1).drop (Int.toNat 1)) 1) x).size with q | q
  · have := (build_lt _ _ _ _).1 q
    omega
  · exact q

abbrev c_least_ok : Ct := .fn [.int .i64, .bool, .list (.int .i64)] (some (fun (t : Int) (null : Bool) (l : List Int) => (l.length ≤ 9223372036854775807) ∧ (∀ x, x ∈ l → inI x))) (fun (t : Int) (null : Bool) (l : List Int) => .d .bool true)
set_option maxRecDepth 100000 in
set_option maxHeartbeats 4000000 in
theorem least_ok : CtOk Try.prog 8 c_least_ok := by
  refine CtOk.fn tb70_ok mixed [] [] rfl rfl ?_
  rintro ⟨(t : Int), (null : Bool), (l : List Int), _⟩ hpre
  replace hpre := hpre _ rfl
  dsimp only [cu] at hpre
  obtain ⟨hl, hi⟩ := hpre
  obtain ⟨m1, m2, m3, m4, m5⟩ := least_made (l := l) t null hi
  refine ⟨[(0, 16, LA.mk [.sl 13 (.int .i64)] (fun y => Tag 46 ∧ cu [.int .i64] (fun (i : Int) => (1 ≤ i ∧ i ≤ 5)) y) (cu [.int .i64] (fun (i : Int) => (5 - i).toNat)) (cu [.int .i64] (fun (i : Int) => ([] : List (Nat × Nat × LA)))))], ?_⟩
  repeat' (first
    | (
 with_reducible refine Side.mk ⟨(⟨⟩ : Tag 46), ?_⟩
 dsimp only [cu, joinT, ckTys, gts, Prod.eta, List.nil_append]
 omega)
    | (
 with_reducible refine Side.mk ?_
 (try dsimp only [cu, joinT, ckTys, gts, loK, hiK, Prod.eta, List.nil_append])
 first
 | (done)
 | (with_reducible rfl)
 | (omega)
 | (exact Eq.refl _)
 | (simp only [List.length_append, List.length_cons, List.length_nil]; omega)
 | (with_reducible assumption)
 | (
  have hkv := kValues_ok (l := l) (colS t null) hi
  first
  | (exact ⟨Nat.le_trans hkv.2 (by decide), fun v hv => (hkv.1 v hv).2⟩)
  | (exact ⟨Nat.le_trans hkv.2 (by decide), hkv.1⟩)
  | (
   have hbs := build_size (t := (colS t null).2.1) (k := i) hkv.1 (Nat.le_trans hkv.2 (by decide))
   omega)))
    | (conv => whnf
       first
        | done
        | exact trivial
        | with_reducible refine NilBr.mk (fun h => ?_) ?_
        | with_reducible first | refine w_andS ?_ ?_ | refine w_andL ?_ ?_ | refine w_kern (by kernel_rfl) ?_ | refine w_true ?_ | refine w_nd ?_ ?_ | refine w_in ?_ ?_ | refine w_and ?_ ?_
        | ((with_reducible first | refine w_brN (fun h => ?_) (fun h => ?_) | refine w_brD (fun h => ?_) (fun h => ?_) | refine w_br (fun h => ?_) (fun h => ?_)) <;> (try dsimp only [cu, Prod.eta, List.nil_append] at h) <;> (try (exfalso; omega; done)))
        | (
 intro yy (hy : Tag 46 ∧ _)
 obtain ⟨(i : Int), _⟩ := yy
 replace hy := hy.2
 dsimp only [cu, joinT, ckTys, gts, Prod.eta, List.nil_append] at hy
 have hii := hy)))
  all_goals (
 with_reducible refine Leaf.mk ?_
 (try dsimp only [cu, joinT, ckTys, gts, Prod.eta, List.nil_append] at *)
 first
 | (done)
 | (with_reducible rfl)
 | (exfalso; omega)
 | (
  exfalso
  first
  | (
   have hui : usesB (colS t null).2.1 i = true := by first | with_reducible assumption | exact nz_t (by with_reducible assumption)
   have hm := m5 i hui
   first
   | (
    obtain ⟨ha, hb⟩ := hm
    omega)
   | (
    have hlt : i < (codecS (encV (colS t null) (kValuesS (colS t null) l)).1).1 := by first | with_reducible assumption | omega
    have := hm.2 hlt
    omega))
  | (simp_all; done)
  | (
   have hui : usesB (colS t null).2.1 i = true := by first | with_reducible assumption | exact nz_t (by with_reducible assumption)
   have hm := m5 i hui
   simp_all
   omega)))
abbrev tb71 : Tbl := (8, c_least_ok) :: tb70
theorem tb71_ok : TblOk Try.prog tb71 := TblOk.cons least_ok tb70_ok


/-- What Encode makes of valid values with another one among them. -/
theorem refused {l : List Int} (t : Int) (null : Bool) (hi : ∀ x, x ∈ l → inI x) {v : Val} (hv : inI v.2.1) (k : Nat) :
    (encV (colS t null) (((kValuesS (colS t null) l).take k ++ [v]) ++ (kValuesS (colS t null) l).drop k)).2 = vCheck (colS t null) v ∧
    (vCheck (colS t null) v = 0 → 0 < (encV (colS t null) (((kValuesS (colS t null) l).take k ++ [v]) ++ (kValuesS (colS t null) l).drop k)).1.size) ∧
    (¬ vCheck (colS t null) v = 0 → (encV (colS t null) (((kValuesS (colS t null) l).take k ++ [v]) ++ (kValuesS (colS t null) l).drop k)).1.size = 0) := by
  have hkv := kValues_ok (l := l) (colS t null) hi
  have hck := kValues_check (l := l) t null
  have hct := colS_type t null
  have hc : vKnown (colS t null).2.1 = true := by simp [vKnown, hct]
  generalize kValuesS (colS t null) l = x at *
  have hl : ¬ ((x.take k ++ [v]) ++ x.drop k).length > 4096 := by simp; omega
  have e : chkAll (colS t null) ((x.take k ++ [v]) ++ x.drop k) = vCheck (colS t null) v := by
    rw [List.append_assoc, chk_app (fun z hz => hck z (List.mem_of_mem_take hz)), List.singleton_append, chkAll]
    split
    · rfl
    · rename_i q
      rw [chk_zero (fun z hz => hck z (List.mem_of_mem_drop hz))]
      exact (Decidable.not_not.1 q).symm
  by_cases h : vCheck (colS t null) v = 0
  · rw [encV_ok (by rw [hc]; decide) hl (e.trans h)]
    refine ⟨h.symm, fun _ => ?_, fun q => (q h).elim⟩
    show 0 < (sealS _).size
    rw [seal_size]; omega
  · rw [encV, if_neg (by rw [hc]; decide), if_neg hl, if_pos (by rw [e]; exact h)]
    refine ⟨e, fun q => (h q).elim, fun _ => rfl⟩

abbrev c_refuses_ok : Ct := .fn [.int .i64, .bool, .list (.int .i64), .int .i64, tVal] (some (fun (t : Int) (null : Bool) (l : List Int) (at0 : Int) (v : Val) => (l.length ≤ 9223372036854775807) ∧ (∀ x, x ∈ l → inI x) ∧ (inI v.2.1))) (fun (t : Int) (null : Bool) (l : List Int) (at0 : Int) (v : Val) => .d .bool true)
set_option maxRecDepth 100000 in
set_option maxHeartbeats 4000000 in
theorem refuses_ok : CtOk Try.prog 9 c_refuses_ok := by
  refine CtOk.fn tb71_ok mixed [] [] rfl rfl ?_
  rintro ⟨(t : Int), (null : Bool), (l : List Int), (at0 : Int), (v : Val), _⟩ hpre
  replace hpre := hpre _ rfl
  dsimp only [cu] at hpre
  obtain ⟨hl, hi, hv⟩ := hpre
  refine ⟨[], ?_⟩
  repeat' (first
    | (
 with_reducible refine Side.mk ?_
 (try dsimp only [cu, joinT, ckTys, gts, loK, hiK, Prod.eta, List.nil_append])
 first
 | (done)
 | (with_reducible rfl)
 | (omega)
 | (exact Eq.refl _)
 | (simp only [List.length_append, List.length_cons, List.length_nil]; omega)
 | (with_reducible assumption)
 | (
  have hkv := kValues_ok (l := l) (colS t null) hi
  first
  | (omega)
  | (exact u64_ne (n := ((kValuesS (colS t null) l).length : Int) + 1) (by omega))
  | (
   have hpk := pick_lt (v := at0) (n := ((kValuesS (colS t null) l).length : Int) + 1) (by omega)
   first
   | (omega)
   | (
    (try simp only [List.length_append, List.length_take, List.length_drop, List.length_cons, List.length_nil])
    omega)
   | (
    refine ⟨by simp; omega, fun z hz => ?_⟩
    simp only [List.mem_append, List.mem_singleton] at hz
    rcases hz with (hz | hz) | hz
    · exact (hkv.1 z (List.mem_of_mem_take hz)).2
    · rw [hz]; exact hv
    · exact (hkv.1 z (List.mem_of_mem_drop hz)).2))))
    | (conv => whnf
       first
        | done
        | exact trivial
        | with_reducible refine NilBr.mk (fun h => ?_) ?_
        | with_reducible first | refine w_andS ?_ ?_ | refine w_andL ?_ ?_ | refine w_kern (by kernel_rfl) ?_ | refine w_true ?_ | refine w_nd ?_ ?_ | refine w_in ?_ ?_ | refine w_and ?_ ?_
        | ((with_reducible first | refine w_brN (fun h => ?_) (fun h => ?_) | refine w_brD (fun h => ?_) (fun h => ?_) | refine w_br (fun h => ?_) (fun h => ?_)) <;> (try dsimp only [cu, Prod.eta, List.nil_append] at h) <;> (try (exfalso; omega; done)))))
  all_goals (
 with_reducible refine Leaf.mk ?_
 (try dsimp only [cu, joinT, ckTys, gts, Prod.eta, List.nil_append] at *)
 first
 | (done)
 | (with_reducible rfl)
 | (
  have hrf := refused (l := l) t null hi (v := v) hv (pick at0 (((kValuesS (colS t null) l).length : Int) + 1)).toNat
  obtain ⟨r1, r2, r3⟩ := hrf
  by_cases hz : vCheck (colS t null) v = 0
  · have r4 := r2 hz
    first | (simp_all; done) | (exfalso; simp_all; done) | (exfalso; omega)
  · have r4 := r3 hz
    first | (simp_all; done) | (exfalso; simp_all; done) | (exfalso; omega)))
abbrev tb72 : Tbl := (9, c_refuses_ok) :: tb71
theorem tb72_ok : TblOk Try.prog tb72 := TblOk.cons refuses_ok tb71_ok

end

end Go.Proofs.Ytlamfjhhjfgemaa
