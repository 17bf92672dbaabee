/- The walks of DelvecEncodes and DelvecRoundTrip. -/
import Derived.Test.YtojdmkkjamakiaaRDec
namespace Go.Proofs.Ytojdmkkjamakiaa
open Go.Abs
set_option linter.unusedVariables false
set_option linter.unusedSimpArgs false


theorem vec_chk (l : List Int) {rows : Int} (h : 1 ≤ rows ∧ rows ≤ 1024) : chk (vec l rows) rows = true := by
  obtain ⟨h1, h2⟩ := vec_asc l rows
  simp only [chk, Bool.and_eq_true, Bool.or_eq_true, decide_eq_true_eq]
  refine ⟨⟨⟨h.1, h.2⟩, h1⟩, ?_⟩
  rcases Nat.eq_zero_or_pos (vec l rows).length with q | q
  · exact .inl q
  · right
    rw [getElem!_pos _ _ (by omega)]
    exact h2 _ (List.getElem_mem _)
theorem decR_len (s : ByteArray) (rows : Int) : (decR s rows).1.length ≤ 1024 := by
  unfold decR
  split
  · simp
  · split
    · simp
    · split
      · simp
      · rename_i l hl
        have := (chk_len (dOpt_some hl).1).1
        show l.length ≤ 1024
        omega
theorem enc_size {l : List Int} {rows : Int} (h : chk l rows = true) : (encS l rows).size = (encB l rows).size + 4 ∧ 4 ≤ (encB l rows).size := by
  constructor
  · rw [encS, if_pos h, sealS, ByteArray.size_append, four_size]
  · unfold encB
    rw [ByteArray.size_append, ByteArray.size_append, ByteArray.size_append]
    have : DEL1.size = 4 := rfl
    omega
theorem encB_len {l : List Int} {rows : Int} (h : chk l rows = true) : (encB l rows).size ≤ 20000 := by
  have h1 := chk_len h
  have hg : ∀ (t : List Int) (p : Int), (encG p t).length ≤ 10 * t.length := by
    intro t
    induction t with
    | nil => intro p; simp [encG]
    | cons v t ih => intro p; have := ih v; have := put_len (v - (p + 1)); simp [encG]; omega
  have h2 := hg l (-1)
  have h3 := put_size rows
  have h4 := put_size (l.length : Int)
  unfold encB
  rw [ByteArray.size_append, ByteArray.size_append, ByteArray.size_append, ofInts_len (encG (-1) l)]
  have : DEL1.size = 4 := rfl
  omega
theorem enc_le (l : List Int) (rows : Int) : (encS l rows).size ≤ 20004 := by
  by_cases h : chk l rows = true
  · have := enc_size h; have := encB_len h; omega
  · rw [encS, if_neg h]; show (EMP : ByteArray).size ≤ 20004; exact Nat.zero_le _
theorem enc_body {l : List Int} {rows : Int} (h : chk l rows = true) : sealS ((encS l rows).extract 0 (((encS l rows).size : Int) - 4).toNat) = encS l rows := by
  rw [encS, if_pos h, seal_body]
theorem decR_enc {l : List Int} {rows : Int} (h : chk l rows = true) : decR (encS l rows) rows = (l, 0) := by
  have h1 := enc_size h
  have h8 : ¬ (encS l rows).size < 8 := by omega
  exact decR_some (by omega) (enc_body h) ((dOpt_iff h8 (enc_body h)).1.2 ⟨h, rfl⟩)
theorem decR_other {l : List Int} {rows other : Int} (h : chk l rows = true) (ho : other ≠ rows) : decR (encS l rows) other = ([], 2) := by
  have h1 := enc_size h
  have h8 : ¬ (encS l rows).size < 8 := by omega
  refine decR_none (by omega) (enc_body h) ?_
  cases hd : dOpt ((encS l rows).extract 0 (((encS l rows).size : Int) - 4).toNat) (encS l rows) other with
  | none => rfl
  | some l' =>
    exfalso
    obtain ⟨c1, c2⟩ := dOpt_some hd
    have e1 : encB l' other = encB l rows := by
      have q1 : encS l' other = sealS (encB l' other) := by rw [encS, if_pos c1]
      have q2 : encS l rows = sealS (encB l rows) := by rw [encS, if_pos h]
      rw [← seal_body (encB l' other), ← seal_body (encB l rows), ← q1, ← q2, c2]
    have i1 := encB_ints c1
    have i2 := encB_ints h
    have r1 := chk_len c1
    have r2 := chk_len h
    have d1 : (toInts (encB l rows)).drop 4 = put other ++ (put l'.length ++ encG (-1) l') := by rw [← e1, i1]; rfl
    have d2 : (toInts (encB l rows)).drop 4 = put rows ++ (put l.length ++ encG (-1) l) := by rw [i2]; rfl
    have g1 := getR_complete (s := encB l rows) (a := 4) (u := other) (by omega) d1
    have g2 := getR_complete (s := encB l rows) (a := 4) (u := rows) (by omega) d2
    rw [g1] at g2
    injection g2 with q
    exact ho q
theorem tm30 (n : Int) : -30 < n.tmod 30 ∧ n.tmod 30 < 30 := by
  refine ⟨?_, Int.tmod_lt_of_pos n (by decide)⟩
  rcases Int.le_total 0 n with q | q
  · have := Int.tmod_nonneg 30 q; omega
  · have h1 := Int.tmod_lt_of_pos (-n) (show (0 : Int) < 30 by decide)
    rw [Int.neg_tmod] at h1; omega

abbrev c_decodes_ok : Ct := .fn [.str, .int .i64] (some (fun (s : ByteArray) (rows : Int) => (s.size ≤ 4611686018427387904))) (fun (s : ByteArray) (rows : Int) => .d .bool true)
set_option maxRecDepth 100000 in
set_option maxHeartbeats 4000000 in
theorem decodes_ok : CtOk Try.prog 26 c_decodes_ok := by
  refine CtOk.fn tb33_ok mixed [] [] rfl rfl ?_
  rintro ⟨(s : ByteArray), (rows : Int), _⟩ hpre
  replace hpre := hpre _ rfl
  dsimp only [cu] at hpre
  have hs := hpre
  refine ⟨[], ?_⟩
  repeat' (first
    | (with_reducible refine Side.mk ?_
       (try dsimp only [cu, joinT, ckTys, gts, loK, hiK, Prod.eta, List.nil_append])
       first
       | (done)
       | (with_reducible rfl)
       | (omega)
       | (exact Eq.refl _)
       | (simp only [List.length_append, List.length_cons, List.length_nil]; omega)
       | (assumption)
       | (have := decR_len s rows; omega))
    | (conv => whnf
       first
        | done
        | exact trivial
        | with_reducible refine w_andS ?_ ?_
        | with_reducible refine w_andL ?_ ?_
        | with_reducible refine w_kern (by kernel_rfl) ?_
        | with_reducible refine w_true ?_
        | with_reducible refine w_nd ?_ ?_
        | with_reducible refine w_in ?_ ?_
        | with_reducible refine w_and ?_ ?_
        | (with_reducible refine w_brN (fun h => ?_) (fun h => ?_) <;> (try dsimp only [cu, Prod.eta, List.nil_append] at h) <;> (try (exfalso; omega; done)))
        | (with_reducible refine w_brD (fun h => ?_) (fun h => ?_) <;> (try dsimp only [cu, Prod.eta, List.nil_append] at h) <;> (try (exfalso; omega; done)))
        | (with_reducible refine w_br (fun h => ?_) (fun h => ?_) <;> (try dsimp only [cu, Prod.eta, List.nil_append] at h) <;> (try (exfalso; omega; done)))))
  all_goals (with_reducible refine Leaf.mk ?_
             (try dsimp only [cu, joinT, ckTys, gts, Prod.eta, List.nil_append] at *)
             first
             | (done)
             | (have hd := decR_eq s rows
                simp_all; done)
             | (have hd := decR_eq s rows
                grind))
abbrev tb34 : Tbl := (26, c_decodes_ok) :: tb33
theorem tb34_ok : TblOk Try.prog tb34 := TblOk.cons decodes_ok tb33_ok

abbrev c_encodes_ok : Ct := .fn [.list (.int .i64), .int .i64, .list (.int .i64), .int .i64] (some (fun (raw : List Int) (rows : Int) (l : List Int) (n : Int) => (raw.length ≤ 4611686018427387904) ∧ (l.length ≤ 4611686018427387904))) (fun (raw : List Int) (rows : Int) (l : List Int) (n : Int) => .d .bool true)
set_option maxRecDepth 100000 in
set_option maxHeartbeats 4000000 in
theorem encodes_ok : CtOk Try.prog 7 c_encodes_ok := by
  refine CtOk.fn tb34_ok mixed [] [] rfl rfl ?_
  rintro ⟨(raw : List Int), (rows : Int), (l : List Int), (n : Int), _⟩ hpre
  replace hpre := hpre _ rfl
  dsimp only [cu] at hpre
  obtain ⟨hr, hl⟩ := hpre
  refine ⟨[], ?_⟩
  repeat' (first
    | (with_reducible refine Side.mk ?_
       (try dsimp only [cu, joinT, ckTys, gts, loK, hiK, Prod.eta, List.nil_append])
       first
       | (done)
       | (with_reducible rfl)
       | (omega)
       | (exact Eq.refl _)
       | (simp only [List.length_append, List.length_cons, List.length_nil]; omega)
       | (with_reducible assumption)
       | (exact u64_ne (by decide))
       | (refine ⟨?_, by decide⟩; omega)
       | (have hv := vec_len l 50 (by decide)
          omega))
    | (conv => whnf
       first
        | done
        | exact trivial
        | with_reducible refine w_andS ?_ ?_
        | with_reducible refine w_andL ?_ ?_
        | with_reducible refine w_kern (by kernel_rfl) ?_
        | with_reducible refine w_true ?_
        | with_reducible refine w_nd ?_ ?_
        | with_reducible refine w_in ?_ ?_
        | with_reducible refine w_and ?_ ?_
        | (with_reducible refine w_brN (fun h => ?_) (fun h => ?_) <;> (try dsimp only [cu, Prod.eta, List.nil_append] at h) <;> (try (exfalso; omega; done)))
        | (with_reducible refine w_brD (fun h => ?_) (fun h => ?_) <;> (try dsimp only [cu, Prod.eta, List.nil_append] at h) <;> (try (exfalso; omega; done)))
        | (with_reducible refine w_br (fun h => ?_) (fun h => ?_) <;> (try dsimp only [cu, Prod.eta, List.nil_append] at h) <;> (try (exfalso; omega; done)))))
  all_goals (with_reducible refine Leaf.mk ?_
             (try dsimp only [cu, joinT, ckTys, gts, Prod.eta, List.nil_append] at *)
             first
             | (done)
             | (rfl)
             | (simp_all; done)
             | (exfalso; simp_all; done))
abbrev tb35 : Tbl := (7, c_encodes_ok) :: tb34
theorem tb35_ok : TblOk Try.prog tb35 := TblOk.cons encodes_ok tb34_ok

abbrev c_roundtrip_ok : Ct := .fn [.list (.int .i64), .int .i64, .int .i64] (some (fun (l : List Int) (n : Int) (m : Int) => (l.length ≤ 4611686018427387904))) (fun (l : List Int) (n : Int) (m : Int) => .d .bool true)
set_option maxRecDepth 100000 in
set_option maxHeartbeats 4000000 in
theorem roundtrip_ok : CtOk Try.prog 10 c_roundtrip_ok := by
  refine CtOk.fn tb35_ok mixed [] [] rfl rfl ?_
  rintro ⟨(l : List Int), (n : Int), (m : Int), _⟩ hpre
  replace hpre := hpre _ rfl
  dsimp only [cu] at hpre
  have hl := hpre
  have hn := pick_lt (v := n) (n := 1024) (by decide)
  have hm := pick_lt (v := m) (n := 1024) (by decide)
  have hc := vec_chk l (rows := 1 + pick n 1024) (by omega)
  have hv := vec_len l (1 + pick n 1024) (by omega)
  have he := enc_le (vec l (1 + pick n 1024)) (1 + pick n 1024)
  have h1 := decR_enc hc
  have h2 : encE (vec l (1 + pick n 1024)) (1 + pick n 1024) = 0 := if_pos hc
  refine ⟨[], ?_⟩
  repeat' (first
    | (with_reducible refine Side.mk ?_
       (try dsimp only [cu, joinT, ckTys, gts, loK, hiK, Prod.eta, List.nil_append])
       first
       | (done)
       | (with_reducible rfl)
       | (omega)
       | (exact Eq.refl _)
       | (simp only [List.length_append, List.length_cons, List.length_nil]; omega)
       | (exact u64_ne (by decide))
       | (omega)
       | (exact ⟨by omega, by omega⟩))
    | (conv => whnf
       first
        | done
        | exact trivial
        | with_reducible refine w_andS ?_ ?_
        | with_reducible refine w_andL ?_ ?_
        | with_reducible refine w_kern (by kernel_rfl) ?_
        | with_reducible refine w_true ?_
        | with_reducible refine w_nd ?_ ?_
        | with_reducible refine w_in ?_ ?_
        | with_reducible refine w_and ?_ ?_
        | (with_reducible refine w_brN (fun h => ?_) (fun h => ?_) <;> (try dsimp only [cu, Prod.eta, List.nil_append] at h) <;> (try (exfalso; omega; done)))
        | (with_reducible refine w_brD (fun h => ?_) (fun h => ?_) <;> (try dsimp only [cu, Prod.eta, List.nil_append] at h) <;> (try (exfalso; omega; done)))
        | (with_reducible refine w_br (fun h => ?_) (fun h => ?_) <;> (try dsimp only [cu, Prod.eta, List.nil_append] at h) <;> (try (exfalso; omega; done)))))
  all_goals (with_reducible refine Leaf.mk ?_
             (try dsimp only [cu, joinT, ckTys, gts, Prod.eta, List.nil_append] at *)
             first
             | (done)
             | (rfl)
             | (have h3 := congrArg Prod.snd (decR_other (other := 1 + pick m 1024) hc (by with_reducible assumption))
                first
                | exact decide_eq_true h3
                | exact (decide_eq_true h3).symm)
             | (exfalso
                have h3 := congrArg Prod.snd (decR_other (other := 1 + pick m 1024) hc (by with_reducible assumption))
                have h4 := congrArg Prod.snd h1
                dsimp only at h3 h4
                omega)
             | (exfalso
                have h4 := congrArg Prod.snd h1
                dsimp only at h4
                omega)
             | (exfalso
                have h5 := congrArg Prod.fst h1
                dsimp only at h5
                exact absurd h5.symm (by with_reducible assumption)))
abbrev tb36 : Tbl := (10, c_roundtrip_ok) :: tb35
theorem tb36_ok : TblOk Try.prog tb36 := TblOk.cons roundtrip_ok tb35_ok

end Go.Proofs.Ytojdmkkjamakiaa
