/- Walks of the laws. -/
import Derived.Test.YthomnlfmamagcaaLaws
namespace Go.Proofs.Ythomnlfmamagcaa
open Go.Abs
set_option linter.unusedVariables false
set_option linter.unusedSimpArgs false


theorem encWB_ge {w : ByteArray} : ∀ (W : List ByteArray) (s : ByteArray), s.size ≤ (encWB s W).size ∧ (w ∈ W → w.size ≤ (encWB s W).size)
  | [], s => ⟨Nat.le_refl _, fun h => by simp at h⟩
  | v :: W, s => by
    obtain ⟨h1, h2⟩ := encWB_ge (w := w) W (s ++ (ofInts (put (v.size : Int)) ++ v))
    simp only [ByteArray.size_append] at h1
    refine ⟨?_, fun h => ?_⟩
    · show s.size ≤ (encWB (s ++ (ofInts (put (v.size : Int)) ++ v)) W).size
      omega
    · show w.size ≤ (encWB (s ++ (ofInts (put (v.size : Int)) ++ v)) W).size
      rcases List.mem_cons.1 h with q | q
      · subst q; omega
      · exact h2 q
theorem encDict_ge {a : List ByteArray} (ha : a.length ≤ 4096) : 1 ≤ (encDict a).size ∧ ∀ w, w ∈ a → w.size ≤ (encDict a).size := by
  rw [encDict, if_neg (by omega), ByteArray.size_append]
  refine ⟨?_, fun w hw => ?_⟩
  · have h1 := (encWB_ge (w := ⟨#[]⟩) (wordsS a) (ofInts (put ((wordsS a).length : Int)))).1
    rw [ofInts_len] at h1
    have := put_len ((wordsS a).length : Int)
    omega
  · have := (encWB_ge (w := w) (wordsS a) (ofInts (put ((wordsS a).length : Int)))).2 ((wordsS_mem a w).2 hw)
    omega
theorem dec_big {s : ByteArray} {n : Int} (h : (decDict s n).2 = 0) (hs : s.size ≤ 1073741824) : ∀ w, w ∈ (decDict s n).1 → w.size ≤ 1073741824 := by
  have hu := dict_uniq (s := s) (n := n) (a := (decDict s n).1) (by rw [← h])
  have hl := dec_len s n
  intro w hw
  have := (encDict_ge hl).2 w hw
  rw [hu.1] at this; omega
theorem encDict_small {l : List Int} : (encDict (kList l)).size ≤ 40000 := by
  obtain ⟨h1, h2⟩ := kList_ok l
  unfold encDict
  rw [if_neg (by omega), ByteArray.size_append]
  have g1 := encWB_size (B := 3) (wordsS (kList l)) (ofInts (put ((wordsS (kList l)).length : Int))) (wordsS_size h1)
  have g2 := put_len ((wordsS (kList l)).length : Int)
  have g3 := packR_size (codesS (kList l)) (wdN ((wordsS (kList l)).length : Int))
  have g4 := wordsS_len (kList l)
  rw [ofInts_len] at g1
  omega
theorem chr0 (n : Int) : (ofInts [n]).size = 1 := rfl
theorem chr1 (n : UInt8) : ByteArray.size ⟨#[n]⟩ = 1 := rfl
theorem cut_size (s : ByteArray) (a b : Nat) : (s.extract a b).size ≤ s.size := by simp; omega

abbrev c_mutations_ok : Ct := .fn [.list (.int .i64), .int .i64, .int .u8, .int .i64] (some (fun (l : List Int) (p : Int) (c : Int) (n : Int) => (l.length ≤ 9223372036854775807))) (fun (l : List Int) (p : Int) (c : Int) (n : Int) => .d .bool true)
set_option maxRecDepth 100000 in
set_option maxHeartbeats 4000000 in
theorem mutations_ok : CtOk Try.prog 7 c_mutations_ok := by
  refine CtOk.fn tb40_ok mixed [] [] rfl rfl ?_
  rintro ⟨(l : List Int), (p : Int), (c : Int), (n : Int), _⟩ hpre
  replace hpre := hpre _ rfl
  dsimp only [cu] at hpre
  have hl := hpre
  refine ⟨[], ?_⟩
  repeat' (first
    | (with_reducible refine Side.mk ?_
       (try dsimp only [cu, joinT, ckTys, gts, loK, hiK, Prod.eta, List.nil_append])
       first
       | (done)
       | (with_reducible rfl)
       | (omega)
       | (exact Eq.refl _)
       | (simp only [List.length_append, List.length_cons, List.length_nil]; omega)
       | (assumption)
       | (exact kList_big l)
       | (have hes := encDict_small (l := l)
          have hkl := (kList_ok l).2
          have hge := (encDict_ge (a := kList l) (by omega)).1
          exact ⟨kList_big l, by omega⟩)
       | (exact u64_ne (by omega))
       | (have hes := encDict_small (l := l)
          have hkl := (kList_ok l).2
          have hge := (encDict_ge (a := kList l) (by omega)).1
          exact u64_ne (by omega))
       | (have hes := encDict_small (l := l)
          have hkl := (kList_ok l).2
          have hge := (encDict_ge (a := kList l) (by omega)).1
          have hp := pick_lt (v := p) (n := ((encDict (kList l)).size : Int) + 1) (by omega)
          omega)
       | (have hes := encDict_small (l := l)
          have hkl := (kList_ok l).2
          have hge := (encDict_ge (a := kList l) (by omega)).1
          have hp := pick_lt (v := p) (n := ((encDict (kList l)).size : Int) + 1) (by omega)
          have hmi : minI ((encDict (kList l)).size : Int) (pick p (((encDict (kList l)).size : Int) + 1) + 1) ≤ (encDict (kList l)).size ∧ 0 ≤ minI ((encDict (kList l)).size : Int) (pick p (((encDict (kList l)).size : Int) + 1) + 1) := by unfold minI; split <;> omega
          omega)
       | (have hes := encDict_small (l := l)
          have hkl := (kList_ok l).2
          have hge := (encDict_ge (a := kList l) (by omega)).1
          simp only [ByteArray.size_append, chr0]
          omega)
       | (have hes := encDict_small (l := l)
          have hkl := (kList_ok l).2
          have hge := (encDict_ge (a := kList l) (by omega)).1
          have hp := pick_lt (v := p) (n := ((encDict (kList l)).size : Int) + 1) (by omega)
          simp only [ByteArray.size_append, chr0, chr1, ByteArray.size_extract]
          omega)
       | (have hes := encDict_small (l := l)
          have hkl := (kList_ok l).2
          have hge := (encDict_ge (a := kList l) (by omega)).1
          have hp := pick_lt (v := p) (n := ((encDict (kList l)).size : Int) + 1) (by omega)
          have hmi : minI ((encDict (kList l)).size : Int) (pick p (((encDict (kList l)).size : Int) + 1) + 1) ≤ (encDict (kList l)).size ∧ 0 ≤ minI ((encDict (kList l)).size : Int) (pick p (((encDict (kList l)).size : Int) + 1) + 1) := by unfold minI; split <;> omega
          simp only [ByteArray.size_append, chr0, chr1, ByteArray.size_extract]
          omega)
       | (have hes := encDict_small (l := l)
          have hkl := (kList_ok l).2
          have hge := (encDict_ge (a := kList l) (by omega)).1
          have hq := pick_lt (v := n) (n := 5) (by omega)
          omega))
    | (conv => whnf
       first
        | done
        | exact trivial
        | with_reducible refine NilBr.mk (fun h => ?_) ?_
        | with_reducible refine w_andS ?_ ?_
        | with_reducible refine w_andL ?_ ?_
        | with_reducible refine w_kern (by kernel_rfl) ?_
        | with_reducible refine w_true ?_
        | with_reducible refine w_nd ?_ ?_
        | with_reducible refine w_in ?_ ?_
        | with_reducible refine w_and ?_ ?_
        | (with_reducible refine w_brN (fun h => ?_) (fun h => ?_) <;> (try dsimp only [cu, Prod.eta, List.nil_append] at h) <;> (try (exfalso; omega; done)))
        | (with_reducible refine w_brD (fun h => ?_) (fun h => ?_) <;> (try dsimp only [cu, Prod.eta, List.nil_append] at h) <;> (try (exfalso; omega; done)))
        | (with_reducible refine w_br (fun h => ?_) (fun h => ?_) <;> (try dsimp only [cu, Prod.eta, List.nil_append] at h) <;> (try (exfalso; omega; done)))))
  all_goals (with_reducible refine Leaf.mk ?_
             (try dsimp only [cu, joinT, ckTys, gts, Prod.eta, List.nil_append] at *)
             first
             | (done)
             | (rfl)
             | (simp_all; done))
abbrev tb41 : Tbl := (7, c_mutations_ok) :: tb40
theorem tb41_ok : TblOk Try.prog tb41 := TblOk.cons mutations_ok tb40_ok

abbrev c_unique_ok : Ct := .fn [.list (.int .i64), .int .i64, .int .u8] (some (fun (l : List Int) (p : Int) (c : Int) => (l.length ≤ 9223372036854775807))) (fun (l : List Int) (p : Int) (c : Int) => .d .bool true)
set_option maxRecDepth 100000 in
set_option maxHeartbeats 4000000 in
theorem unique_ok : CtOk Try.prog 9 c_unique_ok := by
  refine CtOk.fn tb41_ok mixed [] [] rfl rfl ?_
  rintro ⟨(l : List Int), (p : Int), (c : Int), _⟩ hpre
  replace hpre := hpre _ rfl
  dsimp only [cu] at hpre
  have hl := hpre
  refine ⟨[], ?_⟩
  repeat' (first
    | (with_reducible refine Side.mk ?_
       (try dsimp only [cu, joinT, ckTys, gts, loK, hiK, Prod.eta, List.nil_append])
       first
       | (done)
       | (with_reducible rfl)
       | (omega)
       | (exact Eq.refl _)
       | (simp only [List.length_append, List.length_cons, List.length_nil]; omega)
       | (assumption)
       | (exact kList_big l)
       | (have hes := encDict_small (l := l)
          have hkl := (kList_ok l).2
          have hge := (encDict_ge (a := kList l) (by omega)).1
          exact ⟨kList_big l, by omega⟩)
       | (have hes := encDict_small (l := l)
          have hkl := (kList_ok l).2
          have hge := (encDict_ge (a := kList l) (by omega)).1
          exact u64_ne (by omega))
       | (have hes := encDict_small (l := l)
          have hkl := (kList_ok l).2
          have hge := (encDict_ge (a := kList l) (by omega)).1
          have hp := pick_lt (v := p) (n := ((encDict (kList l)).size : Int)) (by omega)
          omega)
       | (have hes := encDict_small (l := l)
          have hkl := (kList_ok l).2
          have hge := (encDict_ge (a := kList l) (by omega)).1
          have hp := pick_lt (v := p) (n := ((encDict (kList l)).size : Int)) (by omega)
          simp only [ByteArray.size_append, chr0, chr1, ByteArray.size_extract]
          omega)
       | (have hes := encDict_small (l := l)
          have hkl := (kList_ok l).2
          have hge := (encDict_ge (a := kList l) (by omega)).1
          have hp := pick_lt (v := p) (n := ((encDict (kList l)).size : Int)) (by omega)
          have hbig : ((encDict (kList l)).extract 0 (pick p ((encDict (kList l)).size : Int)).toNat ++ ⟨#[UInt8.ofNat (c : Int).toNat]⟩ ++ (encDict (kList l)).extract (pick p ((encDict (kList l)).size : Int) + 1).toNat (encDict (kList l)).size).size ≤ 1073741824 := by
            simp only [ByteArray.size_append, chr1, ByteArray.size_extract]
            omega
          have h0 : (decDict ((encDict (kList l)).extract 0 (pick p ((encDict (kList l)).size : Int)).toNat ++ ⟨#[UInt8.ofNat (c : Int).toNat]⟩ ++ (encDict (kList l)).extract (pick p ((encDict (kList l)).size : Int) + 1).toNat (encDict (kList l)).size) ((kList l).length : Int)).2 = 0 := by first | assumption | omega | (simp_all; done)
          have hu := dict_uniq (s := ((encDict (kList l)).extract 0 (pick p ((encDict (kList l)).size : Int)).toNat ++ ⟨#[UInt8.ofNat (c : Int).toNat]⟩ ++ (encDict (kList l)).extract (pick p ((encDict (kList l)).size : Int) + 1).toNat (encDict (kList l)).size)) (n := ((kList l).length : Int)) (a := (decDict ((encDict (kList l)).extract 0 (pick p ((encDict (kList l)).size : Int)).toNat ++ ⟨#[UInt8.ofNat (c : Int).toNat]⟩ ++ (encDict (kList l)).extract (pick p ((encDict (kList l)).size : Int) + 1).toNat (encDict (kList l)).size) ((kList l).length : Int)).1) (by rw [← h0])
          have hdl := dec_len ((encDict (kList l)).extract 0 (pick p ((encDict (kList l)).size : Int)).toNat ++ ⟨#[UInt8.ofNat (c : Int).toNat]⟩ ++ (encDict (kList l)).extract (pick p ((encDict (kList l)).size : Int) + 1).toNat (encDict (kList l)).size) ((kList l).length : Int)
          exact ⟨dec_big h0 hbig, by omega⟩))
    | (conv => whnf
       first
        | done
        | exact trivial
        | with_reducible refine NilBr.mk (fun h => ?_) ?_
        | with_reducible refine w_andS ?_ ?_
        | with_reducible refine w_andL ?_ ?_
        | with_reducible refine w_kern (by kernel_rfl) ?_
        | with_reducible refine w_true ?_
        | with_reducible refine w_nd ?_ ?_
        | with_reducible refine w_in ?_ ?_
        | with_reducible refine w_and ?_ ?_
        | (with_reducible refine w_brN (fun h => ?_) (fun h => ?_) <;> (try dsimp only [cu, Prod.eta, List.nil_append] at h) <;> (try (exfalso; omega; done)))
        | (with_reducible refine w_brD (fun h => ?_) (fun h => ?_) <;> (try dsimp only [cu, Prod.eta, List.nil_append] at h) <;> (try (exfalso; omega; done)))
        | (with_reducible refine w_br (fun h => ?_) (fun h => ?_) <;> (try dsimp only [cu, Prod.eta, List.nil_append] at h) <;> (try (exfalso; omega; done)))))
  all_goals (with_reducible refine Leaf.mk ?_
             (try dsimp only [cu, joinT, ckTys, gts, Prod.eta, List.nil_append] at *)
             first
             | (done)
             | (rfl)
             | (have hes := encDict_small (l := l)
                have hkl := (kList_ok l).2
                have hge := (encDict_ge (a := kList l) (by omega)).1
                have hp := pick_lt (v := p) (n := ((encDict (kList l)).size : Int)) (by omega)
                have h0 : (decDict ((encDict (kList l)).extract 0 (pick p ((encDict (kList l)).size : Int)).toNat ++ ⟨#[UInt8.ofNat (c : Int).toNat]⟩ ++ (encDict (kList l)).extract (pick p ((encDict (kList l)).size : Int) + 1).toNat (encDict (kList l)).size) ((kList l).length : Int)).2 = 0 := by first | assumption | omega | (simp_all; done)
                have hu := dict_uniq (s := ((encDict (kList l)).extract 0 (pick p ((encDict (kList l)).size : Int)).toNat ++ ⟨#[UInt8.ofNat (c : Int).toNat]⟩ ++ (encDict (kList l)).extract (pick p ((encDict (kList l)).size : Int) + 1).toNat (encDict (kList l)).size)) (n := ((kList l).length : Int)) (a := (decDict ((encDict (kList l)).extract 0 (pick p ((encDict (kList l)).size : Int)).toNat ++ ⟨#[UInt8.ofNat (c : Int).toNat]⟩ ++ (encDict (kList l)).extract (pick p ((encDict (kList l)).size : Int) + 1).toNat (encDict (kList l)).size) ((kList l).length : Int)).1) (by rw [← h0])
                simp_all; done)
             | (have hes := encDict_small (l := l)
                have hkl := (kList_ok l).2
                have hge := (encDict_ge (a := kList l) (by omega)).1
                have hp := pick_lt (v := p) (n := ((encDict (kList l)).size : Int)) (by omega)
                have h0 : (decDict ((encDict (kList l)).extract 0 (pick p ((encDict (kList l)).size : Int)).toNat ++ ⟨#[UInt8.ofNat (c : Int).toNat]⟩ ++ (encDict (kList l)).extract (pick p ((encDict (kList l)).size : Int) + 1).toNat (encDict (kList l)).size) ((kList l).length : Int)).2 = 0 := by first | assumption | omega | (simp_all; done)
                have hu := dict_uniq (s := ((encDict (kList l)).extract 0 (pick p ((encDict (kList l)).size : Int)).toNat ++ ⟨#[UInt8.ofNat (c : Int).toNat]⟩ ++ (encDict (kList l)).extract (pick p ((encDict (kList l)).size : Int) + 1).toNat (encDict (kList l)).size)) (n := ((kList l).length : Int)) (a := (decDict ((encDict (kList l)).extract 0 (pick p ((encDict (kList l)).size : Int)).toNat ++ ⟨#[UInt8.ofNat (c : Int).toNat]⟩ ++ (encDict (kList l)).extract (pick p ((encDict (kList l)).size : Int) + 1).toNat (encDict (kList l)).size) ((kList l).length : Int)).1) (by rw [← h0])
                exact absurd hu.1 (by assumption))
             | (have hes := encDict_small (l := l)
                have hkl := (kList_ok l).2
                have hge := (encDict_ge (a := kList l) (by omega)).1
                have hp := pick_lt (v := p) (n := ((encDict (kList l)).size : Int)) (by omega)
                have h0 : (decDict ((encDict (kList l)).extract 0 (pick p ((encDict (kList l)).size : Int)).toNat ++ ⟨#[UInt8.ofNat (c : Int).toNat]⟩ ++ (encDict (kList l)).extract (pick p ((encDict (kList l)).size : Int) + 1).toNat (encDict (kList l)).size) ((kList l).length : Int)).2 = 0 := by first | assumption | omega | (simp_all; done)
                have hu := dict_uniq (s := ((encDict (kList l)).extract 0 (pick p ((encDict (kList l)).size : Int)).toNat ++ ⟨#[UInt8.ofNat (c : Int).toNat]⟩ ++ (encDict (kList l)).extract (pick p ((encDict (kList l)).size : Int) + 1).toNat (encDict (kList l)).size)) (n := ((kList l).length : Int)) (a := (decDict ((encDict (kList l)).extract 0 (pick p ((encDict (kList l)).size : Int)).toNat ++ ⟨#[UInt8.ofNat (c : Int).toNat]⟩ ++ (encDict (kList l)).extract (pick p ((encDict (kList l)).size : Int) + 1).toNat (encDict (kList l)).size) ((kList l).length : Int)).1) (by rw [← h0])
                exact absurd hu.2 (by assumption)))
abbrev tb42 : Tbl := (9, c_unique_ok) :: tb41
theorem tb42_ok : TblOk Try.prog tb42 := TblOk.cons unique_ok tb41_ok

end Go.Proofs.Ythomnlfmamagcaa
