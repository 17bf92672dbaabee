/- ObjstoreArmed. -/
import Derived.Test.YtpjgjkoajoiopaaSpace
namespace Go.Proofs.Ytpjgjkoajoiopaa
open Go.Abs
set_option linter.unusedVariables false
set_option linter.unusedSimpArgs false

noncomputable section
abbrev xN : ByteArray := ⟨#[120]⟩
abbrev D1 : ByteArray := ⟨#[49]⟩
abbrev D2 : ByteArray := ⟨#[50]⟩
abbrev D5 : ByteArray := ⟨#[51, 51, 51, 51, 51]⟩
def wantG : Nat → ByteArray
  | 0 => D1
  | n + 1 => wantG n ++ D2
theorem want_sz : ∀ n, (wantG n).size = n + 1
  | 0 => rfl
  | n + 1 => by rw [wantG, ByteArray.size_append, want_sz n]; rfl
theorem x_perm : permS xN = true := by decide +kernel
theorem at_mem {q : St} (h : okQ q) {o : Obj} (ho : o ∈ q.2.1) : hasS q.2.1 o.1 = true ∧ atQ q o.1 = o ∧ posS q.2.1 o.1 < q.2.1.length := by
  obtain ⟨i, hi, e⟩ := List.mem_iff_getElem.1 ho
  have h1 : (nmS q.2.1)[i]! = o.1 := by rw [nm_get _ hi, getElem!_pos q.2.1 i hi, e]
  have h2 : posS q.2.1 o.1 = i := by
    have h3 : plS (nmS q.2.1) (nmS q.2.1)[i]! = i := plS_idx h.1.1 (i := i) (by rw [nm_len]; exact hi)
    rw [h1] at h3; exact h3
  refine ⟨?_, ?_, by omega⟩
  · simp only [hasS, Bool.and_eq_true, decide_eq_true_eq]
    rw [h2]; exact ⟨hi, h1⟩
  · rw [atQ, h2, getElem!_pos q.2.1 i hi, e]
theorem put_mem {q : St} {n : ByteArray} {o : Obj} (hp : posS q.2.1 n < q.2.1.length) : o ∈ (putQ q n o).2.1 := List.mem_set hp _
theorem known_m {q : St} (h : okQ q) {o : Obj} (ho : o ∈ q.2.1) (hc : q.2.2.1 = false) : knownQ q o.1 = 0 := by
  rw [knownQ, hc, if_neg (by simp), (at_mem h ho).1, if_neg (by simp)]
theorem del_no {q : St} (hq : okQ q) (hc : q.2.2.1 = false) (ha : q.2.2.2.1 = false) : hasS (deleteQ q xN).1.2.1 xN = false := by
  by_cases hk : knownQ q xN = 0
  · have hh := has_lt (known_0 hk).2
    have e : (deleteQ q xN).1.2.1 = q.2.1.eraseIdx (posS q.2.1 xN) := by
      unfold deleteQ
      rw [if_neg (by simpa using hk), doQ_off (r := wL q (q.2.1.eraseIdx (posS q.2.1 xN))) ha rfl]
    rw [e, Bool.eq_false_iff]
    intro h
    have h2 := has_lt h
    have hm : xN ∈ nmS (q.2.1.eraseIdx (posS q.2.1 xN)) := by
      have h4 := nm_get _ h2.1
      rw [h2.2] at h4
      rw [getElem!_pos (nmS (q.2.1.eraseIdx (posS q.2.1 xN))) _ (by rw [nm_len]; exact h2.1)] at h4
      exact List.mem_of_getElem h4
    have ha := hq.1.1
    have hs : nmS q.2.1 = nmS (q.2.1.take (posS q.2.1 xN)) ++ xN :: nmS (q.2.1.drop (posS q.2.1 xN + 1)) := by
      conv => lhs; rw [← List.take_append_drop (posS q.2.1 xN) q.2.1, List.drop_eq_getElem_cons hh.1]
      have h5 := hh.2
      rw [getElem!_pos q.2.1 _ hh.1] at h5
      simp only [nmS, List.map_append, List.map_cons, h5]
    rw [hs] at ha
    have hp := List.pairwise_append.1 ha
    have hp2 := List.pairwise_cons.1 hp.2.1
    rw [List.eraseIdx_eq_take_drop_succ] at hm
    have hm : xN ∈ nmS (q.2.1.take (posS q.2.1 xN)) ∨ xN ∈ nmS (q.2.1.drop (posS q.2.1 xN + 1)) := by
      unfold nmS at hm ⊢
      rw [List.map_append] at hm
      exact List.mem_append.1 hm
    rcases hm with hm | hm
    · exact sLt_irrefl _ (hp.2.2 _ hm _ (List.mem_cons_self ..))
    · exact sLt_irrefl _ (hp2.1 _ hm)
  · have e : (deleteQ q xN).1 = q := by rw [deleteQ, if_pos hk]
    rw [e]
    unfold knownQ at hk
    rw [hc, if_neg (by simp)] at hk
    by_cases h : hasS q.2.1 xN = false
    · exact h
    · rw [if_neg h] at hk; exact absurd rfl hk
def okD (q : St) : Prop := okQ q ∧ q.2.2.1 = false ∧ q.2.2.2.1 = false ∧ q.1 = 1000 ∧ usedS q.2.1 ≤ 150 ∧ q.2.1.length ≤ 30 ∧ hasS q.2.1 xN = false
theorem okD_del {q : St} (h : okP 30 q) : okD (deleteQ q xN).1 := by
  obtain ⟨hq, hc, ha, h1, hu, hl⟩ := h
  have hn := del_no hq hc ha
  have ho := okQ_delete (n := xN) hq
  by_cases hk : knownQ q xN = 0
  · have g := sp_d hk ha
    have := used_nn (deleteQ q xN).1.2.1
    exact ⟨ho, by rw [g.2.1]; exact hc, by rw [g.2.1]; exact ha, by rw [g.2.2.1]; exact h1, by rw [g.2.2.2.2]; omega, by omega, hn⟩
  · have e : (deleteQ q xN).1 = q := by rw [deleteQ, if_pos hk]
    rw [e] at hn ⊢
    exact ⟨hq, hc, ha, h1, by omega, hl, hn⟩
def arI (q : St) (w kk : Int) (i : Nat) : Prop := okQ q ∧ q.1 = 1000 ∧ q.2.2 = (false, true, w, kk) ∧ usedS q.2.1 ≤ 151 + i ∧ (xN, wantG i, (1 : Int)) ∈ q.2.1
theorem ar_c {q : St} {m kk : Int} (h : okD q) (hm : 0 ≤ m ∧ m < 6) (hk : 0 ≤ kk ∧ kk < 4) :
    (createQ q xN).2 = 0 ∧ okQ (createQ q xN).1 ∧ (appendQ (createQ q xN).1 xN D1).2 = 0 ∧ okQ (appendQ (createQ q xN).1 xN D1).1
    ∧ (syncQ (appendQ (createQ q xN).1 xN D1).1 xN).2 = 0 ∧ okQ (syncQ (appendQ (createQ q xN).1 xN D1).1 xN).1
    ∧ (armQ (syncQ (appendQ (createQ q xN).1 xN D1).1 xN).1 m kk).2 = 0 ∧ arI (armQ (syncQ (appendQ (createQ q xN).1 xN D1).1 xN).1 m kk).1 m kk 0 := by
  obtain ⟨hq, hc, ha, h1, hu, hl, hn⟩ := h
  have x1 := okQ_create (n := xN) hq
  have e1 : createQ q xN = (wL q (insL q.2.1 (posS q.2.1 xN) (xN, EMP, 0)), 0) := by
    unfold createQ
    rw [hc, if_neg (by simp), x_perm, if_neg (by simp), hn, if_neg (by simp), if_neg (by omega), doQ_off (r := wL q (insL q.2.1 (posS q.2.1 xN) (xN, EMP, 0))) ha rfl]
  have m1 : (xN, EMP, (0 : Int)) ∈ (createQ q xN).1.2.1 := by rw [e1]; simp [insL]
  have c1 : (createQ q xN).1.2.2 = q.2.2 ∧ (createQ q xN).1.1 = 1000 ∧ usedS (createQ q xN).1.2.1 = usedS q.2.1 ∧ (createQ q xN).2 = 0 := by
    rw [e1]; exact ⟨rfl, h1, ins_used _ _ _, rfl⟩
  generalize createQ q xN = C at x1 m1 c1
  obtain ⟨C, r⟩ := C
  dsimp only at x1 m1 c1 ⊢
  obtain ⟨c2, c3, c4, rfl⟩ := c1
  have hc1 : C.2.2.1 = false := by rw [c2]; exact hc
  have ha1 : C.2.2.2.1 = false := by rw [c2]; exact ha
  have k1 : knownQ C xN = 0 := known_m x1 m1 hc1
  have t1 := at_mem x1 m1
  dsimp only at t1
  have x2 := okQ_append (n := xN) (d := D1) x1
  have e2 : appendQ C xN D1 = (appQ C xN D1, 0) := by
    rw [sp_a k1 ha1, if_neg]
    show ¬ ((1 : Nat) : Int) > _
    rw [c3, c4]; omega
  have e3 : appQ C xN D1 = putQ C xN (xN, wantG 0, 0) := by
    rw [appQ, t1.2.1]; rfl
  have m2 : (xN, wantG 0, (0 : Int)) ∈ (appendQ C xN D1).1.2.1 := by rw [e2, e3]; exact put_mem t1.2.2
  have u2 : usedS (appendQ C xN D1).1.2.1 ≤ 151 := by
    rw [e2, e3]
    show usedS (C.2.1.set _ _) ≤ 151
    rw [used_set t1.2.2]
    have q1 : C.2.1[posS C.2.1 xN]! = (xN, EMP, 0) := t1.2.1
    rw [q1, c4]
    have q2 : (wantG 0).size = 1 := rfl
    have q3 : EMP.size = 0 := rfl
    show _ - ((EMP.size : Nat) : Int) + ((wantG 0).size : Int) ≤ _
    rw [q2, q3]; omega
  have c5 : (appendQ C xN D1).1.2.2 = C.2.2 ∧ (appendQ C xN D1).1.1 = 1000 ∧ (appendQ C xN D1).2 = 0 := by rw [e2, e3]; exact ⟨rfl, c3, rfl⟩
  generalize appendQ C xN D1 = A at x2 m2 u2 c5
  obtain ⟨A, r⟩ := A
  dsimp only at x2 m2 u2 c5 ⊢
  obtain ⟨c6, c7, rfl⟩ := c5
  have hc2 : A.2.2.1 = false := by rw [c6]; exact hc1
  have ha2 : A.2.2.2.1 = false := by rw [c6]; exact ha1
  have k2 : knownQ A xN = 0 := known_m x2 m2 hc2
  have t2 := at_mem x2 m2
  dsimp only at t2
  have x3 := okQ_sync (n := xN) x2
  have e4 : syncQ A xN = (putQ A xN (xN, wantG 0, 1), 0) := by
    rw [syncQ, if_neg (by simpa using k2), t2.2.1]
    exact doQ_off (r := putQ A xN (xN, wantG 0, 1)) ha2 rfl
  have m3 : (xN, wantG 0, (1 : Int)) ∈ (syncQ A xN).1.2.1 := by rw [e4]; exact put_mem t2.2.2
  have u3 : usedS (syncQ A xN).1.2.1 ≤ 151 := by
    rw [e4]
    show usedS (A.2.1.set _ _) ≤ 151
    rw [used_set t2.2.2]
    have q1 : A.2.1[posS A.2.1 xN]! = (xN, wantG 0, 0) := t2.2.1
    rw [q1]
    show _ - ((wantG 0).size : Int) + ((wantG 0).size : Int) ≤ _
    omega
  have c8 : (syncQ A xN).1.2.2.1 = false ∧ (syncQ A xN).1.1 = 1000 ∧ (syncQ A xN).2 = 0 := by rw [e4]; exact ⟨hc2, c7, rfl⟩
  generalize syncQ A xN = S at x3 m3 u3 c8
  obtain ⟨S, r⟩ := S
  dsimp only at x3 m3 u3 c8 ⊢
  obtain ⟨c9, c10, rfl⟩ := c8
  have e5 : armQ S m kk = ((S.1, S.2.1, S.2.2.1, true, m, kk), 0) := by
    rw [armQ, c9, if_neg (by simp), if_neg (by omega)]
  have x4 := okQ_arm (n := m) (k := kk) x3 (by omega) (by omega)
  rw [e5] at x4 ⊢
  refine ⟨rfl, x1, rfl, x2, rfl, x3, rfl, x4, c10, ?_, by show usedS S.2.1 ≤ _; omega, m3⟩
  show (S.2.2.1, true, m, kk) = _
  rw [c9]
theorem ar_round {q : St} {w kk : Int} {i : Nat} (h : arI q w kk i) (hw : 0 < w) (hi : i ≤ 100) : createQ q xN = (q, 5) ∧ (appendQ q xN D2).2 = 0 ∧ arI (appendQ q xN D2).1 (w - 1) kk (i + 1) := by
  obtain ⟨hq, h1, h2, hu, hm⟩ := h
  have hc : q.2.2.1 = false := by rw [h2]
  have t := at_mem hq hm
  dsimp only at t
  have k := known_m hq hm hc
  have e1 : createQ q xN = (q, 5) := by
    unfold createQ
    rw [hc, if_neg (by simp), x_perm, if_neg (by simp), t.1, if_pos rfl]
  have e2 : appQ q xN D2 = putQ q xN (xN, wantG (i + 1), 1) := by rw [appQ, t.2.1]; rfl
  have e3 : appendQ q xN D2 = (fireQ (putQ q xN (xN, wantG (i + 1), 1)), 0) := by
    rw [appendQ, if_neg (by simpa using k), if_neg, e2, doQ, if_neg]
    · show ¬ (q.2.2.2.1 && decide (q.2.2.2.2.1 - 1 < 0)) = true
      rw [h2]; simp; omega
    · show ¬ ((1 : Nat) : Int) > _
      rw [h1]; omega
  have x2 := okQ_append (n := xN) (d := D2) hq
  rw [e3] at x2 ⊢
  have e4 : fireQ (putQ q xN (xN, wantG (i + 1), 1)) = (q.1, q.2.1.set (posS q.2.1 xN) (xN, wantG (i + 1), 1), false, true, w - 1, kk) := by
    unfold fireQ
    show (if q.2.2.2.1 = true then (q.1, q.2.1.set (posS q.2.1 xN) (xN, wantG (i + 1), 1), q.2.2.1, q.2.2.2.1, q.2.2.2.2.1 - 1, q.2.2.2.2.2) else _) = _
    rw [h2, if_pos rfl]
  rw [e4] at x2 ⊢
  refine ⟨e1, rfl, x2, h1, rfl, ?_, List.mem_set t.2.2 _⟩
  show usedS (q.2.1.set _ _) ≤ _
  rw [used_set t.2.2]
  have q1 : q.2.1[posS q.2.1 xN]! = (xN, wantG i, 1) := t.2.1
  rw [q1]
  show _ - ((wantG i).size : Int) + ((wantG (i + 1)).size : Int) ≤ _
  rw [want_sz, want_sz]; omega
theorem ar_last {q : St} {kk : Int} {i : Nat} (h : arI q 0 kk i) (hk : 0 ≤ kk ∧ kk < 4) (hi : i ≤ 100) : (appendQ q xN D5).2 = 15 ∧ okQ (appendQ q xN D5).1 ∧ okQ (restartQ (appendQ q xN D5).1)
    ∧ (readQ (restartQ (appendQ q xN D5).1) xN).2 = 0 ∧ (readQ (restartQ (appendQ q xN D5).1) xN).1 = (wantG i ++ D5).extract 0 (1 + minI kk (((wantG i ++ D5).size : Int) - 1)).toNat := by
  obtain ⟨hq, h1, h2, hu, hm⟩ := h
  have hc : q.2.2.1 = false := by rw [h2]
  have t := at_mem hq hm
  dsimp only at t
  have k := known_m hq hm hc
  have e2 : appQ q xN D5 = putQ q xN (xN, wantG i ++ D5, 1) := by rw [appQ, t.2.1]
  have hf : fireB (putQ q xN (xN, wantG i ++ D5, 1)) = true := by
    show (q.2.2.2.1 && decide (q.2.2.2.2.1 - 1 < 0)) = true
    rw [h2]; rfl
  have e3 : appendQ q xN D5 = (fallQ (fireQ (putQ q xN (xN, wantG i ++ D5, 1))) kk, 15) := by
    rw [appendQ, if_neg (by simpa using k), if_neg, e2, doQ, if_pos hf]
    · show (fallQ _ q.2.2.2.2.2, (15 : Int)) = _
      rw [h2]
    · show ¬ ((5 : Nat) : Int) > _
      rw [h1]; omega
  have x2 := okQ_append (n := xN) (d := D5) hq
  rw [e3] at x2 ⊢
  have x3 := okQ_restart x2
  refine ⟨rfl, x2, x3, ?_⟩
  have e4 : fireQ (putQ q xN (xN, wantG i ++ D5, 1)) = (q.1, q.2.1.set (posS q.2.1 xN) (xN, wantG i ++ D5, 1), false, true, 0 - 1, kk) := by
    unfold fireQ
    show (if q.2.2.2.1 = true then (q.1, q.2.1.set (posS q.2.1 xN) (xN, wantG i ++ D5, 1), q.2.2.1, q.2.2.2.1, q.2.2.2.2.1 - 1, q.2.2.2.2.2) else _) = _
    rw [h2, if_pos rfl]
  rw [e4] at x3 ⊢
  have hs : (wantG i ++ D5).size = i + 6 := by rw [ByteArray.size_append, want_sz]; rfl
  have hcs : (cutD kk (xN, wantG i ++ D5, 1)).size ≠ 0 := by
    rw [cutD]
    show (if kk < ((wantG i ++ D5).size : Int) - 1 then (wantG i ++ D5).extract 0 (1 + kk).toNat else wantG i ++ D5).size ≠ 0
    split
    · rw [ByteArray.size_extract, hs]; omega
    · omega
  have hm2 : cutO kk (xN, wantG i ++ D5, 1) ∈ fallS (q.2.1.set (posS q.2.1 xN) (xN, wantG i ++ D5, 1)) kk := by
    unfold fallS
    refine List.mem_filter.2 ⟨List.mem_map.2 ⟨_, List.mem_set t.2.2 _, rfl⟩, ?_⟩
    rw [Bool.not_eq_true', Bool.eq_false_iff]
    exact fun p => hcs ((goneC_iff _ _).1 p)
  have t3 := at_mem x3 (o := cutO kk (xN, wantG i ++ D5, 1)) hm2
  have k3 := known_m x3 (o := cutO kk (xN, wantG i ++ D5, 1)) hm2 rfl
  have k3 : knownQ _ xN = 0 := k3
  have t3 := t3.2.1
  have t3 : atQ _ xN = _ := t3
  rw [readQ, if_neg (by simpa using k3), t3]
  refine ⟨rfl, ?_⟩
  show cutD kk (xN, wantG i ++ D5, 1) = _
  rw [cutD]
  show (if kk < ((wantG i ++ D5).size : Int) - 1 then (wantG i ++ D5).extract 0 (1 + kk).toNat else wantG i ++ D5) = _
  unfold minI
  rw [hs]
  split
  · congr 2; split <;> omega
  · rw [show (1 + if ((i + 6 : Nat) : Int) - 1 < kk then ((i + 6 : Nat) : Int) - 1 else kk).toNat = (wantG i ++ D5).size by rw [hs]; split <;> omega, ByteArray.extract_zero_size]
theorem dl_nil {q : St} {n : ByteArray} (e : q.2.1 = []) : (deleteQ q n).1.2.1 = [] := by
  have h : knownQ q n ≠ 0 := by unfold knownQ; rw [e]; split <;> simp [has_nil]
  rw [deleteQ, if_pos h]; exact e
theorem ar_f {q : St} (h : okP 30 q) (e : q.2.1 = []) : okQ (deleteQ (q.1, [], q.2.2) xN).1 ∧ okD ((deleteQ (q.1, [], q.2.2) xN).1.1, [], (deleteQ (q.1, [], q.2.2) xN).1.2.2) := by
  rw [nil_eq e, nil_eq (dl_nil e)]
  exact ⟨(okD_del h).1, okD_del h⟩
theorem ar_round2 {q : St} {w kk i : Int} (h : arI q (w - i) kk i.toNat) (h0 : 0 ≤ i ∧ i ≤ w) (hw : w < 6) (hi : i < w) :
    (createQ q xN).2 = 5 ∧ okQ (createQ q xN).1 ∧ (appendQ (createQ q xN).1 xN D2).2 = 0 ∧ okQ (appendQ (createQ q xN).1 xN D2).1 ∧ arI (appendQ (createQ q xN).1 xN D2).1 (w - (i + 1)) kk (i + 1).toNat := by
  have g := ar_round h (by omega) (by omega)
  rw [g.1]
  refine ⟨rfl, h.1, g.2.1, g.2.2.1, ?_⟩
  have g2 := g.2.2
  rw [show w - (i + 1) = w - i - 1 by omega, show (i + 1).toNat = i.toNat + 1 by omega]
  exact g2
theorem ar_last2 {q : St} {w kk i : Int} (h : arI q (w - i) kk i.toNat) (h0 : 0 ≤ i ∧ i ≤ w) (hw : w < 6) (hk : 0 ≤ kk ∧ kk < 4) (hi : ¬ i < w) : (appendQ q xN D5).2 = 15 ∧ okQ (appendQ q xN D5).1 ∧ okQ (restartQ (appendQ q xN D5).1)
    ∧ (readQ (restartQ (appendQ q xN D5).1) xN).2 = 0 ∧ (readQ (restartQ (appendQ q xN D5).1) xN).1 = (wantG w.toNat ++ D5).extract 0 (1 + minI kk (((wantG w.toNat ++ D5).size : Int) - 1)).toNat := by
  obtain rfl : i = w := by omega
  rw [Int.sub_self] at h
  exact ar_last h hk (by omega)
theorem want_in {w kk : Int} (h0 : 0 ≤ w) (hw : w < 6) (hk : 0 ≤ kk ∧ kk < 4) : (wantG w.toNat).size ≤ 6 ∧ (wantG w.toNat ++ D5).size ≤ 11 ∧ 6 ≤ (wantG w.toNat ++ D5).size ∧ 0 ≤ minI kk (((wantG w.toNat ++ D5).size : Int) - 1) ∧ 1 + minI kk (((wantG w.toNat ++ D5).size : Int) - 1) ≤ ((wantG w.toNat ++ D5).size : Int) ∧ minI kk (((wantG w.toNat ++ D5).size : Int) - 1) ≤ 3 := by
  have h1 := want_sz w.toNat
  have h2 : (wantG w.toNat ++ D5).size = (wantG w.toNat).size + 5 := ByteArray.size_append
  unfold minI
  refine ⟨by omega, by omega, by omega, ?_, ?_, ?_⟩ <;> split <;> omega
theorem fl_no {q : St} {n : ByteArray} (h : (createQ q n).2 = 0) (h2 : (false || decide ((createQ q n).2 = 0)) = false) : False := by
  rw [decide_eq_true h] at h2; cases h2
theorem tf_no {P : Prop} (h : true = false) : P := by cases h

abbrev c_armed_law : Ct := .fn [.list (.int .i64), .int .i64, .int .i64] (some (fun (l : List Int) (n : Int) (k : Int) => (l.length ≤ 9223372036854775807))) (fun (l : List Int) (n : Int) (k : Int) => .d .bool true)
set_option maxRecDepth 100000 in
set_option maxHeartbeats 4000000 in
theorem armed_law : CtOk Try.prog 7 c_armed_law := by
  refine CtOk.fn tb56_ok mixed [] [] rfl rfl ?_
  rintro ⟨(l : List Int), (n : Int), (k : Int), _⟩ hpre
  replace hpre := hpre _ rfl
  dsimp only [cu] at hpre
  have hl := hpre
  obtain ⟨hF, ho⟩ := fill_ok2 (l := l) hl
  have hp1 := pick_lt (v := n) (n := 6) (by omega)
  have hp2 := pick_lt (v := k) (n := 4) (by omega)
  have hq0 := hF.1
  have d1 := okD_del hF
  have d0 := d1.1
  have a1 := ar_c d1 hp1 hp2
  have dF := fun e => ar_f hF (ho e)
  have dF0 := fun e => (dF e).2.1
  have aF := fun e => ar_c (dF e).2 hp1 hp2
  have hwi := want_in hp1.1 hp1.2 hp2
  refine ⟨[(0, 18, LA.mk [.sl 9 (.int .i64), .row 0 [.val (.int .i64), .owb tObj 42, .val .bool, .val .bool, .val (.int .i64), .val (.int .i64)]] (fun y => Tag 23 ∧ cu [.int .i64, .int .i64, .pair .bool (.list tObj), .bool, .bool, .int .i64, .int .i64] (fun (i : Int) (c : Int) (o : Bool × List Obj) (cr : Bool) (ar : Bool) (w : Int) (kp : Int) => (0 ≤ i ∧ i ≤ pick n 6) ∧ (arI (c, o.2, cr, ar, w, kp) (pick n 6 - i) (pick k 4) i.toNat) ∧ (o.1 = true)) y) (cu [.int .i64, .int .i64, .pair .bool (.list tObj), .bool, .bool, .int .i64, .int .i64] (fun (i : Int) (c : Int) (o : Bool × List Obj) (cr : Bool) (ar : Bool) (w : Int) (kp : Int) => (pick n 6 - i).toNat)) (cu [.int .i64, .int .i64, .pair .bool (.list tObj), .bool, .bool, .int .i64, .int .i64] (fun (i : Int) (c : Int) (o : Bool × List Obj) (cr : Bool) (ar : Bool) (w : Int) (kp : Int) => ([] : List (Nat × Nat × LA))))), (0, 36, LA.mk [.sl 14 (.int .i64), .sl 13 .str] (fun y => Tag 24 ∧ cu [.int .i64, .str] (fun (j : Int) (v : ByteArray) => (0 ≤ j ∧ j ≤ pick n 6) ∧ (v = wantG j.toNat)) y) (cu [.int .i64, .str] (fun (j : Int) (v : ByteArray) => (pick n 6 - j).toNat)) (cu [.int .i64, .str] (fun (j : Int) (v : ByteArray) => ([] : List (Nat × Nat × LA)))))], ?_⟩
  repeat' (first
    | (
 with_reducible refine Side.mk ⟨(⟨⟩ : Tag 23), ?_⟩
 dsimp only [cu, joinT, ckTys, gts, Prod.eta, List.nil_append]
 refine ⟨?_, ?_, ?_⟩
 · omega
 · first
   | (
  (try dsimp only [toQ, Prod.eta])
  first
  | (
   rw [Int.sub_zero, Int.toNat_zero]
   first
   | (with_reducible exact a1.2.2.2.2.2.2.2)
   | (with_reducible exact (aF (by assumption)).2.2.2.2.2.2.2))
  | (with_reducible exact (sa (by assumption)).2.2.2.2))
 · with_reducible rfl)
    | (
 with_reducible refine Side.mk ⟨(⟨⟩ : Tag 24), ?_⟩
 dsimp only [cu, joinT, ckTys, gts, Prod.eta, List.nil_append]
 refine ⟨?_, ?_⟩
 · omega
 · first
   | (with_reducible rfl)
   | (rfl)
   | (
  rw [hv, show (j + 1).toNat = j.toNat + 1 by omega]
  rfl))
    | (
 with_reducible refine Side.mk ?_
 (try dsimp only [cu, joinT, ckTys, gts, loK, hiK, Prod.eta, List.nil_append])
 first
 | (done)
 | (with_reducible rfl)
 | (omega)
 | (exact Eq.refl _)
 | (simp only [List.length_append, List.length_cons, List.length_nil]; omega)
 | (with_reducible assumption)
 | (exact u64_ne (by omega))
 | (with_reducible exact hq0)
 | (
  (try dsimp only [toQ, Prod.eta])
  first
  | (with_reducible exact ⟨hq0, tf_no⟩)
  | (with_reducible exact ⟨okQ_nil hq0 (ho (by assumption)), fun _ => rfl⟩)
  | (with_reducible exact ⟨d0, tf_no, by decide⟩)
  | (with_reducible exact ⟨d0, tf_no⟩)
  | (with_reducible exact okQ_b d0)
  | (with_reducible exact okQ_as d0)
  | (with_reducible exact ⟨dF0 (by assumption), tf_no, by decide⟩)
  | (with_reducible exact ⟨dF0 (by assumption), tf_no⟩)
  | (with_reducible exact okQ_b dF0 (by assumption))
  | (with_reducible exact okQ_as dF0 (by assumption))
  | (with_reducible exact ⟨a1.2.1, tf_no, by decide⟩)
  | (with_reducible exact ⟨a1.2.1, tf_no⟩)
  | (with_reducible exact okQ_b a1.2.1)
  | (with_reducible exact okQ_as a1.2.1)
  | (with_reducible exact ⟨a1.2.2.2.1, tf_no, by decide⟩)
  | (with_reducible exact ⟨a1.2.2.2.1, tf_no⟩)
  | (with_reducible exact okQ_b a1.2.2.2.1)
  | (with_reducible exact okQ_as a1.2.2.2.1)
  | (with_reducible exact ⟨a1.2.2.2.2.2.1, tf_no, by decide⟩)
  | (with_reducible exact ⟨a1.2.2.2.2.2.1, tf_no⟩)
  | (with_reducible exact okQ_b a1.2.2.2.2.2.1)
  | (with_reducible exact okQ_as a1.2.2.2.2.2.1)
  | (with_reducible exact ⟨(aF (by assumption)).2.1, tf_no, by decide⟩)
  | (with_reducible exact ⟨(aF (by assumption)).2.1, tf_no⟩)
  | (with_reducible exact okQ_b (aF (by assumption)).2.1)
  | (with_reducible exact okQ_as (aF (by assumption)).2.1)
  | (with_reducible exact ⟨(aF (by assumption)).2.2.2.1, tf_no, by decide⟩)
  | (with_reducible exact ⟨(aF (by assumption)).2.2.2.1, tf_no⟩)
  | (with_reducible exact okQ_b (aF (by assumption)).2.2.2.1)
  | (with_reducible exact okQ_as (aF (by assumption)).2.2.2.1)
  | (with_reducible exact ⟨(aF (by assumption)).2.2.2.2.2.1, tf_no, by decide⟩)
  | (with_reducible exact ⟨(aF (by assumption)).2.2.2.2.2.1, tf_no⟩)
  | (with_reducible exact okQ_b (aF (by assumption)).2.2.2.2.2.1)
  | (with_reducible exact okQ_as (aF (by assumption)).2.2.2.2.2.1)
  | (with_reducible exact ⟨hq, tf_no, by decide⟩)
  | (with_reducible exact ⟨hq, tf_no⟩)
  | (with_reducible exact okQ_b hq)
  | (with_reducible exact okQ_as hq)
  | (with_reducible exact ⟨(sa (by assumption)).2.1, tf_no, by decide⟩)
  | (with_reducible exact ⟨(sa (by assumption)).2.1, tf_no⟩)
  | (with_reducible exact okQ_b (sa (by assumption)).2.1)
  | (with_reducible exact okQ_as (sa (by assumption)).2.1)
  | (with_reducible exact ⟨(sl (by assumption)).2.1, tf_no, by decide⟩)
  | (with_reducible exact ⟨(sl (by assumption)).2.1, tf_no⟩)
  | (with_reducible exact okQ_b (sl (by assumption)).2.1)
  | (with_reducible exact okQ_as (sl (by assumption)).2.1)
  | (with_reducible exact ⟨(sl (by assumption)).2.2.1, tf_no, by decide⟩)
  | (with_reducible exact ⟨(sl (by assumption)).2.2.1, tf_no⟩)
  | (with_reducible exact okQ_b (sl (by assumption)).2.2.1)
  | (with_reducible exact okQ_as (sl (by assumption)).2.2.1)
  | (with_reducible exact ⟨dF0 (by assumption), fun _ => rfl, by decide⟩))
 | (
  unfold minI
  split <;> omega))
    | (conv => whnf
       first
        | done
        | exact trivial
        | with_reducible refine NilBr.mk (fun h => ?_) ?_
        | with_reducible first | refine w_andS ?_ ?_ | refine w_andL ?_ ?_ | refine w_kern (by kernel_rfl) ?_ | refine w_true ?_ | refine w_nd ?_ ?_ | refine w_in ?_ ?_ | refine w_and ?_ ?_
        | ((with_reducible first | refine w_brN (fun h => ?_) (fun h => ?_) | refine w_brD (fun h => ?_) (fun h => ?_) | refine w_br (fun h => ?_) (fun h => ?_)) <;> (try dsimp only [cu, Prod.eta, List.nil_append] at h) <;> (try (exfalso; first | omega | with_reducible contradiction | with_reducible exact fl_no (aF (by assumption)).1 (by assumption) | with_reducible exact absurd a1.1 (by assumption) | with_reducible exact absurd a1.2.2.1 (by assumption) | with_reducible exact absurd a1.2.2.2.2.1 (by assumption) | with_reducible exact absurd a1.2.2.2.2.2.2.1 (by assumption) | with_reducible exact absurd (aF (by assumption)).1 (by assumption) | with_reducible exact absurd (aF (by assumption)).2.2.1 (by assumption) | with_reducible exact absurd (aF (by assumption)).2.2.2.2.1 (by assumption) | with_reducible exact absurd (aF (by assumption)).2.2.2.2.2.2.1 (by assumption) | with_reducible exact absurd (sa (by assumption)).1 (by assumption) | with_reducible exact absurd (sa (by assumption)).2.2.1 (by assumption) | with_reducible exact absurd (sl (by assumption)).1 (by assumption) | with_reducible exact absurd (sl (by assumption)).2.2.2.1 (by assumption); done)))
        | (
 intro yy (hy : Tag 23 ∧ _)
 obtain ⟨(i : Int), (c : Int), (o : Bool × List Obj), (cr : Bool), (ar : Bool), (w : Int), (kp : Int), _⟩ := yy
 replace hy := hy.2
 dsimp only [cu, joinT, ckTys, gts, Prod.eta, List.nil_append] at hy
 obtain ⟨hi, hA, ho⟩ := hy
 obtain ⟨b0, lo⟩ := o
 dsimp only at ho hA
 subst ho
 have sa := ar_round2 hA hi hp1.2
 have sl := ar_last2 hA hi hp1.2 hp2
 have hq := hA.1)
        | (
 intro yy (hy : Tag 24 ∧ _)
 obtain ⟨(j : Int), (v : ByteArray), _⟩ := yy
 replace hy := hy.2
 dsimp only [cu, joinT, ckTys, gts, Prod.eta, List.nil_append] at hy
 obtain ⟨hj, hv⟩ := hy
 have hw := want_sz j.toNat
 have hvs : v.size ≤ 6 := by rw [hv, hw]; omega
 have hv5 : (v ++ ⟨#[51, 51, 51, 51, 51]⟩).size = v.size + 5 := ByteArray.size_append
 have s2 : (⟨#[50]⟩ : ByteArray).size = 1 := rfl
 have s5 : (⟨#[51, 51, 51, 51, 51]⟩ : ByteArray).size = 5 := rfl)))
  all_goals (
 with_reducible refine Leaf.mk ?_
 (try dsimp only [cu, joinT, ckTys, gts, Prod.eta, List.nil_append] at *)
 first
 | (done)
 | (with_reducible rfl)
 | (
  have e : v = wantG (pick n 6).toNat := by rw [hv, show j = pick n 6 by omega]
  subst e
  (try dsimp only [toQ, Prod.eta])
  with_reducible exact decide_eq_true (sl (by assumption)).2.2.2.2))
abbrev tb57 : Tbl := (7, c_armed_law) :: tb56
theorem tb57_ok : TblOk Try.prog tb57 := TblOk.cons armed_law tb56_ok

end

end Go.Proofs.Ytpjgjkoajoiopaa
