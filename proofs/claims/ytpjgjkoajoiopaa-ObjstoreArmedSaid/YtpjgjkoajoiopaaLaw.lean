/- What a store keeps, and the helpers of the statements. -/
import Derived.Test.YtpjgjkoajoiopaaRStore3
namespace Go.Proofs.Ytpjgjkoajoiopaa
open Go.Abs
set_option linter.unusedVariables false
set_option linter.unusedSimpArgs false


def cutLe (k : Int) (o : Obj) : Prop := (cutD k o).size ≤ o.2.1.size
theorem cutD_le (k : Int) (o : Obj) : (cutD k o).size ≤ o.2.1.size := by
  unfold cutD
  split
  · rw [ByteArray.size_extract]; omega
  · exact Nat.le_refl _
theorem nm_cut (l : List Obj) (k : Int) : nmS (l.map (cutO k)) = nmS l := by
  simp [nmS, cutO, Function.comp_def]
theorem fall_sub (l : List Obj) (k : Int) : (nmS (fallS l k)).Sublist (nmS l) := by
  rw [← nm_cut l k, fallS]
  exact (List.filter_sublist).map _
theorem fall_used : ∀ (l : List Obj) (k : Int), usedS (fallS l k) ≤ usedS l
  | [], k => by simp [fallS, usedS]
  | o :: l, k => by
    have ih := fall_used l k
    have h1 := cutD_le k o
    have h2 := used_nn (fallS l k)
    unfold fallS at ih ⊢
    rw [List.map_cons, List.filter_cons]
    split
    · rw [used_cons, used_cons]
      show ((cutD k o).size : Int) + _ ≤ _
      omega
    · rw [used_cons]; omega
theorem fall_okL {l : List Obj} {k : Int} (h : okL l) : okL (fallS l k) := by
  obtain ⟨h1, h2, h3⟩ := h
  refine ⟨h1.sublist (fall_sub l k), ?_, fun o ho => ?_⟩
  · rw [fallS]; exact Nat.le_trans (List.length_filter_le _ _) (by simpa using h2)
  · rw [fallS, List.mem_filter] at ho
    obtain ⟨p, hp, rfl⟩ := List.mem_map.1 ho.1
    have := h3 p hp
    have := cutD_le k p
    exact ⟨Int.natCast_nonneg _, Int.le_refl _, by show (cutD k p).size ≤ _; omega⟩
theorem okQ_fall {q : St} {m : Int} (h : okQ q) : okQ (fallQ q m) := by
  obtain ⟨h1, h2, h3, h4, h5, h6⟩ := h
  exact ⟨fall_okL h1, h2, Int.le_trans (fall_used _ _) h3, (fun q => by cases q), h5, h6⟩
theorem okQ_do {q r : St} (hq : okQ q) (hr : okL r.2.1) (hu : usedS r.2.1 ≤ q.1) (hs : r.1 = q.1 ∧ r.2.2 = q.2.2) : okQ (doQ q r).1 := by
  obtain ⟨c, l, cr, ar, w, k⟩ := q
  obtain ⟨c', l', rest⟩ := r
  obtain ⟨hs1, hs2⟩ := hs
  dsimp only at hs1 hs2
  subst hs1 hs2
  obtain ⟨h1, h2, h3, h4, h5, h6⟩ := hq
  dsimp only at *
  unfold doQ
  split
  · rename_i hf
    simp only [fireB, Bool.and_eq_true, decide_eq_true_eq] at hf
    have := h4 hf.1
    simp only [fireQ, hf.1, if_true]
    exact ⟨fall_okL h1, h2, Int.le_trans (fall_used _ _) h3, (fun q => by cases q), by show -1 ≤ w - 1 ∧ w - 1 ≤ _; omega, h6⟩
  · rename_i hf
    simp only [fireB, Bool.and_eq_true, decide_eq_true_eq, not_and] at hf
    unfold fireQ
    dsimp only
    split
    · rename_i ha
      have := hf ha
      exact ⟨hr, h2, hu, fun _ => by (try dsimp only); omega, by (try dsimp only); omega, h6⟩
    · exact ⟨hr, h2, hu, h4, h5, h6⟩
theorem used_app (a b : List Obj) : usedS (a ++ b) = usedS a + usedS b := by simp [usedS]
theorem used_split {l : List Obj} {i : Nat} (h : i < l.length) : usedS l = usedS (l.take i) + (l[i]!.2.1.size : Int) + usedS (l.drop (i + 1)) := by
  conv => lhs; rw [← List.take_append_drop i l, used_app, List.drop_eq_getElem_cons h, used_cons]
  rw [getElem!_pos l i h]; omega
theorem used_set {l : List Obj} {i : Nat} (h : i < l.length) (o : Obj) : usedS (l.set i o) = usedS l - (l[i]!.2.1.size : Int) + (o.2.1.size : Int) := by
  rw [used_split h, List.set_eq_take_append_cons_drop, if_pos h, used_app, used_cons]; omega
theorem nm_set {l : List Obj} {i : Nat} (h : i < l.length) {o : Obj} (ho : o.1 = (l[i]!).1) : nmS (l.set i o) = nmS l := by
  rw [nmS, List.map_set, ho, getElem!_pos l i h]
  exact List.ext_getElem (by simp [nmS]) (fun j h1 h2 => by
    rw [List.getElem_set]
    split
    · subst_vars; simp [nmS]
    · simp [nmS])
theorem set_okL {l : List Obj} {i : Nat} {o : Obj} (h : okL l) (hi : i < l.length) (ho : o.1 = (l[i]!).1) (hz : 0 ≤ o.2.2 ∧ o.2.2 ≤ o.2.1.size ∧ o.2.1.size ≤ 1073741824) : okL (l.set i o) := by
  obtain ⟨h1, h2, h3⟩ := h
  exact ⟨by rw [nm_set hi ho]; exact h1, by simpa using h2, fall_z h3 hz i⟩
theorem at_z {l : List Obj} {i : Nat} (h : okL l) (hi : i < l.length) : 0 ≤ (l[i]!).2.2 ∧ (l[i]!).2.2 ≤ (l[i]!).2.1.size ∧ (l[i]!).2.1.size ≤ 1073741824 := h.2.2 _ (by rw [getElem!_pos l i hi]; exact List.getElem_mem _)
theorem known_1 {q : St} {n : ByteArray} (h : ¬ knownQ q n ≠ 0) : posS q.2.1 n < q.2.1.length := (has_lt (known_0 (Decidable.not_not.1 h)).2).1
theorem okQ_put {q : St} {n : ByteArray} {o : Obj} (hq : okQ q) (hp : posS q.2.1 n < q.2.1.length) (ho : o.1 = (atQ q n).1) (hz : 0 ≤ o.2.2 ∧ o.2.2 ≤ o.2.1.size ∧ (o.2.1.size : Int) ≤ (atQ q n).2.1.size) : okQ (doQ q (putQ q n o)).1 := by
  have hz0 := at_z hq.1 hp
  have hz0 : 0 ≤ (atQ q n).2.2 ∧ (atQ q n).2.2 ≤ (atQ q n).2.1.size ∧ (atQ q n).2.1.size ≤ 1073741824 := hz0
  refine okQ_do hq (set_okL hq.1 hp ho ⟨hz.1, hz.2.1, by omega⟩) ?_ ⟨rfl, rfl⟩
  show usedS (q.2.1.set _ o) ≤ _
  rw [used_set hp]
  have := hq.2.2.1
  have : ((q.2.1[posS q.2.1 n]!).2.1.size : Int) = (atQ q n).2.1.size := rfl
  omega
theorem okQ_sync {q : St} {n : ByteArray} (hq : okQ q) : okQ (syncQ q n).1 := by
  unfold syncQ
  split
  · exact hq
  · rename_i h
    exact okQ_put hq (known_1 h) rfl ⟨Int.natCast_nonneg _, Int.le_refl _, Int.le_refl _⟩
theorem okQ_trunc {q : St} {n : ByteArray} {m : Int} (hq : okQ q) : okQ (truncQ q n m).1 := by
  unfold truncQ
  split
  · exact hq
  · rename_i h
    split
    · exact hq
    · rename_i h2
      have h2 : ¬ (m < 0 ∨ m > ((atQ q n).2.1.size : Int)) := h2
      have hs : (((atQ q n).2.1.extract 0 m.toNat).size : Int) = m := by rw [ByteArray.size_extract]; omega
      exact okQ_put hq (known_1 h) rfl ⟨by (try dsimp only); omega, by (try dsimp only); omega, by (try dsimp only); omega⟩
theorem okQ_delete {q : St} {n : ByteArray} (hq : okQ q) : okQ (deleteQ q n).1 := by
  unfold deleteQ
  split
  · exact hq
  · rename_i h
    have hp := known_1 h
    obtain ⟨h1, h2, h3⟩ := hq.1
    refine okQ_do hq ⟨h1.sublist ((List.eraseIdx_sublist _ _).map _), ?_, fun o ho => h3 o (List.mem_of_mem_eraseIdx ho)⟩ ?_ ⟨rfl, rfl⟩
    · exact Nat.le_trans (List.length_eraseIdx_le _ _) h2
    · show usedS (q.2.1.eraseIdx _) ≤ _
      have := hq.2.2.1
      rw [used_split hp] at this
      rw [List.eraseIdx_eq_take_drop_succ, used_app]
      omega
theorem okQ_append {q : St} {n d : ByteArray} (hq : okQ q) : okQ (appendQ q n d).1 := by
  unfold appendQ
  split
  · exact hq
  · rename_i h
    split
    · exact hq
    · rename_i h2
      have hp := known_1 h
      have hz := at_z hq.1 hp
      have hc := hq.2.1
      have h1 := used_one hp
      have hu := hq.2.2.1
      have hsz : ((q.2.1[posS q.2.1 n]!).2.1 ++ d).size = (q.2.1[posS q.2.1 n]!).2.1.size + d.size := ByteArray.size_append
      have hl : okL (appQ q n d).2.1 := set_okL hq.1 hp rfl ⟨hz.1, by show (q.2.1[posS q.2.1 n]!).2.2 ≤ (((q.2.1[posS q.2.1 n]!).2.1 ++ d).size : Int); omega, by show ((q.2.1[posS q.2.1 n]!).2.1 ++ d).size ≤ _; omega⟩
      have hus : usedS (appQ q n d).2.1 ≤ q.1 := by
        show usedS (q.2.1.set _ _) ≤ _
        rw [used_set hp]
        show _ - _ + (((q.2.1[posS q.2.1 n]!).2.1 ++ d).size : Int) ≤ _
        omega
      have ho : okQ (appQ q n d) := ⟨hl, hq.2.1, hus, hq.2.2.2⟩
      exact okQ_do ho hl hus ⟨rfl, rfl⟩
theorem ofInts_size (l : List Int) : (ofInts l).size = l.length := by simp [ofInts, ByteArray.size]
theorem flip_size (d : ByteArray) (a b : Int) : (flipD d a b).size = d.size := by rw [flipD, ofInts_size, List.length_set, toI_len]
theorem okQ_flip {q : St} {n : ByteArray} {a b : Int} (hq : okQ q) : okQ (flipQ q n a b).1 := by
  unfold flipQ
  split
  · exact hq
  · rename_i h
    split
    · exact hq
    · have hp := known_1 h
      have hz := at_z hq.1 hp
      have hs := flip_size (atQ q n).2.1 a b
      have hs : (flipD (atQ q n).2.1 a b).size = (q.2.1[posS q.2.1 n]!).2.1.size := hs
      refine ⟨set_okL hq.1 hp rfl ⟨hz.1, by show _ ≤ ((flipD (atQ q n).2.1 a b).size : Int); rw [hs]; exact hz.2.1, by show (flipD (atQ q n).2.1 a b).size ≤ _; rw [hs]; exact hz.2.2⟩, hq.2.1, ?_, hq.2.2.2⟩
      show usedS (q.2.1.set _ _) ≤ _
      rw [used_set hp]
      show _ - _ + ((flipD (atQ q n).2.1 a b).size : Int) ≤ q.1
      have := hq.2.2.1
      omega
theorem asc_ins {l : List ByteArray} {n : ByteArray} (h : ascS l) (hn : ¬ n ∈ l) : ascS (l.take (plS l n) ++ n :: l.drop (plS l n)) := by
  have hne : ∀ m, m ∈ l.drop (plS l n) → strLt n m = true := fun m hm => by
    obtain ⟨t, ht, rfl⟩ := List.getElem_of_mem hm
    have ht2 : plS l n + t < l.length := by simp at ht; omega
    have e : (l.drop (plS l n))[t] = l[plS l n + t]! := by rw [List.getElem_drop, getElem!_pos l _ ht2]
    have h1 := plS_ge h (s := n) (t := plS l n + t) (by omega) ht2
    rcases sLt_tri n (l.drop (plS l n))[t] with q | q | q
    · exact q
    · exact absurd (by rw [q]; exact List.mem_of_mem_drop hm) hn
    · rw [e] at q; exact absurd q h1
  have hlt : ∀ m, m ∈ l.take (plS l n) → strLt m n = true := fun m hm => by
    obtain ⟨t, ht, rfl⟩ := List.getElem_of_mem hm
    have ht2 : t < plS l n := by simp at ht; omega
    have := plS_lt ht2
    have hl := plS_le l n
    rw [List.getElem_take, ← getElem!_pos l t (by omega)]
    exact this
  unfold ascS at h ⊢
  rw [← List.take_append_drop (plS l n) l, List.pairwise_append] at h
  rw [List.pairwise_append, List.pairwise_cons]
  refine ⟨h.1, ⟨hne, h.2.1⟩, fun a ha b hb => ?_⟩
  rcases List.mem_cons.1 hb with q | q
  · rw [q]; exact hlt a ha
  · exact h.2.2 a ha b q
theorem has_mem {l : List Obj} {n : ByteArray} (ha : ascS (nmS l)) (h : hasS l n = false) : ¬ n ∈ nmS l := fun q => by
  obtain ⟨h1, h2⟩ := plS_mem ha q
  rw [nm_len] at h1
  have : hasS l n = true := by
    simp only [hasS, Bool.and_eq_true, decide_eq_true_eq]
    exact ⟨h1, h2⟩
  rw [h] at this; cases this
theorem ins_okL {l : List Obj} {n : ByteArray} (h : okL l) (hn : hasS l n = false) (hl : l.length < 4096) : okL (insL l (posS l n) (n, EMP, 0)) := by
  obtain ⟨h1, h2, h3⟩ := h
  refine ⟨?_, ?_, fun o ho => ?_⟩
  · have e : nmS (insL l (posS l n) (n, EMP, 0)) = (nmS l).take (plS (nmS l) n) ++ n :: (nmS l).drop (plS (nmS l) n) := by
      simp [insL, nmS, posS, List.map_take, List.map_drop]
    rw [e]; exact asc_ins h1 (has_mem h1 hn)
  · simp [insL]; omega
  · simp only [insL, List.mem_append, List.mem_cons] at ho
    rcases ho with q | q | q
    · exact h3 o (List.mem_of_mem_take q)
    · rw [q]; exact ⟨Int.le_refl _, Int.le_refl _, Nat.zero_le _⟩
    · exact h3 o (List.mem_of_mem_drop q)
theorem ins_used (l : List Obj) (i : Nat) (n : ByteArray) : usedS (insL l i (n, EMP, 0)) = usedS l := by
  rw [insL, used_app, used_cons]
  conv => rhs; rw [← List.take_append_drop i l, used_app]
  show _ + ((0 : Int) + _) = _
  omega
theorem okQ_create {q : St} {n : ByteArray} (hq : okQ q) : okQ (createQ q n).1 := by
  unfold createQ
  split
  · exact hq
  split
  · exact hq
  split
  · exact hq
  rename_i h
  split
  · exact hq
  rename_i h2
  refine okQ_do hq (ins_okL hq.1 (by simpa using h) (by omega)) ?_ ⟨rfl, rfl⟩
  show usedS (insL _ _ _) ≤ _
  rw [ins_used]; exact hq.2.2.1
theorem okQ_arm {q : St} {n k : Int} (hq : okQ q) (hn : n ≤ 9223372036854775807) (hk : k ≤ 9223372036854775807) : okQ (armQ q n k).1 := by
  unfold armQ
  split
  · exact hq
  split
  · exact hq
  · exact ⟨hq.1, hq.2.1, hq.2.2.1, fun _ => by (try dsimp only); omega, by (try dsimp only); omega, by (try dsimp only); omega⟩
theorem okQ_crash {q : St} {k : Int} (hq : okQ q) : okQ (crashQ q k).1 := by
  unfold crashQ
  split
  · exact hq
  split
  · exact hq
  · exact okQ_fall hq
theorem okQ_restart {q : St} (hq : okQ q) : okQ (restartQ q) := hq
theorem okQ_new {c : Int} (h : 1 ≤ c ∧ c ≤ 1073741824) : okQ (capN c, [], false, false, 0, 0) := by
  have e : capN c = c := if_pos h
  rw [e]
  exact ⟨⟨List.Pairwise.nil, by simp, fun o h => by cases h⟩, h, by show usedS [] ≤ c; rw [used_nil]; omega, (fun q => by cases q), ⟨by show (-1 : Int) ≤ 0; decide, by show (0 : Int) ≤ 9223372036854775807; decide⟩, by show (0 : Int) ≤ 0; decide, by show (0 : Int) ≤ 9223372036854775807; decide⟩

abbrev tSrc : Ty := .pair (.list (.int .i64)) (.int .i64)
abbrev Src : Type := (List Int) × Int
@[reducible] instance : Inhabited Src := instInhabitedDen tSrc


def pick (v n : Int) : Int := IntKind.i64.wrap (Int.tmod (IntKind.u64.wrap v) (IntKind.u64.wrap n))
theorem pick_lt {v n : Int} (h : 0 < n ∧ n ≤ 9223372036854775807) : 0 ≤ pick v n ∧ pick v n < n := by
  have hn : IntKind.u64.wrap n = n := IntWalk.u64_in n (by omega)
  have hv : 0 ≤ IntKind.u64.wrap v := by simp [IntKind.wrap, IntKind.bits, IntKind.signed]; omega
  have h1 := Int.tmod_nonneg (IntKind.u64.wrap n) hv
  have h2 := Int.tmod_lt_of_pos (IntKind.u64.wrap v) (show 0 < IntKind.u64.wrap n by omega)
  rw [hn] at h1 h2
  unfold pick
  rw [hn, wrap64] <;> omega
theorem u64_ne {n : Int} (h : 0 < n ∧ n ≤ 9223372036854775807) : ¬ IntKind.u64.wrap n = 0 := by
  rw [IntWalk.u64_in n (by omega)]; omega
def Src.ok (s : Src) : Prop := (0 : Int) ≤ s.2 ∧ s.1.length ≤ 9223372036854775807
def Src.next (s : Src) : Src := if s.2 ≥ s.1.length then s else ⟨s.1, s.2 + 1⟩
def Src.val (s : Src) : Int := if s.2 ≥ s.1.length then 0 else s.1[s.2.toNat]!
def Src.pick (s : Src) (n : Int) : Int := if s.2 ≥ s.1.length then 0 else Go.Proofs.Ytpjgjkoajoiopaa.pick s.1[s.2.toNat]! n
theorem Src.ok_next {s : Src} (h : Src.ok s) : Src.ok (Src.next s) := by
  unfold Src.ok Src.next at *
  split
  · exact h
  · exact ⟨show (0 : Int) ≤ s.2 + 1 by have := h.1; omega, h.2⟩
theorem Src.pick_lt {s : Src} {n : Int} (h : 0 < n ∧ n ≤ 9223372036854775807) : 0 ≤ Src.pick s n ∧ Src.pick s n < n := by
  unfold Src.pick
  split
  · omega
  · exact Go.Proofs.Ytpjgjkoajoiopaa.pick_lt h
theorem Src.ok_from {l : List Int} (h : l.length ≤ 9223372036854775807) : Src.ok (l, 0) := ⟨by simp, h⟩

abbrev c_pick_ok : Ct := .fn [.int .i64, .int .i64] (some (fun (v : Int) (n : Int) => (¬ IntKind.u64.wrap n = 0))) (fun (v : Int) (n : Int) => .d (.int .i64) (pick v n))
set_option maxRecDepth 100000 in
set_option maxHeartbeats 4000000 in
theorem pick_ok : CtOk Try.prog 10 c_pick_ok := by
  refine CtOk.fn tb40_ok mixed [(0, 1, 5)] [] rfl rfl ?_
  rintro ⟨(v : Int), (n : Int), _⟩ hpre
  replace hpre := hpre _ rfl
  dsimp only [cu] at hpre
  have hn := hpre
  refine ⟨[], ?_⟩
  repeat' (first
    | (
 with_reducible refine Side.mk ?_
 (try dsimp only [cu, joinT, ckTys, gts, loK, hiK, Prod.eta, List.nil_append])
 first
 | (done)
 | (with_reducible rfl)
 | (omega)
 | (exact Eq.refl _)
 | (simp only [List.length_append, List.length_cons, List.length_nil]; omega)
 | (assumption))
    | (conv => whnf
       first
        | done
        | exact trivial
        | with_reducible refine NilBr.mk (fun h => ?_) ?_
        | with_reducible first | refine w_andS ?_ ?_ | refine w_andL ?_ ?_ | refine w_kern (by kernel_rfl) ?_ | refine w_true ?_ | refine w_nd ?_ ?_ | refine w_in ?_ ?_ | refine w_and ?_ ?_
        | ((with_reducible first | refine w_brN (fun h => ?_) (fun h => ?_) | refine w_brD (fun h => ?_) (fun h => ?_) | refine w_br (fun h => ?_) (fun h => ?_)) <;> (try dsimp only [cu, Prod.eta, List.nil_append] at h) <;> (try (exfalso; omega; done)))))
  all_goals (
 with_reducible refine Leaf.mk ?_
 (try dsimp only [cu, joinT, ckTys, gts, Prod.eta, List.nil_append] at *)
 first
 | (done)
 | (rfl))
abbrev tb41 : Tbl := (10, c_pick_ok) :: tb40
theorem tb41_ok : TblOk Try.prog tb41 := TblOk.cons pick_ok tb40_ok

abbrev c_next_ok : Ct := .meth tSrc 63 [.int .i64] (some (fun (s : Src) (n : Int) => (Src.ok s) ∧ (¬ IntKind.u64.wrap n = 0))) (fun (s : Src) (n : Int) => .d (.int .i64) (Src.pick s n)) (fun (s : Src) (n : Int) => Src.next s)
set_option maxRecDepth 100000 in
set_option maxHeartbeats 4000000 in
theorem next_ok : CtOk Try.prog 14 c_next_ok := by
  refine CtOk.meth tb41_ok mixed [] [] rfl rfl ?_
  rintro (s : Src) ⟨(n : Int), _⟩ hpre
  replace hpre := hpre _ rfl
  dsimp only [cu] at hpre
  obtain ⟨hs, hn⟩ := hpre
  obtain ⟨hs0, hs1⟩ := hs
  refine ⟨[], ?_⟩
  repeat' (first
    | (
 with_reducible refine Side.mk ?_
 (try dsimp only [cu, joinT, ckTys, gts, loK, hiK, Prod.eta, List.nil_append])
 first
 | (done)
 | (with_reducible rfl)
 | (omega)
 | (exact Eq.refl _)
 | (simp only [List.length_append, List.length_cons, List.length_nil]; omega)
 | (assumption))
    | (conv => whnf
       first
        | done
        | exact trivial
        | with_reducible refine NilBr.mk (fun h => ?_) ?_
        | with_reducible first | refine w_andS ?_ ?_ | refine w_andL ?_ ?_ | refine w_kern (by kernel_rfl) ?_ | refine w_true ?_ | refine w_nd ?_ ?_ | refine w_in ?_ ?_ | refine w_and ?_ ?_
        | ((with_reducible first | refine w_brN (fun h => ?_) (fun h => ?_) | refine w_brD (fun h => ?_) (fun h => ?_) | refine w_br (fun h => ?_) (fun h => ?_)) <;> (try dsimp only [cu, Prod.eta, List.nil_append] at h) <;> (try (exfalso; omega; done)))))
  all_goals (
 with_reducible refine Leaf.mk ?_
 (try dsimp only [cu, joinT, ckTys, gts, Prod.eta, List.nil_append] at *)
 first
 | (done)
 | (rw [Src.pick, if_pos (by omega)])
 | (rw [Src.next, if_pos (by omega)])
 | (
  rw [Src.pick, if_neg (by omega)]
  rw [show s.2 + 1 - 1 = s.2 by omega])
 | (rw [Src.next, if_neg (by omega)]))
abbrev tb42 : Tbl := (14, c_next_ok) :: tb41
theorem tb42_ok : TblOk Try.prog tb42 := TblOk.cons next_ok tb41_ok

abbrev c_from_ok : Ct := .new tSrc 63 [.list (.int .i64)] (none) (fun (l : List Int) => ((l, 0) : Src))
set_option maxRecDepth 100000 in
set_option maxHeartbeats 4000000 in
theorem from_ok : CtOk Try.prog 12 c_from_ok := by
  refine CtOk.new tb42_ok mixed [] [] rfl rfl ?_
  rintro ⟨(l : List Int), _⟩ -
  refine ⟨[], ?_⟩
  repeat' (first
    | (
 with_reducible refine Side.mk ?_
 (try dsimp only [cu, joinT, ckTys, gts, loK, hiK, Prod.eta, List.nil_append])
 first
 | (done)
 | (with_reducible rfl)
 | (omega)
 | (exact Eq.refl _)
 | (simp only [List.length_append, List.length_cons, List.length_nil]; omega)
 | (grind))
    | (conv => whnf
       first
        | done
        | exact trivial
        | with_reducible refine NilBr.mk (fun h => ?_) ?_
        | with_reducible first | refine w_andS ?_ ?_ | refine w_andL ?_ ?_ | refine w_kern (by kernel_rfl) ?_ | refine w_true ?_ | refine w_nd ?_ ?_ | refine w_in ?_ ?_ | refine w_and ?_ ?_
        | ((with_reducible first | refine w_brN (fun h => ?_) (fun h => ?_) | refine w_brD (fun h => ?_) (fun h => ?_) | refine w_br (fun h => ?_) (fun h => ?_)) <;> (try dsimp only [cu, Prod.eta, List.nil_append] at h) <;> (try (exfalso; omega; done)))))
  all_goals (
 with_reducible refine Leaf.mk ?_
 (try dsimp only [cu, joinT, ckTys, gts, Prod.eta, List.nil_append] at *)
 first
 | (done)
 | (rfl))
abbrev tb43 : Tbl := (12, c_from_ok) :: tb42
theorem tb43_ok : TblOk Try.prog tb43 := TblOk.cons from_ok tb42_ok


def namesL : List ByteArray := [⟨#[97]⟩, ⟨#[98]⟩, ⟨#[99]⟩, ⟨#[100, 100]⟩, ⟨#[97, 32, 98]⟩, ⟨#[]⟩]
def src2 (s : Src) : Src := Src.next (Src.next s)
def namesS (s : Src) : ByteArray := namesL[(Int.tmod (Src.pick s 6 * Src.pick (Src.next s) 2) 6).toNat]!
theorem mul_in {a b : Int} (ha : 0 ≤ a ∧ a < 6) (hb : 0 ≤ b ∧ b < 2) : 0 ≤ a * b ∧ a * b ≤ 5 := by
  rcases (show b = 0 ∨ b = 1 by omega) with q | q
  · subst q; omega
  · subst q; omega
theorem picks_in (s : Src) : 0 ≤ Src.pick s 6 * Src.pick (Src.next s) 2 ∧ Src.pick s 6 * Src.pick (Src.next s) 2 ≤ 5 := mul_in (Src.pick_lt (by omega)) (Src.pick_lt (by omega))
theorem tmod6 {a : Int} (h : 0 ≤ a ∧ a ≤ 5) : Int.tmod a 6 = a := by
  rw [Int.tmod_eq_emod_of_nonneg h.1]; omega
theorem names_size (s : Src) : (namesS s).size ≤ 3 := by
  have h := picks_in s
  rw [namesS, tmod6 h]
  have hc : ∀ i : Nat, i ≤ 5 → (namesL[i]!).size ≤ 3 := by
    intro i hi
    rcases (show i = 0 ∨ i = 1 ∨ i = 2 ∨ i = 3 ∨ i = 4 ∨ i = 5 by omega) with q | q | q | q | q | q <;> subst q <;> decide
  exact hc _ (by omega)
def dataGo : Nat → Src → ByteArray → ByteArray × Src
  | 0, s, x => (x, s)
  | n + 1, s, x => dataGo n (Src.next s) (x ++ ofInts [IntKind.u8.wrap (97 + Src.pick s 26)])
def dataF (s : Src) : ByteArray × Src := dataGo (Src.pick s 6).toNat (Src.next s) ⟨#[]⟩
theorem data_step {k : Int} {s : Src} {x : ByteArray} (h : 0 < k) : dataGo k.toNat s x = dataGo (k - 1).toNat (Src.next s) (x ++ ofInts [IntKind.u8.wrap (97 + Src.pick s 26)]) := by
  rw [show k.toNat = (k - 1).toNat + 1 by omega, dataGo]
theorem data_ok : ∀ (n : Nat) (s : Src) (x : ByteArray), Src.ok s → Src.ok (dataGo n s x).2 ∧ (dataGo n s x).1.size = x.size + n
  | 0, s, x, h => ⟨h, rfl⟩
  | n + 1, s, x, h => by
    have ih := data_ok n (Src.next s) (x ++ ofInts [IntKind.u8.wrap (97 + Src.pick s 26)]) (Src.ok_next h)
    rw [dataGo]
    refine ⟨ih.1, ?_⟩
    rw [ih.2, ByteArray.size_append, ofInts_size]
    simp; omega
theorem dataF_ok {s : Src} (h : Src.ok s) : Src.ok (dataF s).2 ∧ (dataF s).1.size ≤ 5 := by
  have h1 := data_ok (Src.pick s 6).toNat (Src.next s) ⟨#[]⟩ (Src.ok_next h)
  have h2 := Src.pick_lt (s := s) (n := 6) (by omega)
  refine ⟨h1.1, ?_⟩
  have h3 : (dataF s).1.size = (⟨#[]⟩ : ByteArray).size + (Src.pick s 6).toNat := h1.2
  have h4 : (⟨#[]⟩ : ByteArray).size = 0 := rfl
  omega

abbrev c_left_ok : Ct := .meth tSrc 63 [] (some (fun (s : Src) => (Src.ok s))) (fun (s : Src) => .d .bool (decide ((s.2 : Int) < s.1.length))) (fun (s : Src) => s)
set_option maxRecDepth 100000 in
set_option maxHeartbeats 4000000 in
theorem left_ok : CtOk Try.prog 13 c_left_ok := by
  refine CtOk.meth tb43_ok mixed [] [] rfl rfl ?_
  rintro (s : Src) ⟨⟩ hpre
  replace hpre := hpre _ rfl
  dsimp only [cu] at hpre
  have hs := hpre
  obtain ⟨hs0, hs1⟩ := hs
  refine ⟨[], ?_⟩
  repeat' (first
    | (
 with_reducible refine Side.mk ?_
 (try dsimp only [cu, joinT, ckTys, gts, loK, hiK, Prod.eta, List.nil_append])
 first
 | (done)
 | (with_reducible rfl)
 | (omega)
 | (exact Eq.refl _)
 | (simp only [List.length_append, List.length_cons, List.length_nil]; omega)
 | (assumption))
    | (conv => whnf
       first
        | done
        | exact trivial
        | with_reducible refine NilBr.mk (fun h => ?_) ?_
        | with_reducible first | refine w_andS ?_ ?_ | refine w_andL ?_ ?_ | refine w_kern (by kernel_rfl) ?_ | refine w_true ?_ | refine w_nd ?_ ?_ | refine w_in ?_ ?_ | refine w_and ?_ ?_
        | ((with_reducible first | refine w_brN (fun h => ?_) (fun h => ?_) | refine w_brD (fun h => ?_) (fun h => ?_) | refine w_br (fun h => ?_) (fun h => ?_)) <;> (try dsimp only [cu, Prod.eta, List.nil_append] at h) <;> (try (exfalso; omega; done)))))
  all_goals (
 with_reducible refine Leaf.mk ?_
 (try dsimp only [cu, joinT, ckTys, gts, Prod.eta, List.nil_append] at *)
 first
 | (done)
 | (rfl))
abbrev tb44 : Tbl := (13, c_left_ok) :: tb43
theorem tb44_ok : TblOk Try.prog tb44 := TblOk.cons left_ok tb43_ok

abbrev c_sameS_ok : Ct := .fn [.list .str, .list .str] (some (fun (a : List ByteArray) (b : List ByteArray) => (a.length ≤ 9223372036854775807))) (fun (a : List ByteArray) (b : List ByteArray) => .d .bool (decide (a = b)))
set_option maxRecDepth 100000 in
set_option maxHeartbeats 4000000 in
theorem sameS_ok : CtOk Try.prog 57 c_sameS_ok := by
  refine CtOk.fn tb44_ok mixed [] [] rfl rfl ?_
  rintro ⟨(a : List ByteArray), (b : List ByteArray), _⟩ hpre
  replace hpre := hpre _ rfl
  dsimp only [cu] at hpre
  have ha := hpre
  refine ⟨[(0, 8, LA.mk [.sl 13 (.int .i64)] (fun y => Tag 17 ∧ cu [.int .i64] (fun (k : Int) => (0 ≤ k ∧ k ≤ a.length) ∧ (a.take k.toNat = b.take k.toNat)) y) (cu [.int .i64] (fun (k : Int) => ((a.length : Int) - k).toNat)) (cu [.int .i64] (fun (k : Int) => ([] : List (Nat × Nat × LA)))))], ?_⟩
  repeat' (first
    | (
 with_reducible refine Side.mk ⟨(⟨⟩ : Tag 17), ?_⟩
 dsimp only [cu, joinT, ckTys, gts, Prod.eta, List.nil_append]
 refine ⟨?_, ?_⟩
 · omega
 · first
   | (rfl)
   | (
  have e1 : k.toNat < a.length := by omega
  have e2 : k.toNat < b.length := by omega
  have e3 : a[k.toNat]! = b[k.toNat]! := by simp_all [Prod.ext_iff]
  rw [getElem!_pos a k.toNat e1, getElem!_pos b k.toNat e2] at e3
  rw [show (k + 1).toNat = k.toNat + 1 by omega, List.take_add_one, List.take_add_one, hs, List.getElem?_eq_getElem e1, List.getElem?_eq_getElem e2, e3]))
    | (
 with_reducible refine Side.mk ?_
 (try dsimp only [cu, joinT, ckTys, gts, loK, hiK, Prod.eta, List.nil_append])
 first
 | (done)
 | (with_reducible rfl)
 | (omega)
 | (exact Eq.refl _)
 | (simp only [List.length_append, List.length_cons, List.length_nil]; omega)
 | (with_reducible assumption)
 | (kernel_rfl))
    | (conv => whnf
       first
        | done
        | exact trivial
        | with_reducible refine NilBr.mk (fun h => ?_) ?_
        | with_reducible first | refine w_andS ?_ ?_ | refine w_andL ?_ ?_ | refine w_kern (by kernel_rfl) ?_ | refine w_true ?_ | refine w_nd ?_ ?_ | refine w_in ?_ ?_ | refine w_and ?_ ?_
        | ((with_reducible first | refine w_brN (fun h => ?_) (fun h => ?_) | refine w_brD (fun h => ?_) (fun h => ?_) | refine w_br (fun h => ?_) (fun h => ?_)) <;> (try dsimp only [cu, Prod.eta, List.nil_append] at h) <;> (try (exfalso; omega; done)))
        | (
 intro yy (hy : Tag 17 ∧ _)
 obtain ⟨(k : Int), _⟩ := yy
 replace hy := hy.2
 dsimp only [cu, joinT, ckTys, gts, Prod.eta, List.nil_append] at hy
 obtain ⟨hk, hs⟩ := hy)))
  all_goals (
 with_reducible refine Leaf.mk ?_
 (try dsimp only [cu, joinT, ckTys, gts, Prod.eta, List.nil_append] at *)
 first
 | (done)
 | (
  have hab : a = b := by
    have h2 := hs
    rw [List.take_of_length_le (by omega), List.take_of_length_le (by omega)] at h2
    exact h2
  rw [decide_eq_true hab])
 | (
  have hne : ¬ a = b := fun q => by subst q; omega
  rw [decide_eq_false hne])
 | (
  have hne : ¬ a = b := fun q => by subst q; simp_all
  rw [decide_eq_false hne]))
abbrev tb45 : Tbl := (57, c_sameS_ok) :: tb44
theorem tb45_ok : TblOk Try.prog tb45 := TblOk.cons sameS_ok tb44_ok

abbrev c_sameO_ok : Ct := .fn [.list tObj, .list tObj] (some (fun (a : List Obj) (b : List Obj) => (a.length ≤ 9223372036854775807))) (fun (a : List Obj) (b : List Obj) => .d .bool (decide (a = b)))
set_option maxRecDepth 100000 in
set_option maxHeartbeats 4000000 in
theorem sameO_ok : CtOk Try.prog 25 c_sameO_ok := by
  refine CtOk.fn tb45_ok mixed [] [] rfl rfl ?_
  rintro ⟨(a : List Obj), (b : List Obj), _⟩ hpre
  replace hpre := hpre _ rfl
  dsimp only [cu] at hpre
  have ha := hpre
  refine ⟨[(0, 8, LA.mk [.sl 13 (.int .i64)] (fun y => Tag 18 ∧ cu [.int .i64] (fun (k : Int) => (0 ≤ k ∧ k ≤ a.length) ∧ (a.take k.toNat = b.take k.toNat)) y) (cu [.int .i64] (fun (k : Int) => ((a.length : Int) - k).toNat)) (cu [.int .i64] (fun (k : Int) => ([] : List (Nat × Nat × LA)))))], ?_⟩
  repeat' (first
    | (
 with_reducible refine Side.mk ⟨(⟨⟩ : Tag 18), ?_⟩
 dsimp only [cu, joinT, ckTys, gts, Prod.eta, List.nil_append]
 refine ⟨?_, ?_⟩
 · omega
 · first
   | (rfl)
   | (
  have e1 : k.toNat < a.length := by omega
  have e2 : k.toNat < b.length := by omega
  have e3 : a[k.toNat]! = b[k.toNat]! := by simp_all [Prod.ext_iff]
  rw [getElem!_pos a k.toNat e1, getElem!_pos b k.toNat e2] at e3
  rw [show (k + 1).toNat = k.toNat + 1 by omega, List.take_add_one, List.take_add_one, hs, List.getElem?_eq_getElem e1, List.getElem?_eq_getElem e2, e3]))
    | (
 with_reducible refine Side.mk ?_
 (try dsimp only [cu, joinT, ckTys, gts, loK, hiK, Prod.eta, List.nil_append])
 first
 | (done)
 | (with_reducible rfl)
 | (omega)
 | (exact Eq.refl _)
 | (simp only [List.length_append, List.length_cons, List.length_nil]; omega)
 | (with_reducible assumption)
 | (kernel_rfl))
    | (conv => whnf
       first
        | done
        | exact trivial
        | with_reducible refine NilBr.mk (fun h => ?_) ?_
        | with_reducible first | refine w_andS ?_ ?_ | refine w_andL ?_ ?_ | refine w_kern (by kernel_rfl) ?_ | refine w_true ?_ | refine w_nd ?_ ?_ | refine w_in ?_ ?_ | refine w_and ?_ ?_
        | ((with_reducible first | refine w_brN (fun h => ?_) (fun h => ?_) | refine w_brD (fun h => ?_) (fun h => ?_) | refine w_br (fun h => ?_) (fun h => ?_)) <;> (try dsimp only [cu, Prod.eta, List.nil_append] at h) <;> (try (exfalso; omega; done)))
        | (
 intro yy (hy : Tag 18 ∧ _)
 obtain ⟨(k : Int), _⟩ := yy
 replace hy := hy.2
 dsimp only [cu, joinT, ckTys, gts, Prod.eta, List.nil_append] at hy
 obtain ⟨hk, hs⟩ := hy)))
  all_goals (
 with_reducible refine Leaf.mk ?_
 (try dsimp only [cu, joinT, ckTys, gts, Prod.eta, List.nil_append] at *)
 first
 | (done)
 | (
  have hab : a = b := by
    have h2 := hs
    rw [List.take_of_length_le (by omega), List.take_of_length_le (by omega)] at h2
    exact h2
  rw [decide_eq_true hab])
 | (
  have hne : ¬ a = b := fun q => by subst q; omega
  rw [decide_eq_false hne])
 | (
  have hne : ¬ a = b := fun q => by subst q; simp_all
  rw [decide_eq_false hne]))
abbrev tb46 : Tbl := (25, c_sameO_ok) :: tb45
theorem tb46_ok : TblOk Try.prog tb46 := TblOk.cons sameO_ok tb45_ok

abbrev c_names_ok : Ct := .meth tSrc 63 [] (some (fun (s : Src) => (Src.ok s))) (fun (s : Src) => .d .str (namesS s)) (fun (s : Src) => src2 s)
set_option maxRecDepth 100000 in
set_option maxHeartbeats 4000000 in
theorem names_ok : CtOk Try.prog 60 c_names_ok := by
  refine CtOk.meth tb46_ok mixed [] [] rfl rfl ?_
  rintro (s : Src) ⟨⟩ hpre
  replace hpre := hpre _ rfl
  dsimp only [cu] at hpre
  have hs := hpre
  refine ⟨[], ?_⟩
  repeat' (first
    | (
 with_reducible refine Side.mk ?_
 (try dsimp only [cu, joinT, ckTys, gts, loK, hiK, Prod.eta, List.nil_append])
 first
 | (done)
 | (with_reducible rfl)
 | (omega)
 | (exact Eq.refl _)
 | (simp only [List.length_append, List.length_cons, List.length_nil]; omega)
 | ((repeat (first | assumption | exact Src.ok_from (by assumption) | apply Src.ok_next)); done)
 | (exact u64_ne (by omega))
 | (
  refine ⟨?_, by decide⟩
  (repeat (first | assumption | exact Src.ok_from (by assumption) | apply Src.ok_next)); done)
 | (
  have hpi := picks_in s
  first
  | (omega)
  | (
   rw [tmod6 hpi]
   omega)
  | (
   simp only [tmod6 hpi, List.length_cons, List.length_nil]
   omega)))
    | (conv => whnf
       first
        | done
        | exact trivial
        | with_reducible refine NilBr.mk (fun h => ?_) ?_
        | with_reducible first | refine w_andS ?_ ?_ | refine w_andL ?_ ?_ | refine w_kern (by kernel_rfl) ?_ | refine w_true ?_ | refine w_nd ?_ ?_ | refine w_in ?_ ?_ | refine w_and ?_ ?_
        | ((with_reducible first | refine w_brN (fun h => ?_) (fun h => ?_) | refine w_brD (fun h => ?_) (fun h => ?_) | refine w_br (fun h => ?_) (fun h => ?_)) <;> (try dsimp only [cu, Prod.eta, List.nil_append] at h) <;> (try (exfalso; omega; done)))))
  all_goals (
 with_reducible refine Leaf.mk ?_
 (try dsimp only [cu, joinT, ckTys, gts, Prod.eta, List.nil_append] at *)
 first
 | (done)
 | (rfl))
abbrev tb47 : Tbl := (60, c_names_ok) :: tb46
theorem tb47_ok : TblOk Try.prog tb47 := TblOk.cons names_ok tb46_ok

abbrev c_data_of : Ct := .meth tSrc 63 [] (some (fun (s : Src) => (Src.ok s))) (fun (s : Src) => .d .str ((dataF s).1)) (fun (s : Src) => (dataF s).2)
set_option maxRecDepth 100000 in
set_option maxHeartbeats 4000000 in
theorem data_of : CtOk Try.prog 16 c_data_of := by
  refine CtOk.meth tb47_ok mixed [] [] rfl rfl ?_
  rintro (s : Src) ⟨⟩ hpre
  replace hpre := hpre _ rfl
  dsimp only [cu] at hpre
  have hs := hpre
  refine ⟨[(0, 6, LA.mk [.sl 4 (.int .i64), .sl 3 .str, .ob 0 tSrc 63] (fun y => Tag 19 ∧ cu [.int .i64, .str, tSrc] (fun (k : Int) (x : ByteArray) (q : Src) => (0 ≤ k ∧ k ≤ 5) ∧ (Src.ok q) ∧ ((x.size : Int) ≤ 5 - k) ∧ (dataF s = dataGo k.toNat q x)) y) (cu [.int .i64, .str, tSrc] (fun (k : Int) (x : ByteArray) (q : Src) => k.toNat)) (cu [.int .i64, .str, tSrc] (fun (k : Int) (x : ByteArray) (q : Src) => ([] : List (Nat × Nat × LA)))))], ?_⟩
  repeat' (first
    | (
 with_reducible refine Side.mk ⟨(⟨⟩ : Tag 19), ?_⟩
 dsimp only [cu, joinT, ckTys, gts, Prod.eta, List.nil_append]
 refine ⟨?_, ?_, ?_, ?_⟩
 · first
   | (have := @Src.pick_lt; grind)
   | (omega)
 · (repeat (first | assumption | exact Src.ok_from (by assumption) | apply Src.ok_next)); done
 · first
   | (
  have h0 : (ByteArray.size ⟨#[]⟩) = 0 := rfl
  have := @Src.pick_lt; grind)
   | (
  rw [ByteArray.size_append]
  have e1 : (ofInts [IntKind.u8.wrap (97 + Src.pick q 26)]).size = 1 := rfl
  omega)
 · first
   | (rfl)
   | (rw [hg, data_step (by assumption)]))
    | (
 with_reducible refine Side.mk ?_
 (try dsimp only [cu, joinT, ckTys, gts, loK, hiK, Prod.eta, List.nil_append])
 first
 | (done)
 | (with_reducible rfl)
 | (omega)
 | (exact Eq.refl _)
 | (simp only [List.length_append, List.length_cons, List.length_nil]; omega)
 | ((repeat (first | assumption | exact Src.ok_from (by assumption) | apply Src.ok_next)); done)
 | (exact u64_ne (by omega))
 | (
  refine ⟨?_, by decide⟩
  (repeat (first | assumption | exact Src.ok_from (by assumption) | apply Src.ok_next)); done)
 | (have := @Src.pick_lt; grind)
 | (rw [ByteArray.size_append]; omega)
 | (
  have e1 : (ofInts [IntKind.u8.wrap (97 + Src.pick q 26)]).size = 1 := rfl
  omega))
    | (conv => whnf
       first
        | done
        | exact trivial
        | with_reducible refine NilBr.mk (fun h => ?_) ?_
        | with_reducible first | refine w_andS ?_ ?_ | refine w_andL ?_ ?_ | refine w_kern (by kernel_rfl) ?_ | refine w_true ?_ | refine w_nd ?_ ?_ | refine w_in ?_ ?_ | refine w_and ?_ ?_
        | ((with_reducible first | refine w_brN (fun h => ?_) (fun h => ?_) | refine w_brD (fun h => ?_) (fun h => ?_) | refine w_br (fun h => ?_) (fun h => ?_)) <;> (try dsimp only [cu, Prod.eta, List.nil_append] at h) <;> (try (exfalso; omega; done)))
        | (
 intro yy (hy : Tag 19 ∧ _)
 obtain ⟨(k : Int), (x : ByteArray), (q : Src), _⟩ := yy
 replace hy := hy.2
 dsimp only [cu, joinT, ckTys, gts, Prod.eta, List.nil_append] at hy
 obtain ⟨hk, hq, hx, hg⟩ := hy)))
  all_goals (
 with_reducible refine Leaf.mk ?_
 (try dsimp only [cu, joinT, ckTys, gts, Prod.eta, List.nil_append] at *)
 first
 | (done)
 | (
  rw [hg, show k.toNat = 0 by omega]
  rfl))
abbrev tb48 : Tbl := (16, c_data_of) :: tb47
theorem tb48_ok : TblOk Try.prog tb48 := TblOk.cons data_of tb47_ok

end Go.Proofs.Ytpjgjkoajoiopaa
