/- ObjstoreSpace. -/
import Derived.Test.YtpjgjkoajoiopaaKeeps
namespace Go.Proofs.Ytpjgjkoajoiopaa
open Go.Abs
set_option linter.unusedVariables false
set_option linter.unusedSimpArgs false

noncomputable section

theorem abN_perm {k : Int} (h : 0 ≤ k ∧ k < 4) : permS (abN k) = true := by
  rcases (show k = 0 ∨ k = 1 ∨ k = 2 ∨ k = 3 by omega) with q | q | q | q <;> subst q <;> decide +kernel
theorem nv {m : Int} (h : 0 ≤ pick m 40 ∧ pick m 40 < 40) : (newQ (1 + pick m 40)).2.2.1 = false ∧ (newQ (1 + pick m 40)).2.2.2.1 = false ∧ (newQ (1 + pick m 40)).1 = 1 + pick m 40 ∧ ((([] : List Obj).length : Nat) : Int) ≤ 0 := by
  rw [newQ_eq]
  exact ⟨rfl, rfl, if_pos (by omega), by simp⟩
theorem sp_c {q : St} {n : ByteArray} (hq : okQ q) (hc : q.2.2.1 = false) (ha : q.2.2.2.1 = false) (hl : q.2.1.length ≤ 40) (hn : permS n = true) : knownQ (createQ q n).1 n = 0 ∧ (createQ q n).1.2.2 = q.2.2 ∧ (createQ q n).1.1 = q.1 ∧ (createQ q n).1.2.1.length ≤ q.2.1.length + 1 ∧ (q.2.1 = [] → (createQ q n).2 = 0) := by
  have e0 : createQ q n = if hasS q.2.1 n = true then (q, 5) else (wL q (insL q.2.1 (posS q.2.1 n) (n, EMP, 0)), 0) := by
    unfold createQ
    rw [hc, if_neg (by simp), hn, if_neg (by simp)]
    split
    · rfl
    · rw [if_neg (by omega), doQ_off (r := wL q (insL q.2.1 (posS q.2.1 n) (n, EMP, 0))) ha rfl]
  have hok := okQ_create (n := n) hq
  by_cases h : hasS q.2.1 n = true
  · rw [e0, if_pos h]
    refine ⟨?_, rfl, rfl, Nat.le_succ _, fun e => ?_⟩
    · unfold knownQ; rw [hc, if_neg (by simp), h, if_neg (by simp)]
    · rw [e, has_nil] at h; cases h
  · rw [e0, if_neg h] at hok ⊢
    have hm : n ∈ nmS (insL q.2.1 (posS q.2.1 n) (n, EMP, 0)) := by simp [insL, nmS]
    have h2 := plS_mem hok.1.1 hm
    have h3 : hasS (insL q.2.1 (posS q.2.1 n) (n, EMP, 0)) n = true := by
      simp only [hasS, Bool.and_eq_true, decide_eq_true_eq]
      exact ⟨by have := h2.1; rw [nm_len] at this; exact this, h2.2⟩
    refine ⟨?_, rfl, rfl, by simp [insL]; omega, fun _ => rfl⟩
    unfold knownQ
    show (if q.2.2.1 = true then 15 else if hasS (insL q.2.1 (posS q.2.1 n) (n, EMP, 0)) n = false then 6 else 0) = (0 : Int)
    rw [hc, if_neg (by simp), h3, if_neg (by simp)]
theorem sp_a {q : St} {n d : ByteArray} (hk : knownQ q n = 0) (ha : q.2.2.2.1 = false) : appendQ q n d = if (d.size : Int) > q.1 - usedS q.2.1 then (q, 14) else (appQ q n d, 0) := by
  unfold appendQ
  rw [if_neg (by simpa using hk)]
  split
  · rfl
  · rw [doQ_off (q := appQ q n d) (r := appQ q n d) ha rfl]
theorem sp_k {q : St} {n d : ByteArray} (hk : knownQ q n = 0) (ha : q.2.2.2.1 = false) : knownQ (appendQ q n d).1 n = 0 ∧ (appendQ q n d).1.2.2 = q.2.2 ∧ (appendQ q n d).1.1 = q.1 ∧ (appendQ q n d).1.2.1.length = q.2.1.length := by
  rw [sp_a hk ha]
  split
  · exact ⟨hk, rfl, rfl, rfl⟩
  · have hh := known_0 hk
    have hp := (has_lt hh.2).1
    refine ⟨?_, rfl, rfl, by show (q.2.1.set _ _).length = _; rw [List.length_set]⟩
    have hs : nmS (q.2.1.set (posS q.2.1 n) ((atQ q n).1, (atQ q n).2.1 ++ d, (atQ q n).2.2)) = nmS q.2.1 := nm_set hp rfl
    have h3 : hasS (q.2.1.set (posS q.2.1 n) ((atQ q n).1, (atQ q n).2.1 ++ d, (atQ q n).2.2)) n = true := by
      have h4 := hh.2
      unfold hasS posS at h4 ⊢
      rw [List.length_set, show nmS (q.2.1.set (plS (nmS q.2.1) n) ((atQ q n).1, (atQ q n).2.1 ++ d, (atQ q n).2.2)) = nmS q.2.1 from hs]
      exact h4
    unfold knownQ
    show (if q.2.2.1 = true then 15 else if hasS (q.2.1.set (posS q.2.1 n) ((atQ q n).1, (atQ q n).2.1 ++ d, (atQ q n).2.2)) n = false then 6 else 0) = (0 : Int)
    rw [hh.1, if_neg (by simp), h3, if_neg (by simp)]
theorem sp_d {q : St} {n : ByteArray} (hk : knownQ q n = 0) (ha : q.2.2.2.1 = false) : (deleteQ q n).2 = 0 ∧ (deleteQ q n).1.2.2 = q.2.2 ∧ (deleteQ q n).1.1 = q.1 ∧ (deleteQ q n).1.2.1.length ≤ q.2.1.length ∧ usedS (deleteQ q n).1.2.1 = usedS q.2.1 - ((readQ q n).1.size : Int) := by
  have hp := (has_lt (known_0 hk).2).1
  unfold deleteQ readQ
  rw [if_neg (by simpa using hk), if_neg (by simpa using hk), doQ_off (r := wL q (q.2.1.eraseIdx (posS q.2.1 n))) ha rfl]
  refine ⟨rfl, rfl, rfl, List.length_eraseIdx_le _ _, ?_⟩
  show usedS (q.2.1.eraseIdx _) = _ - ((q.2.1[posS q.2.1 n]!).2.1.size : Int)
  rw [List.eraseIdx_eq_take_drop_succ, used_app]
  have := used_split hp
  omega

theorem okQ_b {q : St} (h : okQ q) : q.2.1.length ≤ 4096 ∧ usedS q.2.1 ≤ 1073741824 := ⟨h.1.2.1, Int.le_trans h.2.2.1 h.2.1.2⟩
theorem okQ_as {q : St} (h : okQ q) : ascS (nmS q.2.1) ∧ q.2.1.length ≤ 4096 := ⟨h.1.1, h.1.2.1⟩
theorem rg_add {u : Int} {d : Nat} (h1 : 0 ≤ u) (h2 : u ≤ 1073741824) (h3 : d ≤ 5) : -9223372036854775808 ≤ u + (d : Int) ∧ u + (d : Int) ≤ 9223372036854775807 := by omega
theorem rg_sub {u v : Int} {d : Nat} (h1 : 0 ≤ u) (h2 : u ≤ 1073741824) (h0 : 0 ≤ v) (h3 : v = u - (d : Int)) : -9223372036854775808 ≤ u - (d : Int) ∧ u - (d : Int) ≤ 9223372036854775807 := by omega
theorem sp_all {q : St} {n d : ByteArray} {c k : Int} (hq : okQ q) (hc : q.2.2.1 = false) (ha : q.2.2.2.1 = false) (h1 : q.1 = c) (hl : (q.2.1.length : Int) ≤ k) (hk : k < 40) (hn : permS n = true) (hd : d.size ≤ 5) :
    (q.2.1 = [] → ¬ (false || decide ((createQ q n).2 = 0)) = false) ∧ okQ (createQ q n).1 ∧ okQ (appendQ (createQ q n).1 n d).1 ∧ okQ (deleteQ (appendQ (createQ q n).1 n d).1 n).1
    ∧ (¬ (!(decide ((appendQ (createQ q n).1 n d).2 = 0) == decide (usedS (createQ q n).1.2.1 + (d.size : Int) ≤ c))) = true) ∧ (¬ (appendQ (createQ q n).1 n d).2 = 0 → (appendQ (createQ q n).1 n d).2 = 14) ∧ (¬ usedS (appendQ (createQ q n).1 n d).1.2.1 > c)
    ∧ (deleteQ (appendQ (createQ q n).1 n d).1 n).2 = 0 ∧ usedS (deleteQ (appendQ (createQ q n).1 n d).1 n).1.2.1 = usedS (appendQ (createQ q n).1 n d).1.2.1 - ((readQ (appendQ (createQ q n).1 n d).1 n).1.size : Int)
    ∧ ((appendQ (createQ q n).1 n d).1.2.2.1 = false ∧ (appendQ (createQ q n).1 n d).1.2.2.2.1 = false ∧ (appendQ (createQ q n).1 n d).1.1 = c ∧ ((appendQ (createQ q n).1 n d).1.2.1.length : Int) ≤ k + 1)
    ∧ ((deleteQ (appendQ (createQ q n).1 n d).1 n).1.2.2.1 = false ∧ (deleteQ (appendQ (createQ q n).1 n d).1 n).1.2.2.2.1 = false ∧ (deleteQ (appendQ (createQ q n).1 n d).1 n).1.1 = c ∧ ((deleteQ (appendQ (createQ q n).1 n d).1 n).1.2.1.length : Int) ≤ k + 1) := by
  have g1 := sp_c hq hc ha (by omega) hn
  have x1 := okQ_create (n := n) hq
  have ha1 : (createQ q n).1.2.2.2.1 = false := by rw [g1.2.1]; exact ha
  have hc1 : (createQ q n).1.2.2.1 = false := by rw [g1.2.1]; exact hc
  have a2 := sp_a (d := d) g1.1 ha1
  have g2 := sp_k (d := d) g1.1 ha1
  have x2 := okQ_append (n := n) (d := d) x1
  have ha2 : (appendQ (createQ q n).1 n d).1.2.2.2.1 = false := by rw [g2.2.1]; exact ha1
  have hc2 : (appendQ (createQ q n).1 n d).1.2.2.1 = false := by rw [g2.2.1]; exact hc1
  have g3 := sp_d g2.1 ha2
  have e2 : (appendQ (createQ q n).1 n d).1.1 = c := by rw [g2.2.2.1, g1.2.2.1, h1]
  refine ⟨fun e => ?_, x1, x2, okQ_delete x2, ?_, ?_, ?_, g3.1, g3.2.2.2.2, ⟨hc2, ha2, e2, ?_⟩, ⟨?_, ?_, ?_, ?_⟩⟩
  · rw [g1.2.2.2.2 e]; decide
  · rw [a2, g1.2.2.1, h1]
    split
    · rw [decide_eq_false (by decide : ¬ (14 : Int) = 0), decide_eq_false (by omega)]; decide
    · rw [decide_eq_true rfl, decide_eq_true (by omega)]; decide
  · rw [a2]
    split
    · exact fun _ => rfl
    · exact fun q => absurd rfl q
  · have := x2.2.2.1; omega
  · have := g1.2.2.2.1; have := g2.2.2.2; omega
  · rw [g3.2.1]; exact hc2
  · rw [g3.2.1]; exact ha2
  · rw [g3.2.2.1]; exact e2
  · have := g1.2.2.2.1; have := g2.2.2.2; have := g3.2.2.2.1; omega

abbrev c_space_law : Ct := .fn [.list (.int .i64), .int .i64] (some (fun (l : List Int) (m : Int) => (l.length ≤ 9223372036854775807))) (fun (l : List Int) (m : Int) => .d .bool true)
set_option maxRecDepth 100000 in
set_option maxHeartbeats 4000000 in
theorem space_law : CtOk Try.prog 3 c_space_law := by
  refine CtOk.fn tb55_ok mixed [] [] rfl rfl ?_
  rintro ⟨(l : List Int), (m : Int), _⟩ hpre
  replace hpre := hpre _ rfl
  dsimp only [cu] at hpre
  have hl := hpre
  have hp1 := pick_lt (v := m) (n := 40) (by omega)
  refine ⟨[(0, 14, LA.mk [.sl 9 (.int .i64), .row 0 [.val (.int .i64), .owb tObj 42, .val .bool, .val .bool, .val (.int .i64), .val (.int .i64)], .ob 1 tSrc 63] (fun y => Tag 22 ∧ cu [.int .i64, .int .i64, .pair .bool (.list tObj), .bool, .bool, .int .i64, .int .i64, tSrc] (fun (k : Int) (c : Int) (o : Bool × List Obj) (cr : Bool) (ar : Bool) (w : Int) (kp : Int) (q : Src) => (0 ≤ k ∧ k ≤ 40) ∧ (Src.ok q) ∧ (okQ (toQ (c, o, cr, ar, w, kp))) ∧ (o.1 = false → o.2 = []) ∧ (cr = false ∧ ar = false ∧ c = 1 + pick m 40 ∧ (o.2.length : Int) ≤ k)) y) (cu [.int .i64, .int .i64, .pair .bool (.list tObj), .bool, .bool, .int .i64, .int .i64, tSrc] (fun (k : Int) (c : Int) (o : Bool × List Obj) (cr : Bool) (ar : Bool) (w : Int) (kp : Int) (q : Src) => (40 - k).toNat)) (cu [.int .i64, .int .i64, .pair .bool (.list tObj), .bool, .bool, .int .i64, .int .i64, tSrc] (fun (k : Int) (c : Int) (o : Bool × List Obj) (cr : Bool) (ar : Bool) (w : Int) (kp : Int) (q : Src) => ([] : List (Nat × Nat × LA)))))], ?_⟩
  repeat' (first
    | (
 with_reducible refine Side.mk ⟨(⟨⟩ : Tag 22), ?_⟩
 dsimp only [cu, joinT, ckTys, gts, Prod.eta, List.nil_append]
 refine ⟨?_, ?_, ?_, ?_, ?_⟩
 · omega
 · first
   | ((repeat (first | assumption | exact Src.ok_from (by assumption) | apply Src.ok_next)); done)
   | (exact (dataF_ok (Src.ok_next hs)).1)
   | (exact Src.ok_next (dataF_ok (Src.ok_next hs)).1)
 · first
   | (exact okQ_nQ (by omega))
   | (
  (try dsimp only [toQ, Prod.eta])
  first
  | (with_reducible exact (sa (by assumption)).2.2.1)
  | (with_reducible exact (sa (by assumption)).2.2.2.1))
 · first
   | (intro q; rfl)
   | (intro q; cases q)
 · first
   | (exact nv hp1)
   | (
  (try dsimp only [toQ, Prod.eta])
  first
  | (with_reducible exact (sa (by assumption)).2.2.2.2.2.2.2.2.2.1)
  | (with_reducible exact (sa (by assumption)).2.2.2.2.2.2.2.2.2.2)))
    | (
 with_reducible refine Side.mk ?_
 (try dsimp only [cu, joinT, ckTys, gts, loK, hiK, Prod.eta, List.nil_append])
 first
 | (done)
 | (with_reducible rfl)
 | (omega)
 | (exact Eq.refl _)
 | (simp only [List.length_append, List.length_cons, List.length_nil]; omega)
 | ((repeat (first | assumption | exact Src.ok_from (by assumption) | apply Src.ok_next)); done)
 | (assumption)
 | (
  refine ⟨?_, by decide⟩
  (repeat (first | assumption | exact Src.ok_from (by assumption) | apply Src.ok_next)); done)
 | (exact u64_ne (by omega))
 | (
  show _ ≤ (4 : Int)
  omega)
 | (exact ab1 hp)
 | (
  refine ⟨?_, ?_, ?_⟩
  · with_reducible exact hq
  · exact ho
  · exact abN_sz)
 | (
  obtain ⟨k1, x1, x2, x3, k2, k3, k4, k5, k6, z1, z2⟩ := sa (by assumption)
  (try dsimp only [toQ, Prod.eta])
  first
  | (with_reducible exact okQ_b x1)
  | (with_reducible exact okQ_b x2)
  | (with_reducible exact okQ_b x3)
  | (with_reducible exact ⟨x1, by (intro q; cases q), Nat.le_trans dz.2 (by decide)⟩)
  | (with_reducible exact rg_add (used_nn _) (okQ_b x1).2 dz.2)
  | (with_reducible exact rg_sub (used_nn _) (okQ_b x2).2 (used_nn _) k6))
 | (exact ⟨dz.1, by decide⟩)
 | (
  obtain ⟨k1, x1, x2, x3, k2, k3, k4, k5, k6, z1, z2⟩ := sa (by assumption)
  (try dsimp only [toQ, Prod.eta])
  first
  | (with_reducible exact okQ_as x2)
  | (with_reducible exact ⟨x2, by (intro q; cases q)⟩)))
    | (conv => whnf
       first
        | done
        | exact trivial
        | with_reducible refine NilBr.mk (fun h => ?_) ?_
        | with_reducible first | refine w_andS ?_ ?_ | refine w_andL ?_ ?_ | refine w_kern (by kernel_rfl) ?_ | refine w_true ?_ | refine w_nd ?_ ?_ | refine w_in ?_ ?_ | refine w_and ?_ ?_
        | ((with_reducible first | refine w_brN (fun h => ?_) (fun h => ?_) | refine w_brD (fun h => ?_) (fun h => ?_) | refine w_br (fun h => ?_) (fun h => ?_)) <;> (try dsimp only [cu, Prod.eta, List.nil_append] at h) <;> (try (exfalso; first | omega | with_reducible contradiction | with_reducible exact absurd (by assumption) ((sa (by assumption)).1 rfl) | with_reducible exact absurd (by assumption) (sa (by assumption)).2.2.2.2.1 | with_reducible exact absurd ((sa (by assumption)).2.2.2.2.2.1 (by assumption)) (by assumption) | with_reducible exact absurd (by assumption) (sa (by assumption)).2.2.2.2.2.2.1 | with_reducible exact absurd (sa (by assumption)).2.2.2.2.2.2.2.1 (by assumption) | with_reducible exact absurd (sa (by assumption)).2.2.2.2.2.2.2.2.1 (by assumption); done)))
        | (
 intro yy (hy : Tag 22 ∧ _)
 obtain ⟨(k : Int), (c : Int), (o : Bool × List Obj), (cr : Bool), (ar : Bool), (w : Int), (kp : Int), (q : Src), _⟩ := yy
 replace hy := hy.2
 dsimp only [cu, joinT, ckTys, gts, Prod.eta, List.nil_append] at hy
 obtain ⟨hk, hs, hq, ho, hv⟩ := hy
 obtain ⟨b0, lo⟩ := o
 dsimp only at ho hq hv
 obtain ⟨hcr, har, hcc, hlo⟩ := hv
 have hp := Src.pick_lt (s := q) (n := 4) (by omega)
 have dz := dataF_ok (Src.ok_next hs)
 have hN := abN_perm hp
 have sa := fun hk2 => sp_all (q := (c, lo, cr, ar, w, kp)) (n := ((⟨#[97, 98, 99, 100]⟩ : ByteArray).extract (Src.pick q 4).toNat (⟨#[97, 98, 99, 100]⟩ : ByteArray).size).extract 0 (Int.toNat 1)) (d := (dataF (Src.next q)).1) hq hcr har hcc hlo hk2 hN dz.2
 rcases b0 with _ | _
 case' false => (have e := ho rfl; subst e))))
  all_goals (
 with_reducible refine Leaf.mk ?_
 (try dsimp only [cu, joinT, ckTys, gts, Prod.eta, List.nil_append] at *)
 first
 | (done)
 | (rfl))
abbrev tb56 : Tbl := (3, c_space_law) :: tb55
theorem tb56_ok : TblOk Try.prog tb56 := TblOk.cons space_law tb55_ok

end

end Go.Proofs.Ytpjgjkoajoiopaa
