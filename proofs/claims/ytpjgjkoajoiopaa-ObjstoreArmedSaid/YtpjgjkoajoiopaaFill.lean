/- A store with objects. -/
import Derived.Test.YtpjgjkoajoiopaaLaw2
namespace Go.Proofs.Ytpjgjkoajoiopaa
open Go.Abs
set_option linter.unusedVariables false
set_option linter.unusedSimpArgs false

noncomputable section

theorem cr_nil {q : St} {n : ByteArray} (h : (false || decide ((createQ q n).2 = 0)) = false) (e : q.2.1 = []) : (createQ q n).1.2.1 = [] := by
  have h : ¬ (createQ q n).2 = 0 := by simpa using h
  unfold createQ doQ at h ⊢
  repeat (any_goals split)
  all_goals first | exact e | skip
  · rename_i h0 h1 h2 h3 h4
    simp only [fallQ, fireQ]
    split <;> simp [e, fallS]
  · simp_all
theorem okQ_nil {q : St} (h : okQ q) (e : q.2.1 = []) : okQ (q.1, [], q.2.2) := by rw [← e]; exact h
theorem nil_eq {q : St} (e : q.2.1 = []) : (q.1, ([] : List Obj), q.2.2) = q := by rw [← e]

abbrev cA (a : StA) (n : ByteArray) : StA := mkA (a.2.1.1 || decide ((createQ (toQ a) n).2 = 0)) (createQ (toQ a) n).1
abbrev sA (a : StA) (n : ByteArray) : StA := mkA a.2.1.1 (syncQ (toQ a) n).1
abbrev pA (a : StA) (n d : ByteArray) : StA := mkA a.2.1.1 (appendQ (toQ a) n d).1
def abN (k : Int) : ByteArray := ((⟨#[97, 98, 99, 100]⟩ : ByteArray).extract k.toNat (⟨#[97, 98, 99, 100]⟩ : ByteArray).size).extract 0 (Int.toNat 1)
theorem abN_val {k : Int} (h : 0 ≤ k ∧ k < 4) : (abN k).size = 1 := by
  rcases (show k = 0 ∨ k = 1 ∨ k = 2 ∨ k = 3 by omega) with q | q | q | q <;> subst q <;> rfl
theorem abN_sz {s : Src} : (abN (Src.pick s 4)).size ≤ 140737488355328 := by rw [abN_val (Src.pick_lt (by omega))]; decide
theorem ab1 {k : Int} (h : 0 ≤ k ∧ k < 4) : (1 : Int) ≤ ((⟨#[97, 98, 99, 100]⟩ : ByteArray).extract k.toNat (⟨#[97, 98, 99, 100]⟩ : ByteArray).size).size := by
  rcases (show k = 0 ∨ k = 1 ∨ k = 2 ∨ k = 3 by omega) with q | q | q | q <;> subst q <;> decide
theorem sy_nil {q : St} {n : ByteArray} (e : q.2.1 = []) : (syncQ q n).1.2.1 = [] := by
  have h : knownQ q n ≠ 0 := by unfold knownQ; rw [e]; split <;> simp [has_nil]
  rw [syncQ, if_pos h]; exact e
theorem ap_nil {q : St} {n d : ByteArray} (e : q.2.1 = []) : (appendQ q n d).1.2.1 = [] := by
  have h : knownQ q n ≠ 0 := by unfold knownQ; rw [e]; split <;> simp [has_nil]
  rw [appendQ, if_pos h]; exact e
def fillS (s : Src) (a : StA) : Src × StA :=
  if Src.pick (Src.next s) 5 = 0 then (src2 s, cA a (abN (Src.pick s 4)))
  else if Src.pick (Src.next s) 5 = 1 then (src2 s, sA a (abN (Src.pick s 4)))
  else ((dataF (src2 s)).2, pA (cA a (abN (Src.pick s 4))) (abN (Src.pick s 4)) (dataF (src2 s)).1)
def fillGo : Nat → Src → StA → StA
  | 0, _, a => a
  | n + 1, s, a => if (s.2 : Int) < s.1.length then fillGo n (fillS s a).1 (fillS s a).2 else a
noncomputable def fillF (l : List Int) : StA := fillGo 30 (l, 0) (mkA false (nQ 1000))
theorem fill_step {k : Int} {s : Src} {a : StA} (hk : k < 30) (h : (s.2 : Int) < s.1.length) : fillGo (30 - k).toNat s a = fillGo (30 - (k + 1)).toNat (fillS s a).1 (fillS s a).2 := by
  rw [show (30 - k).toNat = (30 - (k + 1)).toNat + 1 by omega, fillGo, if_pos h]
theorem fill_end {k : Int} {s : Src} {a : StA} (h : ¬ k < 30 ∨ ¬ (s.2 : Int) < s.1.length) : fillGo (30 - k).toNat s a = a := by
  rcases h with h | h
  · rw [show (30 - k).toNat = 0 by omega, fillGo]
  · cases (30 - k).toNat with
    | zero => rfl
    | succ n => rw [fillGo, if_neg h]
theorem fillS_0 {s : Src} {a : StA} (h : Src.pick (Src.next s) 5 = 0) : fillS s a = (src2 s, cA a (abN (Src.pick s 4))) := if_pos h
theorem fillS_1 {s : Src} {a : StA} (h : Src.pick (Src.next s) 5 = 1) : fillS s a = (src2 s, sA a (abN (Src.pick s 4))) := by
  rw [fillS, if_neg (by omega), if_pos h]
theorem fillS_2 {s : Src} {a : StA} (h : ¬ Src.pick (Src.next s) 5 = 0) (h2 : ¬ Src.pick (Src.next s) 5 = 1) : fillS s a = ((dataF (src2 s)).2, pA (cA a (abN (Src.pick s 4))) (abN (Src.pick s 4)) (dataF (src2 s)).1) := by
  rw [fillS, if_neg h, if_neg h2]
theorem fill_start (l : List Int) : fillF l = fillGo (30 - 0 : Int).toNat (l, 0) (mkA false (nQ 1000)) := rfl
abbrev crx (a : StA) (s : Src) : St := (createQ (toQ a) (abN (Src.pick s 4))).1
theorem fg_ct {k : Int} {s : Src} {a : StA} (hk : k < 30) (hl : (s.2 : Int) < s.1.length) (h0 : Src.pick (Src.next s) 5 = 0) (h : (a.2.1.1 || decide ((createQ (toQ a) (abN (Src.pick s 4))).2 = 0)) = true) :
    fillGo (30 - k).toNat s a = fillGo (30 - (k + 1)).toNat (src2 s) ((crx a s).1, (true, (crx a s).2.1), (crx a s).2.2) := by
  rw [fill_step hk hl, fillS_0 h0, cA, h]
theorem fg_cf {k : Int} {s : Src} {a : StA} (hk : k < 30) (hl : (s.2 : Int) < s.1.length) (h0 : Src.pick (Src.next s) 5 = 0) (h : (a.2.1.1 || decide ((createQ (toQ a) (abN (Src.pick s 4))).2 = 0)) = false) (e : a.2.1.2 = []) :
    fillGo (30 - k).toNat s a = fillGo (30 - (k + 1)).toNat (src2 s) ((crx a s).1, (false, []), (crx a s).2.2) := by
  have h2 : (crx a s).2.1 = [] := cr_nil (by cases hb : a.2.1.1 <;> simp_all) e
  rw [fill_step hk hl, fillS_0 h0, cA, h, ← h2]
theorem fg_s {k : Int} {s : Src} {a : StA} (hk : k < 30) (hl : (s.2 : Int) < s.1.length) (h0 : Src.pick (Src.next s) 5 = 1) :
    fillGo (30 - k).toNat s a = fillGo (30 - (k + 1)).toNat (src2 s) (mkA a.2.1.1 (syncQ (toQ a) (abN (Src.pick s 4))).1) := by
  rw [fill_step hk hl, fillS_1 h0]
theorem fg_sf {k : Int} {s : Src} {a : StA} (hk : k < 30) (hl : (s.2 : Int) < s.1.length) (h0 : Src.pick (Src.next s) 5 = 1) (e : a.2.1.2 = []) :
    fillGo (30 - k).toNat s a = fillGo (30 - (k + 1)).toNat (src2 s) ((syncQ (toQ a) (abN (Src.pick s 4))).1.1, (a.2.1.1, []), (syncQ (toQ a) (abN (Src.pick s 4))).1.2.2) := by
  rw [fill_step hk hl, fillS_1 h0, ← sy_nil (q := toQ a) (n := abN (Src.pick s 4)) e]
abbrev apx (q : St) (s : Src) : St := (appendQ q (abN (Src.pick s 4)) (dataF (src2 s)).1).1
theorem fg_at {k : Int} {s : Src} {a : StA} (hk : k < 30) (hl : (s.2 : Int) < s.1.length) (h0 : ¬ Src.pick (Src.next s) 5 = 0) (h1 : ¬ Src.pick (Src.next s) 5 = 1) (h : (a.2.1.1 || decide ((createQ (toQ a) (abN (Src.pick s 4))).2 = 0)) = true) :
    fillGo (30 - k).toNat s a = fillGo (30 - (k + 1)).toNat (dataF (src2 s)).2 (mkA true (apx (crx a s) s)) := by
  rw [fill_step hk hl, fillS_2 h0 h1, cA, h]
theorem fg_af {k : Int} {s : Src} {a : StA} (hk : k < 30) (hl : (s.2 : Int) < s.1.length) (h0 : ¬ Src.pick (Src.next s) 5 = 0) (h1 : ¬ Src.pick (Src.next s) 5 = 1) (h : (a.2.1.1 || decide ((createQ (toQ a) (abN (Src.pick s 4))).2 = 0)) = false) (e : a.2.1.2 = []) :
    fillGo (30 - k).toNat s a = fillGo (30 - (k + 1)).toNat (dataF (src2 s)).2 ((apx ((crx a s).1, [], (crx a s).2.2) s).1, (false, []), (apx ((crx a s).1, [], (crx a s).2.2) s).2.2) := by
  have h2 : (crx a s).2.1 = [] := cr_nil (by cases hb : a.2.1.1 <;> simp_all) e
  have h3 : ((crx a s).1, ([] : List Obj), (crx a s).2.2) = crx a s := nil_eq h2
  have h4 : (apx (crx a s) s).2.1 = [] := ap_nil h2
  rw [h3, fill_step hk hl, fillS_2 h0 h1, cA, h, ← h4]

abbrev c_fill_ok : Ct := .mo [.val (.list (.int .i64))] (some (fun (l : List Int) => (l.length ≤ 9223372036854775807))) [.optp 61 shA0] (fun (l : List Int) => ((true, fillF l), ())) (fun (l : List Int) => (l, ()))
set_option maxRecDepth 100000 in
set_option maxHeartbeats 4000000 in
theorem fill_ok : CtOk Try.prog 27 c_fill_ok := by
  refine CtOk.mo tb52_ok mixed [] [] rfl rfl ?_
  rintro ⟨(l : List Int), _⟩ hpre
  replace hpre := hpre _ rfl
  dsimp only [cu] at hpre
  have hl := hpre
  all_goals refine ⟨[(0, 12, LA.mk [.sl 6 (.int .i64), .row 0 [.val (.int .i64), .owb tObj 42, .val .bool, .val .bool, .val (.int .i64), .val (.int .i64)], .ob 1 tSrc 63] (fun y => Tag 20 ∧ cu [.int .i64, .int .i64, .pair .bool (.list tObj), .bool, .bool, .int .i64, .int .i64, tSrc] (fun (k : Int) (c : Int) (o : Bool × List Obj) (cr : Bool) (ar : Bool) (w : Int) (kp : Int) (q : Src) => (0 ≤ k ∧ k ≤ 30) ∧ (Src.ok q) ∧ (okQ (toQ (c, o, cr, ar, w, kp))) ∧ (o.1 = false → o.2 = []) ∧ (fillF l = fillGo (30 - k).toNat q (c, o, cr, ar, w, kp))) y) (cu [.int .i64, .int .i64, .pair .bool (.list tObj), .bool, .bool, .int .i64, .int .i64, tSrc] (fun (k : Int) (c : Int) (o : Bool × List Obj) (cr : Bool) (ar : Bool) (w : Int) (kp : Int) (q : Src) => (30 - k).toNat)) (cu [.int .i64, .int .i64, .pair .bool (.list tObj), .bool, .bool, .int .i64, .int .i64, tSrc] (fun (k : Int) (c : Int) (o : Bool × List Obj) (cr : Bool) (ar : Bool) (w : Int) (kp : Int) (q : Src) => ([] : List (Nat × Nat × LA)))))], ?_⟩
  repeat' (first
    | (
 with_reducible refine Side.mk ⟨(⟨⟩ : Tag 20), ?_⟩
 dsimp only [cu, joinT, ckTys, gts, Prod.eta, List.nil_append]
 refine ⟨?_, ?_, ?_, ?_, ?_⟩
 · omega
 · first
   | ((repeat (first | assumption | exact Src.ok_from (by assumption) | apply Src.ok_next)); done)
   | (exact (dataF_ok (Src.ok_next (Src.ok_next hs))).1)
 · first
   | (exact okQ_nQ (by omega))
   | (exact okQ_create hq)
   | (exact okQ_nil (okQ_create hq) (cr_nil (by assumption) rfl))
   | (exact okQ_sync hq)
   | (exact okQ_nil (okQ_sync hq) (sy_nil rfl))
   | (exact okQ_append (okQ_create hq))
   | (exact okQ_nil (okQ_append (okQ_nil (okQ_create hq) (cr_nil (by assumption) rfl))) (ap_nil rfl))
 · first
   | (intro q; rfl)
   | (intro q; cases q)
 · first
   | (with_reducible exact fill_start l)
   | (exact fill_start l)
   | (
  rw [hg]
  first
  | (exact fg_ct (by omega) (by assumption) (by assumption) (by first | assumption | rfl))
  | (exact fg_cf (by omega) (by assumption) (by assumption) (by assumption) rfl)
  | (exact fg_s (by omega) (by assumption) (by assumption))
  | (exact fg_sf (by omega) (by assumption) (by assumption) rfl)
  | (exact fg_at (by omega) (by assumption) (by assumption) (by assumption) (by first | assumption | rfl))
  | (exact fg_af (by omega) (by assumption) (by assumption) (by assumption) (by assumption) rfl)))
    | (
 with_reducible refine Side.mk ?_
 (try dsimp only [cu, joinT, ckTys, gts, loK, hiK, Prod.eta, List.nil_append])
 first
 | (done)
 | (with_reducible rfl)
 | (omega)
 | (exact Eq.refl _)
 | (simp only [List.length_append, List.length_cons, List.length_nil]; omega)
 | ((repeat (first | assumption | exact Src.ok_from (by assumption) | apply Src.ok_next)); done)
 | (
  have hp := Src.pick_lt (s := q) (n := 4) (by omega)
  first
  | (omega)
  | (
   show _ ≤ (4 : Int)
   omega))
 | (exact ab1 (Src.pick_lt (by omega)))
 | (exact ⟨hq, ho, abN_sz⟩)
 | (exact ⟨hq, ho⟩)
 | (exact ⟨okQ_create hq, by (intro q; cases q), Nat.le_trans (dataF_ok (Src.ok_next (Src.ok_next hs))).2 (by decide)⟩)
 | (exact ⟨okQ_nil (okQ_create hq) (cr_nil (by assumption) rfl), fun _ => rfl, Nat.le_trans (dataF_ok (Src.ok_next (Src.ok_next hs))).2 (by decide)⟩)
 | (exact u64_ne (by omega))
 | (
  refine ⟨?_, by decide⟩
  (repeat (first | assumption | exact Src.ok_from (by assumption) | apply Src.ok_next)); done))
    | (conv => whnf
       first
        | done
        | exact trivial
        | with_reducible refine NilBr.mk (fun h => ?_) ?_
        | with_reducible first | refine w_andS ?_ ?_ | refine w_andL ?_ ?_ | refine w_kern (by kernel_rfl) ?_ | refine w_true ?_ | refine w_nd ?_ ?_ | refine w_in ?_ ?_ | refine w_and ?_ ?_
        | ((with_reducible first | refine w_brN (fun h => ?_) (fun h => ?_) | refine w_brD (fun h => ?_) (fun h => ?_) | refine w_br (fun h => ?_) (fun h => ?_)) <;> (try dsimp only [cu, Prod.eta, List.nil_append] at h) <;> (try (exfalso; first | omega | contradiction; done)))
        | (
 intro yy (hy : Tag 20 ∧ _)
 obtain ⟨(k : Int), (c : Int), (o : Bool × List Obj), (cr : Bool), (ar : Bool), (w : Int), (kp : Int), (q : Src), _⟩ := yy
 replace hy := hy.2
 dsimp only [cu, joinT, ckTys, gts, Prod.eta, List.nil_append] at hy
 obtain ⟨hk, hs, hq, ho, hg⟩ := hy
 obtain ⟨b0, lo⟩ := o
 dsimp only at ho hq hg
 rcases b0 with _ | _
 case' false => (have e := ho rfl; subst e))))
  all_goals (
 with_reducible refine Leaf.mk ?_
 (try dsimp only [cu, joinT, ckTys, gts, Prod.eta, List.nil_append] at *)
 first
 | (done)
 | (with_reducible rfl)
 | (rw [hg, fill_end (by first | exact .inl (by assumption) | exact .inr (by assumption))]))
abbrev tb53 : Tbl := (27, c_fill_ok) :: tb52
theorem tb53_ok : TblOk Try.prog tb53 := TblOk.cons fill_ok tb52_ok

end

end Go.Proofs.Ytpjgjkoajoiopaa
