/- ObjstoreTwice. -/
import Derived.Test.YtpjgjkoajoiopaaFill
namespace Go.Proofs.Ytpjgjkoajoiopaa
open Go.Abs
set_option linter.unusedVariables false
set_option linter.unusedSimpArgs false

noncomputable section

def okP (n : Nat) (q : St) : Prop := okQ q ∧ q.2.2.1 = false ∧ q.2.2.2.1 = false ∧ q.1 = 1000 ∧ usedS q.2.1 ≤ 5 * n ∧ q.2.1.length ≤ n
def okF (n : Nat) (a : StA) : Prop := okP n (toQ a) ∧ (a.2.1.1 = false → a.2.1.2 = [])
theorem doQ_off {q r : St} (h : q.2.2.2.1 = false) (hr : r.2.2 = q.2.2) : doQ q r = (r, 0) := by
  have h1 : ¬ fireB q = true := by rw [fireB, h]; simp
  have h2 : ¬ r.2.2.2.1 = true := by rw [hr, h]; simp
  rw [doQ, if_neg h1, fireQ, if_neg h2]
theorem cr_cases {q : St} {n : ByteArray} (h : q.2.2.2.1 = false) : (createQ q n).1 = q ∨ (createQ q n).1 = wL q (insL q.2.1 (posS q.2.1 n) (n, EMP, 0)) := by
  unfold createQ
  split
  · exact .inl rfl
  split
  · exact .inl rfl
  split
  · exact .inl rfl
  split
  · exact .inl rfl
  · right; rw [doQ_off (r := wL q (insL q.2.1 (posS q.2.1 n) (n, EMP, 0))) h rfl]
theorem ap_cases {q : St} {n d : ByteArray} (h : q.2.2.2.1 = false) : (appendQ q n d).1 = q ∨ (posS q.2.1 n < q.2.1.length ∧ (appendQ q n d).1 = appQ q n d) := by
  unfold appendQ
  split
  · exact .inl rfl
  · rename_i h0
    split
    · exact .inl rfl
    · right; exact ⟨known_1 h0, by rw [doQ_off (q := appQ q n d) (r := appQ q n d) h rfl]⟩
theorem sy_cases {q : St} {n : ByteArray} (h : q.2.2.2.1 = false) : (syncQ q n).1 = q ∨ (posS q.2.1 n < q.2.1.length ∧ (syncQ q n).1 = putQ q n ((atQ q n).1, (atQ q n).2.1, ((atQ q n).2.1.size : Int))) := by
  unfold syncQ
  split
  · exact .inl rfl
  · rename_i h0
    right; exact ⟨known_1 h0, by rw [doQ_off (r := putQ q n _) h rfl]⟩
theorem okP_mono {n m : Nat} {q : St} (h : okP n q) (hm : n ≤ m) : okP m q := by
  obtain ⟨h1, h2, h3, h4, h5, h6⟩ := h
  exact ⟨h1, h2, h3, h4, by omega, by omega⟩
theorem okP_create {m : Nat} {q : St} {n : ByteArray} (h : okP m q) : okQ (createQ q n).1 ∧ (createQ q n).1.2.2 = q.2.2 ∧ (createQ q n).1.1 = q.1 ∧ usedS (createQ q n).1.2.1 = usedS q.2.1 ∧ (createQ q n).1.2.1.length ≤ m + 1 := by
  obtain ⟨h1, h2, h3, h4, h5, h6⟩ := h
  refine ⟨okQ_create h1, ?_⟩
  rcases cr_cases (n := n) h3 with q1 | q1 <;> rw [q1]
  · exact ⟨rfl, rfl, rfl, by omega⟩
  · exact ⟨rfl, rfl, ins_used _ _ _, by show (insL _ _ _).length ≤ _; simp [insL]; omega⟩
theorem okP_append {m : Nat} {q : St} {n d : ByteArray} (h : okQ q ∧ q.2.2.1 = false ∧ q.2.2.2.1 = false ∧ q.1 = 1000 ∧ usedS q.2.1 ≤ 5 * m ∧ q.2.1.length ≤ m + 1) (hd : d.size ≤ 5) : okP (m + 1) (appendQ q n d).1 := by
  obtain ⟨h1, h2, h3, h4, h5, h6⟩ := h
  refine ⟨okQ_append h1, ?_⟩
  rcases ap_cases (n := n) (d := d) h3 with q1 | ⟨hp, q1⟩ <;> rw [q1]
  · exact ⟨h2, h3, h4, by omega, h6⟩
  · refine ⟨h2, h3, h4, ?_, by show (q.2.1.set _ _).length ≤ _; rw [List.length_set]; exact h6⟩
    show usedS (q.2.1.set _ _) ≤ _
    rw [used_set hp]
    have hsz : ((atQ q n).2.1 ++ d).size = (q.2.1[posS q.2.1 n]!).2.1.size + d.size := ByteArray.size_append
    show _ - _ + (((atQ q n).2.1 ++ d).size : Int) ≤ _
    omega
theorem okP_sync {m : Nat} {q : St} {n : ByteArray} (h : okP m q) : okP m (syncQ q n).1 := by
  obtain ⟨h1, h2, h3, h4, h5, h6⟩ := h
  refine ⟨okQ_sync h1, ?_⟩
  rcases sy_cases (n := n) h3 with q1 | ⟨hp, q1⟩ <;> rw [q1]
  · exact ⟨h2, h3, h4, h5, h6⟩
  · refine ⟨h2, h3, h4, ?_, by show (q.2.1.set _ _).length ≤ _; rw [List.length_set]; exact h6⟩
    show usedS (q.2.1.set _ _) ≤ _
    rw [used_set hp]
    show _ - ((q.2.1[posS q.2.1 n]!).2.1.size : Int) + ((q.2.1[posS q.2.1 n]!).2.1.size : Int) ≤ _
    omega
theorem okF_create {m : Nat} {a : StA} {n : ByteArray} (h : okF m a) : (okQ (toQ (cA a n)) ∧ (toQ (cA a n)).2.2.1 = false ∧ (toQ (cA a n)).2.2.2.1 = false ∧ (toQ (cA a n)).1 = 1000 ∧ usedS (toQ (cA a n)).2.1 ≤ 5 * m ∧ (toQ (cA a n)).2.1.length ≤ m + 1) ∧ ((cA a n).2.1.1 = false → (cA a n).2.1.2 = []) := by
  have h1 := okP_create (n := n) h.1
  obtain ⟨⟨h01, h02, h03, h04, h05, h06⟩, h0⟩ := h
  refine ⟨⟨h1.1, by show (createQ (toQ a) n).1.2.2.1 = _; rw [h1.2.1]; exact h02, by show (createQ (toQ a) n).1.2.2.2.1 = _; rw [h1.2.1]; exact h03, by show (createQ (toQ a) n).1.1 = _; rw [h1.2.2.1]; exact h04, by show usedS (createQ (toQ a) n).1.2.1 ≤ _; rw [h1.2.2.2.1]; exact h05, h1.2.2.2.2⟩, fun e => ?_⟩
  have e : (a.2.1.1 || decide ((createQ (toQ a) n).2 = 0)) = false := e
  have e1 : a.2.1.1 = false := by cases hb : a.2.1.1 <;> simp_all
  rw [e1] at e
  exact cr_nil e (h0 e1)
theorem okF_step {m : Nat} {s : Src} {a : StA} (h : okF m a) (hs : Src.ok s) : okF (m + 1) (fillS s a).2 ∧ Src.ok (fillS s a).1 := by
  have hs2 : Src.ok (src2 s) := Src.ok_next (Src.ok_next hs)
  have hd := dataF_ok hs2
  have hc := okF_create (n := abN (Src.pick s 4)) h
  unfold fillS
  split
  · exact ⟨⟨⟨hc.1.1, hc.1.2.1, hc.1.2.2.1, hc.1.2.2.2.1, by have h5 := hc.1.2.2.2.2.1; refine Int.le_trans h5 ?_; omega, hc.1.2.2.2.2.2⟩, hc.2⟩, hs2⟩
  split
  · exact ⟨⟨okP_mono (okP_sync h.1) (by omega), fun e => sy_nil (h.2 e)⟩, hs2⟩
  · exact ⟨⟨okP_append hc.1 hd.2, fun e => ap_nil (hc.2 e)⟩, hd.1⟩
theorem okF_go : ∀ (k : Nat) (m : Nat) (s : Src) (a : StA), okF m a → Src.ok s → okF (m + k) (fillGo k s a)
  | 0, m, s, a, h, _ => h
  | k + 1, m, s, a, h, hs => by
    rw [fillGo]
    split
    · have h1 := okF_step h hs
      have h2 := okF_go k (m + 1) _ _ h1.1 h1.2
      rw [show m + (k + 1) = m + 1 + k by omega]; exact h2
    · exact ⟨okP_mono h.1 (by omega), h.2⟩
theorem fill_ok2 {l : List Int} (hl : l.length ≤ 9223372036854775807) : okF 30 (fillF l) := by
  have h0 : okF 0 (mkA false (nQ 1000)) := by
    refine ⟨⟨okQ_nQ (by omega), ?_, ?_, ?_, ?_, Nat.le_refl _⟩, fun _ => rfl⟩
    · show (nQ 1000).2.2.1 = false; rw [nQ_eq]
    · show (nQ 1000).2.2.2.1 = false; rw [nQ_eq]
    · show (nQ 1000).1 = 1000; rw [nQ_eq]; rfl
    · exact Int.le_refl _
  have h := okF_go 30 0 (l, 0) _ h0 (Src.ok_from hl)
  exact h

theorem crash_0 {q : St} {p : Int} (h : q.2.2.1 = false) (hp : 0 ≤ p) : crashQ q p = (fallQ q p, 0) := by
  rw [crashQ, h, if_neg (by decide), if_neg (by omega)]
theorem cut2 {o : Obj} {p r : Int} (hr : 0 ≤ r) : cutO r (cutO p o) = cutO p o := by
  have h : cutD r (cutO p o) = cutD p o := by
    show (if r < ((cutD p o).size : Int) - ((cutD p o).size : Int) then _ else cutD p o) = _
    rw [if_neg (by omega)]
  rw [cutO, h]; rfl
theorem fall2 {l : List Obj} {p r : Int} (hr : 0 ≤ r) : fallS (fallS l p) r = fallS l p := by
  unfold fallS
  have h : ∀ o, o ∈ (l.map (cutO p)).filter (fun o => !goneO o) → cutO r o = o := fun o ho => by
    obtain ⟨o', _, rfl⟩ := List.mem_map.1 (List.mem_filter.1 ho).1
    exact cut2 hr
  rw [List.map_congr_left h, List.map_id', List.filter_filter]
  simp
theorem crash_n {q : St} {p : Int} (e : q.2.1 = []) : (crashQ q p).1.2.1 = [] := by
  unfold crashQ
  split
  · exact e
  split
  · exact e
  · simp [fallQ, e, fallS]
theorem tw {q : St} {p r : Int} (hq : okQ q) (hc : q.2.2.1 = false) (hp : 0 ≤ p) (hr : 0 ≤ r) : (crashQ q p).2 = 0 ∧ okQ (crashQ q p).1 ∧ ¬ (!(crashQ q p).1.2.2.1) = true ∧ okQ (restartQ (crashQ q p).1) ∧ (crashQ (restartQ (crashQ q p).1) r).2 = 0 ∧ okQ (crashQ (restartQ (crashQ q p).1) r).1 ∧ (crashQ (restartQ (crashQ q p).1) r).1.2.1 = (restartQ (crashQ q p).1).2.1 := by
  have h1 := crash_0 (p := p) hc hp
  have h2 := crash_0 (q := restartQ (fallQ q p)) (p := r) rfl hr
  have h3 : okQ (fallQ q p) := okQ_fall hq
  have h4 : okQ (restartQ (fallQ q p)) := okQ_restart h3
  rw [h1]
  dsimp only
  rw [h2]
  exact ⟨rfl, h3, by simp [fallQ], h4, rfl, okQ_fall h4, fall2 hr⟩
theorem tn {q : St} {p r : Int} (hq : okQ q) (hc : q.2.2.1 = false) (hp : 0 ≤ p) (hr : 0 ≤ r) (e : q.2.1 = []) : (crashQ (q.1, [], q.2.2) p).2 = 0 ∧ okQ ((crashQ (q.1, [], q.2.2) p).1.1, [], (crashQ (q.1, [], q.2.2) p).1.2.2) ∧ ¬ (!(crashQ (q.1, [], q.2.2) p).1.2.2.1) = true ∧ okQ ((restartQ ((crashQ (q.1, [], q.2.2) p).1.1, [], (crashQ (q.1, [], q.2.2) p).1.2.2)).1, [], (restartQ ((crashQ (q.1, [], q.2.2) p).1.1, [], (crashQ (q.1, [], q.2.2) p).1.2.2)).2.2) ∧ (crashQ ((restartQ ((crashQ (q.1, [], q.2.2) p).1.1, [], (crashQ (q.1, [], q.2.2) p).1.2.2)).1, [], (restartQ ((crashQ (q.1, [], q.2.2) p).1.1, [], (crashQ (q.1, [], q.2.2) p).1.2.2)).2.2) r).2 = 0 ∧ okQ ((crashQ ((restartQ ((crashQ (q.1, [], q.2.2) p).1.1, [], (crashQ (q.1, [], q.2.2) p).1.2.2)).1, [], (restartQ ((crashQ (q.1, [], q.2.2) p).1.1, [], (crashQ (q.1, [], q.2.2) p).1.2.2)).2.2) r).1.1, [], (crashQ ((restartQ ((crashQ (q.1, [], q.2.2) p).1.1, [], (crashQ (q.1, [], q.2.2) p).1.2.2)).1, [], (restartQ ((crashQ (q.1, [], q.2.2) p).1.1, [], (crashQ (q.1, [], q.2.2) p).1.2.2)).2.2) r).1.2.2) := by
  have t := tw (r := r) hq hc hp hr
  rw [nil_eq e, nil_eq (crash_n e), nil_eq (q := restartQ (crashQ q p).1) (crash_n e), nil_eq (crash_n (q := restartQ (crashQ q p).1) (crash_n e))]
  exact ⟨t.1, t.2.1, t.2.2.1, t.2.2.2.1, t.2.2.2.2.1, t.2.2.2.2.2.1⟩

abbrev c_twice_law : Ct := .fn [.list (.int .i64), .int .i64, .int .i64] (some (fun (l : List Int) (k : Int) (m : Int) => (l.length ≤ 9223372036854775807))) (fun (l : List Int) (k : Int) (m : Int) => .d .bool true)
set_option maxRecDepth 100000 in
set_option maxHeartbeats 4000000 in
theorem twice_law : CtOk Try.prog 5 c_twice_law := by
  refine CtOk.fn tb53_ok mixed [] [] rfl rfl ?_
  rintro ⟨(l : List Int), (k : Int), (m : Int), _⟩ hpre
  replace hpre := hpre _ rfl
  dsimp only [cu] at hpre
  have hl := hpre
  obtain ⟨⟨hq, hc, ha, hcap, hu, hn⟩, ho⟩ := fill_ok2 (l := l) hl
  have hp1 := pick_lt (v := k) (n := 8) (by omega)
  have hp2 := pick_lt (v := m) (n := 8) (by omega)
  obtain ⟨t1, t2, t3, t4, t5, t6, t7⟩ := tw (r := pick m 8) hq hc hp1.1 hp2.1
  have tu := fun e => tn (r := pick m 8) hq hc hp1.1 hp2.1 (ho e)
  refine ⟨[], ?_⟩
  repeat' (first
    | (
 with_reducible refine Side.mk ?_
 (try dsimp only [cu, joinT, ckTys, gts, loK, hiK, Prod.eta, List.nil_append])
 first
 | (done)
 | (with_reducible rfl)
 | (omega)
 | (exact Eq.refl _)
 | (simp only [List.length_append, List.length_cons, List.length_nil]; omega)
 | (assumption)
 | (exact u64_ne (by omega))
 | (exact Nat.le_trans t6.1.2.1 (by decide))
 | (exact t6.1)
 | (exact ⟨hq, by (intro q; cases q), by omega⟩)
 | (exact ⟨hq, by (intro q; cases q)⟩)
 | (exact ⟨t2, by (intro q; cases q), by omega⟩)
 | (exact ⟨t2, by (intro q; cases q)⟩)
 | (exact ⟨t4, by (intro q; cases q), by omega⟩)
 | (exact ⟨t4, by (intro q; cases q)⟩)
 | (exact ⟨t6, by (intro q; cases q), by omega⟩)
 | (exact ⟨t6, by (intro q; cases q)⟩)
 | (exact ⟨okQ_nil hq (ho (by assumption)), fun _ => rfl, by omega⟩)
 | (
  obtain ⟨u1, u2, u3, u4, u5, u6⟩ := tu (by assumption)
  first
  | (exact ⟨u2, fun _ => rfl, by omega⟩)
  | (exact ⟨u2, fun _ => rfl⟩)
  | (exact ⟨u4, fun _ => rfl, by omega⟩)
  | (exact ⟨u4, fun _ => rfl⟩)
  | (exact ⟨u6, fun _ => rfl, by omega⟩)
  | (exact ⟨u6, fun _ => rfl⟩)))
    | (conv => whnf
       first
        | done
        | exact trivial
        | with_reducible refine NilBr.mk (fun h => ?_) ?_
        | with_reducible first | refine w_andS ?_ ?_ | refine w_andL ?_ ?_ | refine w_kern (by kernel_rfl) ?_ | refine w_true ?_ | refine w_nd ?_ ?_ | refine w_in ?_ ?_ | refine w_and ?_ ?_
        | ((with_reducible first | refine w_brN (fun h => ?_) (fun h => ?_) | refine w_brD (fun h => ?_) (fun h => ?_) | refine w_br (fun h => ?_) (fun h => ?_)) <;> (try dsimp only [cu, Prod.eta, List.nil_append] at h) <;> (try (exfalso; first | contradiction; done)))))
  all_goals (
 with_reducible refine Leaf.mk ?_
 (try dsimp only [cu, joinT, ckTys, gts, Prod.eta, List.nil_append] at *)
 first
 | (done)
 | (rfl)
 | (exact decide_eq_true t7)
 | (exact absurd t1 (by assumption))
 | (exact absurd (by assumption) t3)
 | (exact absurd t5 (by assumption))
 | (
  obtain ⟨u1, u2, u3, u4, u5, u6⟩ := tu (by assumption)
  first | exact absurd u1 (by assumption) | exact absurd (by assumption) u3 | exact absurd u5 (by assumption)))
abbrev tb54 : Tbl := (5, c_twice_law) :: tb53
theorem tb54_ok : TblOk Try.prog tb54 := TblOk.cons twice_law tb53_ok

end

end Go.Proofs.Ytpjgjkoajoiopaa
