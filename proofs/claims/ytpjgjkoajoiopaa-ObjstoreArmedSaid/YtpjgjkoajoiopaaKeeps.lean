/- ObjstoreCrashKeeps. -/
import Derived.Test.YtpjgjkoajoiopaaTwice
namespace Go.Proofs.Ytpjgjkoajoiopaa
open Go.Abs
set_option linter.unusedVariables false
set_option linter.unusedSimpArgs false

noncomputable section

theorem fall_one {l : List Obj} {p k : Int} (h : 0 ≤ k ∧ k < l.length) : fallS (l.take (k + 1).toNat) p = fallS (l.take k.toNat) p ++ (if goneO (cutO p l[k.toNat]!) = true then [] else [cutO p l[k.toNat]!]) := by
  rw [show (k + 1).toNat = k.toNat + 1 by omega, List.take_add_one, List.getElem?_eq_getElem (by omega), getElem!_pos l k.toNat (by omega)]
  unfold fallS
  rw [List.map_append, List.filter_append]
  congr 1
  by_cases hg : goneO (cutO p l[k.toNat]) = true <;> simp [hg]
theorem fall_pre (l : List Obj) (p : Int) (k : Nat) : fallS l p = fallS (l.take k) p ++ fallS (l.drop k) p := by
  conv => lhs; rw [← List.take_append_drop k l]
  unfold fallS
  rw [List.map_append, List.filter_append]
theorem cut_sz {o : Obj} {p : Int} (hz : 0 ≤ o.2.2 ∧ o.2.2 ≤ o.2.1.size) (hp : 0 ≤ p) : minI (o.2.1.size : Int) (o.2.2 + p) = ((cutD p o).size : Int) := by
  unfold cutD minI
  by_cases h : p < (o.2.1.size : Int) - o.2.2
  · rw [if_pos h, if_pos (by omega), ByteArray.size_extract]; omega
  · rw [if_neg h, if_neg (by omega)]
theorem cut_ex {o : Obj} {p : Int} (hz : 0 ≤ o.2.2 ∧ o.2.2 ≤ o.2.1.size) (hp : 0 ≤ p) : o.2.1.extract 0 (minI (o.2.1.size : Int) (o.2.2 + p)).toNat = cutD p o := by
  unfold cutD minI
  by_cases h : p < (o.2.1.size : Int) - o.2.2
  · rw [if_pos h, if_pos (by omega)]
  · rw [if_neg h, if_neg (by omega), Int.toNat_natCast]
    exact ByteArray.extract_zero_size
theorem goneC_iff (o : Obj) (p : Int) : goneO (cutO p o) = true ↔ (cutD p o).size = 0 := by
  show decide (cutD p o = EMP) = true ↔ _
  rw [decide_eq_true_eq]
  constructor
  · intro h; rw [h]; rfl
  · intro h; exact ByteArray.ext (Array.eq_empty_of_size_eq_zero h)
theorem kp_gone {l : List Obj} {p k i : Int} (hi : i = ((fallS (l.take k.toNat) p).length : Int)) (hk : 0 ≤ k ∧ k < l.length) (hz : 0 ≤ l[k.toNat]!.2.2 ∧ l[k.toNat]!.2.2 ≤ l[k.toNat]!.2.1.size) (hp : 0 ≤ p) (h : minI (l[k.toNat]!.2.1.size : Int) (l[k.toNat]!.2.2 + p) = 0) : i = ((fallS (l.take (k + 1).toNat) p).length : Int) := by
  rw [cut_sz hz hp] at h
  rw [fall_one hk, if_pos ((goneC_iff _ _).2 (by omega)), List.append_nil]; exact hi
theorem kp_mid {l : List Obj} {p k i : Int} (hi : i = ((fallS (l.take k.toNat) p).length : Int)) (hk : 0 ≤ k ∧ k < l.length) (hz : 0 ≤ l[k.toNat]!.2.2 ∧ l[k.toNat]!.2.2 ≤ l[k.toNat]!.2.1.size) (hp : 0 ≤ p) (h : ¬ minI (l[k.toNat]!.2.1.size : Int) (l[k.toNat]!.2.2 + p) = 0) : i < (fallS l p).length ∧ (fallS l p)[i.toNat]! = cutO p l[k.toNat]! ∧ i + 1 = ((fallS (l.take (k + 1).toNat) p).length : Int) := by
  rw [cut_sz hz hp] at h
  have hg : ¬ goneO (cutO p l[k.toNat]!) = true := fun q => h (by have := (goneC_iff _ _).1 q; omega)
  have h1 := fall_one (p := p) hk
  rw [if_neg hg] at h1
  have h2 := fall_pre l p (k + 1).toNat
  have hi2 : i.toNat = (fallS (l.take k.toNat) p).length := by omega
  refine ⟨?_, ?_, ?_⟩
  · rw [h2, h1]; simp; omega
  · rw [h2, h1, hi2]; simp
  · rw [h1]; simp; omega
theorem kp_cmp {l : List Obj} {p k i : Int} (hi : i = ((fallS (l.take k.toNat) p).length : Int)) (hk : 0 ≤ k ∧ k < l.length) (hz : 0 ≤ l[k.toNat]!.2.2 ∧ l[k.toNat]!.2.2 ≤ l[k.toNat]!.2.1.size) (hp : 0 ≤ p) (h : ¬ minI (l[k.toNat]!.2.1.size : Int) (l[k.toNat]!.2.2 + p) = 0) {A : List Obj} (hA : A = fallS l p) : ¬ (!(decide ((A[i.toNat]!).1 = (l[k.toNat]!).1) && (decide ((A[i.toNat]!).2.1 = (l[k.toNat]!).2.1.extract 0 (minI (l[k.toNat]!.2.1.size : Int) (l[k.toNat]!.2.2 + p)).toNat) && decide ((A[i.toNat]!).2.2 = minI (l[k.toNat]!.2.1.size : Int) (l[k.toNat]!.2.2 + p))))) = true := by
  subst hA
  rw [(kp_mid hi hk hz hp h).2.1, cut_ex hz hp, cut_sz hz hp]
  simp [cutO]
theorem fall_len0 (l : List Obj) (p : Int) : (fallS l p).length ≤ l.length := by
  unfold fallS; exact Nat.le_trans (List.length_filter_le _ _) (by simp)
theorem lst_n {a : Int} {b : Bool × Bool × Int × Int} : ((listQ (a, [], b)).length : Int) = 0 := by
  unfold listQ; split <;> rfl
theorem lst_0 {q : St} {p : Int} (hc : q.2.2.1 = false) (hp : 0 ≤ p) : ((listQ (crashQ q p).1).length : Int) = 0 := by
  rw [crash_0 hc hp]; rfl

abbrev c_keeps_law : Ct := .fn [.list (.int .i64), .int .i64] (some (fun (l : List Int) (m : Int) => (l.length ≤ 9223372036854775807))) (fun (l : List Int) (m : Int) => .d .bool true)
set_option maxRecDepth 100000 in
set_option maxHeartbeats 4000000 in
theorem keeps_law : CtOk Try.prog 6 c_keeps_law := by
  refine CtOk.fn tb54_ok mixed [] [] rfl rfl ?_
  rintro ⟨(l : List Int), (m : Int), _⟩ hpre
  replace hpre := hpre _ rfl
  dsimp only [cu] at hpre
  have hl := hpre
  obtain ⟨⟨hq, hc, ha, hcap, hu, hn⟩, ho⟩ := fill_ok2 (l := l) hl
  have hp1 := pick_lt (v := m) (n := 8) (by omega)
  obtain ⟨t1, t2, t3, t4, t5, t6, t7⟩ := tw (r := 0) hq hc hp1.1 (Int.le_refl _)
  have hz : ∀ {k : Int}, 0 ≤ k ∧ k < (fillF l).2.1.2.length → 0 ≤ (fillF l).2.1.2[k.toNat]!.2.2 ∧ (fillF l).2.1.2[k.toNat]!.2.2 ≤ (fillF l).2.1.2[k.toNat]!.2.1.size := fun {k} h => ⟨(at_z hq.1 (i := k.toNat) (show k.toNat < (fillF l).2.1.2.length by omega)).1, (at_z hq.1 (i := k.toNat) (show k.toNat < (fillF l).2.1.2.length by omega)).2.1⟩
  have hb : ∀ {k : Int}, 0 ≤ k ∧ k < (fillF l).2.1.2.length → (fillF l).2.1.2[k.toNat]!.2.1.size ≤ 1073741824 := fun {k} h => (at_z hq.1 (i := k.toNat) (show k.toNat < (fillF l).2.1.2.length by omega)).2.2
  have hn2 : (fillF l).2.1.2.length ≤ 30 := hn
  have hA : (restartQ (crashQ (toQ (fillF l)) (pick m 8)).1).2.1 = fallS (fillF l).2.1.2 (pick m 8) := by rw [crash_0 hc hp1.1]; rfl
  have hl0 := lst_0 hc hp1.1
  have tu := fun e => tn (r := 0) hq hc hp1.1 (Int.le_refl _) (ho e)
  refine ⟨[(0, 22, LA.mk [.sl 45 (.int .i64), .sl 9 (.int .i64)] (fun y => Tag 21 ∧ cu [.int .i64, .int .i64] (fun (k : Int) (i : Int) => (0 ≤ k ∧ k ≤ (fillF l).2.1.2.length) ∧ (i = ((fallS ((fillF l).2.1.2.take k.toNat) (pick m 8)).length : Int))) y) (cu [.int .i64, .int .i64] (fun (k : Int) (i : Int) => (((fillF l).2.1.2.length : Int) - k).toNat)) (cu [.int .i64, .int .i64] (fun (k : Int) (i : Int) => ([] : List (Nat × Nat × LA)))))], ?_⟩
  repeat' (first
    | (
 with_reducible refine Side.mk ⟨(⟨⟩ : Tag 21), ?_⟩
 dsimp only [cu, joinT, ckTys, gts, Prod.eta, List.nil_append]
 refine ⟨?_, ?_⟩
 · omega
 · first
   | (simp [fallS]; done)
   | (exact kp_gone hi (by omega) (hz (by omega)) hp1.1 (by assumption))
   | (exact (kp_mid hi (by omega) (hz (by omega)) hp1.1 (by assumption)).2.2))
    | (
 with_reducible refine Side.mk ?_
 (try dsimp only [cu, joinT, ckTys, gts, loK, hiK, Prod.eta, List.nil_append])
 first
 | (done)
 | (with_reducible rfl)
 | (omega)
 | (exact Eq.refl _)
 | (simp only [List.length_append, List.length_cons, List.length_nil]; omega)
 | (assumption)
 | (
  have z1 := hz (k := k) (by omega)
  have z2 := hb (k := k) (by omega)
  omega)
 | (
  have q0 := fall_len0 ((fillF l).2.1.2.take k.toNat) (pick m 8)
  rw [List.length_take] at q0
  omega)
 | (
  have z1 := hz (k := k) (by omega)
  have z2 := hb (k := k) (by omega)
  unfold minI
  split <;> omega)
 | (kernel_rfl)
 | (exact u64_ne (by omega))
 | (exact Nat.le_trans t6.1.2.1 (by decide))
 | (exact t6.1)
 | (exact ⟨hq, by (intro q; cases q), by omega⟩)
 | (exact ⟨hq, by (intro q; cases q)⟩)
 | (exact ⟨t2, by (intro q; cases q), by omega⟩)
 | (exact ⟨t2, by (intro q; cases q)⟩)
 | (exact ⟨t4, by (intro q; cases q), by omega⟩)
 | (exact ⟨t4, by (intro q; cases q)⟩)
 | (exact ⟨t6, by (intro q; cases q), by omega⟩)
 | (exact ⟨t6, by (intro q; cases q)⟩)
 | (exact ⟨okQ_nil hq (ho (by assumption)), fun _ => rfl, by omega⟩)
 | (exact ⟨okQ_nil hq (ho (by assumption)), fun _ => rfl⟩)
 | (
  obtain ⟨u1, u2, u3, u4, u5, u6⟩ := tu (by assumption)
  first
  | (exact ⟨u2, fun _ => rfl, by omega⟩)
  | (exact ⟨u2, fun _ => rfl⟩)
  | (exact ⟨u4, fun _ => rfl, by omega⟩)
  | (exact ⟨u4, fun _ => rfl⟩)
  | (exact ⟨u6, fun _ => rfl, by omega⟩)
  | (exact ⟨u6, fun _ => rfl⟩)))
    | (conv => whnf
       first
        | done
        | exact trivial
        | with_reducible refine NilBr.mk (fun h => ?_) ?_
        | with_reducible first | refine w_andS ?_ ?_ | refine w_andL ?_ ?_ | refine w_kern (by kernel_rfl) ?_ | refine w_true ?_ | refine w_nd ?_ ?_ | refine w_in ?_ ?_ | refine w_and ?_ ?_
        | ((with_reducible first | refine w_brN (fun h => ?_) (fun h => ?_) | refine w_brD (fun h => ?_) (fun h => ?_) | refine w_br (fun h => ?_) (fun h => ?_)) <;> (try dsimp only [cu, Prod.eta, List.nil_append] at h) <;> (try (exfalso; first | omega | contradiction; done)))
        | (
 intro yy (hy : Tag 21 ∧ _)
 obtain ⟨(k : Int), (i : Int), _⟩ := yy
 replace hy := hy.2
 dsimp only [cu, joinT, ckTys, gts, Prod.eta, List.nil_append] at hy
 obtain ⟨hk, hi⟩ := hy)))
  all_goals (
 with_reducible refine Leaf.mk ?_
 (try dsimp only [cu, joinT, ckTys, gts, Prod.eta, List.nil_append] at *)
 first
 | (done)
 | (rfl)
 | (exact absurd hl0 (by assumption))
 | (exact absurd (by assumption) (kp_cmp hi (by omega) (hz (by omega)) hp1.1 (by assumption) hA))
 | (
  have q0 := (kp_mid hi (by omega) (hz (by omega)) hp1.1 (by assumption)).1
  rw [← hA] at q0
  exact absurd q0 (by have q5 := (by assumption : i ≥ _); exact Int.not_lt.2 q5))
 | (
  refine decide_eq_true ?_
  rw [hi, List.take_of_length_le (by omega), ← hA])
 | (
  have e0 := ho (by assumption)
  rw [e0] at hi
  refine decide_eq_true ?_
  rw [hi]
  simp [fallS]; done)
 | (exact absurd lst_n (by assumption))
 | (exact decide_eq_true t7)
 | (exact absurd t1 (by assumption))
 | (exact absurd (by assumption) t3)
 | (exact absurd t5 (by assumption))
 | (
  obtain ⟨u1, u2, u3, u4, u5, u6⟩ := tu (by assumption)
  first | exact absurd u1 (by assumption) | exact absurd (by assumption) u3 | exact absurd u5 (by assumption)))
abbrev tb55 : Tbl := (6, c_keeps_law) :: tb54
theorem tb55_ok : TblOk Try.prog tb55 := TblOk.cons keeps_law tb54_ok

end

end Go.Proofs.Ytpjgjkoajoiopaa
