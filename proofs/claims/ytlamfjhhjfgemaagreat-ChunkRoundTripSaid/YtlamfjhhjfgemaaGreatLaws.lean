/- Contracts of statements of layer 12. -/
import Derived.Test.YtlamfjhhjfgemaaGreatCenc
namespace Go.Proofs.YtlamfjhhjfgemaaGreat
open Go.Abs
set_option linter.unusedVariables false
set_option linter.unusedSimpArgs false

noncomputable section

/- What Encode makes of valid values. -/
theorem chk_zero {c : Col} : ∀ {l : List Val}, (∀ v, v ∈ l → vCheck c v = 0) → chkAll c l = 0
  | [], _ => rfl
  | v :: r, h => by
    rw [chkAll, if_neg (fun q => q (h v (by simp))), chk_zero (fun x hx => h x (List.mem_cons_of_mem _ hx))]
theorem codT_uses {t k : Int} (h : k = 1 ∨ k ∈ (codL t).drop (Int.toNat 1)) : usesB t k = true := by
  rw [← codL_uses, List.any_eq_true]
  refine ⟨k, ?_, by simp⟩
  rcases h with h | h
  · subst h; unfold codL; split <;> simp
  · exact List.mem_of_mem_drop h
theorem best_uses (t : Int) (P : List Val) : usesB t (bestK t P ((codL t).drop (Int.toNat 1)) 1) = true := codT_uses (bestK_mem t P _ 1)
theorem round_made {l : List Int} (t : Int) (null : Bool) (hi : ∀ x, x ∈ l → inI x) :
    (encV (colS t null) (kValuesS (colS t null) l)).2 = 0 ∧ (encV (colS t null) (kValuesS (colS t null) l)).1.size ≤ 4398046585379 ∧ decV (colS t null) (encV (colS t null) (kValuesS (colS t null) l)).1 = (kValuesS (colS t null) l, 0) := by
  have hkv := kValues_ok (l := l) (colS t null) hi
  have hck := kValues_check (l := l) t null
  have hct := colS_type t null
  have hc : vKnown (colS t null).2.1 = true := by simp [vKnown, hct]
  generalize kValuesS (colS t null) l = x at *
  have hl : x.length ≤ 4096 := by omega
  rw [encV_ok (by rw [hc]; decide) (by omega) (chk_zero hck)]
  have hu := best_uses (colS t null).2.1 (someV x)
  have hbs := build_size (t := (colS t null).2.1) (k := bestK (colS t null).2.1 (someV x) ((codL (colS t null).2.1).drop (Int.toNat 1)) 1) hkv.1 hl
  exact ⟨rfl, hbs.1, dec_round hc hu hl (fun v hv => ⟨hck v hv, hkv.1 v hv⟩)⟩

abbrev c_round_ok : Ct := .fn [.int .i64, .bool, .list (.int .i64)] (some (fun (t : Int) (null : Bool) (l : List Int) => (l.length ≤ 9223372036854775807) ∧ (∀ x, x ∈ l → inI x))) (fun (t : Int) (null : Bool) (l : List Int) => .d .bool true)
set_option maxRecDepth 100000 in
set_option maxHeartbeats 4000000 in
theorem round_ok : CtOk Tryz.prog 3 c_round_ok := by
  refine CtOk.fn tb84_ok mixed [] [] rfl rfl ?_
  rintro ⟨(t : Int), (null : Bool), (l : List Int), _⟩ hpre
  replace hpre := hpre _ rfl
  dsimp only [cu] at hpre
  obtain ⟨hl, hi⟩ := hpre
  obtain ⟨m1, m2, m3⟩ := round_made (l := l) t null hi
  have m4 := congrArg Prod.fst m3
  have m5 := congrArg Prod.snd m3
  dsimp only at m4 m5
  refine ⟨[], ?_⟩
  repeat' (first
    | (
 with_reducible refine Side.mk ?_
 (try dsimp only [cu, joinT, ckTys, gts, loK, hiK, Prod.eta, List.nil_append])
 first
 | (done)
 | (with_reducible rfl)
 | (omega)
 | (exact Eq.refl _)
 | (simp only [List.length_append, List.length_cons, List.length_nil]; omega)
 | (with_reducible assumption)
 | (
  have hkv := kValues_ok (l := l) (colS t null) hi
  first
  | (exact ⟨Nat.le_trans hkv.2 (by decide), fun v hv => (hkv.1 v hv).2⟩)
  | (omega)))
    | (conv => whnf
       first
        | done
        | exact trivial
        | with_reducible refine NilBr.mk (fun h => ?_) ?_
        | with_reducible first | refine w_andS ?_ ?_ | refine w_andL ?_ ?_ | refine w_kern (by kernel_rfl) ?_ | refine w_true ?_ | refine w_nd ?_ ?_ | refine w_in ?_ ?_ | refine w_and ?_ ?_
        | ((with_reducible first | refine w_brN (fun h => ?_) (fun h => ?_) | refine w_brD (fun h => ?_) (fun h => ?_) | refine w_br (fun h => ?_) (fun h => ?_)) <;> (try dsimp only [cu, Prod.eta, List.nil_append] at h) <;> (try (exfalso; omega; done)))))
  all_goals (
 with_reducible refine Leaf.mk ?_
 (try dsimp only [cu, joinT, ckTys, gts, Prod.eta, List.nil_append] at *)
 first
 | (done)
 | (with_reducible rfl)
 | (exfalso; omega)
 | (
  rw [m4]
  first
  | (exact decide_eq_true rfl)
  | (exact (decide_eq_true rfl).symm))
 | (exact (decide_eq_true m5))
 | (exact (decide_eq_true m5).symm)
 | (exact absurd m5 (by with_reducible assumption))
 | (
  exfalso
  simp_all; done)
 | (simp_all; done))
end

end Go.Proofs.YtlamfjhhjfgemaaGreat
