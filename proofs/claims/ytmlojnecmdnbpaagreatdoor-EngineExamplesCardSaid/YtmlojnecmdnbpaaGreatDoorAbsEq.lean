/- Equality of two structs of plain fields. -/
import Derived.Test.YtmlojnecmdnbpaaGreatDoorAbsR
namespace Go.Abs
set_option linter.unusedVariables false

def eqCell : V → V → Option Bool
  | .v (.int k a), .v (.int k' b) => if k = k' then some (decide (a = b)) else none
  | .v (.bool a), .v (.bool b) => some (decide (a = b))
  | .v (.string a), .v (.string b) => some (decide (a = b))
  | _, _ => none
def eqCells : List V → List V → Option Bool
  | [], [] => some true
  | [x], [y] => eqCell x y
  | x :: xs, y :: ys => match eqCell x y, eqCells xs ys with
    | some a, some b => some (a && b)
    | _, _ => none
  | _, _ => none
def plainT (P : Program) (t : TypeId) (x : V) : Bool := match P.underlying t, x with
  | some (.int _), .v (.int _ _) => true
  | some .bool, .v (.bool _) => true
  | some .string, .v (.string _) => true
  | _, _ => false
/-- The fields, one cell each, in order. -/
def fieldsAre (P : Program) : Nat → List Field → List V → Bool
  | _, [], [] => true
  | i, f :: fs, x :: xs => (f.name != "_" && f.offset == i) && plainT P f.type x && fieldsAre P (i + 1) fs xs
  | _, _, _ => false
def okEq (P : Program) (t : TypeId) (xs : List V) : Bool := match P.underlying t with
  | some (.struct fs) => !P.stoodInHeld t && !P.eqGuardType P.depth t && (fieldsAre P 0 fs.toList xs
    )
  | _ => false
def dagg (P : Program) (op : BinOp) (t : TypeId) (xs ys : List V) : Option (List Bool × V) := match op, eqCells xs ys with
  | .eql, some b => some ([okEq P t xs], .v (.bool b))
  | .neq, some b => some ([okEq P t xs], .v (.bool (!b)))
  | _, _ => none

theorem pureRun_bind {P : Program} {α β : Type} (m : Sem α) (f : α → Sem β) : pureRun P (m >>= f) = (pureRun P m).bind fun a => pureRun P (f a) := by
  show pureRun P (Sem.bind m f) = _
  induction m with
  | pure a => rfl
  | program k ih => exact ih P
  | mark x k ih => exact ih
  | _ => rfl

theorem beq_bytes (a c : ByteArray) : (a == c) = decide (a = c) := by
  have h : (a == c) = (a.data == c.data) := rfl
  rw [h]
  by_cases q : a = c
  · subst q; simp
  · rw [decide_eq_false q, beq_eq_false_iff_ne]
    intro e; apply q; cases a; cases c; simp at e; rw [e]
theorem pureRun_eqCell {P : Program} {t : TypeId} {x y : V} {b : Bool} (d : Nat) (hp : plainT P t x = true) (h : eqCell x y = some b) :
    ∃ u v, x = .v u ∧ y = .v v ∧ pureRun P (Op.equalIn (d + 1) t u v) = some b := by
  unfold eqCell at h
  split at h
  · rename_i k a k' c
    split at h
    · rename_i hk
      subst hk
      injection h with h; subst h
      refine ⟨_, _, rfl, rfl, ?_⟩
      unfold plainT at hp
      split at hp <;> try cases hp
      all_goals (rename_i q1 q2; first | cases q2 | skip)
      simp [Op.equalIn, Go.underlying, q1, pureRun, bind, pure, program, Sem.bind]
      exact (Bool.beq_eq_decide_eq a c)
    · cases h
  · rename_i a c
    injection h with h; subst h
    refine ⟨_, _, rfl, rfl, ?_⟩
    unfold plainT at hp
    split at hp <;> try cases hp
    all_goals (rename_i q1 q2; first | cases q2 | skip)
    simp [Op.equalIn, Go.underlying, q1, pureRun, bind, pure, program, Sem.bind]
    exact Bool.beq_eq_decide_eq a c
  · rename_i a c
    injection h with h; subst h
    refine ⟨_, _, rfl, rfl, ?_⟩
    unfold plainT at hp
    split at hp <;> try cases hp
    all_goals (rename_i q1 q2; first | cases q2 | skip)
    simp [Op.equalIn, Go.underlying, q1, pureRun, bind, pure, program, Sem.bind]
    exact beq_bytes a c
  · cases h

theorem pureRun_part {P : Program} {t : TypeId} {x : V} (hp : plainT P t x = true) (cs : Array Value) (i : Nat) (u : Value) (h : cs[i]? = some u) : pureRun P (part t cs i) = some u := by
  have ha : ∀ (α : Type) (f : Bool → Sem α), pureRun P (isAgg t >>= f) = pureRun P (f false) := by
    intro α f
    unfold plainT at hp
    split at hp <;> try cases hp
    all_goals simp [isAgg, Go.underlying, *, pureRun, bind, pure, program, Sem.bind]
  unfold part
  rw [ha]
  simp [h, pureRun, pure]

def eqBody (A B : Array Value) (d : Nat) (f : Field) (_ : Option Bool × Unit) : Sem (ForInStep (Option Bool × Unit)) :=
  if f.name = "_" then pure (.yield (none, ())) else do
    let x ← part f.type A f.offset
    let y ← part f.type B f.offset
    let b ← Op.equalIn d f.type x y
    if b = false then pure (.done (some false, ())) else pure (.yield (none, ()))

theorem eqCells_cons {x : V} {xs : List V} {y : V} {ys : List V} {b : Bool} (h : eqCells (x :: xs) (y :: ys) = some b) : ∃ a c, eqCell x y = some a ∧ eqCells xs ys = some c ∧ b = (a && c) := by
  cases xs with
  | nil => cases ys with
    | nil => exact ⟨b, true, h, rfl, (Bool.and_true b).symm⟩
    | cons y' ys => simp [eqCells] at h
  | cons x' xs =>
    cases ys with
    | nil => simp [eqCells] at h
    | cons y' ys =>
      rw [eqCells] at h
      · split at h
        · rename_i a c h1 h2
          injection h with h
          exact ⟨a, c, h1, h2, h.symm⟩
        · cases h
      · simp

theorem toValues_cons (u : Value) (xs : List V) (us : List Value) (h : toValues xs = some us) : toValues (.v u :: xs) = some (u :: us) := by
  simp [toValues, h]

theorem loop_eq {P : Program} (d : Nat) : ∀ (fs : List Field) (i : Nat) (xs ys : List V) (b : Bool), fieldsAre P i fs xs = true → eqCells xs ys = some b →
    ∃ us vs, toValues xs = some us ∧ toValues ys = some vs ∧ ∀ A B : Array Value, (∀ j, j < us.length → A[i + j]? = us[j]?) → (∀ j, j < vs.length → B[i + j]? = vs[j]?) →
      pureRun P (forIn fs (none, ()) (eqBody A B (d + 1))) = some (if b then (none, ()) else (some false, ()))
  | [], i, xs, ys, b, hf, he => by
    cases xs with
    | cons x xs => simp [fieldsAre] at hf
    | nil =>
      cases ys with
      | cons y ys => simp [eqCells] at he
      | nil =>
        injection he with he; subst he
        exact ⟨[], [], rfl, rfl, fun A B _ _ => rfl⟩
  | f :: fs, i, [], ys, b, hf, he => by simp [fieldsAre] at hf
  | f :: fs, i, x :: xs, [], b, hf, he => by cases xs <;> simp [eqCells] at he
  | f :: fs, i, x :: xs, y :: ys, b, hf, he => by
    obtain ⟨a, c, h1, h2, rfl⟩ := eqCells_cons he
    simp only [fieldsAre, Bool.and_eq_true, bne_iff_ne, beq_iff_eq] at hf
    obtain ⟨⟨⟨hn, ho⟩, hp⟩, hr⟩ := hf
    obtain ⟨us, vs, q1, q2, q3⟩ := loop_eq d fs (i + 1) xs ys c hr h2
    obtain ⟨u, v, rfl, rfl, hu⟩ := pureRun_eqCell d hp h1
    have hpv : plainT P f.type (.v v) = true := by
      unfold eqCell at h1
      unfold plainT at hp ⊢
      split at h1 <;> first | (cases h1; done) | skip
      all_goals
        rename_i e1 e2
        cases e1; cases e2
        revert hp
        split <;> simp_all
    refine ⟨u :: us, v :: vs, toValues_cons u xs us q1, toValues_cons v ys vs q2, fun A B hA hB => ?_⟩
    have a0 := hA 0 (by simp)
    have b0 := hB 0 (by simp)
    rw [Nat.add_zero] at a0 b0
    have hb : pureRun P (eqBody A B (d + 1) f (none, ())) = some (if a then .yield (none, ()) else .done (some false, ())) := by
      unfold eqBody
      rw [if_neg hn, ho]
      simp only [pureRun_bind, pureRun_part hp A i u a0, pureRun_part hpv B i v b0, Option.bind, hu]
      cases a <;> rfl
    rw [List.forIn_cons, pureRun_bind, hb]
    simp only [Option.bind]
    cases a with
    | false => rfl
    | true =>
      simp only [if_true, Bool.true_and]
      exact q3 A B (fun j hj => by have := hA (j + 1) (by simp; omega); simpa [Nat.add_assoc, Nat.add_comm 1 j] using this) (fun j hj => by have := hB (j + 1) (by simp; omega); simpa [Nat.add_assoc, Nat.add_comm 1 j] using this)

theorem equalIn_struct {P : Program} {t : TypeId} {fs : Array Field} {A B : Array Value} (d : Nat) (hu : P.underlying t = some (.struct fs)) (hs : P.stoodInHeld t = false) {b : Bool}
    (h : pureRun P (forIn fs.toList (none, ()) (eqBody A B d)) = some (if b then (none, ()) else (some false, ()))) : pureRun P (Op.equalIn (d + 1) t (.agg A) (.agg B)) = some b := by
  have e : pureRun P (Op.equalIn (d + 1) t (.agg A) (.agg B)) = pureRun P (do
      let r ← forIn fs.toList ((none, ()) : Option Bool × Unit) (eqBody A B d)
      match r.fst with
      | some a => pure a
      | none => pure true) := by
    rw [Array.forIn_toList]
    simp [Op.equalIn, Go.underlying, hu, hs, pureRun, bind, pure, program, Sem.bind]
    refine congrArg (pureRun P) (congr (congrArg Sem.bind (congrArg (forIn fs (none, ())) ?_)) (funext fun r => by rcases r with ⟨_ | _, _⟩ <;> rfl))
    funext f s
    by_cases q : f.name = "_"
    · simp only [eqBody, if_pos q]; rfl
    · simp only [eqBody, if_neg q, bind]
      congr 1
  rw [e, pureRun_bind, h]
  cases b <;> rfl

theorem dagg_ok {P : Program} {h : Heap} {op : BinOp} {t : TypeId} {X Y : Operand} {xs ys : List V} {z : V} {cs : List Bool} (e : dagg P op t xs ys = some (cs, z)) (hc : ∀ c, c ∈ cs → c = true) : aBin P h op t X Y (.agg xs) (.agg ys) = some (z, h) := by
  have main : ∀ b, okEq P t xs = true → eqCells xs ys = some b → aBin P h .eql t X Y (.agg xs) (.agg ys) = some (.v (.bool b), h) ∧ aBin P h .neq t X Y (.agg xs) (.agg ys) = some (.v (.bool (!b)), h) := by
    intro b hk hb
    unfold okEq at hk
    split at hk
    · rename_i fs hu
      simp only [Bool.and_eq_true, Bool.not_eq_true'] at hk
      obtain ⟨⟨hs, hg⟩, hf⟩ := hk
      obtain ⟨us, vs, q1, q2, q3⟩ : ∃ us vs, toValues xs = some us ∧ toValues ys = some vs ∧ ∀ A B : Array Value, (∀ j, j < us.length → A[0 + j]? = us[j]?) → (∀ j, j < vs.length → B[0 + j]? = vs[j]?) →
          pureRun P (forIn fs.toList (none, ()) (eqBody A B 9999)) = some (if b then (none, ()) else (some false, ())) := by
        exact loop_eq 9998 fs.toList 0 xs ys b hf hb
      have h1 : toValue (.agg xs) = some (.agg us.toArray) := by simp [toValue, q1]
      have h2 : toValue (.agg ys) = some (.agg vs.toArray) := by simp [toValue, q2]
      have h3 : pureRun P (Op.equal t (.agg us.toArray) (.agg vs.toArray)) = some b := equalIn_struct 9999 hu hs (q3 _ _ (fun j _ => by simp) (fun j _ => by simp))
      have guard : ∀ op A B, pureRun P (eqGuard op t X Y (.agg A) (.agg B)) = some () := fun op A B => by
        unfold eqGuard
        cases op <;> simp [hg, pureRun, bind, pure, program, Sem.bind]
      constructor
      · simp only [aBin, h1, h2, pureRun_bind, guard, Option.bind]
        have : pureRun P (binOp .eql t (.agg us.toArray) (.agg vs.toArray)) = some (.bool b) := by
          simp only [binOp, pureRun_bind, h3, Option.bind]; rfl
        rw [this]; rfl
      · simp only [aBin, h1, h2, pureRun_bind, guard, Option.bind]
        have : pureRun P (binOp .neq t (.agg us.toArray) (.agg vs.toArray)) = some (.bool (!b)) := by
          simp only [binOp, pureRun_bind, h3, Option.bind]; rfl
        rw [this]; rfl
    · cases hk
  unfold dagg at e
  split at e
  · rename_i b hb
    injection e with e; injection e with e1 e2; subst e1 e2
    exact (main b (hc _ (by simp)) hb).1
  · rename_i b hb
    injection e with e; injection e with e1 e2; subst e1 e2
    exact (main b (hc _ (by simp)) hb).2
  · cases e

end Go.Abs
