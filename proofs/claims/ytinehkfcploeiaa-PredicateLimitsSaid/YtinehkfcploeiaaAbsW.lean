/- From a walk in a small heap to a contract for every heap. -/
import Derived.Test.YtinehkfcploeiaaAbsV
namespace Go.Abs
set_option linter.unusedVariables false

theorem mapOpt_all {α : Type} {f : Nat → α → Option α} : ∀ {xs : List α}, (∀ x, x ∈ xs → ∃ n, ∀ m, n ≤ m → f m x = some x) → ∃ n, ∀ m, n ≤ m → mapOpt (f m) xs = some xs
  | [], _ => ⟨0, fun m _ => rfl⟩
  | x :: xs, h => by
    obtain ⟨n1, h1⟩ := h x (List.mem_cons_self ..)
    obtain ⟨n2, h2⟩ := mapOpt_all (xs := xs) (fun y hy => h y (List.mem_cons_of_mem _ hy))
    exact ⟨max n1 n2, fun m hm => by simp only [mapOpt, h1 m (by omega), h2 m (by omega)]⟩

theorem mapOpt_mem {α : Type} {f : Nat → α → Option α} {xs : List α} (h : ∀ x, x ∈ xs → ∃ n, ∀ m, n ≤ m → f m x = some x) : ∃ n, ∀ m, n ≤ m → mapOpt (f m) xs = some xs := mapOpt_all h

/-- A tree stays as it is. -/
theorem frz_tree {τ : Nat → Option Nat} {h : Heap} {x : V} (hx : NI 0 x) : ∃ n, ∀ m, n ≤ m → frz τ h m x = some x := by
  have up : ∀ {g : Nat → Option V} {x : V}, (∃ n, ∀ m, n ≤ m → g m = some x) → (∀ m, frz τ h (m + 1) x = g m) → ∃ n, ∀ m, n ≤ m → frz τ h m x = some x := by
    rintro g x ⟨n, hn⟩ e
    refine ⟨n + 1, fun m hm => ?_⟩
    obtain ⟨m', rfl⟩ : ∃ m', m = m' + 1 := ⟨m - 1, by omega⟩
    rw [e, hn m' (by omega)]
  induction hx with
  | v x => exact ⟨1, fun m hm => by obtain ⟨m', rfl⟩ : ∃ m', m = m' + 1 := ⟨m - 1, by omega⟩; rfl⟩
  | any => exact ⟨1, fun m hm => by obtain ⟨m', rfl⟩ : ∃ m', m = m' + 1 := ⟨m - 1, by omega⟩; rfl⟩
  | pO _ _ h => omega
  | sO _ _ h => omega
  | pF off _ ih =>
    obtain ⟨n, hn⟩ := mapOpt_all ih
    exact up (g := fun m => match mapOpt (frz τ h m) _ with | some r => some (.pF r off) | none => none) ⟨n, fun m hm => by simp only [hn m hm]⟩ (fun m => rfl)
  | sF sz _ ih =>
    obtain ⟨n, hn⟩ := mapOpt_all (f := fun m => mapOpt (frz τ h m)) (fun r hr => mapOpt_all (ih r hr))
    exact up (g := fun m => match mapOpt (mapOpt (frz τ h m)) _ with | some rs => some (.sF sz rs) | none => none) ⟨n, fun m hm => by simp only [hn m hm]⟩ (fun m => rfl)
  | agg _ ih =>
    obtain ⟨n, hn⟩ := mapOpt_all ih
    exact up (g := fun m => match mapOpt (frz τ h m) _ with | some r => some (.agg r) | none => none) ⟨n, fun m hm => by simp only [hn m hm]⟩ (fun m => rfl)
  | tup _ ih =>
    obtain ⟨n, hn⟩ := mapOpt_all ih
    exact up (g := fun m => match mapOpt (frz τ h m) _ with | some r => some (.tup r) | none => none) ⟨n, fun m hm => by simp only [hn m hm]⟩ (fun m => rfl)
  | @fn f _ _ _ _ ih1 ih2 =>
    obtain ⟨n1, h1⟩ := mapOpt_all ih1
    obtain ⟨n2, h2⟩ := mapOpt_all ih2
    exact up (g := fun m => match mapOpt (frz τ h m) _, mapOpt (frz τ h m) _ with | some a', some b' => some (.fn f a' b') | _, _ => none) ⟨max n1 n2, fun m hm => by simp only [h1 m (by omega), h2 m (by omega)]⟩ (fun m => rfl)
  | @ifc t _ _ ih =>
    obtain ⟨n, hn⟩ := ih
    exact up (g := fun m => match frz τ h m _ with | some y => some (.ifc t y) | none => none) ⟨n, fun m hm => by simp only [hn m hm]⟩ (fun m => rfl)

/-- In the heap k, y is (known less, frozen, renamed by τ) x. -/
def Tof (τ : Nat → Option Nat) (k : Heap) (y x : V) : Prop := ∃ y1, leV y y1 ∧ ∃ n, ∀ m, n ≤ m → frz τ k m y1 = some x

section
variable {τ : Nat → Option Nat} {k : Heap}
theorem Tof.tree {x : V} (h : NI 0 x) : Tof τ k x x := ⟨x, .refl x, frz_tree h⟩
theorem Tof.eq {x y : V} (h : NI 0 y) (e : y = x) : Tof τ k y x := e ▸ Tof.tree h
theorem Tof.le {x y : V} (h : NI 0 x) (e : leV y x) : Tof τ k y x := ⟨x, e, frz_tree h⟩
theorem Tof.int {q : IntKind} {a b : Int} (h : a = b) : Tof τ k (.v (.int q a)) (.v (.int q b)) := h ▸ Tof.tree (.v _)
theorem Tof.bool {a b : Bool} (h : a = b) : Tof τ k (.v (.bool a)) (.v (.bool b)) := h ▸ Tof.tree (.v _)
theorem Tof.str {a b : ByteArray} (h : a = b) : Tof τ k (.v (.string a)) (.v (.string b)) := h ▸ Tof.tree (.v _)
theorem Tof.nil {sz : Nat} : Tof τ k (.v (.slice none 0 0)) (.sF sz []) := Tof.le (.sF sz (by simp)) (.nil sz)
theorem Tof.nilMap {sz : Nat} {α : Type} {f : α → List V} {l : List α} (h : l = []) : Tof τ k (.v (.slice none 0 0)) (.sF sz (l.map f)) := by subst h; exact Tof.nil
theorem Tof.sO {id len sz : Nat} {rows : List (List V)} {e : TypeId} (hτ : τ id = none) (ho : k[id]? = some (.live ⟨sz, rows, e⟩)) (hl : len = rows.length) (hr : NIr 0 rows) :
    Tof τ k (.sO id 0 len) (.sF sz rows) := by
  refine ⟨_, .refl _, ?_⟩
  obtain ⟨n, hn⟩ := mapOpt_all (f := fun m => mapOpt (frz τ k m)) (xs := rows) (fun r hr' => mapOpt_all fun x hx => frz_tree (hr r hr' x hx))
  refine ⟨n + 1, fun m hm => ?_⟩
  obtain ⟨m', rfl⟩ : ∃ m', m = m' + 1 := ⟨m - 1, by omega⟩
  subst hl
  simp only [frz, hτ, ho]
  rw [if_pos (by omega)]
  simp [hn m' (by omega)]
theorem Tof.sOmap {α : Type} {f : α → List V} {l l' : List α} {id len sz : Nat} {e : TypeId} (hτ : τ id = none) (ho : k[id]? = some (.live ⟨sz, l.map f, e⟩)) (hl : len = l.length) (hr : ∀ x, NIs 0 (f x)) (h : l = l') :
    Tof τ k (.sO id 0 len) (.sF sz (l'.map f)) := by
  subst h
  exact Tof.sO hτ ho (by simpa using hl) ((NIr_map 0 f l hr).2 trivial)

/-- Pairs of lists, element by element. -/
inductive Tofs (τ : Nat → Option Nat) (k : Heap) : List V → List V → Prop
  | nil : Tofs τ k [] []
  | cons {y x : V} {ys xs : List V} : Tof τ k y x → Tofs τ k ys xs → Tofs τ k (y :: ys) (x :: xs)

theorem Tofs.list {ys xs : List V} (h : Tofs τ k ys xs) : ∃ zs, leVs ys zs ∧ ∃ n, ∀ m, n ≤ m → mapOpt (frz τ k m) zs = some xs := by
  induction h with
  | nil => exact ⟨[], .nil, 0, fun m _ => rfl⟩
  | cons hy _ ih =>
    obtain ⟨z, l1, n1, h1⟩ := hy
    obtain ⟨zs, l2, n2, h2⟩ := ih
    exact ⟨z :: zs, .cons l1 l2, max n1 n2, fun m hm => by simp only [mapOpt, h1 m (by omega), h2 m (by omega)]⟩

theorem Tof.tup {ys xs : List V} (h : Tofs τ k ys xs) : Tof τ k (.tup ys) (.tup xs) := by
  obtain ⟨zs, l, n, hn⟩ := h.list
  refine ⟨.tup zs, .tup l, n + 1, fun m hm => ?_⟩
  obtain ⟨m', rfl⟩ : ∃ m', m = m' + 1 := ⟨m - 1, by omega⟩
  simp only [frz, hn m' (by omega)]
theorem Tof.agg {ys xs : List V} (h : Tofs τ k ys xs) : Tof τ k (.agg ys) (.agg xs) := by
  obtain ⟨zs, l, n, hn⟩ := h.list
  refine ⟨.agg zs, .agg l, n + 1, fun m hm => ?_⟩
  obtain ⟨m', rfl⟩ : ∃ m', m = m' + 1 := ⟨m - 1, by omega⟩
  simp only [frz, hn m' (by omega)]
end

theorem PC.weakenR {P : Program} {f : FuncId} {args : List V} {h : Heap} {R : V → Heap → Prop} (hc : PC P f args h (fun y k => ∃ y1, leV y y1 ∧ R y1 k)) : PC P f args h R := by
  intro ι w vals hp H
  refine (hc ι w vals hp H).mono ?_
  rintro e w' ⟨y, x, k, ι', rfl, ⟨x1, hl, hR⟩, ry, H', ev⟩
  exact ⟨y, x1, k, ι', rfl, hR, hl.rep ry, H', ev⟩

theorem mapOpt_frz_trees {τ : Nat → Option Nat} {h : Heap} {xs : List V} (hx : NIs 0 xs) : ∃ n, ∀ m, n ≤ m → mapOpt (frz τ h m) xs = some xs := mapOpt_all fun x hm => frz_tree (hx x hm)
theorem mapOpt_frz_rows {τ : Nat → Option Nat} {h : Heap} {rows : List (List V)} (hx : NIr 0 rows) : ∃ n, ∀ m, n ≤ m → mapOpt (mapOpt (frz τ h m)) rows = some rows := mapOpt_all (f := fun m => mapOpt (frz τ h m)) fun r hr => mapOpt_frz_trees (hx r hr)

/-- What a walk in the empty heap shows of a function of trees holds in every heap. -/
theorem PCX.frame {P : Program} {f : FuncId} {args : List V} {x0 : V} (hargs : NIs 0 args) (hc : PC P f args [] (fun y k => Tof noTau k y x0)) : PCX P f args [] [] x0 := by
  obtain ⟨n, hn⟩ := mapOpt_frz_trees (τ := noTau) (h := []) hargs
  exact PCX.pure fun k => PC.frame n (hn n (Nat.le_refl _)) (PC.weakenR (PC.mono hc fun y k ⟨y1, l, m, hm⟩ => ⟨y1, l, m, hm m (Nat.le_refl _)⟩)) k

/-- The same for a function whose first argument points to an object of trees, which it may write. -/
theorem PCX.lift1 {P : Program} {f : FuncId} {args : List V} {x0 : V} {o o' : AObj} (j : Nat) (hargs : NIs 0 args) (ho : NIr 0 o.rows) (ho' : NIr 0 o'.rows)
    (hc : ∀ j, PC P f (.pO 0 0 0 :: args) [.live o] (fun y k => Tof (up [j]) k y x0 ∧ k[0]? = some (.live o'))) : PCX P f (.pO j 0 0 :: args) [(j, .live o)] [(j, .live o')] x0 := by
  refine ⟨fun p hp => ?_, fun k hk => ?_⟩
  · simp at hp; subst hp; simp
  have hj : k[j]? = some (.live o) := hk (j, .live o) (by simp)
  obtain ⟨n1, h1⟩ := mapOpt_frz_rows (τ := down [j]) (h := []) ho
  obtain ⟨n2, h2⟩ := mapOpt_frz_trees (τ := down [j]) (h := []) hargs
  have hd : down [j] j = some 0 := by simp [down, List.idxOf?, List.findIdx?_cons]
  refine PC.lift (S := [j]) (h0 := [.live o]) (post := [.live o']) (args0 := .pO 0 0 0 :: args) (max (n1 + 1) (n2 + 1)) (by simp) rfl rfl ?_ ?_ (PC.weakenR (PC.mono (hc j) ?_))
  · intro i id hi
    match i, hi with
    | 0, hi =>
      simp at hi; subst hi
      refine ⟨o, .live o, hj, rfl, ?_⟩
      simp only [frzHS]
      rw [h1 _ (by omega)]
    | i + 1, hi => simp at hi
  · obtain ⟨m, hm⟩ : ∃ m, max (n1 + 1) (n2 + 1) = m + 1 := ⟨max (n1 + 1) (n2 + 1) - 1, by omega⟩
    have e1 : frz (down [j]) [] (max (n1 + 1) (n2 + 1)) (.pO j 0 0) = some (.pO 0 0 0) := by rw [hm]; simp only [frz, hd]
    simp only [mapOpt, e1, h2 _ (show n2 ≤ max (n1 + 1) (n2 + 1) by omega)]
  · rintro y k1 ⟨⟨y1, hl, n, hn⟩, hk1⟩
    obtain ⟨n3, h3⟩ := mapOpt_frz_rows (τ := up [j]) (h := k1) ho'
    refine ⟨y1, hl, max n n3, hn _ (by omega), fun i c hi => ?_⟩
    match i, hi with
    | 0, hi =>
      simp at hi; subst hi
      refine ⟨.live o', hk1, by simp, ?_⟩
      simp only [frzHS]
      rw [h3 _ (by omega)]
    | i + 1, hi => simp at hi

end Go.Abs
