/- From a contract in the empty heap to the walk that a law's row asks for; arguments as trees. -/
import Derived.Test.YtmlojnecmdnbpaaGreatDoorAbsZc
import Derived.Below
namespace Go.Abs
set_option linter.unusedVariables false
open Go.RowKit

def ι0 : Iota := { at' := fun _ => none, X := fun _ => False }

theorem hrel0 (w : World) : HRel [] ι0 w :=
  ⟨fun id o h => by simp at h, fun id h => by simp at h, fun id _ => rfl, fun id o l id' o' l' h => by simp at h, fun b h => h.elim, fun b h => h.elim⟩

theorem mt0 (b : Nat) : ¬ Mt [] ι0 b := by
  rintro (h | ⟨id, o, l, h, _⟩)
  · exact h
  · simp at h

def ReadsAs (w : World) (x : V) (y : Value) : Prop := Rep w ι0 (Mt [] ι0) x y

def ReadsAll (w : World) : List V → List Value → Prop
  | [], [] => True
  | x :: xs, y :: ys => ReadsAs w x y ∧ ReadsAll w xs ys
  | _, _ => False

theorem readsAll_pw : ∀ {w : World} {xs : List V} {ys : List Value}, ReadsAll w xs ys → PW2 w ι0 (Mt [] ι0) xs ys.toArray
  | w, [], [], _ => ⟨rfl, fun k x h => by simp at h⟩
  | w, x :: xs, y :: ys, h => by
    have ih := readsAll_pw h.2
    refine ⟨by simpa using ih.1, fun k z hz => ?_⟩
    cases k with
    | zero => simp at hz; subst hz; exact ⟨y, by simp, h.1⟩
    | succ k =>
      obtain ⟨u, u1, u2⟩ := ih.2 k z (by simpa using hz)
      exact ⟨u, by simpa using u1, u2⟩
  | w, [], _ :: _, h => h.elim
  | w, _ :: _, [], h => h.elim

theorem walk_of_pc {P : Program} {f : FuncId} {args : List V} {vals : List Value} {w : World} (hr : ReadsAll w args vals) (hc : PC P f args [] (fun y _ => y = .v (.bool true))) :
    Calls P f vals.toArray w fun e w' => e = .returned (.bool true) ∧ Below w.heap.size w w' := by
  refine (hc ι0 w _ (readsAll_pw hr) (hrel0 w)).mono ?_
  rintro e w' ⟨y, x, h', ι', rfl, rfl, ry, _, ev⟩
  cases ry
  refine ⟨rfl, ev.os, ev.tape, ev.output, ev.size, fun k hk => (ev.frame k hk ?_).1⟩
  rintro ⟨id, o, l, h, _⟩
  simp at h

theorem reads_v (w : World) (x : Value) : ReadsAs w (.v x) x := .v x

theorem cell_addr {w : World} {a : Addr} {v : Value} (h : w.cell? a = some v) : a.spot = none ∧ a.block < w.heap.size := by
  unfold World.cell? at h
  split at h
  · rename_i c el fr hb
    refine ⟨?_, ?_⟩
    · by_cases q : a.spot.isSome = true
      · rw [if_pos q] at h; cases h
      · simpa using q
    · rcases Nat.lt_or_ge a.block w.heap.size with q | q
      · exact q
      · rw [Array.getElem?_eq_none q] at hb; cases hb
  · cases h

/-- A list of integers as a tree. -/
def ints (k : IntKind) (l : List Int) : V := .sF 1 (l.map fun n => [.v (.int k n)])

theorem reads_nil (w : World) (k : IntKind) : ReadsAs w (ints k []) (.slice none 0 0) := Rep.sN 1

theorem reads_ints {w : World} {k : IntKind} {x : Addr} {len cap : Nat} {zs : List Int} (hl : len ≤ cap) (hz : zs.length = cap) (hc : ∀ i, i < zs.length → w.cell? (x.add i) = some (.int k (zs.getD i 0))) :
    ReadsAs w (ints k (zs.take len)) (.slice (some x) len cap) := by
  have hlen : ((zs.take len).map fun n => [V.v (.int k n)]).length = len := by simp; omega
  have := Rep.sF_mk (w := w) (ι := ι0) (M := Mt [] ι0) (sz := 1) (rows := (zs.take len).map fun n => [V.v (.int k n)]) x cap ?_ (by omega) (fun r hr => by obtain ⟨n, _, rfl⟩ := List.mem_map.1 hr; rfl) ?_
  · rw [hlen] at this; exact this
  · intro hne
    have h0 : 0 < zs.length := by
      rcases Nat.eq_zero_or_pos zs.length with q | q
      · exfalso; apply hne; rw [List.eq_nil_of_length_eq_zero q]; simp
      · exact q
    have := cell_addr (hc 0 h0)
    unfold Addr.add at this
    simp at this
    exact ⟨this.1, this.2, mt0 _⟩
  · intro i j r y hi hj
    rw [List.getElem?_map] at hi
    cases hq : (zs.take len)[i]? with
    | none => rw [hq] at hi; simp at hi
    | some n =>
      rw [hq] at hi
      simp at hi
      subst hi
      have hj0 : j = 0 := by have := get_lt hj; simp at this; exact this
      subst hj0
      simp at hj
      subst hj
      rw [List.getElem?_take] at hq
      split at hq
      · have hlt := get_lt hq
        refine ⟨.int k n, ?_, .v _⟩
        have hcell := hc i hlt
        have hsp := (cell_addr (hc 0 (by omega))).1
        have hsp0 : x.spot = none := by unfold Addr.add at hsp; simpa using hsp
        have e : x.add i = ⟨x.block, x.off + i * 1 + 0, none⟩ := by
          obtain ⟨b, o, sp⟩ := x
          simp only at hsp0; subst hsp0
          rw [add_mk]; simp
        rw [← e, hcell]
        rw [List.getElem?_eq_getElem hlt] at hq
        injection hq with hq
        simp [List.getD, List.getElem?_eq_getElem hlt, hq]
      · cases hq

end Go.Abs
