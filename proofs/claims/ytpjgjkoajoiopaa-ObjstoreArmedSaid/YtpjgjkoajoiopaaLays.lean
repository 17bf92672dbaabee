/- The order of strings; strings.Compare, as the library knows it. -/
import Derived.Test.YtpjgjkoajoiopaaAbsZc
import Derived.Test.YtpjgjkoajoiopaaRows
import Derived.Sort.Walk0
import Derived.Shelf.Lay
import Derived.Shelf.LaySoft
import Derived.Shelf.Small.Strs
import Derived.Ground.NamesProg
import Derived.Ground.Names2Prog
namespace Go.Proofs
open Go.Shelf
def Try.lays106_ren : Go.Shelf.Ren := ⟨fun | 106 => 67 | 213 => 72 | 265 => 75 | n => n, fun | 9 => 9 | 3 => 3 | n => n, fun | n => n⟩
theorem Try.lays106 : Go.Proofs.Lays.n106 Try.prog Try.lays106_ren := {
  mixed := by kernel_rfl
  f106 := Try.func67.trans (congrArg some (by kernel_rfl))
  f213 := Try.func72.trans (congrArg some (by kernel_rfl))
  f265 := Try.func75.trans (congrArg some (by kernel_rfl))
  t3 := Try.underlying3
  a3 := Try.isAgg3
  z3 := Try.sizeOf3
  v3 := Try.zeroValue3
  t9 := Try.underlying9
  a9 := Try.isAgg9
  z9 := Try.sizeOf9
  v9 := Try.zeroValue9 }
end Go.Proofs
namespace Go.Abs
set_option linter.unusedVariables false
theorem sLt_iff (a b : ByteArray) : strLt a b = true ↔ a.data.toList < b.data.toList := by
  unfold strLt; rw [Proofs.bytesLess_eq, Lib.toList_data, Lib.toList_data]; simp
theorem sLt_irrefl (a : ByteArray) : ¬ strLt a a = true := by rw [sLt_iff]; exact List.lt_irrefl _
theorem sLt_trans {a b c : ByteArray} (h1 : strLt a b = true) (h2 : strLt b c = true) : strLt a c = true := by
  rw [sLt_iff] at *; exact List.lt_trans h1 h2
theorem data_inj {a b : ByteArray} (h : a.data.toList = b.data.toList) : a = b := by
  cases a; cases b; simp at h; rw [h]
theorem ltL_tri (a b : List UInt8) : a < b ∨ a = b ∨ b < a := by
  rcases List.le_total a b with h | h
  · by_cases q : a < b
    · exact .inl q
    · exact .inr (.inl (List.le_antisymm h (List.not_lt.1 q)))
  · by_cases q : b < a
    · exact .inr (.inr q)
    · exact .inr (.inl (List.le_antisymm (List.not_lt.1 q) h))
theorem sLt_tri (a b : ByteArray) : strLt a b = true ∨ a = b ∨ strLt b a = true := by
  rw [sLt_iff, sLt_iff]
  rcases ltL_tri a.data.toList b.data.toList with h | h | h
  · exact .inl h
  · exact .inr (.inl (data_inj h))
  · exact .inr (.inr h)
theorem sLt_asym {a b : ByteArray} (h1 : strLt a b = true) : ¬ strLt b a = true := fun h2 => sLt_irrefl a (sLt_trans h1 h2)
def ascS (l : List ByteArray) : Prop := l.Pairwise fun a b => strLt a b = true
def plS (l : List ByteArray) (s : ByteArray) : Nat := (l.takeWhile fun w => strLt w s).length
theorem plS_le (l : List ByteArray) (s : ByteArray) : plS l s ≤ l.length := by
  unfold plS
  induction l with
  | nil => simp
  | cons x l ih => rw [List.takeWhile_cons]; split <;> simp; omega
theorem plS_lt : ∀ {l : List ByteArray} {s : ByteArray} {t : Nat}, t < plS l s → strLt l[t]! s = true
  | [], s, t, h => by simp [plS] at h
  | x :: l, s, t, h => by
    unfold plS at h
    rw [List.takeWhile_cons] at h
    split at h
    · rename_i q
      cases t with
      | zero => exact q
      | succ t => exact plS_lt (l := l) (t := t) (by unfold plS; simpa using h)
    · simp at h
theorem plS_at : ∀ {l : List ByteArray} {s : ByteArray}, plS l s < l.length → ¬ strLt l[plS l s]! s = true
  | [], s, h => by simp at h
  | x :: l, s, h => by
    unfold plS at h ⊢
    rw [List.takeWhile_cons] at h ⊢
    split
    · rename_i q
      rw [if_pos q] at h
      exact plS_at (l := l) (by unfold plS; simpa using h)
    · rename_i q
      exact q
theorem plS_unique {l : List ByteArray} {s : ByteArray} {k : Nat} (h1 : ∀ t, t < k → strLt l[t]! s = true) (h0 : k ≤ l.length) (h2 : k = l.length ∨ ¬ strLt l[k]! s = true) : plS l s = k := by
  rcases Nat.lt_trichotomy (plS l s) k with q | q | q
  · exact absurd (h1 _ q) (plS_at (by omega))
  · exact q
  · rcases h2 with p | p
    · have := plS_le l s; omega
    · exact absurd (plS_lt q) p
theorem ascS_get {l : List ByteArray} (h : ascS l) {i j : Nat} (hij : i < j) (hj : j < l.length) : strLt l[i]! l[j]! = true := by
  rw [getElem!_pos l i (by omega), getElem!_pos l j hj]
  exact (List.pairwise_iff_getElem.1 h) i j (by omega) hj hij
theorem plS_ge {l : List ByteArray} (h : ascS l) {s : ByteArray} {t : Nat} (h1 : plS l s ≤ t) (h2 : t < l.length) : ¬ strLt l[t]! s = true := by
  intro q
  rcases Nat.eq_or_lt_of_le h1 with p | p
  · subst p; exact plS_at h2 q
  · exact plS_at (by omega) (sLt_trans (ascS_get h p h2) q)
theorem plS_idx {l : List ByteArray} (h : ascS l) {i : Nat} (hi : i < l.length) : plS l l[i]! = i :=
  plS_unique (fun t ht => ascS_get h ht hi) (by omega) (.inr (sLt_irrefl _))
theorem plS_mem {l : List ByteArray} (h : ascS l) {s : ByteArray} (hs : s ∈ l) : plS l s < l.length ∧ l[plS l s]! = s := by
  obtain ⟨i, hi, rfl⟩ := List.mem_iff_getElem.1 hs
  have e : l[i] = l[i]! := (getElem!_pos l i hi).symm
  rw [e, plS_idx h hi]
  exact ⟨hi, rfl⟩
theorem plS_not {l : List ByteArray} {s : ByteArray} (hs : ¬ s ∈ l) : plS l s = l.length ∨ l[plS l s]! ≠ s := by
  rcases Nat.lt_or_ge (plS l s) l.length with q | q
  · right; intro p; apply hs; rw [← p, getElem!_pos l _ q]; exact List.getElem_mem q
  · left; have := plS_le l s; omega

theorem cmpB_lt : ∀ (a b : List UInt8), (Lib.compareBytes a b < 0 ↔ a < b) ∧ (Lib.compareBytes a b = 0 ↔ a = b)
  | [], [] => by simp [Lib.compareBytes]
  | [], _ :: _ => by simp [Lib.compareBytes]
  | _ :: _, [] => by simp [Lib.compareBytes]
  | x :: a, y :: b => by
    have ih := cmpB_lt a b
    unfold Lib.compareBytes
    rw [List.cons_lt_cons_iff]
    by_cases h1 : x < y
    · rw [if_pos h1]
      refine ⟨⟨fun _ => .inl h1, fun _ => by decide⟩, ⟨fun q => by simp at q, fun q => ?_⟩⟩
      injection q with q _; subst q; exact absurd h1 (UInt8.lt_irrefl x)
    · rw [if_neg h1]
      by_cases h2 : y < x
      · rw [if_pos h2]
        refine ⟨⟨fun q => by simp at q, fun q => ?_⟩, ⟨fun q => by simp at q, fun q => ?_⟩⟩
        · rcases q with q | ⟨q, _⟩
          · exact absurd q h1
          · subst q; exact absurd h2 (UInt8.lt_irrefl x)
        · injection q with q _; subst q; exact absurd h2 (UInt8.lt_irrefl x)
      · rw [if_neg h2]
        have e : x = y := UInt8.le_antisymm (UInt8.not_lt.1 h2) (UInt8.not_lt.1 h1)
        subst e
        refine ⟨⟨fun q => .inr ⟨rfl, ih.1.1 q⟩, fun q => ?_⟩, ⟨fun q => by rw [ih.2.1 q], fun q => ?_⟩⟩
        · rcases q with q | ⟨_, q⟩
          · exact absurd q h1
          · exact ih.1.2 q
        · injection q with _ q; exact ih.2.2 q
def cmpB (a b : ByteArray) : Int := Lib.compareBytes a.data.toList b.data.toList
theorem cmpB1_lt (a b : ByteArray) : cmpB a b < 0 ↔ strLt a b = true := by rw [sLt_iff]; exact (cmpB_lt _ _).1
theorem cmpB1_eq (a b : ByteArray) : cmpB a b = 0 ↔ a = b := ⟨fun h => data_inj ((cmpB_lt _ _).2.1 h), fun h => by subst h; exact (cmpB_lt _ _).2.2 rfl⟩
theorem cmp_of {P : Program} {f : FuncId} (h : ∀ (a b : ByteArray) (w : World), Calls P f #[.string a, .string b] w fun e w' => e = .returned (.int .i64 (Lib.compareBytes a.data.toList b.data.toList)) ∧ w' = w) :
    CtOk P f (.fn [.str, .str] none (fun (a b : ByteArray) => RV.d (.int .i64) (cmpB a b))) := by
  unfold CtOk
  intro x0 hp
  obtain ⟨a, b, u⟩ := x0
  refine ⟨fun p q => (by cases q), fun k _ => ?_⟩
  intro ι w vs hpw H
  obtain ⟨hl, hv⟩ := hpw
  obtain ⟨y, y1, y2⟩ := hv 0 _ rfl
  obtain ⟨z, z1, z2⟩ := hv 1 _ rfl
  have hy : y = .string a := by
    have y3 : Rep w ι (Mt k ι) (.v (.string a)) y := y2
    cases y3; rfl
  have hz : z = .string b := by
    have y3 : Rep w ι (Mt k ι) (.v (.string b)) z := z2
    cases y3; rfl
  subst hy hz
  have hvals : vs = #[.string a, .string b] := by
    apply Array.ext_getElem?
    intro i
    match i with
    | 0 => rw [y1]; rfl
    | 1 => rw [z1]; rfl
    | i + 2 => rw [Array.getElem?_eq_none (by rw [← hl]; simp [vals]), Array.getElem?_eq_none (by simp)]
  rw [hvals]
  refine (h a b w).mono ?_
  rintro e w' ⟨rfl, rfl⟩
  exact ⟨_, _, k, ι, rfl, ⟨rfl, rfl⟩, .v _, H, Evolve.refl _ _ _⟩
end Go.Abs
namespace Go.Proofs.Ytpjgjkoajoiopaa
open Go.Abs
abbrev c_cmp_ok : Ct := .fn [.str, .str] none (fun (a b : ByteArray) => RV.d (.int .i64) (cmpB a b))
theorem cmp_ok : CtOk Try.prog 67 c_cmp_ok := cmp_of (fun a b w => Any.strings_Compare Try.lays106 a b w)
end Go.Proofs.Ytpjgjkoajoiopaa
