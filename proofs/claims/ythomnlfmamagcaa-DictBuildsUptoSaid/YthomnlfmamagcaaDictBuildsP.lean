/- PROVED: 'DictBuilds' returns true (the statement as given, every start, no condition of its own). DictBuilds: Build and Encode against the reference, for arbitrary lists of strings and for made ones. For what is read of bulk at most 1048576 (the second form). -/
import Derived.Test.YthomnlfmamagcaaRows
import Derived.Test.YthomnlfmamagcaaLaws4
import Derived.Test.YthomnlfmamagcaaAbsO
import Derived.ProofKit
import Derived.OpenShut
import Derived.ShutString
import Derived.ChangeOld
import Derived.SizedLaws
import Derived.ChangeMaps5
import Derived.Deep.CondSized
namespace Go.Proofs.Ythomnlfmamagcaa.dictBuilds
open Go.ChangeShapes Go.WideShapes Go.ChangeAt Go.RowKit Go.Abs

theorem bulk_lits {H : Type} (k : IntKind) (l : List Int) : Rows.uptoBulkAll (lits (H := H) k l) = l.length := by
  induction l with
  | nil => rfl
  | cons n l ih =>
    have e : Rows.uptoBulkAll (lits (H := H) k (n :: l)) = 1 + Rows.uptoBulkAll (lits (H := H) k l) := rfl
    rw [e, ih, List.length_cons]; omega

theorem bulk_sum {H : Type} : ∀ l : List (DataW H), Rows.uptoBulkAll l = (l.map Rows.uptoBulk).sum
  | [] => rfl
  | d :: l => by simp only [Rows.uptoBulkAll, List.map_cons, List.sum_cons, bulk_sum l]
theorem bulk_ok {H : Type} : BkOk (Rows.uptoBulk (H := H)) where
  lit := fun x => by cases x <;> simp [Rows.uptoBulk]
  str := fun s => by simp [Rows.uptoBulk]
  nil := by simp [Rows.uptoBulk]
  slice := fun a b => by simp only [Rows.uptoBulk, bulk_sum]; omega
  agg := fun a => by simp only [Rows.uptoBulk, bulk_sum]; omega

theorem pc (l0 : Ty.den (.list .str)) (b0 : Ty.ok (.list .str) l0 ∧ Ty.vol (.list .str) l0 ≤ 1048576) (l1 : List Int) (b1 : (∀ n ∈ l1, (Lit.int .i64 n).wf = true) ∧ l1.length * 8 ≤ 140737488351232 ∧ l1.length ≤ 1048576) : PC Try.prog 4 [Ty.val (.list .str) l0, .sL (.int .i64) l1] [] (fun y _ => y = .v (.bool true)) :=
  PC.mono ((builds_ok (l0, l1, ()) (fun q hq => by
    first
    | cases hq; done
    | (injection hq with hq; subst hq
       have b1 := b1.2.2
       have hbw : ∀ w, w ∈ (l0 : List ByteArray) → w.size ≤ 1073741824 := fun w hw => by
         have h1 := vol_mem (t := .str) hw
         have h2 := b0.2
         have h3 : Ty.vol .str w = w.size + 1 := rfl
         omega
       have hrl : (l0 : List ByteArray).length ≤ 1073741824 := by
         have h1 := vol_len (t := .str) (l := l0)
         have h2 := b0.2
         omega
       show _
       dsimp only [cu]
       first | omega | (refine ⟨?_, ?_, ?_, ?_⟩ <;> first | omega | assumption) | (refine ⟨?_, ?_⟩ <;> omega) | (refine ⟨?_, ?_, ?_⟩ <;> omega) | (refine ⟨?_, ?_, ?_, ?_⟩ <;> omega) | (refine ⟨?_, ?_, ?_, ?_, ?_⟩ <;> omega) | (refine ⟨?_, ?_, ?_, ?_, ?_, ?_⟩ <;> omega)))).2 [] (fun _ h => by cases h)) fun _ _ h => h.1

theorem own : ownKnob Try.prog.godebug = none := by kernel_rfl
theorem laidOut : laidOutB Try.prog = true := by kernel_rfl

set_option maxRecDepth 100000 in
theorem lifted (os : Os) (started : os.Started) (H : Type) (enc : TypeId × Value → H) (F : Stop.Interp) :
    ReturnsInHanded {} Try.checked os 4 .any ((Rows.OpenSpec.upto Rows.dictBuildsSpec).pre6 enc Try.prog Try.f4 Rows.dictBuildsUptoRow.domain false) (((Rows.OpenSpec.upto Rows.dictBuildsSpec).at F).post enc Try.prog Try.f4 false true false false) := by
  refine returnsInHanded_of_cond_sized (C := Try.checked) (s := Rows.OpenSpec.upto Rows.dictBuildsSpec) (k := Rows.uptoSmall) rfl own started (by kernel_rfl) Try.func4
    (OpenSpec.witness (enc := enc) (C := Try.checked) (s := Rows.OpenSpec.upto Rows.dictBuildsSpec) (k := Rows.uptoSmall) rfl false ⟨#[], #[.slice none 0 0, .slice none 0 0], []⟩ 8 (by kernel_rfl) (by kernel_rfl) (by kernel_rfl)
      (x := ([.nil, .nil], [], [])) (by kernel_rfl) rfl (by kernel_rfl)) ?_
  intro W base args ds gs before hval0 hW hcnd hk hsz _
  show Calls Try.checked.prog 4 args W fun e W' => ∃ v, e = .returned v ∧ Rows.dictBuildsSpec.post enc Try.checked.prog Try.f4 false true false false W args v W'
  have hval : ∀ (j : Nat) t v, Try.f4.params[j]? = some t → args[j]? = some v → Value.okWide Try.prog W .any base t v := hval0
  have hW' := hW
  obtain ⟨p, q, hA0, hV, rfl, hfz, hnd⟩ := hW
  have hA : DataW.TrodAll enc Try.prog W 0 (fun _ => true) true Try.f4.params.toList args.toList ds p := hA0
  rw [Try.params4] at hA hval
  obtain ⟨v0, vs0, d0, ds0, p0, q0, hargs, rfl, rfl, h0, r_0⟩ := trodAll_cons hA
  obtain ⟨v1, vs1, d1, ds1, p1, q1, rfl, rfl, rfl, h1, r_1⟩ := trodAll_cons r_0
  obtain ⟨rfl, rfl, rfl⟩ := trodAll_nil r_1
  obtain rfl : args = #[v0, v1] := by cases args; simp_all
  obtain ⟨rfl, rfl⟩ := trodVars_none hV
  have hkb : Rows.uptoBulkAll [d0, d1] ≤ 1048576 := of_decide_eq_true hk
  simp only [Rows.uptoBulkAll] at hkb
  have hb0 : Rows.uptoBulk d0 ≤ 1048576 := by omega
  have hb1 : Rows.uptoBulk d1 ≤ 1048576 := by omega
  clear hkb hk
  obtain ⟨a0, len0, cap0, rfl⟩ := okWide_slice Try.underlying22 (hval 0 22 v0 rfl rfl)
  have k0 := h0
  have lt0 : ∀ x ∈ p0, x.block < W.heap.size := by obtain ⟨m, hm⟩ := k0; exact DataW.trod_lt m _ _ _ hm
  obtain ⟨f0, hf0⟩ := h0
  obtain ⟨l0, b0, e0, vq0⟩ := fits_reads2 (P := Try.prog) 8 22 (.list .str) f0 _ _ (by kernel_rfl) hf0
  have vol0 : Ty.vol (.list .str) l0 ≤ 1048576 := Nat.le_trans (vq0 Rows.uptoBulk bulk_ok) hb0
  have r0 : ReadsAs W (Ty.val (.list .str) l0) (.slice a0 len0 cap0) := val_reads e0 (fun _ _ q => by cases q) (fun q => by simp [Value.cells])
  obtain ⟨a1, len1, cap1, rfl⟩ := okWide_slice Try.underlying23 (hval 1 23 v1 rfl rfl)
  have k1 := h1
  have lt1 : ∀ x ∈ p1, x.block < W.heap.size := by obtain ⟨m, hm⟩ := k1; exact DataW.trod_lt m _ _ _ hm
  obtain ⟨l1, r1, b1⟩ : ∃ (l : List Int), ReadsAs W (.sL (.int .i64) l) (.slice a1 len1 cap1) ∧ (∀ n ∈ l, (Lit.int .i64 n).wf = true) ∧ l.length * 8 ≤ 140737488351232 ∧ l.length ≤ 1048576 := by
    obtain ⟨fuel, hf⟩ := h1
    rcases open_ints Try.underlying23 Try.underlying3 (by kernel_rfl) hf with ⟨hcs, _⟩ | ⟨x, l, c, zs, hcs, _, hl, hm, hz, hx, hcell, hwz⟩
    · simp [Value.cells] at hcs
      obtain ⟨rfl, rfl, rfl⟩ := hcs
      exact ⟨[], Rep.sL _ _ _ (reads_nil _ _), by simp, by simp⟩
    · simp [Value.cells] at hcs
      obtain ⟨rfl, rfl, rfl⟩ := hcs
      refine ⟨_, Rep.sL _ _ _ (reads_ints hl (by simpa using hz) hcell), fun n hn => hwz n (List.mem_of_mem_take hn), ?_⟩
      have hd : d1 = _ := (Prod.mk.inj hx).1
      have hs := sized_slice hsz (j := 1) (t := 23) (e := 3) rfl (by rw [hd]; rfl) Try.underlying23
      rw [show Try.checked.prog.bytesOf 3 = 8 by kernel_rfl] at hs
      have hbk := hb1
      rw [hd] at hbk
      simp only [Rows.uptoBulk, bulk_lits] at hbk
      simp only [lits, reachBytes, List.length_map] at hs
      simp only [List.length_map, List.length_take, List.length_drop] at hs hbk ⊢
      exact ⟨by omega, by omega⟩
  clear hA0 hval0
  refine (walk_of_pc (P := Try.prog) (w := W) (vals := [.slice a0 len0 cap0, .slice a1 len1 cap1]) (args := [Ty.val (.list .str) l0, .sL (.int .i64) l1]) ⟨r0, r1, trivial⟩ (pc l0 ⟨b0, vol0⟩ l1 b1)).mono fun e W' ⟨he, bel⟩ => ?_
  subst he
  exact ⟨_, rfl, _, _, _, [], _, [], hW', trodAll_mk1 (shut_bool Try.underlying4 _), (trodAll_cons_mk (Below.trod laidOut (by kernel_rfl) (of_decide_eq_true (by kernel_rfl)) k0 bel lt0) (trodAll_cons_mk (Below.trod laidOut (by kernel_rfl) (of_decide_eq_true (by kernel_rfl)) k1 bel lt1) trodAll_mk0)), rfl, bel.frame _, fun h => by cases h⟩

theorem over : Rows.dictBuildsUptoRow.holds Try.pinned (Rows.OpenSpec.upto Rows.dictBuildsSpec) :=
  OpenClaim.holds_of_cond 4 Try.f4 rfl rfl rfl rfl rfl rfl rfl ⟨rfl, rfl, rfl, rfl, rfl⟩ rfl rfl rfl rfl rfl (by kernel_rfl) Try.func4 (by kernel_rfl)
    (of_decide_eq_true (by kernel_rfl)) (by unfold Func.isWrapper; first | (rw [if_pos (by decide +kernel)]; kernel_rfl) | (rw [if_neg (by decide +kernel)]; exact ⟨rfl, rfl⟩))
    (fun os started H enc _ F => lifted os started H enc F)

theorem proved : Rows.DictBuildsUptoSaid := over
#print axioms proved
end Go.Proofs.Ythomnlfmamagcaa.dictBuilds
