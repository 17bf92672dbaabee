/- PROVED: 'DelvecUnions' returns true (the statement as given, every start, no condition of its own). DelvecUnions: Union and Live against the reference, for arbitrary lists and for ascending ones. For what is read of bulk at most 1048576 (the second form). -/
import Derived.Test.YtojdmkkjamakiaaRows
import Derived.Test.YtojdmkkjamakiaaLaws3
import Derived.Test.YtojdmkkjamakiaaAbsP
import Derived.ProofKit
import Derived.OpenShut
import Derived.ShutString
import Derived.ChangeOld
import Derived.SizedLaws
import Derived.ChangeMaps5
import Derived.Deep.CondSized
namespace Go.Proofs.Ytojdmkkjamakiaa.delvecUnions
open Go.ChangeShapes Go.WideShapes Go.ChangeAt Go.RowKit Go.Abs

theorem bulk_lits {H : Type} (k : IntKind) (l : List Int) : Rows.uptoBulkAll (lits (H := H) k l) = l.length := by
  induction l with
  | nil => rfl
  | cons n l ih =>
    have e : Rows.uptoBulkAll (lits (H := H) k (n :: l)) = 1 + Rows.uptoBulkAll (lits (H := H) k l) := rfl
    rw [e, ih, List.length_cons]; omega

theorem pc (l0 : List Int) (b0 : (∀ n ∈ l0, (Lit.int .i64 n).wf = true) ∧ l0.length * 8 ≤ 140737488351232 ∧ l0.length ≤ 1048576) (l1 : List Int) (b1 : (∀ n ∈ l1, (Lit.int .i64 n).wf = true) ∧ l1.length * 8 ≤ 140737488351232 ∧ l1.length ≤ 1048576) (l2 : List Int) (b2 : (∀ n ∈ l2, (Lit.int .i64 n).wf = true) ∧ l2.length * 8 ≤ 140737488351232 ∧ l2.length ≤ 1048576) (l3 : List Int) (b3 : (∀ n ∈ l3, (Lit.int .i64 n).wf = true) ∧ l3.length * 8 ≤ 140737488351232 ∧ l3.length ≤ 1048576) (l4 : List Int) (b4 : (∀ n ∈ l4, (Lit.int .i64 n).wf = true) ∧ l4.length * 8 ≤ 140737488351232 ∧ l4.length ≤ 1048576) (l5 : List Int) (b5 : (∀ n ∈ l5, (Lit.int .i64 n).wf = true) ∧ l5.length * 8 ≤ 140737488351232 ∧ l5.length ≤ 1048576) : PC Try.prog 5 [.sL (.int .i64) l0, .sL (.int .i64) l1, .sL (.int .i64) l2, .sL (.int .i64) l3, .sL (.int .i64) l4, .sL (.int .i64) l5] [] (fun y _ => y = .v (.bool true)) :=
  PC.mono ((unions_ok (l0, l1, l2, l3, l4, l5, ()) (fun q hq => by
    first
    | cases hq; done
    | (injection hq with hq; subst hq
       have b0 := b0.2.2
       have b1 := b1.2.2
       have b2 := b2.2.2
       have b3 := b3.2.2
       have b4 := b4.2.2
       have b5 := b5.2.2
       show _
       dsimp only [cu]
       first | omega | (refine ⟨?_, ?_, ?_, ?_⟩ <;> first | omega | assumption) | (refine ⟨?_, ?_⟩ <;> omega) | (refine ⟨?_, ?_, ?_⟩ <;> omega) | (refine ⟨?_, ?_, ?_, ?_⟩ <;> omega) | (refine ⟨?_, ?_, ?_, ?_, ?_⟩ <;> omega) | (refine ⟨?_, ?_, ?_, ?_, ?_, ?_⟩ <;> omega)))).2 [] (fun _ h => by cases h)) fun _ _ h => h.1

theorem own : ownKnob Try.prog.godebug = none := by kernel_rfl
theorem laidOut : laidOutB Try.prog = true := by kernel_rfl

set_option maxRecDepth 100000 in
theorem lifted (os : Os) (started : os.Started) (H : Type) (enc : TypeId × Value → H) (F : Stop.Interp) :
    ReturnsInHanded {} Try.checked os 5 .any ((Rows.OpenSpec.upto Rows.delvecUnionsSpec).pre6 enc Try.prog Try.f5 Rows.delvecUnionsUptoRow.domain false) (((Rows.OpenSpec.upto Rows.delvecUnionsSpec).at F).post enc Try.prog Try.f5 false true false false) := by
  refine returnsInHanded_of_cond_sized (C := Try.checked) (s := Rows.OpenSpec.upto Rows.delvecUnionsSpec) (k := Rows.uptoSmall) rfl own started (by kernel_rfl) Try.func5
    (OpenSpec.witness (enc := enc) (C := Try.checked) (s := Rows.OpenSpec.upto Rows.delvecUnionsSpec) (k := Rows.uptoSmall) rfl false ⟨#[], #[.slice none 0 0, .slice none 0 0, .slice none 0 0, .slice none 0 0, .slice none 0 0, .slice none 0 0], []⟩ 8 (by kernel_rfl) (by kernel_rfl) (by kernel_rfl)
      (x := ([.nil, .nil, .nil, .nil, .nil, .nil], [], [])) (by kernel_rfl) rfl (by kernel_rfl)) ?_
  intro W base args ds gs before hval0 hW hcnd hk hsz _
  show Calls Try.checked.prog 5 args W fun e W' => ∃ v, e = .returned v ∧ Rows.delvecUnionsSpec.post enc Try.checked.prog Try.f5 false true false false W args v W'
  have hval : ∀ (j : Nat) t v, Try.f5.params[j]? = some t → args[j]? = some v → Value.okWide Try.prog W .any base t v := hval0
  have hW' := hW
  obtain ⟨p, q, hA0, hV, rfl, hfz, hnd⟩ := hW
  have hA : DataW.TrodAll enc Try.prog W 0 (fun _ => true) true Try.f5.params.toList args.toList ds p := hA0
  rw [Try.params5] at hA hval
  obtain ⟨v0, vs0, d0, ds0, p0, q0, hargs, rfl, rfl, h0, r_0⟩ := trodAll_cons hA
  obtain ⟨v1, vs1, d1, ds1, p1, q1, rfl, rfl, rfl, h1, r_1⟩ := trodAll_cons r_0
  obtain ⟨v2, vs2, d2, ds2, p2, q2, rfl, rfl, rfl, h2, r_2⟩ := trodAll_cons r_1
  obtain ⟨v3, vs3, d3, ds3, p3, q3, rfl, rfl, rfl, h3, r_3⟩ := trodAll_cons r_2
  obtain ⟨v4, vs4, d4, ds4, p4, q4, rfl, rfl, rfl, h4, r_4⟩ := trodAll_cons r_3
  obtain ⟨v5, vs5, d5, ds5, p5, q5, rfl, rfl, rfl, h5, r_5⟩ := trodAll_cons r_4
  obtain ⟨rfl, rfl, rfl⟩ := trodAll_nil r_5
  obtain rfl : args = #[v0, v1, v2, v3, v4, v5] := by cases args; simp_all
  obtain ⟨rfl, rfl⟩ := trodVars_none hV
  have hkb : Rows.uptoBulkAll [d0, d1, d2, d3, d4, d5] ≤ 1048576 := of_decide_eq_true hk
  simp only [Rows.uptoBulkAll] at hkb
  have hb0 : Rows.uptoBulk d0 ≤ 1048576 := by omega
  have hb1 : Rows.uptoBulk d1 ≤ 1048576 := by omega
  have hb2 : Rows.uptoBulk d2 ≤ 1048576 := by omega
  have hb3 : Rows.uptoBulk d3 ≤ 1048576 := by omega
  have hb4 : Rows.uptoBulk d4 ≤ 1048576 := by omega
  have hb5 : Rows.uptoBulk d5 ≤ 1048576 := by omega
  clear hkb hk
  obtain ⟨a0, len0, cap0, rfl⟩ := okWide_slice Try.underlying27 (hval 0 27 v0 rfl rfl)
  have k0 := h0
  have lt0 : ∀ x ∈ p0, x.block < W.heap.size := by obtain ⟨m, hm⟩ := k0; exact DataW.trod_lt m _ _ _ hm
  obtain ⟨l0, r0, b0⟩ : ∃ (l : List Int), ReadsAs W (.sL (.int .i64) l) (.slice a0 len0 cap0) ∧ (∀ n ∈ l, (Lit.int .i64 n).wf = true) ∧ l.length * 8 ≤ 140737488351232 ∧ l.length ≤ 1048576 := by
    obtain ⟨fuel, hf⟩ := h0
    rcases open_ints Try.underlying27 Try.underlying3 (by kernel_rfl) hf with ⟨hcs, _⟩ | ⟨x, l, c, zs, hcs, _, hl, hm, hz, hx, hcell, hwz⟩
    · simp [Value.cells] at hcs
      obtain ⟨rfl, rfl, rfl⟩ := hcs
      exact ⟨[], Rep.sL _ _ _ (reads_nil _ _), by simp, by simp⟩
    · simp [Value.cells] at hcs
      obtain ⟨rfl, rfl, rfl⟩ := hcs
      refine ⟨_, Rep.sL _ _ _ (reads_ints hl (by simpa using hz) hcell), fun n hn => hwz n (List.mem_of_mem_take hn), ?_⟩
      have hd : d0 = _ := (Prod.mk.inj hx).1
      have hs := sized_slice hsz (j := 0) (t := 27) (e := 3) rfl (by rw [hd]; rfl) Try.underlying27
      rw [show Try.checked.prog.bytesOf 3 = 8 by kernel_rfl] at hs
      have hbk := hb0
      rw [hd] at hbk
      simp only [Rows.uptoBulk, bulk_lits] at hbk
      simp only [lits, reachBytes, List.length_map] at hs
      simp only [List.length_map, List.length_take, List.length_drop] at hs hbk ⊢
      exact ⟨by omega, by omega⟩
  obtain ⟨a1, len1, cap1, rfl⟩ := okWide_slice Try.underlying27 (hval 1 27 v1 rfl rfl)
  have k1 := h1
  have lt1 : ∀ x ∈ p1, x.block < W.heap.size := by obtain ⟨m, hm⟩ := k1; exact DataW.trod_lt m _ _ _ hm
  obtain ⟨l1, r1, b1⟩ : ∃ (l : List Int), ReadsAs W (.sL (.int .i64) l) (.slice a1 len1 cap1) ∧ (∀ n ∈ l, (Lit.int .i64 n).wf = true) ∧ l.length * 8 ≤ 140737488351232 ∧ l.length ≤ 1048576 := by
    obtain ⟨fuel, hf⟩ := h1
    rcases open_ints Try.underlying27 Try.underlying3 (by kernel_rfl) hf with ⟨hcs, _⟩ | ⟨x, l, c, zs, hcs, _, hl, hm, hz, hx, hcell, hwz⟩
    · simp [Value.cells] at hcs
      obtain ⟨rfl, rfl, rfl⟩ := hcs
      exact ⟨[], Rep.sL _ _ _ (reads_nil _ _), by simp, by simp⟩
    · simp [Value.cells] at hcs
      obtain ⟨rfl, rfl, rfl⟩ := hcs
      refine ⟨_, Rep.sL _ _ _ (reads_ints hl (by simpa using hz) hcell), fun n hn => hwz n (List.mem_of_mem_take hn), ?_⟩
      have hd : d1 = _ := (Prod.mk.inj hx).1
      have hs := sized_slice hsz (j := 1) (t := 27) (e := 3) rfl (by rw [hd]; rfl) Try.underlying27
      rw [show Try.checked.prog.bytesOf 3 = 8 by kernel_rfl] at hs
      have hbk := hb1
      rw [hd] at hbk
      simp only [Rows.uptoBulk, bulk_lits] at hbk
      simp only [lits, reachBytes, List.length_map] at hs
      simp only [List.length_map, List.length_take, List.length_drop] at hs hbk ⊢
      exact ⟨by omega, by omega⟩
  obtain ⟨a2, len2, cap2, rfl⟩ := okWide_slice Try.underlying27 (hval 2 27 v2 rfl rfl)
  have k2 := h2
  have lt2 : ∀ x ∈ p2, x.block < W.heap.size := by obtain ⟨m, hm⟩ := k2; exact DataW.trod_lt m _ _ _ hm
  obtain ⟨l2, r2, b2⟩ : ∃ (l : List Int), ReadsAs W (.sL (.int .i64) l) (.slice a2 len2 cap2) ∧ (∀ n ∈ l, (Lit.int .i64 n).wf = true) ∧ l.length * 8 ≤ 140737488351232 ∧ l.length ≤ 1048576 := by
    obtain ⟨fuel, hf⟩ := h2
    rcases open_ints Try.underlying27 Try.underlying3 (by kernel_rfl) hf with ⟨hcs, _⟩ | ⟨x, l, c, zs, hcs, _, hl, hm, hz, hx, hcell, hwz⟩
    · simp [Value.cells] at hcs
      obtain ⟨rfl, rfl, rfl⟩ := hcs
      exact ⟨[], Rep.sL _ _ _ (reads_nil _ _), by simp, by simp⟩
    · simp [Value.cells] at hcs
      obtain ⟨rfl, rfl, rfl⟩ := hcs
      refine ⟨_, Rep.sL _ _ _ (reads_ints hl (by simpa using hz) hcell), fun n hn => hwz n (List.mem_of_mem_take hn), ?_⟩
      have hd : d2 = _ := (Prod.mk.inj hx).1
      have hs := sized_slice hsz (j := 2) (t := 27) (e := 3) rfl (by rw [hd]; rfl) Try.underlying27
      rw [show Try.checked.prog.bytesOf 3 = 8 by kernel_rfl] at hs
      have hbk := hb2
      rw [hd] at hbk
      simp only [Rows.uptoBulk, bulk_lits] at hbk
      simp only [lits, reachBytes, List.length_map] at hs
      simp only [List.length_map, List.length_take, List.length_drop] at hs hbk ⊢
      exact ⟨by omega, by omega⟩
  obtain ⟨a3, len3, cap3, rfl⟩ := okWide_slice Try.underlying27 (hval 3 27 v3 rfl rfl)
  have k3 := h3
  have lt3 : ∀ x ∈ p3, x.block < W.heap.size := by obtain ⟨m, hm⟩ := k3; exact DataW.trod_lt m _ _ _ hm
  obtain ⟨l3, r3, b3⟩ : ∃ (l : List Int), ReadsAs W (.sL (.int .i64) l) (.slice a3 len3 cap3) ∧ (∀ n ∈ l, (Lit.int .i64 n).wf = true) ∧ l.length * 8 ≤ 140737488351232 ∧ l.length ≤ 1048576 := by
    obtain ⟨fuel, hf⟩ := h3
    rcases open_ints Try.underlying27 Try.underlying3 (by kernel_rfl) hf with ⟨hcs, _⟩ | ⟨x, l, c, zs, hcs, _, hl, hm, hz, hx, hcell, hwz⟩
    · simp [Value.cells] at hcs
      obtain ⟨rfl, rfl, rfl⟩ := hcs
      exact ⟨[], Rep.sL _ _ _ (reads_nil _ _), by simp, by simp⟩
    · simp [Value.cells] at hcs
      obtain ⟨rfl, rfl, rfl⟩ := hcs
      refine ⟨_, Rep.sL _ _ _ (reads_ints hl (by simpa using hz) hcell), fun n hn => hwz n (List.mem_of_mem_take hn), ?_⟩
      have hd : d3 = _ := (Prod.mk.inj hx).1
      have hs := sized_slice hsz (j := 3) (t := 27) (e := 3) rfl (by rw [hd]; rfl) Try.underlying27
      rw [show Try.checked.prog.bytesOf 3 = 8 by kernel_rfl] at hs
      have hbk := hb3
      rw [hd] at hbk
      simp only [Rows.uptoBulk, bulk_lits] at hbk
      simp only [lits, reachBytes, List.length_map] at hs
      simp only [List.length_map, List.length_take, List.length_drop] at hs hbk ⊢
      exact ⟨by omega, by omega⟩
  obtain ⟨a4, len4, cap4, rfl⟩ := okWide_slice Try.underlying27 (hval 4 27 v4 rfl rfl)
  have k4 := h4
  have lt4 : ∀ x ∈ p4, x.block < W.heap.size := by obtain ⟨m, hm⟩ := k4; exact DataW.trod_lt m _ _ _ hm
  obtain ⟨l4, r4, b4⟩ : ∃ (l : List Int), ReadsAs W (.sL (.int .i64) l) (.slice a4 len4 cap4) ∧ (∀ n ∈ l, (Lit.int .i64 n).wf = true) ∧ l.length * 8 ≤ 140737488351232 ∧ l.length ≤ 1048576 := by
    obtain ⟨fuel, hf⟩ := h4
    rcases open_ints Try.underlying27 Try.underlying3 (by kernel_rfl) hf with ⟨hcs, _⟩ | ⟨x, l, c, zs, hcs, _, hl, hm, hz, hx, hcell, hwz⟩
    · simp [Value.cells] at hcs
      obtain ⟨rfl, rfl, rfl⟩ := hcs
      exact ⟨[], Rep.sL _ _ _ (reads_nil _ _), by simp, by simp⟩
    · simp [Value.cells] at hcs
      obtain ⟨rfl, rfl, rfl⟩ := hcs
      refine ⟨_, Rep.sL _ _ _ (reads_ints hl (by simpa using hz) hcell), fun n hn => hwz n (List.mem_of_mem_take hn), ?_⟩
      have hd : d4 = _ := (Prod.mk.inj hx).1
      have hs := sized_slice hsz (j := 4) (t := 27) (e := 3) rfl (by rw [hd]; rfl) Try.underlying27
      rw [show Try.checked.prog.bytesOf 3 = 8 by kernel_rfl] at hs
      have hbk := hb4
      rw [hd] at hbk
      simp only [Rows.uptoBulk, bulk_lits] at hbk
      simp only [lits, reachBytes, List.length_map] at hs
      simp only [List.length_map, List.length_take, List.length_drop] at hs hbk ⊢
      exact ⟨by omega, by omega⟩
  obtain ⟨a5, len5, cap5, rfl⟩ := okWide_slice Try.underlying27 (hval 5 27 v5 rfl rfl)
  have k5 := h5
  have lt5 : ∀ x ∈ p5, x.block < W.heap.size := by obtain ⟨m, hm⟩ := k5; exact DataW.trod_lt m _ _ _ hm
  obtain ⟨l5, r5, b5⟩ : ∃ (l : List Int), ReadsAs W (.sL (.int .i64) l) (.slice a5 len5 cap5) ∧ (∀ n ∈ l, (Lit.int .i64 n).wf = true) ∧ l.length * 8 ≤ 140737488351232 ∧ l.length ≤ 1048576 := by
    obtain ⟨fuel, hf⟩ := h5
    rcases open_ints Try.underlying27 Try.underlying3 (by kernel_rfl) hf with ⟨hcs, _⟩ | ⟨x, l, c, zs, hcs, _, hl, hm, hz, hx, hcell, hwz⟩
    · simp [Value.cells] at hcs
      obtain ⟨rfl, rfl, rfl⟩ := hcs
      exact ⟨[], Rep.sL _ _ _ (reads_nil _ _), by simp, by simp⟩
    · simp [Value.cells] at hcs
      obtain ⟨rfl, rfl, rfl⟩ := hcs
      refine ⟨_, Rep.sL _ _ _ (reads_ints hl (by simpa using hz) hcell), fun n hn => hwz n (List.mem_of_mem_take hn), ?_⟩
      have hd : d5 = _ := (Prod.mk.inj hx).1
      have hs := sized_slice hsz (j := 5) (t := 27) (e := 3) rfl (by rw [hd]; rfl) Try.underlying27
      rw [show Try.checked.prog.bytesOf 3 = 8 by kernel_rfl] at hs
      have hbk := hb5
      rw [hd] at hbk
      simp only [Rows.uptoBulk, bulk_lits] at hbk
      simp only [lits, reachBytes, List.length_map] at hs
      simp only [List.length_map, List.length_take, List.length_drop] at hs hbk ⊢
      exact ⟨by omega, by omega⟩
  clear hA0 hval0
  refine (walk_of_pc (P := Try.prog) (w := W) (vals := [.slice a0 len0 cap0, .slice a1 len1 cap1, .slice a2 len2 cap2, .slice a3 len3 cap3, .slice a4 len4 cap4, .slice a5 len5 cap5]) (args := [.sL (.int .i64) l0, .sL (.int .i64) l1, .sL (.int .i64) l2, .sL (.int .i64) l3, .sL (.int .i64) l4, .sL (.int .i64) l5]) ⟨r0, r1, r2, r3, r4, r5, trivial⟩ (pc l0 b0 l1 b1 l2 b2 l3 b3 l4 b4 l5 b5)).mono fun e W' ⟨he, bel⟩ => ?_
  subst he
  exact ⟨_, rfl, _, _, _, [], _, [], hW', trodAll_mk1 (shut_bool Try.underlying4 _), (trodAll_cons_mk (Below.trod laidOut (by kernel_rfl) (of_decide_eq_true (by kernel_rfl)) k0 bel lt0) (trodAll_cons_mk (Below.trod laidOut (by kernel_rfl) (of_decide_eq_true (by kernel_rfl)) k1 bel lt1) (trodAll_cons_mk (Below.trod laidOut (by kernel_rfl) (of_decide_eq_true (by kernel_rfl)) k2 bel lt2) (trodAll_cons_mk (Below.trod laidOut (by kernel_rfl) (of_decide_eq_true (by kernel_rfl)) k3 bel lt3) (trodAll_cons_mk (Below.trod laidOut (by kernel_rfl) (of_decide_eq_true (by kernel_rfl)) k4 bel lt4) (trodAll_cons_mk (Below.trod laidOut (by kernel_rfl) (of_decide_eq_true (by kernel_rfl)) k5 bel lt5) trodAll_mk0)))))), rfl, bel.frame _, fun h => by cases h⟩

theorem over : Rows.delvecUnionsUptoRow.holds Try.pinned (Rows.OpenSpec.upto Rows.delvecUnionsSpec) :=
  OpenClaim.holds_of_cond 5 Try.f5 rfl rfl rfl rfl rfl rfl rfl ⟨rfl, rfl, rfl, rfl, rfl⟩ rfl rfl rfl rfl rfl (by kernel_rfl) Try.func5 (by kernel_rfl)
    (of_decide_eq_true (by kernel_rfl)) (by unfold Func.isWrapper; first | (rw [if_pos (by decide +kernel)]; kernel_rfl) | (rw [if_neg (by decide +kernel)]; exact ⟨rfl, rfl⟩))
    (fun os started H enc _ F => lifted os started H enc F)

theorem proved : Rows.DelvecUnionsUptoSaid := over
#print axioms proved
end Go.Proofs.Ytojdmkkjamakiaa.delvecUnions
