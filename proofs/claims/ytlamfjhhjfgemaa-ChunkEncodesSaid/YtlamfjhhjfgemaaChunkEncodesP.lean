/- PROVED: 'ChunkEncodes' returns true (the statement as given, every start, no condition of its own). ChunkEncodes: Encode against its reference, for the input and for valid values. -/
import Derived.Test.YtlamfjhhjfgemaaRows
import Derived.Test.YtlamfjhhjfgemaaLaws
import Derived.Test.YtlamfjhhjfgemaaAbsO
import Derived.ProofKit
import Derived.OpenShut
import Derived.ShutString
import Derived.ChangeOld
import Derived.SizedLaws
import Derived.ChangeMaps5
namespace Go.Proofs.Ytlamfjhhjfgemaa.chunkEncodes
open Go.ChangeShapes Go.WideShapes Go.ChangeAt Go.RowKit Go.Abs

theorem pc (l0 : Ty.den tCol) (b0 : Ty.ok tCol l0) (l1 : Ty.den (.list tVal)) (b1 : Ty.ok (.list tVal) l1) (a2 : Int) (w2 : (Lit.int .i64 a2).wf = true) (a3 : Bool) (l4 : List Int) (b4 : (∀ n ∈ l4, (Lit.int .i64 n).wf = true) ∧ l4.length * 8 ≤ 140737488351232) : PC Try.prog 7 [Ty.val tCol l0, Ty.val (.list tVal) l1, .v (.int .i64 a2), .v (.bool a3), .sL (.int .i64) l4] [] (fun y _ => y = .v (.bool true)) :=
  PC.mono ((encodes_ok (l0, l1, a2, a3, l4, ()) (fun q hq => by
    first
    | cases hq; done
    | (injection hq with hq; subst hq
       have wl4 := b4.1
       have b4 := b4.2
       have hi4 : ∀ x, x ∈ l4 → inI x := fun x hx => by
         have h := wl4 x hx
         simp only [Lit.wf, Bool.and_eq_true, decide_eq_true_eq] at h
         exact h
       have hw1 : (l1 : List Val).length ≤ 9223372036854775807 := Nat.le_trans b1.1 (by decide)
       have hr1 : ∀ v, v ∈ (l1 : List Val) → inI v.2.1 := fun v hv => by
         have h : (Lit.int .i64 v.2.1).wf = true := (b1.2 v hv).2.1
         simp only [Lit.wf, Bool.and_eq_true, decide_eq_true_eq] at h
         exact h
       show _
       dsimp only [cu]
       first | omega | (refine ⟨?_, ?_, ?_, ?_⟩ <;> first | omega | assumption) | (refine ⟨?_, ?_⟩ <;> first | omega | assumption) | (refine ⟨?_, ?_, ?_⟩ <;> omega) | (refine ⟨?_, ?_, ?_, ?_⟩ <;> omega) | (refine ⟨?_, ?_, ?_, ?_, ?_⟩ <;> omega) | (refine ⟨?_, ?_, ?_, ?_, ?_, ?_⟩ <;> omega)))).2 [] (fun _ h => by cases h)) fun _ _ h => h.1

theorem own : ownKnob Try.prog.godebug = none := by kernel_rfl
theorem laidOut : laidOutB Try.prog = true := by kernel_rfl

set_option maxRecDepth 100000 in
theorem lifted (os : Os) (started : os.Started) (H : Type) (enc : TypeId × Value → H) :
    ReturnsInHanded {} Try.checked os 7 .any (Rows.chunkEncodesSpec.pre6 enc Try.prog Try.f7 Rows.chunkEncodesRow.domain false) (Rows.chunkEncodesSpec.post enc Try.prog Try.f7 false true false false) := by
  refine returnsInHanded_of_change_sized (C := Try.checked) own started (by kernel_rfl) Try.func7
    (ChangeSpec.witness6 (enc := enc) (C := Try.checked) false ⟨#[], #[.agg #[.string ByteArray.empty, .int .i64 0, .int .i64 0, .bool false], .slice none 0 0, .int .i64 0, .bool false, .slice none 0 0], []⟩ 8 (by kernel_rfl) (by kernel_rfl) (by kernel_rfl) (by kernel_rfl)) ?_
  intro W base args ds gs before hval0 hW hcnd hsz _
  have hval : ∀ (j : Nat) t v, Try.f7.params[j]? = some t → args[j]? = some v → Value.okWide Try.prog W .any base t v := hval0
  have hW' := hW
  obtain ⟨p, q, hA0, hV, rfl, hfz, hnd⟩ := hW
  have hA : DataW.TrodAll enc Try.prog W 0 (fun _ => true) true Try.f7.params.toList args.toList ds p := hA0
  rw [Try.params7] at hA hval
  obtain ⟨v0, vs0, d0, ds0, p0, q0, hargs, rfl, rfl, h0, r_0⟩ := trodAll_cons hA
  obtain ⟨v1, vs1, d1, ds1, p1, q1, rfl, rfl, rfl, h1, r_1⟩ := trodAll_cons r_0
  obtain ⟨v2, vs2, d2, ds2, p2, q2, rfl, rfl, rfl, h2, r_2⟩ := trodAll_cons r_1
  obtain ⟨v3, vs3, d3, ds3, p3, q3, rfl, rfl, rfl, h3, r_3⟩ := trodAll_cons r_2
  obtain ⟨v4, vs4, d4, ds4, p4, q4, rfl, rfl, rfl, h4, r_4⟩ := trodAll_cons r_3
  obtain ⟨rfl, rfl, rfl⟩ := trodAll_nil r_4
  obtain rfl : args = #[v0, v1, v2, v3, v4] := by cases args; simp_all
  obtain ⟨rfl, rfl⟩ := trodVars_none hV
  obtain ⟨vs0, rfl, _⟩ := okWide_struct Try.underlying24 (hval 0 24 v0 rfl rfl)
  have k0 := h0
  have lt0 : ∀ x ∈ p0, x.block < W.heap.size := by obtain ⟨m, hm⟩ := k0; exact DataW.trod_lt m _ _ _ hm
  obtain ⟨f0, hf0⟩ := h0
  obtain ⟨l0, b0, e0⟩ := fits_reads (P := Try.prog) 8 24 tCol f0 _ _ (by kernel_rfl) hf0
  have r0 : ReadsAs W (Ty.val tCol l0) (.agg vs0) := val_reads e0 (fun _ _ q => ⟨_, rfl⟩) (fun q => (q _ _ rfl).elim)
  obtain ⟨a1, len1, cap1, rfl⟩ := okWide_slice Try.underlying28 (hval 1 28 v1 rfl rfl)
  have k1 := h1
  have lt1 : ∀ x ∈ p1, x.block < W.heap.size := by obtain ⟨m, hm⟩ := k1; exact DataW.trod_lt m _ _ _ hm
  obtain ⟨f1, hf1⟩ := h1
  obtain ⟨l1, b1, e1⟩ := fits_reads (P := Try.prog) 8 28 (.list tVal) f1 _ _ (by kernel_rfl) hf1
  have r1 : ReadsAs W (Ty.val (.list tVal) l1) (.slice a1 len1 cap1) := val_reads e1 (fun _ _ q => by cases q) (fun q => by simp [Value.cells])
  obtain ⟨a2, rfl, rfl, rfl, w2⟩ := open_int Try.underlying3 (hval 2 3 v2 rfl rfl) h2
  obtain ⟨a3, rfl, rfl, rfl⟩ := open_bool Try.underlying4 (hval 3 4 v3 rfl rfl) h3
  obtain ⟨a4, len4, cap4, rfl⟩ := okWide_slice Try.underlying22 (hval 4 22 v4 rfl rfl)
  have k4 := h4
  have lt4 : ∀ x ∈ p4, x.block < W.heap.size := by obtain ⟨m, hm⟩ := k4; exact DataW.trod_lt m _ _ _ hm
  obtain ⟨l4, r4, b4⟩ : ∃ (l : List Int), ReadsAs W (.sL (.int .i64) l) (.slice a4 len4 cap4) ∧ (∀ n ∈ l, (Lit.int .i64 n).wf = true) ∧ l.length * 8 ≤ 140737488351232 := by
    obtain ⟨fuel, hf⟩ := h4
    rcases open_ints Try.underlying22 Try.underlying3 (by kernel_rfl) hf with ⟨hcs, _⟩ | ⟨x, l, c, zs, hcs, _, hl, hm, hz, hx, hcell, hwz⟩
    · simp [Value.cells] at hcs
      obtain ⟨rfl, rfl, rfl⟩ := hcs
      exact ⟨[], Rep.sL _ _ _ (reads_nil _ _), by simp, by simp⟩
    · simp [Value.cells] at hcs
      obtain ⟨rfl, rfl, rfl⟩ := hcs
      refine ⟨_, Rep.sL _ _ _ (reads_ints hl (by simpa using hz) hcell), fun n hn => hwz n (List.mem_of_mem_take hn), ?_⟩
      have hd : d4 = _ := (Prod.mk.inj hx).1
      have hs := sized_slice hsz (j := 4) (t := 22) (e := 3) rfl (by rw [hd]; rfl) Try.underlying22
      rw [show Try.checked.prog.bytesOf 3 = 8 by kernel_rfl] at hs
      simp [lits, reachBytes] at hs ⊢
      omega
  clear hA0 hval0
  refine (walk_of_pc (P := Try.prog) (w := W) (vals := [.agg vs0, .slice a1 len1 cap1, .int .i64 a2, .bool a3, .slice a4 len4 cap4]) (args := [Ty.val tCol l0, Ty.val (.list tVal) l1, .v (.int .i64 a2), .v (.bool a3), .sL (.int .i64) l4]) ⟨r0, r1, reads_v _ _, reads_v _ _, r4, trivial⟩ (pc l0 b0 l1 b1 a2 w2 a3 l4 b4)).mono fun e W' ⟨he, bel⟩ => ?_
  subst he
  exact ⟨_, rfl, _, _, _, [], _, [], hW', trodAll_mk1 (shut_bool Try.underlying4 _), (trodAll_cons_mk (Below.trod laidOut (by kernel_rfl) (of_decide_eq_true (by kernel_rfl)) k0 bel lt0) (trodAll_cons_mk (Below.trod laidOut (by kernel_rfl) (of_decide_eq_true (by kernel_rfl)) k1 bel lt1) (trodAll_cons_mk (shut_int Try.underlying3 w2) (trodAll_cons_mk (shut_bool Try.underlying4 _) (trodAll_cons_mk (Below.trod laidOut (by kernel_rfl) (of_decide_eq_true (by kernel_rfl)) k4 bel lt4) trodAll_mk0))))), rfl, bel.frame _, fun h => by cases h⟩

theorem over : Rows.chunkEncodesRow.holds Try.pinned (OpenSpec.ofChange Rows.chunkEncodesSpec) :=
  OpenClaim.holds_of_wide 7 Try.f7 rfl rfl rfl rfl rfl rfl rfl ⟨rfl, rfl, rfl, rfl, rfl⟩ rfl rfl rfl rfl rfl (by kernel_rfl) Try.func7 (by kernel_rfl)
    (of_decide_eq_true (by kernel_rfl)) (by unfold Func.isWrapper; first | (rw [if_pos (by decide +kernel)]; kernel_rfl) | (rw [if_neg (by decide +kernel)]; exact ⟨rfl, rfl⟩))
    (fun os started H enc _ => lifted os started H enc)

theorem proved : Rows.ChunkEncodesSaid := over
#print axioms proved
end Go.Proofs.Ytlamfjhhjfgemaa.chunkEncodes
