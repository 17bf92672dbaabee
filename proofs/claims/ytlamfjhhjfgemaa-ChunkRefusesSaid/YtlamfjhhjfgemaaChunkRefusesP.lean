/- PROVED: 'ChunkRefuses' returns true (the statement as given, every start, no condition of its own). ChunkRefuses: a value that is not valid is reported wherever it is. -/
import Derived.Test.YtlamfjhhjfgemaaRows
import Derived.Test.YtlamfjhhjfgemaaLaws
import Derived.Test.YtlamfjhhjfgemaaAbsO
import Derived.ProofKit
import Derived.OpenShut
import Derived.ShutString
import Derived.ChangeOld
import Derived.SizedLaws
import Derived.ChangeMaps5
namespace Go.Proofs.Ytlamfjhhjfgemaa.chunkRefuses
open Go.ChangeShapes Go.WideShapes Go.ChangeAt Go.RowKit Go.Abs

theorem pc (a0 : Int) (w0 : (Lit.int .i64 a0).wf = true) (a1 : Bool) (l2 : List Int) (b2 : (∀ n ∈ l2, (Lit.int .i64 n).wf = true) ∧ l2.length * 8 ≤ 140737488351232) (a3 : Int) (w3 : (Lit.int .i64 a3).wf = true) (l4 : Ty.den tVal) (b4 : Ty.ok tVal l4) : PC Try.prog 9 [.v (.int .i64 a0), .v (.bool a1), .sL (.int .i64) l2, .v (.int .i64 a3), Ty.val tVal l4] [] (fun y _ => y = .v (.bool true)) :=
  PC.mono ((refuses_ok (a0, a1, l2, a3, l4, ()) (fun q hq => by
    first
    | cases hq; done
    | (injection hq with hq; subst hq
       have wl2 := b2.1
       have b2 := b2.2
       have hi2 : ∀ x, x ∈ l2 → inI x := fun x hx => by
         have h := wl2 x hx
         simp only [Lit.wf, Bool.and_eq_true, decide_eq_true_eq] at h
         exact h
       have hv4 : inI l4.2.1 := by
         have h : (Lit.int .i64 l4.2.1).wf = true := b4.2.1
         simp only [Lit.wf, Bool.and_eq_true, decide_eq_true_eq] at h
         exact h
       show _
       dsimp only [cu]
       first | omega | (refine ⟨?_, ?_, ?_, ?_⟩ <;> first | omega | assumption) | (refine ⟨?_, ?_⟩ <;> first | omega | assumption) | (refine ⟨?_, ?_, ?_⟩ <;> omega) | (refine ⟨?_, ?_, ?_, ?_⟩ <;> omega) | (refine ⟨?_, ?_, ?_, ?_, ?_⟩ <;> omega) | (refine ⟨?_, ?_, ?_, ?_, ?_, ?_⟩ <;> omega)))).2 [] (fun _ h => by cases h)) fun _ _ h => h.1

theorem own : ownKnob Try.prog.godebug = none := by kernel_rfl
theorem laidOut : laidOutB Try.prog = true := by kernel_rfl

set_option maxRecDepth 100000 in
theorem lifted (os : Os) (started : os.Started) (H : Type) (enc : TypeId × Value → H) :
    ReturnsInHanded {} Try.checked os 9 .any (Rows.chunkRefusesSpec.pre6 enc Try.prog Try.f9 Rows.chunkRefusesRow.domain false) (Rows.chunkRefusesSpec.post enc Try.prog Try.f9 false true false false) := by
  refine returnsInHanded_of_change_sized (C := Try.checked) own started (by kernel_rfl) Try.func9
    (ChangeSpec.witness6 (enc := enc) (C := Try.checked) false ⟨#[], #[.int .i64 0, .bool false, .slice none 0 0, .int .i64 0, .agg #[.bool false, .int .i64 0, .string ByteArray.empty]], []⟩ 8 (by kernel_rfl) (by kernel_rfl) (by kernel_rfl) (by kernel_rfl)) ?_
  intro W base args ds gs before hval0 hW hcnd hsz _
  have hval : ∀ (j : Nat) t v, Try.f9.params[j]? = some t → args[j]? = some v → Value.okWide Try.prog W .any base t v := hval0
  have hW' := hW
  obtain ⟨p, q, hA0, hV, rfl, hfz, hnd⟩ := hW
  have hA : DataW.TrodAll enc Try.prog W 0 (fun _ => true) true Try.f9.params.toList args.toList ds p := hA0
  rw [Try.params9] at hA hval
  obtain ⟨v0, vs0, d0, ds0, p0, q0, hargs, rfl, rfl, h0, r_0⟩ := trodAll_cons hA
  obtain ⟨v1, vs1, d1, ds1, p1, q1, rfl, rfl, rfl, h1, r_1⟩ := trodAll_cons r_0
  obtain ⟨v2, vs2, d2, ds2, p2, q2, rfl, rfl, rfl, h2, r_2⟩ := trodAll_cons r_1
  obtain ⟨v3, vs3, d3, ds3, p3, q3, rfl, rfl, rfl, h3, r_3⟩ := trodAll_cons r_2
  obtain ⟨v4, vs4, d4, ds4, p4, q4, rfl, rfl, rfl, h4, r_4⟩ := trodAll_cons r_3
  obtain ⟨rfl, rfl, rfl⟩ := trodAll_nil r_4
  obtain rfl : args = #[v0, v1, v2, v3, v4] := by cases args; simp_all
  obtain ⟨rfl, rfl⟩ := trodVars_none hV
  obtain ⟨a0, rfl, rfl, rfl, w0⟩ := open_int Try.underlying3 (hval 0 3 v0 rfl rfl) h0
  obtain ⟨a1, rfl, rfl, rfl⟩ := open_bool Try.underlying4 (hval 1 4 v1 rfl rfl) h1
  obtain ⟨a2, len2, cap2, rfl⟩ := okWide_slice Try.underlying22 (hval 2 22 v2 rfl rfl)
  have k2 := h2
  have lt2 : ∀ x ∈ p2, x.block < W.heap.size := by obtain ⟨m, hm⟩ := k2; exact DataW.trod_lt m _ _ _ hm
  obtain ⟨l2, r2, b2⟩ : ∃ (l : List Int), ReadsAs W (.sL (.int .i64) l) (.slice a2 len2 cap2) ∧ (∀ n ∈ l, (Lit.int .i64 n).wf = true) ∧ l.length * 8 ≤ 140737488351232 := by
    obtain ⟨fuel, hf⟩ := h2
    rcases open_ints Try.underlying22 Try.underlying3 (by kernel_rfl) hf with ⟨hcs, _⟩ | ⟨x, l, c, zs, hcs, _, hl, hm, hz, hx, hcell, hwz⟩
    · simp [Value.cells] at hcs
      obtain ⟨rfl, rfl, rfl⟩ := hcs
      exact ⟨[], Rep.sL _ _ _ (reads_nil _ _), by simp, by simp⟩
    · simp [Value.cells] at hcs
      obtain ⟨rfl, rfl, rfl⟩ := hcs
      refine ⟨_, Rep.sL _ _ _ (reads_ints hl (by simpa using hz) hcell), fun n hn => hwz n (List.mem_of_mem_take hn), ?_⟩
      have hd : d2 = _ := (Prod.mk.inj hx).1
      have hs := sized_slice hsz (j := 2) (t := 22) (e := 3) rfl (by rw [hd]; rfl) Try.underlying22
      rw [show Try.checked.prog.bytesOf 3 = 8 by kernel_rfl] at hs
      simp [lits, reachBytes] at hs ⊢
      omega
  obtain ⟨a3, rfl, rfl, rfl, w3⟩ := open_int Try.underlying3 (hval 3 3 v3 rfl rfl) h3
  obtain ⟨vs4, rfl, _⟩ := okWide_struct Try.underlying41 (hval 4 41 v4 rfl rfl)
  have k4 := h4
  have lt4 : ∀ x ∈ p4, x.block < W.heap.size := by obtain ⟨m, hm⟩ := k4; exact DataW.trod_lt m _ _ _ hm
  obtain ⟨f4, hf4⟩ := h4
  obtain ⟨l4, b4, e4⟩ := fits_reads (P := Try.prog) 8 41 tVal f4 _ _ (by kernel_rfl) hf4
  have r4 : ReadsAs W (Ty.val tVal l4) (.agg vs4) := val_reads e4 (fun _ _ q => ⟨_, rfl⟩) (fun q => (q _ _ rfl).elim)
  clear hA0 hval0
  refine (walk_of_pc (P := Try.prog) (w := W) (vals := [.int .i64 a0, .bool a1, .slice a2 len2 cap2, .int .i64 a3, .agg vs4]) (args := [.v (.int .i64 a0), .v (.bool a1), .sL (.int .i64) l2, .v (.int .i64 a3), Ty.val tVal l4]) ⟨reads_v _ _, reads_v _ _, r2, reads_v _ _, r4, trivial⟩ (pc a0 w0 a1 l2 b2 a3 w3 l4 b4)).mono fun e W' ⟨he, bel⟩ => ?_
  subst he
  exact ⟨_, rfl, _, _, _, [], _, [], hW', trodAll_mk1 (shut_bool Try.underlying4 _), (trodAll_cons_mk (shut_int Try.underlying3 w0) (trodAll_cons_mk (shut_bool Try.underlying4 _) (trodAll_cons_mk (Below.trod laidOut (by kernel_rfl) (of_decide_eq_true (by kernel_rfl)) k2 bel lt2) (trodAll_cons_mk (shut_int Try.underlying3 w3) (trodAll_cons_mk (Below.trod laidOut (by kernel_rfl) (of_decide_eq_true (by kernel_rfl)) k4 bel lt4) trodAll_mk0))))), rfl, bel.frame _, fun h => by cases h⟩

theorem over : Rows.chunkRefusesRow.holds Try.pinned (OpenSpec.ofChange Rows.chunkRefusesSpec) :=
  OpenClaim.holds_of_wide 9 Try.f9 rfl rfl rfl rfl rfl rfl rfl ⟨rfl, rfl, rfl, rfl, rfl⟩ rfl rfl rfl rfl rfl (by kernel_rfl) Try.func9 (by kernel_rfl)
    (of_decide_eq_true (by kernel_rfl)) (by unfold Func.isWrapper; first | (rw [if_pos (by decide +kernel)]; kernel_rfl) | (rw [if_neg (by decide +kernel)]; exact ⟨rfl, rfl⟩))
    (fun os started H enc _ => lifted os started H enc)

theorem proved : Rows.ChunkRefusesSaid := over
#print axioms proved
end Go.Proofs.Ytlamfjhhjfgemaa.chunkRefuses
