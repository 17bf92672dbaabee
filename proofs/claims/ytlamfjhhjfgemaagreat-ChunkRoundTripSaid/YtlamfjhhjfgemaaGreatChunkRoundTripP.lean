/- PROVED: 'ChunkRoundTrip' returns true (the statement as given, every start, no condition of its own). ChunkRoundTrip: Decode returns the values that were encoded. -/
import Derived.Test.YtlamfjhhjfgemaaGreatRows
import Derived.Test.YtlamfjhhjfgemaaGreatLaws
import Derived.Test.YtlamfjhhjfgemaaGreatAbsP
import Derived.ProofKit
import Derived.OpenShut
import Derived.ShutString
import Derived.ChangeOld
import Derived.SizedLaws
import Derived.ChangeMaps5
namespace Go.Proofs.YtlamfjhhjfgemaaGreat.chunkRoundTrip
open Go.ChangeShapes Go.WideShapes Go.ChangeAt Go.RowKit Go.Abs

theorem pc (a0 : Int) (w0 : (Lit.int .i64 a0).wf = true) (a1 : Bool) (l2 : List Int) (b2 : (∀ n ∈ l2, (Lit.int .i64 n).wf = true) ∧ l2.length * 8 ≤ 140737488351232) : PC Tryz.prog 3 [.v (.int .i64 a0), .v (.bool a1), .sL (.int .i64) l2] [] (fun y _ => y = .v (.bool true)) :=
  PC.mono ((round_ok (a0, a1, l2, ()) (fun q hq => by
    first
    | cases hq; done
    | (injection hq with hq; subst hq
       have wl2 := b2.1
       have b2 := b2.2
       have hi2 : ∀ x, x ∈ l2 → inI x := fun x hx => by
         have h := wl2 x hx
         simp only [Lit.wf, Bool.and_eq_true, decide_eq_true_eq] at h
         exact h
       show _
       dsimp only [cu]
       first | omega | (refine ⟨?_, ?_, ?_, ?_⟩ <;> first | omega | assumption) | (refine ⟨?_, ?_⟩ <;> first | omega | assumption) | (refine ⟨?_, ?_, ?_⟩ <;> omega) | (refine ⟨?_, ?_, ?_, ?_⟩ <;> omega) | (refine ⟨?_, ?_, ?_, ?_, ?_⟩ <;> omega) | (refine ⟨?_, ?_, ?_, ?_, ?_, ?_⟩ <;> omega)))).2 [] (fun _ h => by cases h)) fun _ _ h => h.1

theorem own : ownKnob Tryz.prog.godebug = none := by kernel_rfl
theorem laidOut : laidOutB Tryz.prog = true := by kernel_rfl

set_option maxRecDepth 100000 in
theorem lifted (os : Os) (started : os.Started) (H : Type) (enc : TypeId × Value → H) :
    ReturnsInHanded {} Tryz.checked os 3 .any (Rows.chunkRoundTripSpec.pre6 enc Tryz.prog Tryz.f3 Rows.chunkRoundTripRow.domain false) (Rows.chunkRoundTripSpec.post enc Tryz.prog Tryz.f3 false true false false) := by
  refine returnsInHanded_of_change_sized (C := Tryz.checked) own started (by kernel_rfl) Tryz.func3
    (ChangeSpec.witness6 (enc := enc) (C := Tryz.checked) false ⟨#[], #[.int .i64 0, .bool false, .slice none 0 0], []⟩ 8 (by kernel_rfl) (by kernel_rfl) (by kernel_rfl) (by kernel_rfl)) ?_
  intro W base args ds gs before hval0 hW hcnd hsz _
  have hval : ∀ (j : Nat) t v, Tryz.f3.params[j]? = some t → args[j]? = some v → Value.okWide Tryz.prog W .any base t v := hval0
  have hW' := hW
  obtain ⟨p, q, hA0, hV, rfl, hfz, hnd⟩ := hW
  have hA : DataW.TrodAll enc Tryz.prog W 0 (fun _ => true) true Tryz.f3.params.toList args.toList ds p := hA0
  rw [Tryz.params3] at hA hval
  obtain ⟨v0, vs0, d0, ds0, p0, q0, hargs, rfl, rfl, h0, r_0⟩ := trodAll_cons hA
  obtain ⟨v1, vs1, d1, ds1, p1, q1, rfl, rfl, rfl, h1, r_1⟩ := trodAll_cons r_0
  obtain ⟨v2, vs2, d2, ds2, p2, q2, rfl, rfl, rfl, h2, r_2⟩ := trodAll_cons r_1
  obtain ⟨rfl, rfl, rfl⟩ := trodAll_nil r_2
  obtain rfl : args = #[v0, v1, v2] := by cases args; simp_all
  obtain ⟨rfl, rfl⟩ := trodVars_none hV
  obtain ⟨a0, rfl, rfl, rfl, w0⟩ := open_int Tryz.underlying3 (hval 0 3 v0 rfl rfl) h0
  obtain ⟨a1, rfl, rfl, rfl⟩ := open_bool Tryz.underlying4 (hval 1 4 v1 rfl rfl) h1
  obtain ⟨a2, len2, cap2, rfl⟩ := okWide_slice Tryz.underlying22 (hval 2 22 v2 rfl rfl)
  have k2 := h2
  have lt2 : ∀ x ∈ p2, x.block < W.heap.size := by obtain ⟨m, hm⟩ := k2; exact DataW.trod_lt m _ _ _ hm
  obtain ⟨l2, r2, b2⟩ : ∃ (l : List Int), ReadsAs W (.sL (.int .i64) l) (.slice a2 len2 cap2) ∧ (∀ n ∈ l, (Lit.int .i64 n).wf = true) ∧ l.length * 8 ≤ 140737488351232 := by
    obtain ⟨fuel, hf⟩ := h2
    rcases open_ints Tryz.underlying22 Tryz.underlying3 (by kernel_rfl) hf with ⟨hcs, _⟩ | ⟨x, l, c, zs, hcs, _, hl, hm, hz, hx, hcell, hwz⟩
    · simp [Value.cells] at hcs
      obtain ⟨rfl, rfl, rfl⟩ := hcs
      exact ⟨[], Rep.sL _ _ _ (reads_nil _ _), by simp, by simp⟩
    · simp [Value.cells] at hcs
      obtain ⟨rfl, rfl, rfl⟩ := hcs
      refine ⟨_, Rep.sL _ _ _ (reads_ints hl (by simpa using hz) hcell), fun n hn => hwz n (List.mem_of_mem_take hn), ?_⟩
      have hd : d2 = _ := (Prod.mk.inj hx).1
      have hs := sized_slice hsz (j := 2) (t := 22) (e := 3) rfl (by rw [hd]; rfl) Tryz.underlying22
      rw [show Tryz.checked.prog.bytesOf 3 = 8 by kernel_rfl] at hs
      simp [lits, reachBytes] at hs ⊢
      omega
  clear hA0 hval0
  refine (walk_of_pc (P := Tryz.prog) (w := W) (vals := [.int .i64 a0, .bool a1, .slice a2 len2 cap2]) (args := [.v (.int .i64 a0), .v (.bool a1), .sL (.int .i64) l2]) ⟨reads_v _ _, reads_v _ _, r2, trivial⟩ (pc a0 w0 a1 l2 b2)).mono fun e W' ⟨he, bel⟩ => ?_
  subst he
  exact ⟨_, rfl, _, _, _, [], _, [], hW', trodAll_mk1 (shut_bool Tryz.underlying4 _), (trodAll_cons_mk (shut_int Tryz.underlying3 w0) (trodAll_cons_mk (shut_bool Tryz.underlying4 _) (trodAll_cons_mk (Below.trod laidOut (by kernel_rfl) (of_decide_eq_true (by kernel_rfl)) k2 bel lt2) trodAll_mk0))), rfl, bel.frame _, fun h => by cases h⟩

theorem over : Rows.chunkRoundTripRow.holds Tryz.pinned (OpenSpec.ofChange Rows.chunkRoundTripSpec) :=
  OpenClaim.holds_of_wide 3 Tryz.f3 rfl rfl rfl rfl rfl rfl rfl ⟨rfl, rfl, rfl, rfl, rfl⟩ rfl rfl rfl rfl rfl (by kernel_rfl) Tryz.func3 (by kernel_rfl)
    (of_decide_eq_true (by kernel_rfl)) (by unfold Func.isWrapper; first | (rw [if_pos (by decide +kernel)]; kernel_rfl) | (rw [if_neg (by decide +kernel)]; exact ⟨rfl, rfl⟩))
    (fun os started H enc _ => lifted os started H enc)

theorem proved : Rows.ChunkRoundTripSaid := over
#print axioms proved
end Go.Proofs.YtlamfjhhjfgemaaGreat.chunkRoundTrip
