/- PROVED: 'MpartRoundTrip' returns true (the statement as given, every start, no condition of its own). MpartRoundTrip: what Encode has written, Recs and Info read again. -/
import Derived.Test.YtcjiefknhfhmkaaGreatDoorM14
import Derived.Test.YtcjiefknhfhmkaaGreatDoorRows
import Derived.Test.YtcjiefknhfhmkaaGreatDoorCards
import Derived.Test.YtcjiefknhfhmkaaGreatDoorTie
import Derived.LaidMore
import Derived.Stop.Joined
import Derived.SevenTiedAt
import Derived.ProofKit
import Derived.OpenShut
import Derived.ShutString
import Derived.ChangeOld
import Derived.SizedLaws
import Derived.ChangeMaps5
namespace Go.Proofs.YtcjiefknhfhmkaaGreatDoor.mpartRoundTrip
open Go.ChangeShapes Go.WideShapes Go.ChangeAt Go.RowKit Go.Abs

theorem pc (l0 : List Int) (b0 : (∀ n ∈ l0, (Lit.int .i64 n).wf = true) /\ l0.length * 8 <= 140737488351232) (l1 : List Int) (b1 : (∀ n ∈ l1, (Lit.int .i64 n).wf = true) /\ l1.length * 8 <= 140737488351232) : PC Tryz.prog 10 [.sL (.int .i64) l0, .sL (.int .i64) l1] [] (fun y _ => y = .v (.bool true)) :=
  PC.mono ((qY3 (l0, l1, ()) (fun q hq => by
    first
    | cases hq; done
    | (injection hq with hq; subst hq
       have wl0 := b0.1
       have b0 := b0.2
       have wl1 := b1.1
       have b1 := b1.2
       have hi1 : ∀ x, x ∈ l1 -> inI x := fun x hx => by
         have h := wl1 x hx
         simp only [Lit.wf, Bool.and_eq_true, decide_eq_true_eq] at h
         exact h
       show _
       dsimp only [cu]
       first | omega | (refine ⟨?_, ?_, ?_, ?_⟩ <;> first | omega | assumption) | (refine ⟨?_, ?_⟩ <;> first | omega | assumption) | (refine ⟨?_, ?_, ?_⟩ <;> first | omega | assumption) | (refine ⟨?_, ?_, ?_, ?_⟩ <;> omega) | (refine ⟨?_, ?_, ?_, ?_, ?_⟩ <;> omega) | (refine ⟨?_, ?_, ?_, ?_, ?_, ?_⟩ <;> first | omega | assumption)))).2 [] (fun _ h => by cases h)) fun _ _ h => h.1

abbrev qE2 : List (String × DataW Unit) := Rows.mpartRoundTripRow.laid
theorem qOD (os : Os) (args : Array Value) : laidMetH Tryz.prog qE2 ((World.doorLaid Tryz.prog 400 os).forCall (fun _ _ => 0) ⟨#[], args, []⟩).memory :=
  laidMetH_of_parts3 (fuel := 8) (laidMet_of_run' 8 (by kernel_rfl) (by kernel_rfl)) (by kernel_rfl) (by kernel_rfl)
theorem own : ownKnob Tryz.prog.godebug = none := by kernel_rfl
theorem qE3 : laidOutB Tryz.prog = true := by kernel_rfl

set_option maxRecDepth 100000 in
theorem lifted (os : Os) (started : os.Started) (H : Type) (enc : TypeId × Value -> H) :
    ReturnsInHanded {} Tryz.checked os 10 .any (fun w args => (Rows.mpartRoundTripSpec.pre enc Tryz.prog Tryz.f10 [] false w args /\ laidMetH Tryz.prog qE2 w) /\ sizedMet enc Tryz.prog Tryz.f10 (OpenSpec.ofChange Rows.mpartRoundTripSpec) false w args) (Rows.mpartRoundTripSpec.post enc Tryz.prog Tryz.f10 false true false false) := by
  refine returnsInHanded_of_change_and (C := Tryz.checked) (X := fun w _ => laidMetH Tryz.prog qE2 w) (fun _ _ _ hh h => h.of_heap hh) own started (by kernel_rfl) Tryz.func10
    (ChangeSpec.witness_shaped (enc := enc) (C := Tryz.checked) (os := os) (X := fun w _ => laidMetH Tryz.prog qE2 w) false (World.doorLaid Tryz.prog 400 os) #[.slice none 0 0, .slice none 0 0] 8 rfl (World.shaped_of_RefB (by kernel_rfl) (by kernel_rfl)) (by kernel_rfl) (by kernel_rfl) (by kernel_rfl) (qOD os _)) ?_
  intro W base args ds gs before hval0 hW hcnd hsz hL _
  have hval : ∀ (j : Nat) t v, Tryz.f10.params[j]? = some t -> args[j]? = some v -> Value.okWide Tryz.prog W .any base t v := hval0
  have hW' := hW
  obtain ⟨p, q, hA0, hV, rfl, hfz, hnd⟩ := hW
  have hA : DataW.TrodAll enc Tryz.prog W 0 (fun _ => true) true Tryz.f10.params.toList args.toList ds p := hA0
  rw [Tryz.params10] at hA hval
  obtain ⟨v0, vs0, d0, ds0, p0, q0, hargs, rfl, rfl, h0, r_0⟩ := trodAll_cons hA
  obtain ⟨v1, vs1, d1, ds1, p1, q1, rfl, rfl, rfl, h1, r_1⟩ := trodAll_cons r_0
  obtain ⟨rfl, rfl, rfl⟩ := trodAll_nil r_1
  obtain rfl : args = #[v0, v1] := by cases args; simp_all
  obtain ⟨rfl, rfl⟩ := trodVars_none hV
  obtain ⟨a0, len0, cap0, rfl⟩ := okWide_slice Tryz.underlying22 (hval 0 22 v0 rfl rfl)
  have k0 := h0
  have lt0 : ∀ x ∈ p0, x.block < W.heap.size := by obtain ⟨m, hm⟩ := k0; exact DataW.trod_lt m _ _ _ hm
  obtain ⟨l0, r0, b0⟩ : ∃ (l : List Int), yC W (.sL (.int .i64) l) (.slice a0 len0 cap0) /\ (∀ n ∈ l, (Lit.int .i64 n).wf = true) /\ l.length * 8 <= 140737488351232 := by
    obtain ⟨fuel, hf⟩ := h0
    rcases open_ints Tryz.underlying22 Tryz.underlying3 (by kernel_rfl) hf with ⟨hcs, _⟩ | ⟨x, l, c, zs, hcs, _, hl, hm, hz, hx, hcell, hwz⟩
    · simp [Value.cells] at hcs
      obtain ⟨rfl, rfl, rfl⟩ := hcs
      exact ⟨[], Rep.sL _ _ _ (PY _ _), by simp, by simp⟩
    · simp [Value.cells] at hcs
      obtain ⟨rfl, rfl, rfl⟩ := hcs
      refine ⟨_, Rep.sL _ _ _ (KD hl (by simpa using hz) hcell), fun n hn => hwz n (List.mem_of_mem_take hn), ?_⟩
      have hd : d0 = _ := (Prod.mk.inj hx).1
      have hs := sized_slice hsz (j := 0) (t := 22) (e := 3) rfl (by rw [hd]; rfl) Tryz.underlying22
      rw [show Tryz.checked.prog.bytesOf 3 = 8 by kernel_rfl] at hs
      simp [lits, reachBytes] at hs ⊢
      omega
  obtain ⟨a1, len1, cap1, rfl⟩ := okWide_slice Tryz.underlying22 (hval 1 22 v1 rfl rfl)
  have k1 := h1
  have lt1 : ∀ x ∈ p1, x.block < W.heap.size := by obtain ⟨m, hm⟩ := k1; exact DataW.trod_lt m _ _ _ hm
  obtain ⟨l1, r1, b1⟩ : ∃ (l : List Int), yC W (.sL (.int .i64) l) (.slice a1 len1 cap1) /\ (∀ n ∈ l, (Lit.int .i64 n).wf = true) /\ l.length * 8 <= 140737488351232 := by
    obtain ⟨fuel, hf⟩ := h1
    rcases open_ints Tryz.underlying22 Tryz.underlying3 (by kernel_rfl) hf with ⟨hcs, _⟩ | ⟨x, l, c, zs, hcs, _, hl, hm, hz, hx, hcell, hwz⟩
    · simp [Value.cells] at hcs
      obtain ⟨rfl, rfl, rfl⟩ := hcs
      exact ⟨[], Rep.sL _ _ _ (PY _ _), by simp, by simp⟩
    · simp [Value.cells] at hcs
      obtain ⟨rfl, rfl, rfl⟩ := hcs
      refine ⟨_, Rep.sL _ _ _ (KD hl (by simpa using hz) hcell), fun n hn => hwz n (List.mem_of_mem_take hn), ?_⟩
      have hd : d1 = _ := (Prod.mk.inj hx).1
      have hs := sized_slice hsz (j := 1) (t := 22) (e := 3) rfl (by rw [hd]; rfl) Tryz.underlying22
      rw [show Tryz.checked.prog.bytesOf 3 = 8 by kernel_rfl] at hs
      simp [lits, reachBytes] at hs ⊢
      omega
  clear hA0 hval0
  refine (qDS (P := Tryz.prog) (w := W) (vals := [.slice a0 len0 cap0, .slice a1 len1 cap1]) (args := [.sL (.int .i64) l0, .sL (.int .i64) l1]) ⟨r0, r1, trivial⟩ (pc l0 b0 l1 b1)).mono fun e W' ⟨he, bel⟩ => ?_
  subst he
  exact ⟨_, rfl, _, _, _, [], _, [], hW', trodAll_mk1 (shut_bool Tryz.underlying4 _), (trodAll_cons_mk (Below.trod qE3 (by kernel_rfl) (of_decide_eq_true (by kernel_rfl)) k0 bel lt0) (trodAll_cons_mk (Below.trod qE3 (by kernel_rfl) (of_decide_eq_true (by kernel_rfl)) k1 bel lt1) trodAll_mk0)), rfl, bel.frame _, fun h => by cases h⟩
end Go.Proofs.YtcjiefknhfhmkaaGreatDoor.mpartRoundTrip
